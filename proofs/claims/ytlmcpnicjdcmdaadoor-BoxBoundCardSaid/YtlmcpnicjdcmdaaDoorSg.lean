/- SHA-256 of bytes. -/
import Derived.Test.YtlmcpnicjdcmdaaDoorSf
set_option linter.unusedVariables false
set_option linter.unusedSimpArgs false
namespace Go.Proofs.YtlmcpnicjdcmdaaDoor
open Go Go.RowKit Go.BigFrame

def shaF (l : List Int) : List Int := sumF (feedN H0 l (l.length / 64)) (l.drop (64 * (l.length / 64))) l.length
theorem shaF_length (l : List Int) : (shaF l).length = 32 := outOf_length _ 8

set_option maxRecDepth 100000 in
set_option maxHeartbeats 400000 in
theorem sum_calls (w : World) (A : Option Addr) (n c : Nat) (l : List Int) (hn : n = l.length) (hR : Rd .u8 w A l) (hle : l.length ≤ 140737488355328) (hK : Ksha w) :
    Calls Tryd.prog 28 #[.slice A n c] w (RetB w (shaF l)) := by
  have HK := Lib.hid hK
  have HR := Lib.hid hR
  have HN := Lib.hid hn
  clear hK hR hn
  go_enter Tryd.func28, Tryd.ntmps28
  go_wp2_with (first
    | ((refine (new_calls _).mono ?_); rintro e w1 ⟨B, rfl, hB, hH, hb⟩; (have HB := Lib.hid hb); (have HH := Lib.hid hH); (have HBS := Lib.hid hB); clear hb hH hB)
    | ((refine (write_calls _ B H0 none [] 0 0 A c n l HH.out (Rd.below HK.out HB.out) (by
          obtain ⟨b, off, e, hlt, _⟩ := Rd.at_ HK.out (by decide)
          injection e with e
          injection e with e
          have := HBS.out
          omega) HN.out (HR.out.below HB.out) (fun h0 b off h => by
          obtain ⟨b', off', e, hlt, _⟩ := HR.out.at_ h0
          rw [h] at e
          injection e with e
          injection e with e
          have := HBS.out
          omega) (by simpa using hle) (by decide)).mono ?_); rintro e w2 ⟨rfl, hg, A3, c3, hH2⟩; (have HG := Lib.hid hg); (have HH2 := Lib.hid hH2); clear hg hH2)
    | ((refine (hsum_calls _ B _ _ _ _ _ HH2.out (Ksha.grown (Rd.below HK.out HB.out) HG.out (by
          obtain ⟨b, off, e, hlt, _⟩ := Rd.at_ HK.out (by decide)
          injection e with e
          injection e with e
          have := HBS.out
          omega)) (by rw [List.length_drop]; omega)).mono ?_); rintro e w3 ⟨A4, c4, rfl, ho, hb4⟩; (have HO := Lib.hid ho); (have HB4 := Lib.hid hb4); clear ho hb4))
  have hb2 : Below w.heap.size w w2 := HB.out.trans (below_of_grown HG.out HB.out.size HBS.out)
  have hm : ((l.length : Int) % 18446744073709551616) = l.length := by omega
  have hr : sumF (feedN H0 l (l.length / 64)) (List.drop (64 * (l.length / 64)) l) (↑l.length % 18446744073709551616) = shaF l := by rw [hm]; rfl
  go_ret
  exact ⟨A4, c4, by first | rw [hr]; rfl | (simp only [List.nil_append, Int.zero_add] at *; rw [hr]; rfl), by have := HO.out.mono hb2.size; simpa only [List.nil_append, Int.zero_add, hr] using this, hb2.trans (HB4.out.mono hb2.size)⟩
end Go.Proofs.YtlmcpnicjdcmdaaDoor
