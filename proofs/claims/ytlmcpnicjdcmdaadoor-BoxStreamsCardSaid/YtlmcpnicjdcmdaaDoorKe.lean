/- SHAKE256 of bytes. -/
import Derived.Test.YtlmcpnicjdcmdaaDoorKd
set_option linter.unusedVariables false
set_option linter.unusedSimpArgs false
namespace Go.Proofs.YtlmcpnicjdcmdaaDoor
open Go Go.RowKit Go.BigFrame

def shakeF (l : List Int) (n : Nat) : List Int := outK 136 (finS 136 31 (absN 136 (List.replicate 25 0, 0) l l.length)) n n
theorem shakeF_length (l : List Int) (n : Nat) : (shakeF l n).length = n := outK_length _ _ _ _

set_option maxRecDepth 100000 in
set_option maxHeartbeats 1000000 in
theorem kof_calls (w : World) (A : Option Addr) (m c : Nat) (l : List Int) (n : Nat) (hm : m = l.length) (hR : Rd .u8 w A l) (hn : n ≤ 65536) (hK : Kkec w) :
    Calls Tryd.prog 26 #[.int .i64 136, .int .u8 31, .slice A m c, .int .i64 n] w (RetB w (shakeF l n)) := by
  have HK := Lib.hid hK
  have HR := Lib.hid hR
  have HM := Lib.hid hm
  clear hK hR hm
  go_enter Tryd.func26, Tryd.ntmps26
  go_wp2_with (go_at_call 40; refine stop ?_)
  refine Stop.call (knew_calls w 136 31 (by decide) (by decide) (by decide +kernel) HK.out) ?_
  rintro e w1 ⟨rfl, hs, hb⟩
  have HS := Lib.hid hs
  have HB := Lib.hid hb
  clear hs hb
  go_wp2_with (go_at_call 41; refine stop ?_)
  refine Stop.call (kwrite_calls HS.out (by decide) (by decide) A m c l HM.out (HR.out.below HB.out) (fun h0 b off h => by
    obtain ⟨b', off', e, hlt, _⟩ := HR.out.at_ h0
    rw [h] at e
    injection e with e
    injection e with e
    omega)) ?_
  rintro e w2 ⟨rfl, hs, hg⟩
  have HS2 := Lib.hid hs
  have HG2 := Lib.hid hg
  clear hs hg
  obtain ⟨s, hs⟩ : ∃ s, s = absN 136 (List.replicate 25 0, 0) l l.length := ⟨_, rfl⟩
  have hlt := absN_lt 136 (List.replicate 25 0, 0) l l.length (by decide)
  have hs2 := HS2.out
  rw [← hs] at hlt hs2
  clear HS2
  obtain ⟨L, a⟩ := s
  have HS2 := Lib.hid hs2
  have HSS := Lib.hid hs
  clear hs hs2
  go_wp2_with (go_at_call 42; refine stop ?_)
  refine Stop.call (kread_calls HS2.out hlt (by decide) n hn) ?_
  rintro e w3 ⟨A3, c3, rfl, ho, hg⟩
  have HO := Lib.hid ho
  have HG3 := Lib.hid hg
  clear ho hg
  go_wp2_with fail
  go_ret
  have e : outK 136 (finS 136 31 (L, a)) n n = shakeF l n := by rw [shakeF, ← HSS.out]
  have ho := HO.out
  rw [e] at ho
  exact ⟨A3, c3, by rw [shakeF_length]; rfl, by rw [shakeF_length]; exact ho.mono (Nat.le_trans HB.out.size HG2.out.size), (HB.out.trans (below_of_grown HG2.out HB.out.size (Nat.le_refl _))).trans (below_of_grown HG3.out (Nat.le_trans HB.out.size HG2.out.size) (Nat.le_refl _))⟩

set_option maxRecDepth 100000 in
theorem shake_calls (w : World) (A : Option Addr) (m c : Nat) (l : List Int) (n : Nat) (hm : m = l.length) (hR : Rd .u8 w A l) (hn : n ≤ 65536) (hK : Kkec w) :
    Calls Tryd.prog 16 #[.slice A m c, .int .i64 n] w (RetB w (shakeF l n)) := by
  have HC := Lib.hid (kof_calls w A m c l n hm hR hn hK)
  clear hm hR hn hK
  go_enter Tryd.func16, Tryd.ntmps16
  go_wp2_with (go_at_call 26; refine stop ?_)
  refine Stop.call HC.out ?_
  intro e w1 h1
  obtain ⟨A1, n1, c1, rfl, hn1, _, ho, hb⟩ := h1.form
  have HO := Lib.hid ho
  have HB := Lib.hid hb
  have HN1 := Lib.hid hn1
  clear h1 ho hb hn1
  go_wp2_with fail
  go_ret
  have h := HN1.out
  subst h
  exact ⟨A1, c1, rfl, HO.out, HB.out⟩
end Go.Proofs.YtlmcpnicjdcmdaaDoor
