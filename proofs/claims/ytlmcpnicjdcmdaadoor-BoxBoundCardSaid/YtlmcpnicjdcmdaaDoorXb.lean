/- box: a text unlike the stream. -/
import Derived.Test.YtlmcpnicjdcmdaaDoorXa
set_option linter.unusedVariables false
set_option linter.unusedSimpArgs false
namespace Go.Proofs.YtlmcpnicjdcmdaaDoor
open Go Go.RowKit Go.BigFrame


def xorK (s l : List Int) : Nat → List Int
  | 0 => s
  | k + 1 => (xorK s l k).set k (bits .xor .u8 (s.getD k 0) (l.getD k 0))
theorem xorK_length (s l : List Int) (k : Nat) : (xorK s l k).length = s.length := by
  induction k with
  | zero => rfl
  | succ k ih => rw [xorK, List.length_set, ih]
theorem xorK_get (s l : List Int) (i j : Nat) (h : i ≤ j) : (xorK s l i).getD j 0 = s.getD j 0 := by
  induction i with
  | zero => rfl
  | succ i ih =>
    rw [xorK]
    simp only [List.getD_eq_getElem?_getD] at ih ⊢
    rw [List.getElem?_set_ne (by omega), ih (by omega)]
/-- A text unlike the stream of a key. -/
def turnedF (sk l : List Int) : List Int := xorK (shakeF sk l.length) l l.length
theorem turnedF_length (sk l : List Int) : (turnedF sk l).length = l.length := by unfold turnedF; rw [xorK_length, shakeF_length]

set_option maxRecDepth 100000 in
set_option maxHeartbeats 400000 in
theorem turned_calls (w : World) (A1 : Option Addr) (c1 : Nat) (sk : List Int) (h32 : sk.length = 32) (hR1 : Rd .u8 w A1 sk) (A2 : Option Addr) (c2 : Nat) (A : Option Addr) (n c : Nat) (l : List Int) (hn : n = l.length) (hR : Rd .u8 w A l) (hl : l.length ≤ 65536) (hK : Kbox w) :
    Calls Tryd.prog 11 #[.agg #[.slice A1 32 c1, .slice A2 32 c2], .slice A n c] w (RetB w (turnedF sk l)) := by
  have HN := Lib.hid hn
  have hnl : n ≤ 65536 := by omega
  have H32 := Lib.hid h32
  have HR := Lib.hid hR
  have HR1 := Lib.hid hR1
  have HK := Lib.hid hK
  clear hn hR hK hR1 h32 hl
  go_enter Tryd.func11, Tryd.ntmps11
  go_wp2_with (go_at_call 16; refine stop ?_)
  obtain ⟨w1, hw1⟩ : ∃ w1, w1 = w.alloc (Obj.cells #[Value.slice A1 32 c1, Value.slice A2 32 c2] 32) := ⟨_, rfl⟩
  rw [← hw1]
  have hb1 : Below w.heap.size w w1 := hw1 ▸ (Below.refl _ _).alloc (Nat.le_refl _) _
  have HB1 := Lib.hid hb1
  clear hb1 hw1
  refine Stop.call (shake_calls w1 A1 32 c1 sk n H32.out.symm (HR1.out.below HB1.out) hnl (HK.out.below HB1.out).kec) ?_
  intro e w2 h2
  obtain ⟨A2, n2, c2, rfl, hn2, _, ho2, hb2⟩ := h2.form
  have h32 : n2 = n := by rw [hn2]; exact shakeF_length _ _
  have hbw := HB1.out.trans (hb2.mono HB1.out.size)
  have HO2 := Lib.hid (ho2.mono HB1.out.size)
  have HB2 := Lib.hid hbw
  clear h2 hn2 ho2 hb2 hbw
  subst h32
  go_wp2_with fail
  go_loopw [6, 7, 15] (fun _ _ s wr => ∃ k, k ≤ n2 ∧ s = .int .i64 (k : Nat) ∧ Own .u8 5 wr w.heap.size (.slice A2 n2 c2) (xorK (shakeF sk n2) l k) ∧ Below w.heap.size w wr) (fun _ _ s _ => n2 - (intOf s).toNat)
  case atStart => exact ⟨0, Nat.zero_le _, rfl, HO2.out, HB2.out⟩
  case round =>
    clear HO2 HB2
    obtain ⟨k, hk, rfl, ho, hb⟩ := hrel
    by_cases hkn : k < n2
    · obtain ⟨b, off, eA, _, hcs⟩ := (HR.out.below hb).at_ (by have := HN.out; omega)
      subst eA
      obtain ⟨g, eG, _, _⟩ := ho.addr (by rw [xorK_length, shakeF_length]; omega)
      subst eG
      have c0 := hcs k (by have := HN.out; omega)
      have c1 := ho.cellAt k (by rw [xorK_length, shakeF_length]; omega)
      rw [xorK_get _ _ _ _ (Nat.le_refl _)] at c1
      have f1 := ho.freeAt k
      have HO := Lib.hid ho
      have HB := Lib.hid hb
      clear hcs ho hb
      go_wp2_with fail
      go_roundw
      case rel =>
        have hs := HO.out.stored k (bits .xor .u8 ((shakeF sk n2).getD k 0) (l.getD k 0))
        have hg := (HO.out.blk g rfl).1
        exact ⟨k + 1, hkn, by go_num, hs, below_set HB.out _ hg _⟩
      case measure => simp [intOf]; omega
    · obtain rfl : k = n2 := by omega
      have HO := Lib.hid ho
      have HB := Lib.hid hb
      clear ho hb
      go_wp2_with fail
      go_ret
      have hf : turnedF sk l = xorK (shakeF sk k) l k := by unfold turnedF; rw [HN.out]
      rw [hf]
      exact RetB.mk2 (by rw [xorK_length, shakeF_length]) HO.out HB.out
end Go.Proofs.YtlmcpnicjdcmdaaDoor
