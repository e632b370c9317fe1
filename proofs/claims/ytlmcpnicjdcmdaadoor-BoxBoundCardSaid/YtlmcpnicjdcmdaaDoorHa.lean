/- HKDF: a key's pad. -/
import Derived.Test.YtlmcpnicjdcmdaaDoorLb
import Derived.Test.YtlmcpnicjdcmdaaDoorSa
import Derived.Laws.CopyOwn
set_option linter.unusedVariables false
set_option linter.unusedSimpArgs false
namespace Go.Proofs.YtlmcpnicjdcmdaaDoor
open Go Go.RowKit Go.BigFrame

theorem Arr.ofHid {w : World} {B T : Nat} {k : IntKind} {l : List Int} {cs : List Value} (h : w.heap[B]? = some (.cells cs.toArray T (0, 0))) (e : cs = ints k l) : Arr w B T k l := ⟨by subst e; exact h⟩
theorem Arr.own {w : World} {B T base : Nat} {k : IntKind} {l : List Int} {n c : Nat} (h : Arr w B T k l) (hb : base ≤ B) (hn : n = l.length) (hc : c = l.length) (hm : l.length ≤ maxLen) : Own k T w base (.slice (some ⟨B, 0, none⟩) n c) l := by
  subst hn hc
  refine ⟨by simp [ints], .inr ⟨B, l.length, (ints k l).toArray, rfl, hb, h.block, Nat.le_refl _, hm, by simp [ints], by rw [List.take_of_length_le (by simp [ints])]⟩⟩

/-- A row, of which i bytes are turned by x. -/
def xorRow (x : Int) (l : List Int) : Nat → List Int
  | 0 => l
  | i + 1 => (xorRow x l i).set i (bits .xor .u8 (l.getD i 0) x)
theorem xorRow_length (x : Int) (l : List Int) (i : Nat) : (xorRow x l i).length = l.length := by
  induction i with
  | zero => rfl
  | succ i ih => rw [xorRow, List.length_set, ih]
theorem xorRow_get (x : Int) (l : List Int) (i j : Nat) (h : i ≤ j) : (xorRow x l i).getD j 0 = l.getD j 0 := by
  induction i with
  | zero => rfl
  | succ i ih =>
    rw [xorRow]
    simp only [List.getD_eq_getElem?_getD] at ih ⊢
    rw [List.getElem?_set_ne (by omega), ih (by omega)]
def pad64 (key : List Int) : List Int := splice (List.replicate 64 0) 0 key
theorem pad64_length (key : List Int) (h : key.length ≤ 64) : (pad64 key).length = 64 := by
  unfold pad64
  rw [length_splice _ _ _ (by simpa using h), List.length_replicate]
def padX (x : Int) (key : List Int) : List Int := xorRow x (pad64 key) 64
theorem padX_length (x : Int) (key : List Int) (h : key.length ≤ 64) : (padX x key).length = 64 := by unfold padX; rw [xorRow_length, pad64_length key h]

set_option maxRecDepth 100000 in
set_option maxHeartbeats 400000 in
theorem pad_calls (w : World) (x : Int) (G : Nat) (A : Option Addr) (c : Nat) (key : List Int) (hR : Rd .u8 w A key) (hk : key.length ≤ 64) (hc : w.cell? ⟨G, 0, none⟩ = some (.slice A key.length c)) :
    Calls Tryd.prog 29 #[.int .u8 x, .pointer (some ⟨G, 0, none⟩)] w (RetB w (padX x key)) := by
  have hG := cell_lt hc
  have HR := Lib.hid hR
  clear hR
  go_enter Tryd.func29, Tryd.ntmps29
  go_wp2_with ((with_reducible refine gate_dst (N := 6) rfl ?_); refine wpList_make_new bytesE _ _ 64 64 .i64 .i64 rfl rfl rfl rfl (by decide) (by decide) (by decide) ?_; refine stop ?_)
  refine with_worldL (fun w2 => Arr w2 w.heap.size 5 .u8 (List.replicate 64 0) ∧ Below w.heap.size w w2) ⟨Arr.new w _ _ _, (Below.refl _ _).alloc (Nat.le_refl _) _⟩ ?_
  rintro w2 ⟨hA, hB⟩
  have c0 := cell_below hB hG hc
  have HA := Lib.hid hA
  have HB := Lib.hid hB
  clear hA hB hc
  go_wp2_with ((with_reducible refine gate_dst (N := 9) rfl ?_); refine stop ?_)
  refine Stop.go ?_
  refine wpList_copy_new bytesE (.tmp 7) (.tmp 8) w.heap.size w w.heap.size _ A _ _ _ _ key HA.out (HR.out.below HB.out) HB.out (Nat.le_refl _) rfl (by simpa using hk) (by simpa using hk) rfl rfl rfl rfl ?_
  intro w3 hA3 hB3
  have HA3 := Lib.hid hA3
  have HB3 := Lib.hid hB3
  clear hA3 hB3
  go_wp2_with fail
  obtain ⟨L, hL⟩ : ∃ L, L = pad64 key := ⟨_, rfl⟩
  have hA4 : Arr w3 w.heap.size 5 .u8 L := hL ▸ HA3.out
  have hL64 : L.length = 64 := by rw [hL, pad64_length key hk]
  have HL := Lib.hid hL
  have HA4 := Lib.hid hA4
  clear hL hA4
  go_loopw [5, 12] (fun _ s wr => ∃ i, i ≤ 64 ∧ s = .int .i64 (i : Nat) ∧ Arr wr w.heap.size 5 .u8 (xorRow x L i) ∧ Below w.heap.size w wr) (fun _ s _ => 64 - (intOf s).toNat)
  case atStart => exact ⟨0, by decide, rfl, HA4.out, HB3.out⟩
  case round =>
    obtain ⟨i, hi, rfl, hA, hB⟩ := hrel
    by_cases h64 : i < 64
    · have c1 := hA.cell i (by rw [xorRow_length]; omega)
      rw [xorRow_get x L i i (Nat.le_refl _)] at c1
      have c2 := hA.free i
      have HA := Lib.hid hA
      have HB := Lib.hid hB
      clear hA hB
      go_wp2_with fail
      go_roundw
      case rel =>
        have hgd : L.getD i 0 = L[i]'(by omega) := by rw [List.getD_eq_getElem?_getD, List.getElem?_eq_getElem (by omega)]; rfl
        exact ⟨i + 1, by omega, by go_num, by rw [xorRow, hgd]; exact HA.out.set i _, below_set HB.out _ (Nat.le_refl _) _⟩
      case measure => simp [intOf]; omega
    · obtain rfl : i = 64 := by omega
      have HA := Lib.hid hA
      have HB := Lib.hid hB
      clear hA hB
      go_wp2_with fail
      go_ret
      have e : xorRow x L 64 = padX x key := by rw [HL.out]; rfl
      have hl : (padX x key).length = 64 := padX_length x key hk
      exact ⟨_, 64, by rw [hl]; rfl, by rw [hl, ← e]; exact HA.out.own (Nat.le_refl _) (by rw [e, hl]) (by rw [e, hl]) (by rw [e, hl]; decide), HB.out⟩
end Go.Proofs.YtlmcpnicjdcmdaaDoor
