/- Keccak: turns of words; a row of words in the middle of a block. -/
import Derived.Test.YtlmcpnicjdcmdaaDoorLb
import Derived.Deep.DeepMust
set_option linter.unusedVariables false
set_option linter.unusedSimpArgs false
namespace Go.Proofs.YtlmcpnicjdcmdaaDoor
open Go Go.RowKit Go.BigFrame

def rotl64 (x : Int) (s : Nat) : Int := bits .or .u64 (x * 2 ^ s % 18446744073709551616) (x / 2 ^ (64 - s))
theorem and63 : ∀ n : Fin 64, bits .and .u64 (IntKind.u64.wrap (n.val : Int)) 63 = (n.val : Int) := by decide +kernel

set_option maxRecDepth 100000 in
theorem rotl64_calls (x : Int) (s : Nat) (w : World) (hs : s < 64) :
    Calls Tryd.prog 66 #[.int .u64 x, .int .i64 s] w fun e w' => e = .returned (.int .u64 (rotl64 x s)) ∧ w = w' := by
  have hk := and63 ⟨s, hs⟩
  have hk' : bits .and .u64 (IntKind.u64.wrap (s : Int)) 63 = s := hk
  have hk2 : bits .and .u64 (s : Int) 63 = s := by
    have : IntKind.u64.wrap (s : Int) = s := by rw [IntKind.wrap_u64]; omega
    rwa [this] at hk'
  clear hk
  go_enter Tryd.func66, Tryd.ntmps66
  go_wp2
  go_ret
  exact ⟨rfl, rfl⟩

/-- A row of numbers in the middle of a block. -/
structure Mid (w : World) (B T : Nat) (k : IntKind) (pre : List Value) (l : List Int) (post : List Value) : Prop where
  block : w.heap[B]? = some (.cells (pre ++ ints k l ++ post).toArray T (0, 0))
section
variable {w w' : World} {B T : Nat} {k : IntKind} {pre post : List Value} {l : List Int}
theorem Mid.lt (h : Mid w B T k pre l post) : B < w.heap.size := (Array.getElem?_eq_some_iff.1 h.block).1
theorem Mid.cell (h : Mid w B T k pre l post) (i : Nat) (hi : i < l.length) : w.cell? ⟨B, pre.length + i, none⟩ = some (.int k (l.getD i 0)) := by
  rw [cell_of_row w B _ _ T (0, 0) h.block, List.getElem?_toArray, List.append_assoc, List.getElem?_append_right (by omega), Nat.add_sub_cancel_left, List.getElem?_append_left (by rw [ints_length]; exact hi)]
  exact ints_get k l i hi
theorem Mid.preCell (h : Mid w B T k pre l post) (i : Nat) (hi : i < pre.length) : w.cell? ⟨B, i, none⟩ = pre[i]? := by
  rw [cell_of_row w B _ _ T (0, 0) h.block, List.getElem?_toArray, List.append_assoc, List.getElem?_append_left hi]
theorem Mid.postCell (h : Mid w B T k pre l post) (i : Nat) : w.cell? ⟨B, pre.length + l.length + i, none⟩ = post[i]? := by
  rw [cell_of_row w B _ _ T (0, 0) h.block, List.getElem?_toArray, List.getElem?_append_right (by rw [List.length_append, ints_length]; omega), List.length_append, ints_length]
  congr 1
  omega
theorem Mid.free (h : Mid w B T k pre l post) (i : Nat) : w.frozen? ⟨B, i, none⟩ = false := by simp [World.frozen?, h.block]
theorem Mid.set (h : Mid w B T k pre l post) (i : Nat) (hi : i < l.length) (x : Int) : Mid (w.setCell ⟨B, pre.length + i, none⟩ (.int k x)) B T k pre (l.set i x) post := by
  refine ⟨?_⟩
  rw [setCell_block h.block, List.setIfInBounds_toArray, List.append_assoc, List.set_append_right _ _ (by omega), Nat.add_sub_cancel_left, List.set_append_left _ _ (by rw [ints_length]; exact hi), ints_set, List.append_assoc]
theorem Mid.setPre (h : Mid w B T k pre l post) (i : Nat) (hi : i < pre.length) (v : Value) : Mid (w.setCell ⟨B, i, none⟩ v) B T k (pre.set i v) l post := by
  refine ⟨?_⟩
  rw [setCell_block h.block, List.setIfInBounds_toArray, List.append_assoc, List.set_append_left _ _ hi, List.append_assoc]
theorem Mid.setPost (h : Mid w B T k pre l post) (i : Nat) (v : Value) : Mid (w.setCell ⟨B, pre.length + l.length + i, none⟩ v) B T k pre l (post.set i v) := by
  refine ⟨?_⟩
  rw [setCell_block h.block, List.setIfInBounds_toArray, List.set_append_right _ _ (by rw [List.length_append, ints_length]; omega)]
  congr 5
  rw [List.length_append, ints_length]
  omega
theorem Mid.below {N : Nat} (h : Mid w B T k pre l post) (hb : Below N w w') (hN : B < N) : Mid w' B T k pre l post := ⟨by rw [hb.block B hN]; exact h.block⟩
theorem Mid.grown (h : Mid w B T k pre l post) {row : Option Nat} (hg : w.grownBy w' row) (hne : some B ≠ row) : Mid w' B T k pre l post := ⟨by rw [hg.block B h.lt hne]; exact h.block⟩
theorem Mid.drewN (h : Mid w B T k pre l post) (n : Nat) : Mid (w.drewN n) B T k pre l post := ⟨h.block⟩
theorem Mid.drew (h : Mid w B T k pre l post) : Mid w.drew B T k pre l post := ⟨h.block⟩
theorem Mid.alloc (h : Mid w B T k pre l post) (o : Obj) : Mid (w.alloc o) B T k pre l post := h.below ((Below.refl _ _).alloc (Nat.le_refl _) o) h.lt
theorem Mid.other (h : Mid w B T k pre l post) {p : Addr} (hp : p.block ≠ B) (v : Value) : Mid (w.setCell p v) B T k pre l post := h.grown (grown_set w p v) (by simp; exact fun e => hp e.symm)
end
end Go.Proofs.YtlmcpnicjdcmdaaDoor
