/- A string's bytes. -/
import Derived.Test.YtlmcpnicjdcmdaaDoorLb
import Derived.Laws.IdiomStrings
set_option linter.unusedVariables false
set_option linter.unusedSimpArgs false
namespace Go.Proofs.YtlmcpnicjdcmdaaDoor
open Go Go.RowKit Go.BigFrame

def strL (s : ByteArray) : List Int := s.data.toList.map fun x => (x.toNat : Int)
theorem strL_length (s : ByteArray) : (strL s).length = s.size := by unfold strL; rw [List.length_map, Array.length_toList]; rfl
theorem strL_append (s t : ByteArray) : strL (s ++ t) = strL s ++ strL t := by simp [strL]
theorem wpList_bytes_of_string {P : Program} {ops : Array Oper} {rest : List Oper} {o : Oper} {a : Act} {Q : Exit → Act → World → Prop} {w : World} (src dst e : TypeId) (hsr : P.underlying src = some .string) (hd : P.underlying dst = some (.slice e)) (he : P.underlying e = some (.int .u8))
    (x : Operand) (s : ByteArray) (hm : s.size ≤ 140737488355328) (hgd : o.guard = none) (ho : o.op = .convert src dst x) (hx : a.eval x = .string s)
    (h : ∀ c w', s.size ≤ c → c ≤ 9223372036854775807 → Rd .u8 w' (some ⟨w.heap.size, 0, none⟩) (strL s) → Below w.heap.size w w' → wpList P ops Q rest (a.put o.dst (.slice (some ⟨w.heap.size, 0, none⟩) s.size c)) w') : wpList P ops Q (o :: rest) a w := by
  refine wpList_plain hgd fun K hK => ?_
  have hrun := run_bytes_of_string (P := P) w src dst e s hsr hd he
  have hle := grownCap_ge w s.size 0 e
  have hmax := grownCap_le_maxLen w s.size 0 e (by unfold maxLen; omega)
  have hb : Below w.heap.size w w.drew := ⟨rfl, rfl, rfl, Nat.le_refl _, fun _ _ => rfl⟩
  unfold Oper.wp
  simp [execOp, ho, hx, hrun, Result.andThen]
  refine hK _ _ (h _ _ hle (by unfold maxLen at hmax; omega) ⟨by rw [strL_length]; omega, fun _ => ⟨_, 0, rfl, by simp, fun j hj => ?_⟩⟩ (hb.alloc (Nat.le_refl _) _))
  have hj2 : j < s.data.size := by rw [strL_length] at hj; exact hj
  have := World.cell?_alloc_mark w.drew (bytesRow s (grownCap w s.size 0 e)) e ((bytesRow s (grownCap w s.size 0 e)).size, (bytesRow s (grownCap w s.size 0 e)).size + 1) j
  rw [Nat.zero_add]
  refine this.trans ?_
  rw [bytesRow_at s _ j hj2]
  unfold strL
  rw [List.getD_eq_getElem?_getD, List.getElem?_map, Array.getElem?_toList, Array.getElem?_eq_getElem hj2]
  rfl
end Go.Proofs.YtlmcpnicjdcmdaaDoor
