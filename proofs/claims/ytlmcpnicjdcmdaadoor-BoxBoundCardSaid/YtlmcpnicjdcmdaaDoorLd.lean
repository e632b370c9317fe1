/- Small facts on memory that is owned or read: cells, arrays, strings of bytes. They speak of no function of the program. -/
import Derived.Test.YtlmcpnicjdcmdaaDoorLb
import Derived.Laws.IdiomStrings
set_option linter.unusedVariables false
set_option linter.unusedSimpArgs false
namespace Go.Proofs.YtlmcpnicjdcmdaaDoor
open Go Go.RowKit Go.BigFrame

theorem RetB.mk2 {w w' : World} {r : List Int} {A : Option Addr} {m c : Nat} (hm : m = r.length) (ho : Own .u8 5 w' w.heap.size (.slice A m c) r) (hb : Below w.heap.size w w') : RetB w r (.returned (.slice A m c)) w' := by
  subst hm
  exact ⟨A, c, rfl, ho, hb⟩
theorem below_of_drewN {B n : Nat} {w W : World} (h : Below B (w.drewN n) W) : Below B w W := ⟨h.os, h.tape, h.output, h.size, h.block⟩
section
variable {k : IntKind} {T base n c g : Nat} {w : World} {l : List Int}
theorem Own.cellAt (h : Own k T w base (.slice (some ⟨g, 0, none⟩) n c) l) (j : Nat) (hj : j < l.length) : w.cell? ⟨g, j, none⟩ = some (.int k (l.getD j 0)) := by
  obtain rfl := h.len
  have := World.ownsRow.cellAt h j (by omega)
  rw [this]
  exact ints_get k l j hj
theorem Own.freeAt (h : Own k T w base (.slice (some ⟨g, 0, none⟩) n c) l) (j : Nat) : w.frozen? ⟨g, j, none⟩ = false := by
  obtain rfl := h.len
  exact World.ownsRow.frozenAt h j
theorem Own.stored (h : Own k T w base (.slice (some ⟨g, 0, none⟩) n c) l) (j : Nat) (x : Int) : Own k T (w.setCell ⟨g, j, none⟩ (.int k x)) base (.slice (some ⟨g, 0, none⟩) n c) (l.set j x) := by
  obtain rfl := h.len
  have := World.ownsRow.stored h j (.int k x)
  unfold Own
  rw [← ints_set, List.length_set]
  exact this.1
theorem Own.addr {A : Option Addr} (h : Own k T w base (.slice A n c) l) (h0 : 0 < l.length) : ∃ g, A = some ⟨g, 0, none⟩ ∧ base ≤ g ∧ g < w.heap.size := by
  rcases h.off with rfl | ⟨b, rfl⟩
  · rcases h.2 with ⟨_, h1⟩ | ⟨g, cap, cur, e, _⟩
    · omega
    · injection e with e; cases e
  · exact ⟨b, rfl, h.blk b rfl⟩
end
section
variable {P : Program}
/-- An array is loaded out of whatever row holds its numbers. -/
theorem run_loadVar_rd (w : World) (b off : Nat) (k : IntKind) (l : List Int) (h : Rd k w (some ⟨b, off, none⟩) l) (h0 : 0 < l.length) (ty : TypeId) (d : TypeDesc) (hu : P.underlying ty = some d)
    (hd : (match d with | .struct _ | .array _ _ => true | _ => false) = true) (hi : (P.info? ty).map (·.size) = some l.length) : (loadVar ty ⟨b, off, none⟩).run P w = .ok (.agg (ints k l).toArray) w := by
  have hl : (loadCells ⟨b, off, none⟩ (ints k l).length).run P w = .ok (ints k l).toArray w :=
    run_loadCells_list (P := P) w ⟨b, off, none⟩ (ints k l) (h.news h0)
  cases hq : P.info? ty with
  | none => simp [hq] at hi
  | some i =>
    have hs : i.size = l.length := by simpa [hq] using hi
    have hagg : (isAgg ty).run P w = .ok true w := by
      unfold isAgg
      rw [Sem.run_bind, run_underlying hu w]
      cases d <;> simp_all
    rw [ints_length] at hl
    simp [loadVar, Sem.run_bind, hagg, sizeOf, typeInfo, hq, hs, hl]
theorem step_load_rd {ops : Array Oper} {o : Oper} {a : Act} {w : World} {K : Act → World → Prop} {Q : Exit → Act → World → Prop} {E' : Prop} (hgd : o.guard = none) (ty : TypeId) (x : Operand) (ho : o.op = .load ty x)
    (b off : Nat) (k : IntKind) (l : List Int) (hx : a.eval x = .pointer (some ⟨b, off, none⟩)) (h : Rd k w (some ⟨b, off, none⟩) l) (h0 : 0 < l.length) (d : TypeDesc) (hu : P.underlying ty = some d)
    (hd : (match d with | .struct _ | .array _ _ => true | _ => false) = true) (hi : (P.info? ty).map (·.size) = some l.length)
    (hK : K (a.put o.dst (.agg (ints k l).toArray)) w) : if Region.wanted o (yielded ops a.tmps) = true then Oper.wp P o a w K Q else E' := by
  rw [if_pos (by simp [Region.wanted, hgd])]
  unfold Oper.wp execOp
  simp only [ho, hx, Instr.loadAt, Instr.sureAddr, Sem.run_bind, Sem.run_pure, Result.andThen_ok, run_loadVar_rd w b off k l h h0 ty d hu hd hi]
  exact hK
theorem step_store_row {ops : Array Oper} {o : Oper} {a : Act} {w : World} {K : Act → World → Prop} {Q : Exit → Act → World → Prop} {E' : Prop} (hgd : o.guard = none) (ty : TypeId) (x y : Operand) (ho : o.op = .store ty x y)
    (g : Nat) (cells : Array Value) (hx : a.eval x = .pointer (some ⟨g, 0, none⟩)) (hy : a.eval y = .agg cells)
    (t : TypeId) (old : Array Value) (hg : w.heap[g]? = some (.cells old t (0, 0))) (hi : (P.info? ty).map (·.size) = some cells.size)
    (hold : old.size = cells.size) (h1 : cells.all (·.oneCell') = true)
    (h : K (a.put o.dst undef) (w.setRow g cells)) : if Region.wanted o (yielded ops a.tmps) = true then Oper.wp P o a w K Q else E' := by
  rw [if_pos (by simp [Region.wanted, hgd])]
  exact wp_store_row ty x y ho g cells hx hy t old hg hi hold h1 h
end

theorem below_drew {B : Nat} {w W : World} (h : Below B w W) : Below B w W.drew := ⟨h.os, h.tape, h.output, h.size, h.block⟩
theorem with_worldC {P : Program} {f : FuncId} {args : Array Value} {R : Ending → World → Prop} {W : World} (F : World → Prop) (hF : F W) (h : ∀ w2, F w2 → Stop (Calls P f args w2 R)) : Stop (Calls P f args W R) := h W hF
section
variable {P : Program}
theorem exec_load_rd {o : Oper} {a : Act} (w : World) (ty : TypeId) (x : Operand) (ho : o.op = .load ty x) (b off : Nat) (k : IntKind) (l : List Int) (hx : a.eval x = .pointer (some ⟨b, off, none⟩)) (h : Rd k w (some ⟨b, off, none⟩) l) (h0 : 0 < l.length) (d : TypeDesc) (hu : P.underlying ty = some d)
    (hd : (match d with | .struct _ | .array _ _ => true | _ => false) = true) (hi : (P.info? ty).map (·.size) = some l.length) : (execOp a.eval o).run P w = .ok (.value (.agg (ints k l).toArray)) w := by
  unfold execOp
  simp only [ho, hx, Instr.loadAt, Instr.sureAddr, Sem.run_bind, Sem.run_pure, Result.andThen_ok, run_loadVar_rd w b off k l h h0 ty d hu hd hi]
end
/-- Numbers of one byte each. -/
def Bytes (l : List Int) : Prop := ∀ j, j < l.length → 0 ≤ l.getD j 0 ∧ l.getD j 0 < 256
theorem ext_getD {l m : List Int} (h : l.length = m.length) (hj : ∀ j, j < l.length → l.getD j 0 = m.getD j 0) : l = m := by
  apply List.ext_getElem h
  intro j h1 h2
  have := hj j h1
  simpa [List.getD_eq_getElem?_getD, h1, h2] using this
/-- The string of bytes. -/
def strB (l : List Int) : ByteArray := l.foldl (fun r n => r.push (UInt8.ofNat n.toNat)) ByteArray.empty
section
variable {P : Program}
theorem run_string_rd (w : World) (src dst e : TypeId) (hs : P.underlying src = some (.slice e)) (he : P.underlying e = some (.int .u8)) (hd : P.underlying dst = some .string)
    (A : Option Addr) (n c : Nat) (l : List Int) (hn : n = l.length) (hR : Rd .u8 w A l) : (convert src dst (.slice A n c)).run P w = .ok (.string (strB l)) w := by
  subst hn
  rw [run_convert_bytes_string w src dst e A l.length c hs he hd]
  by_cases h0 : 0 < l.length
  · obtain ⟨b, off, rfl, _, _⟩ := hR.at_ h0
    have hl := run_loadCells_list (P := P) w ⟨b, off, none⟩ (ints .u8 l) (hR.news h0)
    rw [ints_length] at hl
    exact run_bytesToString w _ _ c l hl
  · obtain rfl : l = [] := List.eq_nil_of_length_eq_zero (by omega)
    cases A with
    | none => simp [Conv.bytesToString, strB]
    | some a =>
      have hl := run_loadCells_list (P := P) w a [] (by intro j v h; simp at h)
      exact run_bytesToString w a 0 c [] hl
end
theorem Arr.cast {w : World} {B T : Nat} {k : IntKind} {l m : List Int} (h : Arr w B T k l) (e : l = m) : Arr w B T k m := e ▸ h
theorem Arr.rowOf {w : World} {B T : Nat} {k : IntKind} {l : List Int} (h : Arr w B T k l) {cs : Array Value} {l' : List Int} (e : cs = (ints k l').toArray) : Arr (w.setRow B cs) B T k l' := e ▸ h.row l'
end Go.Proofs.YtlmcpnicjdcmdaaDoor
