/- Own words for this seat: rows of whole numbers in memory, bytes that are read, bytes that are owned. They speak of no function of the program. -/
import Derived.Test.YtlmcpnicjdcmdaaDoorProg
import Derived.Test.YtlmcpnicjdcmdaaDoorQt
import Derived.WalkKit
import Derived.WalkLawsBesides
import Derived.WalkSpells
import Derived.Outline
import Derived.BigQuiet
import Derived.Deep.QuietTactic
import Derived.Deep.LoopGhost
import Derived.Deep.DeepFit
import Derived.Laws.Rows
import Derived.Laws.Tables
import Derived.Laws.BitsLemmas
import Derived.Lib.Hide
import Derived.OwnWalk
import Derived.Laws.AppendOwn
import Derived.KernelRfl
set_option linter.unusedVariables false
set_option linter.unusedSimpArgs false
namespace Go.Proofs.YtlmcpnicjdcmdaaDoor
open Go Go.RowKit

/-- Numbers as cells. -/
def ints (k : IntKind) (l : List Int) : List Value := l.map (Value.int k)
theorem ints_length (k : IntKind) (l : List Int) : (ints k l).length = l.length := by simp [ints]
theorem ints_get (k : IntKind) (l : List Int) (i : Nat) (h : i < l.length) : (ints k l)[i]? = some (.int k (l.getD i 0)) := by
  simp [ints, List.getD_eq_getElem?_getD, h]
theorem ints_append (k : IntKind) (a b : List Int) : ints k (a ++ b) = ints k a ++ ints k b := by simp [ints]
theorem ints_set (k : IntKind) (l : List Int) (i : Nat) (x : Int) : (ints k l).set i (.int k x) = ints k (l.set i x) := by
  simp [ints, List.map_set]
theorem ints_one (k : IntKind) (l : List Int) : ∀ u ∈ ints k l, u.oneCell' = true := by
  intro u hu
  simp only [ints, List.mem_map] at hu
  obtain ⟨x, _, rfl⟩ := hu
  rfl
theorem ints_take (k : IntKind) (l : List Int) (n : Nat) : ints k (l.take n) = (ints k l).take n := by simp [ints, List.map_take]
theorem ints_drop (k : IntKind) (l : List Int) (n : Nat) : ints k (l.drop n) = (ints k l).drop n := by simp [ints, List.map_drop]

/-- Block B is an array of numbers (type T of its cells). -/
structure Arr (w : World) (B T : Nat) (k : IntKind) (l : List Int) : Prop where
  block : w.heap[B]? = some (.cells (ints k l).toArray T (0, 0))
theorem Arr.lt {w : World} {B T : Nat} {k : IntKind} {l : List Int} (h : Arr w B T k l) : B < w.heap.size := (Array.getElem?_eq_some_iff.1 h.block).1
theorem Arr.cell {w : World} {B T : Nat} {k : IntKind} {l : List Int} (h : Arr w B T k l) (i : Nat) (hi : i < l.length) : w.cell? ⟨B, i, none⟩ = some (.int k (l.getD i 0)) := by
  rw [cell_of_row w B i _ T (0, 0) h.block]
  simpa using ints_get k l i hi
theorem Arr.free {w : World} {B T : Nat} {k : IntKind} {l : List Int} (h : Arr w B T k l) (i : Nat) : w.frozen? ⟨B, i, none⟩ = false := by simp [World.frozen?, h.block]
theorem Arr.set {w : World} {B T : Nat} {k : IntKind} {l : List Int} (h : Arr w B T k l) (i : Nat) (x : Int) : Arr (w.setCell ⟨B, i, none⟩ (.int k x)) B T k (l.set i x) := by
  have hlt := h.lt
  have h' : w.heap[B] = .cells (ints k l).toArray T (0, 0) := by simpa [Array.getElem?_eq_getElem hlt] using h.block
  constructor
  show (w.heap.modify B _)[B]? = _
  rw [Array.getElem?_eq_getElem (by simpa using hlt), Array.getElem_modify_self, h']
  simp [← ints_set]
theorem Arr.other {w : World} {B T : Nat} {k : IntKind} {l : List Int} (h : Arr w B T k l) {p : Addr} (hp : p.block ≠ B) (v : Value) : Arr (w.setCell p v) B T k l :=
  ⟨by rw [Below.heap_setCell _ _ _ _ (Ne.symm hp)]; exact h.block⟩
theorem Arr.alloc {w : World} {B T : Nat} {k : IntKind} {l : List Int} (h : Arr w B T k l) (o : Obj) : Arr (w.alloc o) B T k l :=
  ⟨by rw [Below.heap_alloc _ _ _ h.lt]; exact h.block⟩
theorem Arr.drewN {w : World} {B T : Nat} {k : IntKind} {l : List Int} (h : Arr w B T k l) (n : Nat) : Arr (w.drewN n) B T k l := ⟨h.block⟩
theorem Arr.drew {w : World} {B T : Nat} {k : IntKind} {l : List Int} (h : Arr w B T k l) : Arr w.drew B T k l := ⟨h.block⟩
theorem Arr.below {w w' : World} {B T N : Nat} {k : IntKind} {l : List Int} (h : Arr w B T k l) (hb : Below N w w') (hB : B < N) : Arr w' B T k l :=
  ⟨by rw [hb.block B hB]; exact h.block⟩
theorem Arr.new (w : World) (T : Nat) (k : IntKind) (l : List Int) : Arr (w.alloc (.cells (ints k l).toArray T)) w.heap.size T k l := ⟨heap_alloc_new w _⟩
theorem Arr.lit {w : World} {cs : Array Value} {n T : Nat} {k : IntKind} {l : List Int} (h : cs = (ints k l).toArray) (hn : n = w.heap.size) : Arr (w.alloc (.cells cs T)) n T k l := by
  subst h
  subst hn
  exact Arr.new w T k l

theorem below_drewN {B : Nat} {w W : World} (h : Below B w W) (n : Nat) : Below B w (W.drewN n) := ⟨h.os, h.tape, h.output, h.size, h.block⟩
theorem below_set {B : Nat} {w W : World} (h : Below B w W) (p : Addr) (hp : B ≤ p.block) (v : Value) : Below B w (W.setCell p v) := h.setCell hp v
theorem below_new {B : Nat} {w W : World} (h : Below B w W) (hB : B ≤ w.heap.size) (o : Obj) : Below B w (W.alloc o) := h.alloc (Nat.le_trans hB h.size) o
theorem below_on {B N : Nat} {w w1 w2 : World} (h : Below B w w1) (k : Below N w1 w2) (hN : B ≤ N) : Below B w w2 := h.trans (k.mono hN)
theorem cell_below {N : Nat} {w w' : World} (hb : Below N w w') {b o : Nat} {v : Value} (hN : b < N) (h : w.cell? ⟨b, o, none⟩ = some v) : w'.cell? ⟨b, o, none⟩ = some v := (hb.cell (p := ⟨b, o, none⟩) hN).trans h
theorem cell_lt {w : World} {b o : Nat} {v : Value} (h : w.cell? ⟨b, o, none⟩ = some v) : b < w.heap.size := World.block_lt_of_cell? w _ h

/-- The numbers l can be read from the address on. -/
structure Rd (k : IntKind) (w : World) (A : Option Addr) (l : List Int) : Prop where
  le : l.length ≤ 9223372036854775807
  at_ : 0 < l.length → ∃ b off, A = some ⟨b, off, none⟩ ∧ b < w.heap.size ∧ ∀ j, j < l.length → w.cell? ⟨b, off + j, none⟩ = some (.int k (l.getD j 0))
theorem Rd.below {k : IntKind} {w w' : World} {A : Option Addr} {l : List Int} (h : Rd k w A l) (hb : Below w.heap.size w w') : Rd k w' A l :=
  ⟨h.le, fun h0 => by
    obtain ⟨b, off, e, hlt, hc⟩ := h.at_ h0
    exact ⟨b, off, e, Nat.lt_of_lt_of_le hlt hb.size, fun j hj => cell_below hb hlt (hc j hj)⟩⟩
theorem Rd.drewN {k : IntKind} {w : World} {A : Option Addr} {l : List Int} (h : Rd k w A l) (n : Nat) : Rd k (w.drewN n) A l := ⟨h.le, h.at_⟩
theorem Rd.drew {k : IntKind} {w : World} {A : Option Addr} {l : List Int} (h : Rd k w A l) : Rd k w.drew A l := ⟨h.le, h.at_⟩
theorem Rd.alloc {k : IntKind} {w : World} {A : Option Addr} {l : List Int} (h : Rd k w A l) (o : Obj) : Rd k (w.alloc o) A l := h.below ((Below.refl _ _).alloc (Nat.le_refl _) o)
theorem Rd.nil (k : IntKind) (w : World) (A : Option Addr) : Rd k w A [] := ⟨by simp, fun h => absurd h (by simp)⟩
theorem Rd.take {k : IntKind} {w : World} {A : Option Addr} {l : List Int} (h : Rd k w A l) (n : Nat) : Rd k w A (l.take n) :=
  ⟨by have := h.le; rw [List.length_take]; omega, fun h0 => by
    have hl : 0 < l.length := by rw [List.length_take] at h0; omega
    obtain ⟨b, off, e, hlt, hc⟩ := h.at_ hl
    refine ⟨b, off, e, hlt, fun j hj => ?_⟩
    have hj' : j < l.length ∧ j < n := by rw [List.length_take] at hj; omega
    rw [hc j hj'.1]
    simp [List.getD_eq_getElem?_getD, List.getElem?_take, hj'.2]⟩
theorem Rd.drop {k : IntKind} {w : World} {b off : Nat} {l : List Int} (h : Rd k w (some ⟨b, off, none⟩) l) (n : Nat) : Rd k w (some ⟨b, off + n, none⟩) (l.drop n) :=
  ⟨by have := h.le; simp only [List.length_drop]; omega, fun h0 => by
    have hl : n < l.length := by rw [List.length_drop] at h0; omega
    obtain ⟨b', off', e, hlt, hc⟩ := h.at_ (by omega)
    obtain ⟨rfl, rfl⟩ : b = b' ∧ off = off' := by simpa using e
    refine ⟨b, off + n, rfl, hlt, fun j hj => ?_⟩
    have hj' : n + j < l.length := by rw [List.length_drop] at hj; omega
    rw [Nat.add_assoc, hc (n + j) hj']
    simp [List.getD_eq_getElem?_getD]⟩

/-- The slice value owns the numbers l, in a row of its own from 'base' on. -/
def Own (k : IntKind) (T : Nat) (w : World) (base : Nat) (v : Value) (l : List Int) : Prop := w.ownsRow base T 1 v l.length (ints k l)
theorem Own.form {k : IntKind} {T : Nat} {w : World} {base : Nat} {v : Value} {l : List Int} (h : Own k T w base v l) :
    ∃ A c, v = .slice A l.length c ∧ l.length ≤ c ∧ Rd k w A l := by
  rcases h.2 with ⟨rfl, h0⟩ | ⟨g, cap, cur, rfl, hg, hh, hn, hm, hs, ht⟩
  · have hl : l = [] := List.eq_nil_of_length_eq_zero h0
    subst hl
    exact ⟨none, 0, rfl, Nat.le_refl _, Rd.nil _ _ _⟩
  · refine ⟨_, cap, rfl, hn, ⟨by unfold maxLen at hm; omega, fun _ => ⟨g, 0, rfl, (Array.getElem?_eq_some_iff.1 hh).1, fun j hj => ?_⟩⟩⟩
    have := h.cells (g := g) rfl j (.int k (l.getD j 0)) (ints_get k l j hj)
    have ha : (⟨g, 0, none⟩ : Addr).add j = ⟨g, 0 + j, none⟩ := by unfold Addr.add; split <;> simp_all
    rwa [ha] at this

/-- What a call hands back that makes bytes: they lie in new memory. -/
def RetB (w : World) (r : List Int) (e : Ending) (w' : World) : Prop :=
  ∃ A c, e = .returned (.slice A r.length c) ∧ Own .u8 5 w' w.heap.size (.slice A r.length c) r ∧ Below w.heap.size w w'
/-- A call that leaves the world alone but for draws. -/
def RetQ (w : World) (v : Value) (e : Ending) (w' : World) : Prop := e = .returned v ∧ ∃ n, w' = w.drewN n

/-- A call that leaves the world as it was, or draws: as a region's walk wants it. -/
theorem calls_same {P : Program} {f : FuncId} {args : Array Value} {w : World} {v : Value} {R : World → Prop} (h : Calls P f args w fun e w' => e = .returned v ∧ w = w') (hR : R w) :
    Calls P f args w fun e w'' => e = .returned v ∧ R w'' := h.mono fun _ _ ⟨he, hw⟩ => ⟨he, hw ▸ hR⟩
theorem calls_drew {P : Program} {f : FuncId} {args : Array Value} {w : World} {v : Value} {R : World → Prop} (h : Calls P f args w (RetQ w v)) (hR : ∀ k, R (w.drewN k)) :
    Calls P f args w fun e w'' => e = .returned v ∧ R w'' := h.mono fun _ _ ⟨he, k, hw⟩ => ⟨he, hw ▸ hR k⟩
theorem drewN_more (w : World) (a k : Nat) : ∃ n, (w.drewN a).drewN k = w.drewN n := ⟨a + k, by rw [World.drewN_drewN]⟩
theorem drewN_more2 (w : World) (q a k : Nat) : ∃ n, (w.drewN (q + a)).drewN k = w.drewN (q + n) := ⟨a + k, by rw [World.drewN_drewN, Nat.add_assoc]⟩
/-- A gate: the operation that stands next writes slot N; it writes none. -/
theorem gate_dst {P : Program} {ops : Array Oper} {Q : Exit → Act → World → Prop} {o : Oper} {rest : List Oper} {a : Act} {w : World} {N : Nat} (h : o.dst = some N) (k : wpList P ops Q (o :: rest) a w) : wpList P ops Q (o :: rest) a w := k
theorem gate_none {P : Program} {ops : Array Oper} {Q : Exit → Act → World → Prop} {o : Oper} {rest : List Oper} {a : Act} {w : World} (h : o.dst = none) (k : wpList P ops Q (o :: rest) a w) : wpList P ops Q (o :: rest) a w := k
theorem ints_all (k : IntKind) (l : List Int) : (ints k l).toArray.all (·.oneCell') = true := Array.all_eq_true_iff_forall_mem.2 fun v hv => ints_one k l v (by simpa using hv)
theorem Arr.row {w : World} {B T : Nat} {k : IntKind} {l : List Int} (h : Arr w B T k l) (l' : List Int) : Arr (w.setRow B (ints k l').toArray) B T k l' := ⟨setRow_heap w B _ _ T _ h.block⟩
theorem below_row {B : Nat} {w W : World} (h : Below B w W) (g : Nat) (hg : B ≤ g) (cs : Array Value) : Below B w (W.setRow g cs) :=
  h.trans ⟨rfl, rfl, rfl, by simp, fun k hk => setRow_other W g k cs (by omega)⟩
end Go.Proofs.YtlmcpnicjdcmdaaDoor
