/- Rows of numbers that a call makes and owns: small facts. -/
import Derived.Test.YtlmcpnicjdcmdaaDoorLa
import Derived.Laws.OwnMore
import Derived.Deep.OwnRows
import Derived.Laws.CopyOwn
set_option linter.unusedVariables false
set_option linter.unusedSimpArgs false
namespace Go.Proofs.YtlmcpnicjdcmdaaDoor
open Go Go.RowKit Go.BigFrame

theorem splice_ints (k : IntKind) (l m : List Int) (off : Nat) : splice (ints k l) off (ints k m) = ints k (splice l off m) := by simp [splice, ints, List.map_take, List.map_drop]
section
variable {k : IntKind} {T base : Nat} {w w' : World} {v : Value} {l : List Int}
theorem Own.nil (k : IntKind) (T : Nat) (w : World) (base : Nat) : Own k T w base (.slice none 0 0) [] := World.ownsRow_nil w base T 1
theorem Own.lit {cs : Array Value} {n m c : Nat} (hb : base ≤ w.heap.size) (h : cs = (ints k l).toArray) (hn : n = w.heap.size) (hm : l.length ≤ maxLen) (e : m = l.length) (ec : c = l.length) : Own k T (w.alloc (.cells cs T)) base (.slice (some ⟨n, 0, none⟩) m c) l := by
  subst h hn e ec
  have := World.ownsRow_lit (base := base) (e := T) (size := 1) w (ints k l).toArray l.length hb hm (by simp [ints])
  exact this
theorem Own.kept (h : Own k T w base v l) {row : Option Nat} (hg : w.grownBy w' row) (hne : v.ownBlock = none ∨ v.ownBlock ≠ row) : Own k T w' base v l := World.ownsRow.kept h hg hne
theorem Own.below (h : Own k T w base v l) (hb : Below w.heap.size w w') : Own k T w' base v l :=
  h.kept (grown_below hb (Nat.le_refl _) none) (by cases hv : v.ownBlock <;> simp)
theorem Own.alloc (h : Own k T w base v l) (o : Obj) : Own k T (w.alloc o) base v l := World.ownsRow.alloc h o
theorem Own.drewN (h : Own k T w base v l) (n : Nat) : Own k T (w.drewN n) base v l := h
theorem Own.drew (h : Own k T w base v l) : Own k T w.drew base v l := h
theorem Own.mono {b2 : Nat} (h : Own k T w base v l) (hb : b2 ≤ base) : Own k T w b2 v l := by
  refine ⟨h.1, h.2.imp id ?_⟩
  rintro ⟨g, cap, cur, e, hg, hr⟩
  exact ⟨g, cap, cur, e, Nat.le_trans hb hg, hr⟩
theorem Own.blk (h : Own k T w base v l) : ∀ b, v.ownBlock = some b → base ≤ b ∧ b < w.heap.size := fun b hb => World.ownsRow.lt h b hb
theorem Own.other (h : Own k T w base v l) {p : Addr} (hp : ∀ b, v.ownBlock = some b → b ≠ p.block) (u : Value) : Own k T (w.setCell p u) base v l :=
  h.kept (grown_set w p u) (by
    cases hv : v.ownBlock with
    | none => exact .inl rfl
    | some b => exact .inr (fun e => hp b hv (by injection e)))
theorem Own.rd {A : Option Addr} {n c : Nat} (h : Own k T w base (.slice A n c) l) : Rd k w A l := by
  obtain ⟨A', c', e, _, hr⟩ := h.form
  injection e with e1 e2 e3
  subst e1
  exact hr
theorem Own.len {A : Option Addr} {n c : Nat} (h : Own k T w base (.slice A n c) l) : n = l.length := by
  obtain ⟨A', c', e, _, _⟩ := h.form
  injection e with e1 e2 e3
theorem Own.le {A : Option Addr} {n c : Nat} (h : Own k T w base (.slice A n c) l) : l.length ≤ c := by
  obtain ⟨A', c', e, h1, _⟩ := h.form
  injection e with e1 e2 e3
  omega
theorem Own.ge {A : Option Addr} {n c : Nat} (h : Own k T w base (.slice A n c) l) : ∀ b off, A = some ⟨b, off, none⟩ → base ≤ b := by
  intro b off e
  subst e
  exact (h.blk b rfl).1
theorem Own.off {A : Option Addr} {n c : Nat} (h : Own k T w base (.slice A n c) l) : A = none ∨ ∃ b, A = some ⟨b, 0, none⟩ := by
  rcases h.2 with ⟨e, _⟩ | ⟨g, cap, cur, e, _⟩
  · injection e with e; exact .inl e
  · injection e with e; exact .inr ⟨g, e⟩
/-- What has come but to new memory, and to a row of the call's own. -/
theorem below_own {w0 : World} (hbs : base ≤ w0.heap.size) (hb : Below base w0 w) (ho : Own k T w base v l) (hg : w.grownBy w' v.ownBlock) : Below base w0 w' := by
  refine ⟨hg.os.trans hb.os, hg.tape.trans hb.tape, hg.output.trans hb.output, Nat.le_trans hb.size hg.size, fun i hi => ?_⟩
  by_cases hlt : i < w.heap.size
  · rw [hg.block i hlt (fun e => by have := (ho.blk i e.symm).1; omega)]
    exact hb.block i hi
  · have := hb.size; omega
end
def lenV : Value → Nat
  | .slice _ n _ => n
  | _ => 0
/-- What is owned, written as a slice whose length has a name. -/
theorem Own.form2 {k : IntKind} {T base : Nat} {w : World} {v : Value} {l : List Int} (h : Own k T w base v l) : ∃ A n c, v = .slice A n c ∧ n = l.length ∧ n ≤ c ∧ n ≤ 9223372036854775807 ∧ Own k T w base (.slice A n c) l := by
  obtain ⟨A, c, e, h1, h2⟩ := h.form
  exact ⟨A, l.length, c, e, rfl, h1, h2.le, e ▸ h⟩
theorem RetB.form {w w' : World} {r : List Int} {e : Ending} (h : RetB w r e w') : ∃ A n c, e = .returned (.slice A n c) ∧ n = r.length ∧ n ≤ 9223372036854775807 ∧ Own .u8 5 w' w.heap.size (.slice A n c) r ∧ Below w.heap.size w w' := by
  obtain ⟨A, c, rfl, ho, hb⟩ := h
  exact ⟨A, _, c, rfl, rfl, ho.rd.le, ho, hb⟩
/-- The walk stands here. -/
def Stop (p : Prop) : Prop := p
theorem stop {p : Prop} (h : Stop p) : p := h
theorem Stop.go {p : Prop} (h : p) : Stop p := h
theorem Stop.call {P : Program} {f : FuncId} {args : Array Value} {w : World} {R R' : Ending → World → Prop} (h : Calls P f args w R) (k : ∀ e w', R e w' → R' e w') : Stop (Calls P f args w R') := h.mono k
theorem with_worldL {P : Program} {ops : Array Oper} {l : List Oper} {Q : Exit → Act → World → Prop} {a : Act} {W : World} (F : World → Prop) (hF : F W) (h : ∀ w2, F w2 → wpList P ops Q l a w2) : Stop (wpList P ops Q l a W) := h W hF
/-- append to a row of the call's own: what is older than w0 stays. -/
theorem wpList_append_new {P : Program} {t e : TypeId} {k : IntKind} {bytes : Nat} {ops : Array Oper} {rest : List Oper} {o : Oper} {a : Act} {Q : Exit → Act → World → Prop} {w : World} (E : ElemOf P t e k bytes) (w0 : World) (s x : Operand)
    (v : Value) (l : List Int) (A : Option Addr) (c n : Nat) (m : List Int) (hown : Own k e w w0.heap.size v l) (hb : Below w0.heap.size w0 w) (hr : Rd k w A m) (hn : n = m.length)
    (hgd : o.guard = none) (ho : o.op = .call { callee := .builtin .append, args := #[s, x], argTypes := #[t, t] })
    (hs : a.eval s = v) (hx : a.eval x = .slice A n c)
    (hbytes : (l.length + m.length) * bytes ≤ 140737488355328) (h63 : l.length + m.length ≤ maxLen)
    (h : ∀ v' w', Own k e w' w0.heap.size v' (l ++ m) → Below w0.heap.size w0 w' → wpList P ops Q rest (a.put o.dst v') w') :
    wpList P ops Q (o :: rest) a w :=
  wpList_append_own_rd hgd s x ho E w0.heap.size v l hs hown A c n m hx hn hr hbytes h63 hb.size fun v' w' h1 h2 _ => h v' w' h1 (below_own (Nat.le_refl _) hb hown h2)
/-- The same at a step of a region that draws its order. -/
theorem step_append_new {P : Program} {t e : TypeId} {k : IntKind} {bytes : Nat} {ops : Array Oper} {o : Oper} {a : Act} {Q : Exit → Act → World → Prop} {w : World} {K : Act → World → Prop} {E' : Prop} (E : ElemOf P t e k bytes) (w0 : World) (s x : Operand)
    (v : Value) (l : List Int) (A : Option Addr) (c n : Nat) (m : List Int) (hown : Own k e w w0.heap.size v l) (hb : Below w0.heap.size w0 w) (hr : Rd k w A m) (hn : n = m.length)
    (hgd : o.guard = none) (ho : o.op = .call { callee := .builtin .append, args := #[s, x], argTypes := #[t, t] })
    (hs : a.eval s = v) (hx : a.eval x = .slice A n c)
    (hbytes : (l.length + m.length) * bytes ≤ 140737488355328) (h63 : l.length + m.length ≤ maxLen)
    (h : ∀ v' w', Own k e w' w0.heap.size v' (l ++ m) → Below w0.heap.size w0 w' → w.grownBy w' v.ownBlock → K (a.put o.dst v') w') :
    if Region.wanted o (yielded ops a.tmps) = true then Oper.wp P o a w K Q else E' := by
  subst hn
  rw [if_pos (by simp [Region.wanted, hgd])]
  obtain ⟨v', w', hrun, h2, h3, h5⟩ := run_append_own_rd E w w0.heap.size o.type v l hown A c m hr hbytes h63 hb.size
  unfold Oper.wp execOp
  simp only [ho, resolve, invoke, builtin, Sem.run_bind, Sem.run_pure, Result.andThen_ok, List.map_toArray, List.map_cons, List.map_nil, hs, hx, hrun]
  exact h v' w' h2 (below_own (Nat.le_refl _) hb hown h3) h3
theorem made_ints (k : IntKind) (n : Nat) : madeCells #[Value.int k 0] n = (ints k (List.replicate n 0)).toArray := by
  apply Array.toList_inj.1
  rw [toList_madeCells_one]
  simp [ints]
/-- make: a row of zeros. -/
theorem wpList_make_new {P : Program} {t e : TypeId} {k : IntKind} {bytes : Nat} {ops : Array Oper} {rest : List Oper} {o : Oper} {a : Act} {Q : Exit → Act → World → Prop} {w : World} (E : ElemOf P t e k bytes) (l c : Operand) (n m : Nat) (kl kc : IntKind)
    (hg : o.guard = none) (hop : o.op = Op.makeSlice t l c) (hl : a.eval l = .int kl (n : Int)) (hc : a.eval c = .int kc (m : Int)) (hnm : n ≤ m) (hb : bytes * m ≤ 140737488355328) (h63 : m ≤ 9223372036854775807)
    (hK : wpList P ops Q rest (a.put o.dst (.slice (some ⟨w.heap.size, 0, none⟩) n m)) (w.alloc (.cells (ints k (List.replicate m 0)).toArray e))) : wpList P ops Q (o :: rest) a w := by
  obtain ⟨i, hi, hz0, hz1, hz2⟩ := info_parts E.hi
  refine wpList_plain hg fun K hK' => ?_
  have hb' : (i.bytes : Int) * (m : Int) ≤ 281474976710656 := by
    have h : ((i.bytes * m : Nat) : Int) ≤ 281474976710656 := by rw [hz2]; omega
    rwa [Int.natCast_mul] at h
  have hrun := run_make (P := P) w t e i (.int k 0) E.ht hi hz0 kl kc n m (by omega) (by omega) hb' (by omega)
  simp only [Int.toNat_natCast, hz1, Nat.mul_one] at hrun
  rw [show (Value.int k 0).cells = #[Value.int k 0] from rfl, made_ints] at hrun
  unfold Oper.wp
  simp [execOp, hop, hl, hc, hrun, Result.andThen]
  exact hK' _ _ hK
/-- copy into a row that is known whole. -/
theorem wpList_copy_new {P : Program} {t e t2 : TypeId} {k : IntKind} {bytes : Nat} {ops : Array Oper} {rest : List Oper} {o : Oper} {a : Act} {Q : Exit → Act → World → Prop} {w : World} (E : ElemOf P t e k bytes) (d s : Operand) (B w0 : _) (g : Nat) (cur : List Int) (A : Option Addr) (dLen dCap sCap n : Nat) (m : List Int)
    (hA : Arr w g e k cur) (hr : Rd k w A m) (hb : Below B w0 w) (hBg : B ≤ g) (hn : n = m.length) (hle : m.length ≤ dLen) (hfit : m.length ≤ cur.length)
    (hgd : o.guard = none) (ho : o.op = .call { callee := .builtin .copy, args := #[d, s], argTypes := #[t, t2] }) (hd : a.eval d = .slice (some ⟨g, 0, none⟩) dLen dCap) (hs : a.eval s = .slice A n sCap)
    (h : ∀ w', Arr w' g e k (splice cur 0 m) → Below B w0 w' → wpList P ops Q rest (a.put o.dst (goInt m.length)) w') : wpList P ops Q (o :: rest) a w := by
  subst hn
  obtain ⟨i, hi, hz0, hz1, hz2⟩ := info_parts E.hi
  refine wpList_copy_splice hgd d s t t2 ho e E.ht (by simp [hi, hz1]) (some ⟨g, 0, none⟩) A dLen dCap m.length sCap hd hs g 0 (ints k cur) e hA.block (ints k m) (by rw [ints_length]; exact (Nat.min_eq_left hle).symm) ?_ (by simpa [ints_length] using hfit) (ints_one k m) B w0 hb hBg ?_
  · intro h0
    rw [ints_length] at h0
    obtain ⟨b, off, rfl, _, _⟩ := hr.at_ h0
    exact ⟨rfl, _, rfl, hr.news h0⟩
  · intro w' hw hb'
    rw [ints_length]
    exact h w' ⟨by rw [← splice_ints]; exact hw⟩ hb'
theorem Rd.lit {k : IntKind} {T : Nat} {w : World} {cs : Array Value} {n : Nat} {l : List Int} (h : cs = (ints k l).toArray) (hn : n = w.heap.size) (hm : l.length ≤ 9223372036854775807) : Rd k (w.alloc (.cells cs T)) (some ⟨n, 0, none⟩) l := by
  subst h hn
  have hA := Arr.new w T k l
  exact ⟨hm, fun _ => ⟨w.heap.size, 0, rfl, hA.lt, fun j hj => by rw [Nat.zero_add]; exact hA.cell j hj⟩⟩
end Go.Proofs.YtlmcpnicjdcmdaaDoor
