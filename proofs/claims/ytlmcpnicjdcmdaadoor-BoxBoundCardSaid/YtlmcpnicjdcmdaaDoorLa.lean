/- Appends, in this seat's own words: to a row of the call's own, and to a full one. -/
import Derived.Test.YtlmcpnicjdcmdaaDoorSb
import Derived.Maps.AppendAt
import Derived.ArgAppend
import Derived.Deep.AppendLies
set_option linter.unusedVariables false
set_option linter.unusedSimpArgs false
namespace Go.Proofs.YtlmcpnicjdcmdaaDoor
open Go Go.RowKit Go.BigFrame

/-- What is known of a type of slices of numbers. -/
structure ElemOf (P : Program) (t e : TypeId) (k : IntKind) (bytes : Nat) : Prop where
  ht : P.underlying t = some (.slice e)
  hi : (P.info? e).map (fun i => (i.zero, i.size, i.bytes)) = some (some (.int k 0), 1, bytes)
theorem bytesE : ElemOf Tryd.prog 22 5 .u8 1 := ⟨Tryd.underlying22, by kernel_rfl⟩

theorem Rd.news {k : IntKind} {w : World} {b off : Nat} {l : List Int} (h : Rd k w (some ⟨b, off, none⟩) l) (h0 : 0 < l.length) : ∀ j u, (ints k l)[j]? = some u → w.cell? ((⟨b, off, none⟩ : Addr).add j) = some u := by
  intro j u hu
  obtain ⟨b', off', e, _, hc⟩ := h.at_ h0
  obtain ⟨rfl, rfl⟩ : b = b' ∧ off = off' := by simpa using e
  have hj : j < l.length := by
    have := (List.getElem?_eq_some_iff.1 hu).1
    rwa [ints_length] at this
  rw [ints_get k l j hj] at hu
  have ha : (⟨b, off, none⟩ : Addr).add j = ⟨b, off + j, none⟩ := by unfold Addr.add; split <;> simp_all
  rw [ha, hc j hj, ← hu]

section
variable {P : Program} {t e : TypeId} {k : IntKind} {bytes : Nat}

/-- append to a row of the call's own, from whatever can be read. -/
theorem run_append_own_rd (E : ElemOf P t e k bytes) (w : World) (base : Nat) (ty : TypeId) (v : Value) (l : List Int) (hown : Own k e w base v l) (A : Option Addr) (c : Nat) (m : List Int) (hr : Rd k w A m)
    (hbytes : (l.length + m.length) * bytes ≤ 140737488355328) (h63 : l.length + m.length ≤ maxLen) (hbase : base ≤ w.heap.size) :
    ∃ v' w', (Builtin.append_ #[t, t] ty #[v, .slice A m.length c]).run P w = .ok v' w' ∧ Own k e w' base v' (l ++ m) ∧ w.grownBy w' v.ownBlock ∧ (v'.ownBlock = v.ownBlock ∨ v'.ownBlock = some w.heap.size) := by
  obtain ⟨i, hi, hz0, hz1, hz2⟩ := info_parts E.hi
  by_cases h0 : 0 < m.length
  · obtain ⟨b, off, rfl, _, _⟩ := hr.at_ h0
    obtain ⟨v', w', h1, h2, h3, _, h5⟩ := run_append_own_at (P := P) w base t ty e i (.int k 0) 1 bytes E.ht hi hz0 hz1 hz2 rfl (by decide) v l.length (ints k l) hown ⟨b, off, none⟩ m.length c (ints k m) (by rw [ints_length]; omega) (hr.news h0) (ints_one k m) h63 hbytes hbase
    exact ⟨v', w', h1, by unfold Own; rw [ints_append, List.length_append]; exact h2, h3, h5⟩
  · obtain rfl : m = [] := List.eq_nil_of_length_eq_zero (by omega)
    rcases hown.2 with ⟨rfl, hl⟩ | ⟨g, cap, cur, rfl, hbg, hg, hnc, hcm, hcs, htake⟩
    · refine ⟨.slice none 0 0, w, ?_, by rw [List.append_nil]; exact hown, grown_refl _ _, .inl rfl⟩
      cases A <;> simp [Builtin.append_, run_underlying E.ht, sizeOf, typeInfo, hi, Builtin.lenOf, Builtin.firstCells, loadCells, loadCellsFrom]
    · refine ⟨.slice (some ⟨g, 0, none⟩) l.length cap, w, ?_, by rw [List.append_nil]; exact hown, grown_refl _ _, .inl rfl⟩
      cases A <;> simp [Builtin.append_, run_underlying E.ht, sizeOf, typeInfo, hi, Builtin.lenOf, Builtin.firstCells, loadCells, loadCellsFrom, hnc, storeCells]

theorem wpList_append_own_rd {ops : Array Oper} {rest : List Oper} {o : Oper} {a : Act} {Q : Exit → Act → World → Prop} {w : World} (hgd : o.guard = none) (s x : Operand)
    (ho : o.op = .call { callee := .builtin .append, args := #[s, x], argTypes := #[t, t] }) (E : ElemOf P t e k bytes) (base : Nat)
    (v : Value) (l : List Int) (hs : a.eval s = v) (hown : Own k e w base v l) (A : Option Addr) (c n : Nat) (m : List Int) (hx : a.eval x = .slice A n c) (hn : n = m.length) (hr : Rd k w A m)
    (hbytes : (l.length + m.length) * bytes ≤ 140737488355328) (h63 : l.length + m.length ≤ maxLen) (hbase : base ≤ w.heap.size)
    (h : ∀ v' w', Own k e w' base v' (l ++ m) → w.grownBy w' v.ownBlock → (v'.ownBlock = v.ownBlock ∨ v'.ownBlock = some w.heap.size) → wpList P ops Q rest (a.put o.dst v') w') :
    wpList P ops Q (o :: rest) a w := by
  subst hn
  refine wpList_plain hgd fun K hK => ?_
  obtain ⟨v', w', hrun, h2, h3, h5⟩ := run_append_own_rd E w base o.type v l hown A c m hr hbytes h63 hbase
  unfold Oper.wp execOp
  simp only [ho, resolve, invoke, builtin, Sem.run_bind, Sem.run_pure, Result.andThen_ok, List.map_toArray, List.map_cons, List.map_nil, hs, hx, hrun]
  exact hK _ _ (h v' w' h2 h3 h5)

/-- append to what has no room (its capacity its length): nothing that was is written. -/
theorem run_append_full_rd (E : ElemOf P t e k bytes) (w : World) (ty : TypeId) (A1 : Option Addr) (l : List Int) (hl : Rd k w A1 l) (A : Option Addr) (c : Nat) (m : List Int) (hr : Rd k w A m) (hnone : A1 = none → l = [])
    (hbytes : (l.length + m.length) * bytes ≤ 140737488355328) (h63 : l.length + m.length ≤ maxLen) :
    ∃ A' c' w', (Builtin.append_ #[t, t] ty #[.slice A1 l.length l.length, .slice A m.length c]).run P w = .ok (.slice A' (l.length + m.length) c') w' ∧ Rd k w' A' (l ++ m) ∧ w.grownBy w' none ∧ l.length + m.length ≤ c' ∧
      ((m = [] ∧ A' = A1 ∧ w' = w) ∨ ∃ g, A' = some ⟨g, 0, none⟩ ∧ w.heap.size ≤ g ∧ Own k e w' w.heap.size (.slice A' (l.length + m.length) c') (l ++ m)) := by
  obtain ⟨i, hi, hz0, hz1, hz2⟩ := info_parts E.hi
  by_cases h0 : 0 < m.length
  · obtain ⟨b, off, rfl, _, _⟩ := hr.at_ h0
    have fin : ∀ v' w', w'.ownsRow w.heap.size e 1 v' (l.length + m.length) (ints k l ++ ints k m) → w.grownBy w' none → (Builtin.append_ #[t, t] ty #[.slice A1 l.length l.length, .slice (some ⟨b, off, none⟩) m.length c]).run P w = .ok v' w' →
        ∃ A' c' w', (Builtin.append_ #[t, t] ty #[.slice A1 l.length l.length, .slice (some ⟨b, off, none⟩) m.length c]).run P w = .ok (.slice A' (l.length + m.length) c') w' ∧ Rd k w' A' (l ++ m) ∧ w.grownBy w' none ∧ l.length + m.length ≤ c' ∧
          ((m = [] ∧ A' = A1 ∧ w' = w) ∨ ∃ g, A' = some ⟨g, 0, none⟩ ∧ w.heap.size ≤ g ∧ Own k e w' w.heap.size (.slice A' (l.length + m.length) c') (l ++ m)) := by
      intro v' w' ho hg hrun
      have ho2 : Own k e w' w.heap.size v' (l ++ m) := by unfold Own; rw [ints_append, List.length_append]; exact ho
      rcases ho.2 with ⟨_, hz⟩ | ⟨g, cap, cur, rfl, hbg, hgg, hnc, hcm, hcs, htake⟩
      · omega
      · obtain ⟨A2, c2, he, hle, hrd⟩ := ho2.form
        obtain ⟨rfl, rfl⟩ : some ⟨g, 0, none⟩ = A2 ∧ cap = c2 := by simpa using he
        exact ⟨_, cap, w', hrun, hrd, hg, hnc, .inr ⟨g, rfl, hbg, ho2⟩⟩
    by_cases hl0 : 0 < l.length
    · obtain ⟨b1, off1, rfl, _, _⟩ := hl.at_ hl0
      obtain ⟨v', w', h1, h2, h3⟩ := run_append_arg_grows (P := P) w t ty e i (.int k 0) 1 bytes E.ht hi hz0 hz1 hz2 rfl (by decide) ⟨b1, off1, none⟩ l.length l.length (ints k l) (by rw [ints_length]; omega) (hl.news hl0) ⟨b, off, none⟩ m.length c (ints k m) (by rw [ints_length]; omega) (hr.news h0) (by omega) h63 hbytes
      exact fin v' w' h2 h3 h1
    · obtain rfl : l = [] := List.eq_nil_of_length_eq_zero (by omega)
      cases A1 with
      | none =>
        obtain ⟨v', w', h1, h2, h3, _, _⟩ := run_append_own_at (P := P) w w.heap.size t ty e i (.int k 0) 1 bytes E.ht hi hz0 hz1 hz2 rfl (by decide) (.slice none 0 0) 0 [] (World.ownsRow_nil _ _ _ _) ⟨b, off, none⟩ m.length c (ints k m) (by rw [ints_length]; omega) (hr.news h0) (ints_one k m) (by simpa using h63) (by simpa using hbytes) (Nat.le_refl _)
        exact fin v' w' (by simpa [ints] using h2) (by simpa [Value.ownBlock] using h3) h1
      | some a1 =>
        obtain ⟨v', w', h1, h2, h3⟩ := run_append_arg_grows (P := P) w t ty e i (.int k 0) 1 bytes E.ht hi hz0 hz1 hz2 rfl (by decide) a1 0 0 [] (by simp) (by intro j u hu; simp at hu) ⟨b, off, none⟩ m.length c (ints k m) (by rw [ints_length]; omega) (hr.news h0) (by omega) (by simpa using h63) (by simpa using hbytes)
        exact fin v' w' (by simpa [ints] using h2) h3 h1
  · obtain rfl : m = [] := List.eq_nil_of_length_eq_zero (by omega)
    refine ⟨A1, l.length, w, ?_, by rw [List.append_nil]; exact hl, grown_refl _ _, by simp, .inl ⟨rfl, rfl, rfl⟩⟩
    cases A1 <;> cases A <;> simp [Builtin.append_, run_underlying E.ht, sizeOf, typeInfo, hi, Builtin.lenOf, Builtin.firstCells, loadCells, loadCellsFrom, storeCells]

/-- The same at a step of a region that draws its order. -/
theorem step_append_full_rd {ops : Array Oper} {o : Oper} {a : Act} {w : World} {K : Act → World → Prop} {Q : Exit → Act → World → Prop} {E' : Prop} (hgd : o.guard = none) (s x : Operand)
    (ho : o.op = .call { callee := .builtin .append, args := #[s, x], argTypes := #[t, t] }) (E : ElemOf P t e k bytes) (A1 : Option Addr) (l : List Int) (n1 : Nat) (hs : a.eval s = .slice A1 n1 n1) (hn1 : n1 = l.length) (hl : Rd k w A1 l) (hnone : A1 = none → l = [])
    (A : Option Addr) (c n : Nat) (m : List Int) (hx : a.eval x = .slice A n c) (hn : n = m.length) (hr : Rd k w A m)
    (hbytes : (l.length + m.length) * bytes ≤ 140737488355328) (h63 : l.length + m.length ≤ maxLen)
    (h : ∀ A' c' w', Rd k w' A' (l ++ m) → w.grownBy w' none → l.length + m.length ≤ c' → ((m = [] ∧ A' = A1 ∧ w' = w) ∨ ∃ g, A' = some ⟨g, 0, none⟩ ∧ w.heap.size ≤ g ∧ Own k e w' w.heap.size (.slice A' (l.length + m.length) c') (l ++ m)) → K (a.put o.dst (.slice A' (l.length + m.length) c')) w') :
    if Region.wanted o (yielded ops a.tmps) = true then Oper.wp P o a w K Q else E' := by
  subst hn hn1
  rw [if_pos (by simp [Region.wanted, hgd])]
  obtain ⟨A', c', w', hrun, h2, h3, h4, h5⟩ := run_append_full_rd E w o.type A1 l hl A c m hr hnone hbytes h63
  unfold Oper.wp execOp
  simp only [ho, resolve, invoke, builtin, Sem.run_bind, Sem.run_pure, Result.andThen_ok, List.map_toArray, List.map_cons, List.map_nil, hs, hx, hrun]
  exact h A' c' w' h2 h3 h4 h5
end
end Go.Proofs.YtlmcpnicjdcmdaaDoor
