/- A range over a function of which one round is walked, and left by a jump: a law of this seat's own, after the kit's. -/
import Derived.Test.YtlmcpnicjdcmdaaDoorLb
import Derived.RangeFuncNested
import Derived.RangeFuncBound
import Derived.RangeFuncCalls
import Derived.RangeFuncLeaves
import Derived.TacticsIn
import Derived.OrdersIn
import Derived.Test.YtlmcpnicjdcmdaaDoorWl
set_option linter.unusedVariables false
set_option linter.unusedSimpArgs false
namespace Go.Proofs.YtlmcpnicjdcmdaaDoor
open Go Go.RowKit

/-! ### What is walked in the open serves in a round, where nothing is deferred -/
def noDefer (ops : Array Oper) : Bool := ops.all fun o => match o.op with | .defer _ => false | _ => true
theorem noDefer_at {ops : Array Oper} (h : noDefer ops = true) {i : Nat} {o : Oper} (hi : ops[i]? = some o) : ∀ c, o.op ≠ .defer c := by
  intro c hc
  obtain ⟨hlt, rfl⟩ := Array.getElem?_eq_some_iff.1 hi
  have := Array.all_eq_true_iff_forall_mem.1 h ops[i] (Array.getElem_mem hlt)
  rw [hc] at this
  cases this
theorem oper_round {P : Program} {n l : Nat} {o : Oper} {a : Act} {w : World} {K : Act → World → Prop} {Q : Exit → Act → World → Prop} (hd : ∀ c, o.op ≠ .defer c) (h : o.wp P a w K Q) : o.wpIn (Fence.wide.inRound l) n P a w K Q := by
  refine ⟨fun _ _ => trivial, ?_⟩
  have e : o.semAt (some l) a.eval = execOp a.eval o := Oper.semAt_some l _ o hd
  show o.uponIn _ _ _ _ _ _ ((o.semAt (some l) a.eval).run P w)
  rw [e]
  unfold Oper.wp at h
  generalize (execOp a.eval o).run P w = r at h ⊢
  cases r with
  | ok x w' =>
    cases x with
    | value v => exact h
    | skip => exact h
    | defer d => exact h
    | enter f args => exact ⟨fun h => absurd h (by simp [Fence.wide, Fence.inRound]), CallsIn.inRound l ((callsIn_wide (n := n - 1)).2 h)⟩
    | row r args =>
      refine ⟨fun h => absurd h (by simp [Fence.wide, Fence.inRound]), fun c cs _ => ?_⟩
      obtain ⟨v, w2, hr, hs⟩ := h c cs
      exact ⟨v, w2, hr, stepsIn_wide.2 hs⟩
    | _ => exact h.elim
  | halt x w' => cases x <;> exact h
theorem wpOp_round {P : Program} {n l i : Nat} {ops : Array Oper} {a : Act} {w : World} {K K' : Act → World → Prop} {Q : Exit → Act → World → Prop} (hd : noDefer ops = true) (hlo : ¬ LetsOut Q) (hK : ∀ a w, K a w → K' a w) (h : wpOp P ops Q i K a w) : wpOpIn (Fence.wide.inRound l) n P ops Q i K' a w := by
  have h := wpOp_mono hK h
  unfold wpOp at h
  unfold wpOpIn
  cases ho : ops[i]? with
  | none => simp only [ho] at h ⊢; exact h
  | some o =>
    simp only [ho] at h ⊢
    split
    · rename_i hw
      rw [if_pos hw] at h
      exact oper_round (noDefer_at hd ho) (h.resolve_right fun h => hlo h.2)
    · rename_i hw
      rw [if_neg hw] at h
      exact ⟨fun _ _ => trivial, h⟩
theorem wpAny_round {P : Program} {n l : Nat} {md : Region.Mode} {ops : Array Oper} {Q : Exit → Act → World → Prop} (hd : noDefer ops = true) (hlo : ¬ LetsOut Q) : ∀ (fuel : Nat) (listed : Array Bool) (a : Act) (w : World), wpAny P md ops Q fuel listed a w → wpAnyIn (Fence.wide.inRound l) n P md ops Q fuel listed a w
  | 0, _, _, _, h => h
  | fuel + 1, listed, a, w, h => ⟨h.1, fun i hi => wpOp_round hd hlo (fun a w h => wpAny_round hd hlo fuel _ a w h) (h.2 i hi)⟩
theorem wpList_round {P : Program} {n l : Nat} {ops : Array Oper} {Q : Exit → Act → World → Prop} (hlo : ¬ LetsOut Q) : ∀ (ls : List Oper) (a : Act) (w : World), noDefer ls.toArray = true → wpList P ops Q ls a w → wpListIn (Fence.wide.inRound l) n P ops Q ls a w
  | [], _, _, _, h => h
  | o :: ls, a, w, hd, h => by
    have hd1 : ∀ c, o.op ≠ .defer c := noDefer_at hd (i := 0) (by simp)
    have hd2 : noDefer ls.toArray = true := by
      unfold noDefer at hd ⊢
      simp at hd ⊢
      first | exact hd | exact fun x hx => hd.2 x hx
    unfold wpList at h
    unfold wpListIn
    split
    · rename_i hw
      rw [if_pos hw] at h
      exact oper_round hd1 (Oper.wp_mono (fun a w h => wpList_round hlo ls a w hd2 h) (h.resolve_right fun h => hlo h.2))
    · rename_i hw
      rw [if_neg hw] at h
      exact ⟨fun _ _ => trivial, wpList_round hlo ls _ w hd2 h⟩
theorem region_round {P : Program} {n l id : Nat} {ls : List Oper} {Q : Exit → Act → World → Prop} {a : Act} {w : World} (hd : noDefer ls.toArray = true) (hlo : ¬ LetsOut Q) (h : wpList P ls.toArray Q ls a w) : (Code.region id ls.toArray false).wpIn (Fence.wide.inRound l) n P Q a w :=
  wpIn_region_lit (wpList_round hlo ls a w hd h)
/-- 'start_' of the printed words, for a region in a round. -/
theorem startIn_ {P : Program} {ops : Array Oper} {Q : Exit → Act → World → Prop} {S : World → Prop} {ds : List Nat} {m lp id n : Nat} {a : Act} {w : World} (l : Array Bool) (hd : noDefer ops = true) (hlo : ¬ LetsOut Q) (hm : P.follows .mixedOrders = true) (hn : ops.size = n) (hl : Array.replicate n false = l) (hS : S w.drew)
    (h : S w.drew → PrintLast.wpAnyLast P .any ops Q S ds n l a w.drew) : (Code.region id ops true).wpIn (Fence.wide.inRound lp) m P Q a w := by
  subst hn
  subst hl
  exact wpIn_region_any hm (wpAny_round hd hlo _ _ _ _ (PrintLast.wpAny_of_last _ _ _ _ (h hS)))

/-- 'if !yield(v)' as four operations: yield is called, and says no. -/
theorem wp_yield4 {P : Program} {m l id : Nat} {Q : Exit → Act → World → Prop} {a : Act} {w : World} {o1 o2 o3 o4 : Oper} {R : World → Prop} {v : Value} (x y p q z : Operand) (ty : TypeId) (tys : Array TypeId)
    (g1 : o1.guard = none) (e1 : o1.op = .move x) (hx : a.eval x = .func (.yield l) #[] #[])
    (g2 : o2.guard = none) (e2 : o2.op = .move y) (hy : (a.put o1.dst (.func (.yield l) #[] #[])).eval y = v)
    (g3 : o3.guard = none) (e3 : o3.op = .call { callee := .value p, args := #[q], argTypes := tys }) (hp : ((a.put o1.dst (.func (.yield l) #[] #[])).put o2.dst v).eval p = .func (.yield l) #[] #[]) (hq : ((a.put o1.dst (.func (.yield l) #[] #[])).put o2.dst v).eval q = v)
    (g4 : o4.guard = none) (e4 : o4.op = .unOp .not ty z) (hz : (((a.put o1.dst (.func (.yield l) #[] #[])).put o2.dst v).put o3.dst (.bool false)).eval z = .bool false)
    (hY : YieldAt Fence.wide m P l #[v] w (fun e W' => e = .returned (.bool false) ∧ R W'))
    (hQ : ∀ W', R W' → Q .normal ((((a.put o1.dst (.func (.yield l) #[] #[])).put o2.dst v).put o3.dst (.bool false)).put o4.dst (.bool true)) W') :
    (Code.region id [o1, o2, o3, o4].toArray false).wp P Q a w := by
  refine (wpIn_wide (n := m + 1)).1 ?_
  refine wpIn_region_lit ?_
  obtain ⟨fn, tmps, assign, body, hy', hR⟩ := hY
  refine wpListIn_plain g1 fun K hK => ⟨fun _ _ => trivial, ?_⟩
  have r1 : (o1.semAt Fence.wide.round a.eval).run P w = .ok (.value (.func (.yield l) #[] #[])) w := by
    show (Oper.semAt none a.eval o1).run P w = _
    rw [Oper.semAt_none]; simp [execOp, e1, hx]
  rw [r1, Oper.uponIn_value]
  refine hK _ _ ?_
  refine wpListIn_plain g2 fun K2 hK2 => ⟨fun _ _ => trivial, ?_⟩
  have r2 : (o2.semAt Fence.wide.round (a.put o1.dst (.func (.yield l) #[] #[])).eval).run P w = .ok (.value v) w := by
    show (Oper.semAt none _ o2).run P w = _
    rw [Oper.semAt_none]; simp [execOp, e2, hy]
  rw [r2, Oper.uponIn_value]
  refine hK2 _ _ ?_
  refine wpListIn_plain g3 fun K3 hK3 => ⟨fun _ _ => trivial, ?_⟩
  have r3 : (o3.semAt Fence.wide.round ((a.put o1.dst (.func (.yield l) #[] #[])).put o2.dst v).eval).run P w = .ok (.round l fn tmps assign body) w := by
    show (Oper.semAt none _ o3).run P w = _
    rw [Oper.semAt_none]; simp [execOp, e3, resolve, hp, hq, Deferred.ofValue, invoke, hy']
  rw [r3, Oper.uponIn_round]
  refine ⟨fun h => absurd h (by decide), hR.mono ?_⟩
  rintro e W' ⟨rfl, hW'⟩
  refine hK3 _ _ ?_
  generalize (((a.put o1.dst (.func (.yield l) #[] #[])).put o2.dst v).put o3.dst (.bool false)) = a3 at hz hQ ⊢
  refine wpListIn_plain g4 fun K4 hK4 => ⟨fun _ _ => trivial, ?_⟩
  have r4 : (o4.semAt Fence.wide.round a3.eval).run P W' = .ok (.value (.bool true)) W' := by
    show (Oper.semAt none _ o4).run P W' = _
    rw [Oper.semAt_none]
    simp only [execOp, e4, hz]
    rfl
  rw [r4, Oper.uponIn_value]
  refine hK4 _ _ ?_
  exact hQ W' hW'

theorem stop_range {P : Program} {g : Operand} {ps : Array Tmp} {assign body : Code} {Q : Exit → Act → World → Prop} {a : Act} {w : World} (h : Stop ((Code.rangeFunc g ps assign body).wp P Q a w)) : (Code.rangeFunc g ps assign body).wp P Q a w := h
theorem Rd.putObj {k : IntKind} {w : World} {A : Option Addr} {l : List Int} (h : Rd k w A l) {r : Nat} {o : Obj} (o' : Obj) (hl : w.heap[r]? = some o) (ho : o.isCells = false) : Rd k (w.putObj r o') A l :=
  ⟨h.le, fun h0 => by
    obtain ⟨b, off, e, hlt, hc⟩ := h.at_ h0
    exact ⟨b, off, e, by simpa using hlt, fun j hj => cell_kept (hc j hj) (grownBy_putObj' w r o') (fun r' e' => by cases e'; exact ⟨o, hl, ho⟩)⟩⟩
theorem Own.putObj' {k : IntKind} {T base : Nat} {w : World} {v : Value} {l : List Int} (h : Own k T w base v l) {r : Nat} {o : Obj} (o' : Obj) (hl : w.heap[r]? = some o) (ho : o.isCells = false) : Own k T (w.putObj r o') base v l := by
  refine h.kept (grownBy_putObj' w r o') ?_
  cases hv : v.ownBlock with
  | none => exact .inl rfl
  | some b =>
    refine .inr (fun e => ?_)
    injection e with e
    subst e
    rcases h.2 with ⟨rfl, _⟩ | ⟨g, cap, cur, rfl, _, hg, _⟩
    · simp [Value.ownBlock] at hv
    · simp only [Value.ownBlock, Option.some.injEq] at hv
      subst hv
      rw [hl] at hg
      injection hg with hg
      subst hg
      cases ho
theorem below_putObj {B : Nat} {w W : World} (h : Below B w W) {r : Nat} (hr : B ≤ r) (o' : Obj) : Below B w (W.putObj r o') := h.trans ⟨rfl, rfl, rfl, by simp, fun j hj => World.putObj_heap_other (by omega)⟩
theorem wpIn_rangeFunc_once {P : Program} {n : Nat} {g : Operand} {ps : Array Tmp} {assign body : Code} {Q : Exit → Act → World → Prop} {a : Act} {w : World}
    {gf : Nat} {lb : Array Value} (hg : a.eval g = .func (.func gf) #[] lb) (eg : ∀ args w, (callFunc gf args).run P w = .ok (.enter gf args) w) (hps : ps.size = 1) (id : Nat)
    (V : Value → World → Prop) (hV : ∀ v W l o o', V v W → W.heap[l]? = some o → o.isCells = false → V v (W.putObj l o'))
    (hiter : ∀ (l : Nat) (W1 : World) (R : World → Prop), Below w.heap.size w W1 → w.heap.size < W1.heap.size →
      (∀ v W, V v W → Below W1.heap.size W1 W → YieldAt Fence.wide (n - 1 - 1) P l #[v] W (fun e W' => e = .returned (.bool false) ∧ R W')) →
      CallsIn Fence.wide (n - 1) P gf (#[.func (.yield l) #[] #[]] ++ lb) W1 (fun e W' => (∃ v, e = .returned v) ∧ R W'))
    (Ix : World → Prop) (hIx : ∀ W l o o', Ix W → w.heap.size ≤ l → W.heap[l]? = some o → o.isCells = false → Ix (W.putObj l o')) (a₁ : Value → Act)
    (hassign : ∀ (l : Nat) (v : Value) (W : World) (K : Act → World → Prop), K (a₁ v) W →
      assign.wpIn (Fence.wide.inRound l) (n - 1 - 1) P (Exit.then K (fun _ _ _ => False)) { tmps := (ps.zip #[v]).foldl (fun t (p, v) => t.setIfInBounds p v) a.tmps, defers := [] } W)
    (hbody : ∀ (l : Nat) (v : Value) (W : World), V v W → Below w.heap.size w W → w.heap.size < W.heap.size → body.wpIn (Fence.wide.inRound l) (n - 1 - 1) P (fun e _ W3 => e = .exit id ∧ KeepsOthers W W3 ∧ Ix W3) (a₁ v) W)
    (hstop : ∀ (D : Nat) (W : World), w.heap.size ≤ D → Ix W → W.heap[D]? = some (.deferred (some [])) → (Code.exit id).wpIn Fence.wide n P Q { a with defers := { target := .collected D, args := #[] } :: a.defers } W) :
    (Code.rangeFunc g ps assign body).wpIn Fence.wide n P Q a w := by
  refine wpIn_rangeFunc ?_
  intro fn hfn
  obtain ⟨rec, hrec⟩ : ∃ rec : LoopState → Option Code → Loop, rec = fun st pe => { state := st, pending := pe, fn, tmps := a.tmps, params := ps, assign, body, defers := w.heap.size } := ⟨_, rfl⟩
  obtain ⟨W1, hW1⟩ : ∃ W1, (w.alloc (.deferred (some []))).alloc (.loop (rec .ready none)) = W1 := ⟨_, rfl⟩
  have hL1 : W1.heap[w.heap.size + 1]? = some (.loop (rec .ready none)) := by
    rw [← hW1]; have := World.alloc_heap_new (w.alloc (.deferred (some []))) (.loop (rec .ready none)); rwa [World.size_alloc] at this
  have hK1 : W1.heap[w.heap.size]? = some (.deferred (some [])) := by
    rw [← hW1]; exact (Below.heap_alloc _ _ _ (by simp)).trans (World.alloc_heap_new w _)
  have hsz1 : W1.heap.size = w.heap.size + 2 := by rw [← hW1]; simp
  have hb1 : Below w.heap.size w W1 := by
    rw [← hW1]; exact ((Below.refl _ w).alloc (Nat.le_refl _) _).alloc (by simp) _
  refine ⟨w.heap.size + 1, [{ target := .collected w.heap.size, args := #[] }], W1, { target := .fn (.func gf) lb, args := #[.func (.yield (w.heap.size + 1)) #[] #[]] }, W1, gf,
    #[.func (.yield (w.heap.size + 1)) #[] #[]] ++ lb, W1, ?_, ?_, ?_, ?_, fun h => (by cases h), ?_⟩
  · rw [← hW1, hrec]; exact run_enterLoop_outer _ _ _ _ _
  · simp only [resolve, hg]
    simp [go_sem]
  · intro f' hf'; trivial
  · simp [invoke, go_sem, eg]
  · refine (hiter (w.heap.size + 1) W1 (fun W => Ix W ∧ W.heap[w.heap.size + 1]? = some (.loop (rec .done (some (.exit id)))) ∧ W.heap[w.heap.size]? = some (.deferred (some []))) hb1 (by omega) ?_).mono ?_
    · intro v W hv hbW
      have hl : W.heap[w.heap.size + 1]? = some (.loop (rec .ready none)) := (hbW.block _ (by omega)).trans hL1
      have hk : W.heap[w.heap.size]? = some (.deferred (some [])) := (hbW.block _ (by omega)).trans hK1
      have hlt : w.heap.size + 1 < W.heap.size := (Array.getElem?_eq_some_iff.1 hl).1
      have hy := run_yield (P := P) (args := #[v]) hl (by rw [hrec]; exact hps.symm)
      rw [hrec] at hy
      refine ⟨fn, _, assign, body, hy, roundIn_of_wpIn hfn (hassign _ v W _ ⟨_, run_beginRound hl (by rw [hrec]), ?_⟩)⟩
      have hl2 : (W.putObj (w.heap.size + 1) (.loop { rec .ready none with state := .busy })).heap[w.heap.size + 1]? = some (.loop { rec .ready none with state := .busy }) := World.putObj_heap_same hlt
      have hk2 : (W.putObj (w.heap.size + 1) (.loop { rec .ready none with state := .busy })).heap[w.heap.size]? = some (.deferred (some [])) := (World.putObj_heap_other (by omega)).trans hk
      have hbp : Below w.heap.size w (W.putObj (w.heap.size + 1) (.loop { rec .ready none with state := .busy })) :=
        (hb1.trans (hbW.mono hb1.size)).trans ⟨rfl, rfl, rfl, by simp, fun j hj => World.putObj_heap_other (by omega)⟩
      refine wpIn_mono (hbody _ v _ (hV _ _ _ _ _ hv hl rfl) hbp (by simp; omega)) ?_
      rintro e a3 W3 ⟨rfl, hk3, hi3⟩
      have hl3 := hk3.same _ _ hl2 rfl
      have hr3 := run_endRound (P := P) (some (.exit id)) hl3
      have hk4 := hk3.same _ _ hk2 rfl
      rw [hrec] at hr3 hl3 ⊢
      exact ⟨_, _, hr3, rfl, hIx _ _ _ _ hi3 (by omega) hl3 rfl, World.putObj_heap_same (Array.getElem?_eq_some_iff.1 hl3).1, (World.putObj_heap_other (by omega)).trans hk4⟩
    · rintro e W3 ⟨⟨v, rfl⟩, hi, hl, hk⟩
      refine ⟨_, _, run_endLoop hl (by rw [hrec]; simp), ?_⟩
      rw [hrec]
      have hi4 := hIx _ _ _ (.loop { rec .done (some (.exit id)) with state := .exhausted }) hi (by omega) hl rfl
      have := hstop w.heap.size _ (Nat.le_refl _) hi4 ((World.putObj_heap_other (by omega)).trans hk)
      rw [hrec] at this
      exact this
end Go.Proofs.YtlmcpnicjdcmdaaDoor
