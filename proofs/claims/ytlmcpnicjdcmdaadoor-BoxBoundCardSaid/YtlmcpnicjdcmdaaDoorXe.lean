/- box: a text is opened. -/
import Derived.Test.YtlmcpnicjdcmdaaDoorXd
set_option linter.unusedVariables false
set_option linter.unusedSimpArgs false
namespace Go.Proofs.YtlmcpnicjdcmdaaDoor
open Go Go.RowKit Go.BigFrame PrintLast

theorem all_range_eqI : ∀ (xs ys : List Int), xs.length = ys.length → ((List.range xs.length).all fun i => xs.getD i 0 == ys.getD i 0) = (xs == ys)
  | [], [], _ => rfl
  | x :: xs, y :: ys, h => by
    have ih := all_range_eqI xs ys (by simpa using h)
    rw [List.length_cons, List.range_succ_eq_map, List.all_cons, List.all_map]
    simp only [List.getD_cons_zero, Function.comp_def, List.getD_cons_succ, ih]
    simp [List.cons_beq_cons]
  | [], _ :: _, h => by simp at h
  | _ :: _, [], h => by simp at h
section
variable {P : Program} (w : World)
theorem run_equalIn_ints (d : Nat) (t e : TypeId) (k : IntKind) (n : Nat) (ht : P.underlying t = some (.array n e)) (he : P.underlying e = some (.int k)) (hsz : ∀ w, (sizeOf e).run P w = .ok 1 w)
    (xs ys : List Int) (hx : xs.length = n) (hy : ys.length = n) :
    (Op.equalIn (d + 2) t (.agg (ints k xs).toArray) (.agg (ints k ys).toArray)).run P w = .ok (xs == ys) w := by
  rw [← all_range_eqI xs ys (hx.trans hy.symm), hx, List.range_eq_range', Op.equalIn]
  simp only [Sem.run_bind, run_underlying ht, Result.andThen_ok, hsz, Std.Legacy.Range.forIn_eq_forIn_range', Std.Legacy.Range.size, Nat.sub_zero, Nat.add_sub_cancel, Nat.div_one]
  have hl : ∀ i ∈ List.range' 0 n 1, i < n := fun i hi => by simpa using (List.mem_range'_1.1 hi).2
  generalize List.range' 0 n 1 = l at hl ⊢
  induction l with
  | nil => simp
  | cons i l ih =>
    have hi : i < n := hl i (by simp)
    have gx := ints_get k xs i (by omega)
    have gy := ints_get k ys i (by omega)
    have px : (part e (ints k xs).toArray (i * 1)).run P w = .ok (.int k (xs.getD i 0)) w := by
      simp [part, isAgg, run_underlying he, gx, List.getD]
    have py : (part e (ints k ys).toArray (i * 1)).run P w = .ok (.int k (ys.getD i 0)) w := by
      simp [part, isAgg, run_underlying he, gy, List.getD]
    have pe : (Op.equalIn (d + 1) e (.int k (xs.getD i 0)) (.int k (ys.getD i 0))).run P w = .ok (xs.getD i 0 == ys.getD i 0) w := by
      rw [run_equalIn_int w d e k k _ _ he]
    simp only [List.forIn_cons, Sem.run_bind, px, py, pe, Result.andThen_ok, List.all_cons]
    cases hb : (xs.getD i 0 == ys.getD i 0)
    · simp
    · simp only [Bool.not_true, Bool.false_eq_true, if_false, Sem.run_pure, Result.andThen_ok, Bool.true_and]
      exact ih fun j hj => hl j (by simp [hj])
end
section
variable {P : Program}
/-- Two arrays of numbers are compared, at a step of a region that draws. -/
theorem step_neq_ints {ops : Array Oper} {o : Oper} {a : Act} {w : World} {K : Act → World → Prop} {Q : Exit → Act → World → Prop} {E' : Prop} (hgd : o.guard = none) (t e r : TypeId) (x y : Operand) (ho : o.op = .binOp .neq t x y r) (k : IntKind) (n : Nat)
    (xs ys : List Int) (hx : a.eval x = .agg (ints k xs).toArray) (hy : a.eval y = .agg (ints k ys).toArray) (ht : P.underlying t = some (.array n e)) (he : P.underlying e = some (.int k)) (hsz : ∀ w, (sizeOf e).run P w = .ok 1 w)
    (hm : P.eqGuardType P.depth t = false) (hlx : xs.length = n) (hly : ys.length = n) (q : Bool) (hq : (!(xs == ys)) = q) (hK : K (a.put o.dst (.bool q)) w) : if Region.wanted o (yielded ops a.tmps) = true then Oper.wp P o a w K Q else E' := by
  subst hq
  rw [if_pos (by simp [Region.wanted, hgd])]
  have hr : (binOp .neq t (.agg (ints k xs).toArray) (.agg (ints k ys).toArray)).run P w = .ok (.bool (!(xs == ys))) w := by
    rw [run_neq_struct, run_equalIn_ints w 9998 t e k n ht he hsz xs ys hlx hly]
    rfl
  unfold Oper.wp execOp
  simp only [ho, hx, hy, Sem.run_bind, run_eqGuard_agg w .neq t x y _ _ hm, Result.andThen_ok, hr, Sem.run_pure]
  exact hK
end

set_option maxRecDepth 100000 in
set_option maxHeartbeats 400000 in
theorem open_arg (w : World) (A1 : Option Addr) (n1 c1 : Nat) (h1 : n1 ≠ 32) (A2 : Option Addr) (n2 c2 : Nat) (A3 : Option Addr) (n3 c3 : Nat) (h3 : n3 ≤ 140737488355328) :
    Calls Tryd.prog 8 #[.slice A1 n1 c1, .slice A2 n2 c2, .slice A3 n3 c3] w (RetE w 1) := by
  have hb : ((n1 : Int) == 32) = false := by simp; omega
  have hb' : ((n1 : Int) != 32) = true := by simp; omega
  clear h1
  go_enter Tryd.func8, Tryd.ntmps8
  go_wp2_with fail
  go_ret2
  exact ⟨rfl, rfl⟩

set_option maxRecDepth 100000 in
set_option maxHeartbeats 400000 in
theorem open_many (w : World) (A1 : Option Addr) (c1 : Nat) (A2 : Option Addr) (n2 c2 : Nat) (A3 : Option Addr) (n3 c3 : Nat) (h3 : n3 ≤ 140737488355328) (h : 32768 < n2 ∨ 32800 < n3) :
    Calls Tryd.prog 8 #[.slice A1 32 c1, .slice A2 n2 c2, .slice A3 n3 c3] w (RetE w 2) := by
  go_enter Tryd.func8, Tryd.ntmps8
  go_wp2_with fail
  all_goals
    go_ret2
    exact ⟨rfl, rfl⟩

set_option maxRecDepth 100000 in
set_option maxHeartbeats 400000 in
theorem open_short (w : World) (A1 : Option Addr) (c1 : Nat) (A2 : Option Addr) (n2 c2 : Nat) (A3 : Option Addr) (n3 c3 : Nat) (h2 : n2 ≤ 32768) (h3 : n3 < 32) :
    Calls Tryd.prog 8 #[.slice A1 32 c1, .slice A2 n2 c2, .slice A3 n3 c3] w (RetE w 121) := by
  go_enter Tryd.func8, Tryd.ntmps8
  go_wp2_with fail
  all_goals
    go_ret2
    exact ⟨rfl, rfl⟩

/-- What is opened, if it is what it should be; behind it the error. -/
def openT (key ah t m : List Int) : List Int := if markF (tagK key) ah t = m then turnedF (streamK key) t else []
def RetOpen (w : World) (key ah t m : List Int) (e : Ending) (w' : World) : Prop :=
  (markF (tagK key) ah t = m ∧ RetBE w (turnedF (streamK key) t) 0 e w') ∨ (markF (tagK key) ah t ≠ m ∧ e = .returned (.tuple #[.slice none 0 0, .int .i64 121]) ∧ Below w.heap.size w w')

set_option maxRecDepth 100000 in
set_option maxHeartbeats 1000000 in
theorem open_calls (w : World) (A1 : Option Addr) (c1 : Nat) (key : List Int) (h1 : key.length = 32) (hR1 : Rd .u8 w A1 key) (A2 : Option Addr) (n2 c2 : Nat) (ah : List Int) (hn2 : n2 = ah.length) (hR2 : Rd .u8 w A2 ah) (hl2 : ah.length ≤ 32768)
    (A3 : Option Addr) (n3 c3 : Nat) (t m : List Int) (hn3 : n3 = t.length + 32) (hm : m.length = 32) (hc3 : n3 ≤ c3) (hR3 : Rd .u8 w A3 (t ++ m)) (hl3 : t.length ≤ 32768) (hK : Kbox w) :
    Calls Tryd.prog 8 #[.slice A1 32 c1, .slice A2 n2 c2, .slice A3 n3 c3] w (RetOpen w key ah t m) := by
  obtain ⟨n, hn⟩ : ∃ n, n = t.length := ⟨_, rfl⟩
  rw [← hn] at hn3
  subst hn3
  have b2 : n2 ≤ 32768 := by omega
  have b3 : n ≤ 32768 := by omega
  have hs0 : ((n : Int) + 32 - 32) = n := by omega
  obtain ⟨b, off, eA, hlt, hcs⟩ := hR3.at_ (by rw [List.length_append]; omega)
  subst eA
  have hRT : Rd .u8 w (some ⟨b, off, none⟩) t := by have := hR3.take t.length; simpa using this
  have hRM : Rd .u8 w (some ⟨b, off + n, none⟩) m := by have := hR3.drop t.length; rw [hn]; simpa using this
  have H1 := Lib.hid h1
  have HR1 := Lib.hid hR1
  have HN2 := Lib.hid hn2
  have HR2 := Lib.hid hR2
  have HL2 := Lib.hid hl2
  have HN := Lib.hid hn
  have HM := Lib.hid hm
  have HRT := Lib.hid hRT
  have HRM := Lib.hid hRM
  have HL3 := Lib.hid hl3
  have HK := Lib.hid hK
  have HLT := Lib.hid hlt
  clear h1 hR1 hn2 hR2 hl2 hn hm hRT hRM hl3 hK hcs hR3 hlt hs0
  go_enter Tryd.func8, Tryd.ntmps8
  go_wp2_with (go_at_call 10; refine stop ?_)
  all_goals
    refine Stop.call (of_calls w A1 32 c1 key H1.out.symm HR1.out (by have := H1.out; omega) HK.out) ?_
    rintro e w1 ⟨As, cs, At, ct, rfl, hrs, hrt, hb1⟩
    have HRS := Lib.hid hrs
    have HRT1 := Lib.hid hrt
    have HB1 := Lib.hid hb1
    clear hrs hrt hb1
    go_wp2_with (with_reducible refine stop_region 9 ?_)
    refine Stop.go ?_
    refine with_world (fun w2 => Below w1.heap.size w1 w2 ∧ w2.heap.size = w1.heap.size + 1 ∧ w2.heap[w1.heap.size]? = some (.cells #[.slice As 32 cs, .slice At 32 ct] 32 (0, 0))) ⟨(Below.refl _ _).alloc (Nat.le_refl _) _, by simp, heap_alloc_new _ _⟩ ?_
    rintro w2 ⟨hb2, hs2, hk2⟩
    have HBW2 := Lib.hid (HB1.out.trans (hb2.mono HB1.out.size))
    have HB2 := Lib.hid hb2
    have HS2 := Lib.hid hs2
    have HK2 := Lib.hid hk2
    clear hb2 hs2 hk2
    go_quiet (fail)
    go_wp2_with (with_reducible refine stop_region 10 ?_)
    refine Stop.go ?_
    refine with_world (fun W => Below w.heap.size w W ∧ W.heap.size = w1.heap.size + 1 ∧ W.heap[w1.heap.size]? = some (.cells #[.slice As 32 cs, .slice At 32 ct] 32 (0, 0)) ∧ Rd .u8 W As (streamK key) ∧ Rd .u8 W At (tagK key))
      ⟨below_drewN HBW2.out _, HS2.out, HK2.out, (HRS.out.below HB2.out).drewN _, (HRT1.out.below HB2.out).drewN _⟩ ?_
    rintro W ⟨hbW, hsW, hkW, hrs, hrt⟩
    have k0 : W.cell? ⟨w1.heap.size, 0, none⟩ = some (.slice As 32 cs) := by simp [World.cell?, hkW]
    have k1 : W.cell? ⟨w1.heap.size, 1, none⟩ = some (.slice At 32 ct) := by simp [World.cell?, hkW]
    have HBW := Lib.hid hbW
    have HSW := Lib.hid hsW
    have HRSW := Lib.hid hrs
    have HRTW := Lib.hid hrt
    have HR2W := Lib.hid (HR2.out.below hbW)
    have HRtW := Lib.hid (HRT.out.below hbW)
    have HRMW := Lib.hid (HRM.out.below hbW)
    have HKW := Lib.hid (HK.out.below hbW)
    clear hbW hsW hkW hrs hrt
    have har := fun w' => run_arrayAt (P := Tryd.prog) (w := w') 35 5 32 (some ⟨b, off + n, none⟩) 32 (c3 - n) Tryd.underlying35 (Nat.le_refl _)
    by_cases hq : markF (tagK key) ah t = m
    · have HQ := Lib.hid hq
      clear hq
      refine start_ (n := 8) (S := fun w' => w'.cell? ⟨w1.heap.size, 0, none⟩ = some (.slice As 32 cs) ∧ w'.cell? ⟨w1.heap.size, 1, none⟩ = some (.slice At 32 ct) ∧ Rd .u8 w' (some ⟨b, off + n, none⟩) m) (ds := []) #[false, false, false, false, false, false, false, false] (by kernel_rfl) rfl rfl ⟨k0, k1, HRMW.out.drew⟩ (fun hHeld => ?_)
      refine pure_ (i := 1) (N := some 38) (v := ?_) (a' := ?_) #[false, true, false, false, false, false, false, false] rfl rfl (by kernel_rfl) (fun _ _ _ h => h) (Or.inl ⟨by rfl, ?_⟩) ?_ ?_
      rotate_left
      · intro w'
        go_simp
        with_reducible rfl
      rotate_left
      · simp only [Act.put, List.setIfInBounds_toArray, List.set_cons_zero, List.set_cons_succ, i64_w, i32_w]
        rfl
      refine pure_ (i := 2) (N := some 39) (v := ?_) (a' := ?_) #[false, true, true, false, false, false, false, false] rfl rfl (by kernel_rfl) (fun _ _ _ h => h) (Or.inl ⟨by rfl, ?_⟩) ?_ ?_
      rotate_left
      · intro w'
        go_simp
        with_reducible rfl
      rotate_left
      · simp only [Act.put, List.setIfInBounds_toArray, List.set_cons_zero, List.set_cons_succ, i64_w, i32_w]
        rfl
      refine pure_ (i := 4) (N := some 41) (v := ?_) (a' := ?_) #[false, true, true, false, true, false, false, false] rfl rfl (by kernel_rfl) (fun _ _ _ h => h) (Or.inl ⟨by rfl, ?_⟩) ?_ ?_
      rotate_left
      · intro w'
        go_simp
        with_reducible rfl
      rotate_left
      · simp only [Act.put, List.setIfInBounds_toArray, List.set_cons_zero, List.set_cons_succ, i64_w, i32_w]
        rfl
      refine pure_ (i := 5) (N := some 42) (v := ?_) (a' := ?_) #[false, true, true, false, true, true, false, false] rfl rfl (by kernel_rfl) (fun _ _ _ h => h) (Or.inl ⟨by rfl, ?_⟩) ?_ ?_
      rotate_left
      · intro w'
        go_simp
        with_reducible rfl
      rotate_left
      · simp only [Act.put, List.setIfInBounds_toArray, List.set_cons_zero, List.set_cons_succ, i64_w, i32_w]
        rfl
      refine take_ (i := 0) (N := some 37) (v := ?_) (a' := ?_) #[true, true, true, false, true, true, false, false] rfl rfl (by kernel_rfl) (fun _ _ _ h => h) (Or.inl ⟨by rfl, ?_⟩) hHeld ?_ ?_
      rotate_left
      · rintro w' ⟨s0, s1, s2⟩
        go_simp
        with_reducible rfl
      rotate_left
      · simp only [Act.put, List.setIfInBounds_toArray, List.set_cons_zero, List.set_cons_succ, i64_w, i32_w]
        rfl
      refine take_ (i := 6) (N := some 43) (v := ?_) (a' := ?_) #[true, true, true, false, true, true, true, false] rfl rfl (by kernel_rfl) (fun _ _ _ h => h) (Or.inl ⟨by rfl, ?_⟩) hHeld ?_ ?_
      rotate_left
      · rintro w' ⟨s0, s1, s2⟩
        refine (exec_load_rd w' 35 (.tmp 42) ?_ b (off + n) .u8 m ?_ s2 (by have := HM.out; omega) _ Tryd.underlying35 rfl (by rw [HM.out]; exact info_a32)).trans ?_
        all_goals rfl
      rotate_left
      · simp only [Act.put, List.setIfInBounds_toArray, List.set_cons_zero, List.set_cons_succ, i64_w, i32_w]
        rfl
      refine one_ (i := 3) (N := some 40) #[true, true, true, true, true, true, true, false] rfl rfl (by kernel_rfl) (by decide) (fun K hK => ?_)
      refine goes_ Tryd.func12 (by kernel_rfl) rfl #[.agg #[.slice As 32 cs, .slice At 32 ct], .slice A2 n2 c2, .slice (some ⟨b, off, none⟩) n n] (by rfl) rfl rfl (by simp only [List.map_toArray, List.map_cons, List.map_nil]; rfl) ?_
      refine (mark_calls W.drew As cs At ct (tagK key) (tagK_length _) HRTW.out.drew A2 n2 c2 ah HN2.out HR2W.out.drew (by have := HL2.out; omega) (some ⟨b, off, none⟩) n n t HN.out HRtW.out.drew (by have := HL3.out; omega) (HKW.out.below (below_drew (Below.refl _ _)))).mono ?_
      rintro e w4 ⟨rfl, hb4⟩
      refine ⟨_, rfl, ?_⟩
      have q0 := cell_below hb4 (cell_lt hHeld.1) hHeld.1
      have q1 := cell_below hb4 (cell_lt hHeld.2.1) hHeld.2.1
      have q2 := hHeld.2.2.below hb4
      have HB4 := Lib.hid hb4
      clear hb4
      refine hK.out _ _ ⟨q0, q1, q2⟩ (fun hHeld => ?_)
      clear hK K
      refine norm_ (a' := ?_) ?_ ?_
      rotate_left
      · show Act.put _ (some 40) _ = _
        simp only [Act.put, List.setIfInBounds_toArray, List.set_cons_zero, List.set_cons_succ, i64_w, i32_w]
        rfl
      refine one_ (i := 7) (N := some 44) #[true, true, true, true, true, true, true, true] rfl rfl (by kernel_rfl) (by decide) (fun K hK => ?_)
      refine step_neq_ints (by rfl) 35 5 35 (.tmp 40) (.tmp 43) (by rfl) .u8 32 (markF (tagK key) ah t) m (by rfl) (by rfl) Tryd.underlying35 Tryd.underlying5 (fun w => by go_simp) (by kernel_rfl) (markF_length _ _ _) HM.out false (by simp [HQ.out]) ?_
      refine hK.out _ _ (hHeld) (fun hHeld => ?_)
      clear hK K
      refine norm_ (a' := ?_) ?_ ?_
      rotate_left
      · show Act.put _ (some 44) _ = _
        simp only [Act.put, List.setIfInBounds_toArray, List.set_cons_zero, List.set_cons_succ, i64_w, i32_w]
        rfl
      refine done_ (by kernel_rfl) ?_
      clear har k0 k1
      have hbW4 := HBW.out.trans ((below_drew (Below.refl W.heap.size W)).trans HB4.out |>.mono HBW.out.size)
      have HBW4 := Lib.hid hbW4
      clear hbW4
      obtain ⟨j0, j1, _⟩ := hHeld
      go_wp2_with (go_at_call 11; refine stop ?_)
      refine Stop.call (turned_calls w4 As cs (streamK key) (streamK_length _) (HRSW.out.drew.below HB4.out) At ct (some ⟨b, off, none⟩) n n t HN.out (HRT.out.below HBW4.out) (by have := HL3.out; omega) (HK.out.below HBW4.out)) ?_
      intro e w5 h5
      obtain ⟨A5, n5, c5, rfl, hn5, _, ho5, hb5⟩ := h5.form
      have HO5 := Lib.hid (ho5.mono HBW4.out.size)
      have HN5 := Lib.hid hn5
      have HB5 := Lib.hid (HBW4.out.trans (hb5.mono HBW4.out.size))
      clear ho5 hn5 hb5 h5
      go_wp2_with fail
      go_ret2
      exact .inl ⟨HQ.out, RetBE.mk2 HN5.out HO5.out HB5.out⟩
    · have HQ := Lib.hid hq
      clear hq
      refine start_ (n := 8) (S := fun w' => w'.cell? ⟨w1.heap.size, 0, none⟩ = some (.slice As 32 cs) ∧ w'.cell? ⟨w1.heap.size, 1, none⟩ = some (.slice At 32 ct) ∧ Rd .u8 w' (some ⟨b, off + n, none⟩) m) (ds := []) #[false, false, false, false, false, false, false, false] (by kernel_rfl) rfl rfl ⟨k0, k1, HRMW.out.drew⟩ (fun hHeld => ?_)
      refine pure_ (i := 1) (N := some 38) (v := ?_) (a' := ?_) #[false, true, false, false, false, false, false, false] rfl rfl (by kernel_rfl) (fun _ _ _ h => h) (Or.inl ⟨by rfl, ?_⟩) ?_ ?_
      rotate_left
      · intro w'
        go_simp
        with_reducible rfl
      rotate_left
      · simp only [Act.put, List.setIfInBounds_toArray, List.set_cons_zero, List.set_cons_succ, i64_w, i32_w]
        rfl
      refine pure_ (i := 2) (N := some 39) (v := ?_) (a' := ?_) #[false, true, true, false, false, false, false, false] rfl rfl (by kernel_rfl) (fun _ _ _ h => h) (Or.inl ⟨by rfl, ?_⟩) ?_ ?_
      rotate_left
      · intro w'
        go_simp
        with_reducible rfl
      rotate_left
      · simp only [Act.put, List.setIfInBounds_toArray, List.set_cons_zero, List.set_cons_succ, i64_w, i32_w]
        rfl
      refine pure_ (i := 4) (N := some 41) (v := ?_) (a' := ?_) #[false, true, true, false, true, false, false, false] rfl rfl (by kernel_rfl) (fun _ _ _ h => h) (Or.inl ⟨by rfl, ?_⟩) ?_ ?_
      rotate_left
      · intro w'
        go_simp
        with_reducible rfl
      rotate_left
      · simp only [Act.put, List.setIfInBounds_toArray, List.set_cons_zero, List.set_cons_succ, i64_w, i32_w]
        rfl
      refine pure_ (i := 5) (N := some 42) (v := ?_) (a' := ?_) #[false, true, true, false, true, true, false, false] rfl rfl (by kernel_rfl) (fun _ _ _ h => h) (Or.inl ⟨by rfl, ?_⟩) ?_ ?_
      rotate_left
      · intro w'
        go_simp
        with_reducible rfl
      rotate_left
      · simp only [Act.put, List.setIfInBounds_toArray, List.set_cons_zero, List.set_cons_succ, i64_w, i32_w]
        rfl
      refine take_ (i := 0) (N := some 37) (v := ?_) (a' := ?_) #[true, true, true, false, true, true, false, false] rfl rfl (by kernel_rfl) (fun _ _ _ h => h) (Or.inl ⟨by rfl, ?_⟩) hHeld ?_ ?_
      rotate_left
      · rintro w' ⟨s0, s1, s2⟩
        go_simp
        with_reducible rfl
      rotate_left
      · simp only [Act.put, List.setIfInBounds_toArray, List.set_cons_zero, List.set_cons_succ, i64_w, i32_w]
        rfl
      refine take_ (i := 6) (N := some 43) (v := ?_) (a' := ?_) #[true, true, true, false, true, true, true, false] rfl rfl (by kernel_rfl) (fun _ _ _ h => h) (Or.inl ⟨by rfl, ?_⟩) hHeld ?_ ?_
      rotate_left
      · rintro w' ⟨s0, s1, s2⟩
        refine (exec_load_rd w' 35 (.tmp 42) ?_ b (off + n) .u8 m ?_ s2 (by have := HM.out; omega) _ Tryd.underlying35 rfl (by rw [HM.out]; exact info_a32)).trans ?_
        all_goals rfl
      rotate_left
      · simp only [Act.put, List.setIfInBounds_toArray, List.set_cons_zero, List.set_cons_succ, i64_w, i32_w]
        rfl
      refine one_ (i := 3) (N := some 40) #[true, true, true, true, true, true, true, false] rfl rfl (by kernel_rfl) (by decide) (fun K hK => ?_)
      refine goes_ Tryd.func12 (by kernel_rfl) rfl #[.agg #[.slice As 32 cs, .slice At 32 ct], .slice A2 n2 c2, .slice (some ⟨b, off, none⟩) n n] (by rfl) rfl rfl (by simp only [List.map_toArray, List.map_cons, List.map_nil]; rfl) ?_
      refine (mark_calls W.drew As cs At ct (tagK key) (tagK_length _) HRTW.out.drew A2 n2 c2 ah HN2.out HR2W.out.drew (by have := HL2.out; omega) (some ⟨b, off, none⟩) n n t HN.out HRtW.out.drew (by have := HL3.out; omega) (HKW.out.below (below_drew (Below.refl _ _)))).mono ?_
      rintro e w4 ⟨rfl, hb4⟩
      refine ⟨_, rfl, ?_⟩
      have q0 := cell_below hb4 (cell_lt hHeld.1) hHeld.1
      have q1 := cell_below hb4 (cell_lt hHeld.2.1) hHeld.2.1
      have q2 := hHeld.2.2.below hb4
      have HB4 := Lib.hid hb4
      clear hb4
      refine hK.out _ _ ⟨q0, q1, q2⟩ (fun hHeld => ?_)
      clear hK K
      refine norm_ (a' := ?_) ?_ ?_
      rotate_left
      · show Act.put _ (some 40) _ = _
        simp only [Act.put, List.setIfInBounds_toArray, List.set_cons_zero, List.set_cons_succ, i64_w, i32_w]
        rfl
      refine one_ (i := 7) (N := some 44) #[true, true, true, true, true, true, true, true] rfl rfl (by kernel_rfl) (by decide) (fun K hK => ?_)
      refine step_neq_ints (by rfl) 35 5 35 (.tmp 40) (.tmp 43) (by rfl) .u8 32 (markF (tagK key) ah t) m (by rfl) (by rfl) Tryd.underlying35 Tryd.underlying5 (fun w => by go_simp) (by kernel_rfl) (markF_length _ _ _) HM.out true (by simp [HQ.out]) ?_
      refine hK.out _ _ (hHeld) (fun hHeld => ?_)
      clear hK K
      refine norm_ (a' := ?_) ?_ ?_
      rotate_left
      · show Act.put _ (some 44) _ = _
        simp only [Act.put, List.setIfInBounds_toArray, List.set_cons_zero, List.set_cons_succ, i64_w, i32_w]
        rfl
      refine done_ (by kernel_rfl) ?_
      clear har k0 k1 hHeld
      have hbW4 := HBW.out.trans ((below_drew (Below.refl W.heap.size W)).trans HB4.out |>.mono HBW.out.size)
      have HBW4 := Lib.hid hbW4
      clear hbW4
      go_wp2_with fail
      go_ret2
      exact .inr ⟨HQ.out, rfl, HBW4.out⟩
end Go.Proofs.YtlmcpnicjdcmdaaDoor
