/- The document's sponge gives the bytes that the program's gives; SHAKE256. -/
import Derived.Test.YtlmcpnicjdcmdaaDoorRt
set_option linter.unusedVariables false
set_option linter.unusedSimpArgs false
namespace Go.Proofs.YtlmcpnicjdcmdaaDoor
open Go Go.RowKit Go.BigFrame PrintLast

/-- append to a row of the call's own, at a step of a region that draws. -/
theorem step_append_own {P : Program} {t e : TypeId} {k : IntKind} {bytes : Nat} {ops : Array Oper} {o : Oper} {a : Act} {Q : Exit → Act → World → Prop} {w : World} {K : Act → World → Prop} {E' : Prop} (E : ElemOf P t e k bytes) (base : Nat) (s x : Operand)
    (v : Value) (l : List Int) (A : Option Addr) (c n : Nat) (m : List Int) (hown : Own k e w base v l) (hr : Rd k w A m) (hn : n = m.length)
    (hgd : o.guard = none) (ho : o.op = .call { callee := .builtin .append, args := #[s, x], argTypes := #[t, t] })
    (hs : a.eval s = v) (hx : a.eval x = .slice A n c)
    (hbytes : (l.length + m.length) * bytes ≤ 140737488355328) (h63 : l.length + m.length ≤ maxLen) (hbase : base ≤ w.heap.size)
    (h : ∀ v' w', Own k e w' base v' (l ++ m) → w.grownBy w' v.ownBlock → K (a.put o.dst v') w') :
    if Region.wanted o (yielded ops a.tmps) = true then Oper.wp P o a w K Q else E' := by
  subst hn
  rw [if_pos (by simp [Region.wanted, hgd])]
  obtain ⟨v', w', hrun, h2, h3, h5⟩ := run_append_own_rd E w base o.type v l hown A c m hr hbytes h63 hbase
  unfold Oper.wp execOp
  simp only [ho, resolve, invoke, builtin, Sem.run_bind, Sem.run_pure, Result.andThen_ok, List.map_toArray, List.map_cons, List.map_nil, hs, hx, hrun]
  exact h v' w' h2 h3
/-- The bytes that are read, k of them. -/
def outA (rate : Nat) (s : List Int × Nat) (k : Nat) : List Int := (List.range k).map fun j => byteS (preS rate (readS rate s j))
theorem outA_length (rate : Nat) (s : List Int × Nat) (k : Nat) : (outA rate s k).length = k := by simp [outA]
theorem outA_succ (rate : Nat) (s : List Int × Nat) (k : Nat) : outA rate s (k + 1) = outA rate s k ++ [byteS (preS rate (readS rate s k))] := by simp [outA, List.range_succ]
theorem outK_at (rate : Nat) (s : List Int × Nat) (n : Nat) : ∀ (k j : Nat), j < k → j < n → (outK rate s n k).getD j 0 = byteS (preS rate (readS rate s j))
  | 0, j, h, _ => by omega
  | k + 1, j, h, hn => by
    rw [outK]
    simp only [List.getD_eq_getElem?_getD]
    by_cases e : k = j
    · subst e
      rw [List.getElem?_set_self (by rw [outK_length]; exact hn)]
      rfl
    · rw [List.getElem?_set_ne e]
      have := outK_at rate s n k j (by omega) hn
      simpa only [List.getD_eq_getElem?_getD] using this
theorem outK_outA (rate : Nat) (s : List Int × Nat) (n : Nat) : outK rate s n n = outA rate s n := by
  apply ext_getD (by rw [outK_length, outA_length])
  intro j hj
  rw [outK_length] at hj
  rw [outK_at rate s n n j hj hj]
  simp [outA, List.getD_eq_getElem?_getD, hj]
theorem SQ.grown {w wr w' : World} {B rate at_ : Nat} {L : List Int} {gives : Bool} (h : SQ w B rate L at_ gives wr) {k : IntKind} {T : Nat} {v : Value} {l : List Int} (ho : Own k T wr (B + 1) v l) (hg : wr.grownBy w' v.ownBlock) : SQ w B rate L at_ gives w' :=
  ⟨h.m.grown hg (fun e => by have := (ho.blk B e.symm).1; omega), h.len, below_own (Nat.le_refl _) h.b (ho.mono (by have := h.ge; omega)) hg, h.ge⟩

theorem tmod5_nat (m : Nat) : (m : Int).tmod 5 = ((m % 5 : Nat) : Int) := rfl
theorem tmod8_nat (m : Nat) : (m : Int).tmod 8 = ((m % 8 : Nat) : Int) := rfl
theorem tdiv5_nat (m : Nat) (h : m < 25) : wrap64 ((m : Int).tdiv 5) = ((m / 5 : Nat) : Int) := by
  rw [show (m : Int).tdiv 5 = ((m / 5 : Nat) : Int) from rfl]
  unfold wrap64
  omega
theorem wrap8_nat (sh a : Nat) (h : sh = 8 * (a % 8)) : wrap64 (8 * ((a % 8 : Nat) : Int)) = (sh : Int) := by
  rw [show (8 * ((a % 8 : Nat) : Int)) = (sh : Int) by omega]
  unfold wrap64
  omega

set_option maxRecDepth 100000 in
set_option maxHeartbeats 4000000 in
theorem rread_calls {w wr : World} {B rate at_ : Nat} {L : List Int} (h : SQ w B rate L at_ false wr) (hat : at_ < rate) (hrate : rate ≤ 192) (n : Nat) (hn : n ≤ 65536) :
    Calls Tryd.prog 50 #[.pointer (some ⟨B, 0, none⟩), .int .i64 n] wr fun e w' => ∃ A c, e = .returned (.slice A n c) ∧ Own .u8 5 w' w.heap.size (.slice A n c) (outK rate (finS rate 31 (L, at_)) n n) ∧ Below w.heap.size w w' := by
  have c27 := h.cAt
  have c28 := h.cGives
  have c1 := h.cEn
  have H := Lib.hid h
  clear h
  go_enter Tryd.func50, Tryd.ntmps50
  go_wp2_with (with_reducible refine stop_region 4 ?_)
  refine Stop.go ?_
  refine wp_region_quiet_tail 9 (by kernel_rfl) (by kernel_rfl) ?_
  simp only [List.take_succ_cons, List.take_zero, List.drop_succ_cons, List.drop_zero]
  repeat (go_big_quiet_step (fail))
  refine wpQuiet_nil ?_
  intro _ hw'
  obtain ⟨nq, hw''⟩ := hw'
  subst hw''
  go_wp2_with (go_at_call 59; refine stop ?_)
  refine Stop.call (rlay_calls (H.out.drewN nq) at_ (by omega) 31) ?_
  rintro e w2 ⟨rfl, hs2⟩
  have c0 := hs2.cRate
  have HS2 := Lib.hid hs2
  have hr1 : ((rate : Int) - 1) = ((rate - 1 : Nat) : Int) := by omega
  clear hs2 c27 c28 c1
  go_wp2_with (go_at_call 59; refine stop ?_)
  refine Stop.call (rlay_calls HS2.out (rate - 1) (by omega) 128) ?_
  rintro e w3 ⟨rfl, hs3⟩
  have HS3 := Lib.hid hs3
  clear hs3 hr1 c0
  obtain ⟨X, hX⟩ : ∃ X, X = layF (layF L at_ 31) (rate - 1) 128 := ⟨_, rfl⟩
  have hs3 := HS3.out
  rw [← hX] at hs3
  have HX := Lib.hid hX
  clear HS3 hX
  have HS3 := Lib.hid hs3
  clear hs3
  go_wp2_with ((with_reducible refine gate_dst (N := 40) rfl ?_); refine stop ?_)
  refine Stop.go ?_
  refine wpList_load_rd rfl 84 (.tmp 39) rfl B 2 .u64 (tr X) rfl HS3.out.rdW (by rw [tr_length]; omega) _ Tryd.underlying84 rfl (by rw [tr_length]; exact info_w55) ?_
  refine goesL_ (some 41) rfl rfl Tryd.func60 (by kernel_rfl) rfl #[.agg (ints .u64 (tr X)).toArray] rfl (by simp only [List.map_toArray, List.map_cons, List.map_nil]; rfl) ?_
  refine (rchange2 _ X HS3.out.len).mono ?_
  rintro e w5 ⟨rfl, hb5⟩
  refine ⟨_, rfl, ?_⟩
  have HS5 := Lib.hid (HS3.out.below hb5)
  clear hb5
  go_wp2_with ((with_reducible refine gate_none rfl ?_); refine stop ?_)
  refine Stop.go ?_
  refine wpList_store_mid rfl 84 (.tmp 43) (.tmp 41) rfl (l' := tr (changeF X)) HS5.out.m (by rw [tr_length, tr_length]) (by rw [tr_length]; exact info_w55) rfl rfl ?_
  intro w6 hM hBel _
  have hs6 := HS5.out.turned hM hBel
  have c27c := hs6.cAt
  have f27c := hs6.free 27
  have c28c := hs6.cGives
  have f28c := hs6.free 28
  have HS6 := Lib.hid hs6
  clear hM hBel hs6
  go_wp2_with fail
  obtain ⟨Y, hY⟩ : ∃ Y, Y = changeF X := ⟨_, rfl⟩
  have hs6 := HS6.out
  rw [← hY] at hs6
  have hfin : finS rate 31 (L, at_) = (Y, 0) := by unfold finS; rw [hY, HX.out]
  have HY := Lib.hid hY
  have HFIN := Lib.hid hfin
  clear HS6 hY hfin
  refine with_world (fun w7 => SQ w B rate Y 0 true w7) ?_ ?_
  · exact (hs6.setAt 0).setGives true
  intro w7 hs7
  have HS7 := Lib.hid hs7
  clear hs7 hs6 c27c f27c c28c f28c
  generalize (decide ((n : Int) < 0) || decide (65536 < (n : Int))) = q13
  generalize (decide ((n : Int) < 0)) = q9
  generalize (decide (65536 < (n : Int))) = q12
  go_loopw [5, 6, 7] (fun v s _ wr => ∃ i : Nat, i ≤ n ∧ s = .int .i64 (i : Nat) ∧ SQ w B rate (readS rate (Y, 0) i).1 (readS rate (Y, 0) i).2 true wr ∧ Own .u8 5 wr (B + 1) v (outA rate (Y, 0) i)) (fun _ s _ _ => n - (intOf s).toNat)
  case atStart => exact ⟨0, Nat.zero_le _, rfl, HS7.out, Own.nil _ _ _ _⟩
  case round =>
    clear HS7
    obtain ⟨i, hi, rfl, hs, ho⟩ := hrel
    obtain ⟨Av, nv, cv, rfl, hnv, _, _, ho⟩ := ho.form2
    have HNV := Lib.hid hnv
    clear hnv
    by_cases hin : i < n
    · have hle := readS_le rate (Y, 0) i (by omega) (by omega)
      obtain ⟨s, hsd⟩ : ∃ s, s = readS rate (Y, 0) i := ⟨_, rfl⟩
      rw [← hsd] at hs hle
      obtain ⟨L1, at1⟩ := s
      simp only at hs hle
      have c27 := hs.cAt
      have c0 := hs.cRate
      have HS := Lib.hid hs
      have HO := Lib.hid ho
      have HSD := Lib.hid hsd
      clear hs ho hsd
      by_cases he : at1 = rate
      case' pos =>
        have hb1 : ((at1 : Int) == (rate : Int)) = true := by simp; omega
        have HE := Lib.hid he
        clear he
        go_wp2_with fail
        go_quiet (fail)
        clear c27 c0
        have HS4 := Lib.hid (HS.out.drewN nq)
        have HO4 := Lib.hid (HO.out.drewN nq)
        go_wp2_with ((with_reducible refine gate_dst (N := 68) rfl ?_); refine stop ?_)
        refine Stop.go ?_
        refine wpList_load_rd rfl 84 (.tmp 67) rfl B 2 .u64 (tr L1) rfl HS4.out.rdW (by rw [tr_length]; omega) _ Tryd.underlying84 rfl (by rw [tr_length]; exact info_w55) ?_
        refine goesL_ (some 69) rfl rfl Tryd.func60 (by kernel_rfl) rfl #[.agg (ints .u64 (tr L1)).toArray] rfl (by simp only [List.map_toArray, List.map_cons, List.map_nil]; rfl) ?_
        refine (rchange2 _ L1 HS4.out.len).mono ?_
        rintro e w5 ⟨rfl, hb5⟩
        refine ⟨_, rfl, ?_⟩
        have HS5 := Lib.hid (HS4.out.below hb5)
        have HO5 := Lib.hid (HO4.out.below hb5)
        clear hb5
        go_wp2_with ((with_reducible refine gate_none rfl ?_); refine stop ?_)
        refine Stop.go ?_
        refine wpList_store_mid rfl 84 (.tmp 71) (.tmp 69) rfl (l' := tr (changeF L1)) HS5.out.m (by rw [tr_length, tr_length]) (by rw [tr_length]; exact info_w55) rfl rfl ?_
        intro w6 hM hBel hG6
        have hs6 := HS5.out.turned hM hBel
        have ho6 := HO5.out.kept hG6 (.inr fun e => by have := (HO5.out.blk B e).1; omega)
        have c27c := hs6.cAt
        have f27c := hs6.free 27
        have HS6 := Lib.hid hs6
        have HO6 := Lib.hid ho6
        clear hM hBel hG6 hs6 ho6
        obtain ⟨L2, hL2⟩ : ∃ L2, L2 = changeF L1 := ⟨_, rfl⟩
        obtain ⟨at2, hat2⟩ : ∃ at2 : Nat, at2 = 0 := ⟨_, rfl⟩
        have hp : preS rate (L1, at1) = (L2, at2) := by unfold preS; rw [if_pos HE.out, hL2, hat2]
        have ha2 : at2 < rate := by omega
        have HP := Lib.hid hp
        have hsq := HS6.out.setAt at2
        rw [← hL2] at hsq
        have ho7 := HO6.out.other (p := ⟨B, 27, none⟩) (fun b hb => by have := (HO6.out.blk b hb).1; show b ≠ B; omega) (.int .i64 (at2 : Nat))
        rw [hat2] at hsq ho7
        have HSQ := Lib.hid hsq
        have HO7 := Lib.hid ho7
        have HAT := Lib.hid hat2
        clear hp hL2 hsq ho7
        clear hat2
        go_wp2_with ((with_reducible refine gate_dst (N := 78) rfl ?_); refine stop ?_)
        refine with_worldL (fun w8 => SQ w B rate L2 at2 true w8 ∧ Own .u8 5 w8 (B + 1) (.slice Av nv cv) (outA rate (Y, 0) i)) ⟨by rw [HAT.out]; exact HSQ.out, HO7.out⟩ ?_
        rintro w7 ⟨hs7, ho7⟩
        have c27d := hs7.cAt
        have HS7 := Lib.hid hs7
        have HO77 := Lib.hid ho7
        clear hs7 ho7 c27c f27c
        go_wp2_with (with_reducible refine stop_region 17 ?_)
        refine Stop.go ?_
        refine with_world (fun w8 => SQ w B rate L2 at2 true w8 ∧ Own .u8 5 w8 (B + 1) (.slice Av nv cv) (outA rate (Y, 0) i)) ⟨HS7.out, HO77.out⟩ ?_
        clear c27d
      case' neg =>
        have hb1 : ((at1 : Int) == (rate : Int)) = false := by simp; omega
        have HE := Lib.hid he
        clear he
        go_wp2_with fail
        go_quiet (fail)
        obtain ⟨L2, hL2⟩ : ∃ L2, L2 = L1 := ⟨_, rfl⟩
        obtain ⟨at2, hat2⟩ : ∃ at2, at2 = at1 := ⟨_, rfl⟩
        subst hL2 hat2
        have hp : preS rate (L2, at2) = (L2, at2) := by unfold preS; rw [if_neg HE.out]
        have ha2 : at2 < rate := by have := HE.out; omega
        have HP := Lib.hid hp
        have hsq := HS.out.drewN nq
        clear hp
        go_wp2_with (with_reducible refine stop_region 17 ?_)
        refine Stop.go ?_
        refine with_world (fun w8 => SQ w B rate L2 at2 true w8 ∧ Own .u8 5 w8 (B + 1) (.slice Av nv cv) (outA rate (Y, 0) i)) ⟨hsq, HO.out.drewN nq⟩ ?_
        clear c27 c0
      all_goals
        rintro w8 ⟨hs8, ho8⟩
        have c27 := hs8.cAt
        obtain ⟨m, hm⟩ : ∃ m, m = at2 / 8 := ⟨_, rfl⟩
        have hn8 : m < 25 := by omega
        have k1 := hs8.word m hn8
        obtain ⟨r0, hr0⟩ : ∃ r0, r0 = m % 5 := ⟨_, rfl⟩
        obtain ⟨q0, hq0e⟩ : ∃ q0, q0 = m / 5 := ⟨_, rfl⟩
        obtain ⟨a0, ha0⟩ : ∃ a0, a0 = at2 % 8 := ⟨_, rfl⟩
        rw [← Nat.add_assoc, ← hr0, ← hq0e] at k1
        rw [show ((at2 : Int) / 8) = (m : Int) by omega]
        have hq0 : r0 < 5 := by omega
        have hq1 : q0 < 5 := by omega
        obtain ⟨sh, hsh⟩ : ∃ sh, sh = 8 * a0 := ⟨_, rfl⟩
        have hshb : sh < 64 := by omega
        have hi0 : (r0 : Int) < 5 := by omega
        have hi1 : (q0 : Int) < 5 := by omega
        have hi2 : (sh : Int) < 64 := by omega
        have hi3 : (sh : Int) ≤ 64 := by omega
        have HMN := Lib.hid (by omega : min sh 64 = sh)
        obtain ⟨xv, hxv⟩ : ∃ xv, xv = L2.getD m 0 := ⟨_, rfl⟩
        rw [← hxv] at k1
        have HXV := Lib.hid (by rw [hxv, hm] : xv = L2.getD (at2 / 8) 0)
        have HSH := Lib.hid (by rw [hsh, ha0] : sh = 8 * (at2 % 8))
        have HS8 := Lib.hid hs8
        have HO8 := Lib.hid ho8
        have hBlt := hs8.m.lt
        have hnv2 : nv = i := by rw [HNV.out, outA_length]
        have HNV2 := Lib.hid hnv2
        have g1 : (m : Int).tmod 5 = (r0 : Int) := by rw [hr0]; rfl
        have g2 : wrap64 ((m : Int).tdiv 5) = (q0 : Int) := by rw [hq0e]; exact tdiv5_nat m hn8
        have g2' : wrap64 ((m : Int) / 5) = (q0 : Int) := by rw [hq0e]; exact tdiv5_nat m hn8
        have g3 : (at2 : Int).tmod 8 = (a0 : Int) := by rw [ha0]; rfl
        have g4 : wrap64 (8 * (a0 : Int)) = (sh : Int) := by rw [ha0]; exact wrap8_nat sh at2 (by rw [hsh, ha0])
        clear hs8 ho8 hxv hnv2 hm hsh hr0 hq0e ha0
        refine start_ (n := 22) (S := fun w' => w'.cell? ⟨B, 2 + r0 * 5 + q0, none⟩ = some (.int .u64 xv) ∧ w'.cell? ⟨B, 27, none⟩ = some (.int .i64 at2)) (ds := []) #[false, false, false, false, false, false, false, false, false, false, false, false, false, false, false, false, false, false, false, false, false, false] (by kernel_rfl) rfl rfl ⟨k1, c27⟩ (fun hHeld => ?_)
        refine pure_ (i := 0) (N := some 80) (v := ?_) (a' := ?_) #[true, false, false, false, false, false, false, false, false, false, false, false, false, false, false, false, false, false, false, false, false, false] rfl rfl (by kernel_rfl) (fun _ _ _ h => h) (Or.inl ⟨by rfl, ?_⟩) ?_ ?_
        rotate_left
        · intro w'
          go_simp
          with_reducible rfl
        rotate_left
        · simp only [Act.put, List.setIfInBounds_toArray, List.set_cons_zero, List.set_cons_succ, i64_w, i32_w]
          rfl
        refine pure_ (i := 1) (N := some 81) (v := ?_) (a' := ?_) #[true, true, false, false, false, false, false, false, false, false, false, false, false, false, false, false, false, false, false, false, false, false] rfl rfl (by kernel_rfl) (fun _ _ _ h => h) (Or.inl ⟨by rfl, ?_⟩) ?_ ?_
        rotate_left
        · intro w'
          go_simp
          with_reducible rfl
        rotate_left
        · simp only [Act.put, List.setIfInBounds_toArray, List.set_cons_zero, List.set_cons_succ, i64_w, i32_w]
          rfl
        refine pure_ (i := 2) (N := some 82) (v := ?_) (a' := ?_) #[true, true, true, false, false, false, false, false, false, false, false, false, false, false, false, false, false, false, false, false, false, false] rfl rfl (by kernel_rfl) (fun _ _ _ h => h) (Or.inl ⟨by rfl, ?_⟩) ?_ ?_
        rotate_left
        · intro w'
          go_simp
          with_reducible rfl
        rotate_left
        · simp only [Act.put, List.setIfInBounds_toArray, List.set_cons_zero, List.set_cons_succ, i64_w, i32_w]
          rfl
        refine pure_ (i := 3) (N := some 83) (v := ?_) (a' := ?_) #[true, true, true, true, false, false, false, false, false, false, false, false, false, false, false, false, false, false, false, false, false, false] rfl rfl (by kernel_rfl) (fun _ _ _ h => h) (Or.inl ⟨by rfl, ?_⟩) ?_ ?_
        rotate_left
        · intro w'
          go_simp
          with_reducible rfl
        rotate_left
        · simp only [Act.put, List.setIfInBounds_toArray, List.set_cons_zero, List.set_cons_succ, i64_w, i32_w]
          rfl
        refine pure_ (i := 4) (N := some 84) (v := ?_) (a' := ?_) #[true, true, true, true, true, false, false, false, false, false, false, false, false, false, false, false, false, false, false, false, false, false] rfl rfl (by kernel_rfl) (fun _ _ _ h => h) (Or.inl ⟨by rfl, ?_⟩) ?_ ?_
        rotate_left
        · intro w'
          go_simp
          with_reducible rfl
        rotate_left
        · simp only [Act.put, List.setIfInBounds_toArray, List.set_cons_zero, List.set_cons_succ, i64_w, i32_w]
          rfl
        refine pure_ (i := 5) (N := some 85) (v := ?_) (a' := ?_) #[true, true, true, true, true, true, false, false, false, false, false, false, false, false, false, false, false, false, false, false, false, false] rfl rfl (by kernel_rfl) (fun _ _ _ h => h) (Or.inl ⟨by rfl, ?_⟩) ?_ ?_
        rotate_left
        · intro w'
          go_simp
          with_reducible rfl
        rotate_left
        · simp only [Act.put, List.setIfInBounds_toArray, List.set_cons_zero, List.set_cons_succ, i64_w, i32_w]
          rfl
        refine pure_ (i := 6) (N := some 86) (v := ?_) (a' := ?_) #[true, true, true, true, true, true, true, false, false, false, false, false, false, false, false, false, false, false, false, false, false, false] rfl rfl (by kernel_rfl) (fun _ _ _ h => h) (Or.inl ⟨by rfl, ?_⟩) ?_ ?_
        rotate_left
        · intro w'
          go_simp
          with_reducible rfl
        rotate_left
        · simp only [Act.put, List.setIfInBounds_toArray, List.set_cons_zero, List.set_cons_succ, i64_w, i32_w]
          rfl
        refine pure_ (i := 7) (N := some 87) (v := ?_) (a' := ?_) #[true, true, true, true, true, true, true, true, false, false, false, false, false, false, false, false, false, false, false, false, false, false] rfl rfl (by kernel_rfl) (fun _ _ _ h => h) (Or.inl ⟨by rfl, ?_⟩) ?_ ?_
        rotate_left
        · intro w'
          go_simp
          with_reducible rfl
        rotate_left
        · simp only [Act.put, List.setIfInBounds_toArray, List.set_cons_zero, List.set_cons_succ, i64_w, i32_w]
          rfl
        refine pure_ (i := 8) (N := some 88) (v := ?_) (a' := ?_) #[true, true, true, true, true, true, true, true, true, false, false, false, false, false, false, false, false, false, false, false, false, false] rfl rfl (by kernel_rfl) (fun _ _ _ h => h) (Or.inl ⟨by rfl, ?_⟩) ?_ ?_
        rotate_left
        · intro w'
          go_simp
          with_reducible rfl
        rotate_left
        · simp only [Act.put, List.setIfInBounds_toArray, List.set_cons_zero, List.set_cons_succ, i64_w, i32_w]
          rfl
        refine pure_ (i := 9) (N := some 89) (v := ?_) (a' := ?_) #[true, true, true, true, true, true, true, true, true, true, false, false, false, false, false, false, false, false, false, false, false, false] rfl rfl (by kernel_rfl) (fun _ _ _ h => h) (Or.inl ⟨by rfl, ?_⟩) ?_ ?_
        rotate_left
        · intro w'
          go_simp
          with_reducible rfl
        rotate_left
        · simp only [Act.put, List.setIfInBounds_toArray, List.set_cons_zero, List.set_cons_succ, i64_w, i32_w]
          rfl
        refine pure_ (i := 11) (N := some 91) (v := ?_) (a' := ?_) #[true, true, true, true, true, true, true, true, true, true, false, true, false, false, false, false, false, false, false, false, false, false] rfl rfl (by kernel_rfl) (fun _ _ _ h => h) (Or.inl ⟨by rfl, ?_⟩) ?_ ?_
        rotate_left
        · intro w'
          go_simp
          with_reducible rfl
        rotate_left
        · simp only [Act.put, List.setIfInBounds_toArray, List.set_cons_zero, List.set_cons_succ, i64_w, i32_w]
          rfl
        refine pure_ (i := 12) (N := some 92) (v := ?_) (a' := ?_) #[true, true, true, true, true, true, true, true, true, true, false, true, true, false, false, false, false, false, false, false, false, false] rfl rfl (by kernel_rfl) (fun _ _ _ h => h) (Or.inl ⟨by rfl, ?_⟩) ?_ ?_
        rotate_left
        · intro w'
          go_simp
          with_reducible rfl
        rotate_left
        · simp only [Act.put, List.setIfInBounds_toArray, List.set_cons_zero, List.set_cons_succ, i64_w, i32_w]
          rfl
        refine pure_ (i := 13) (N := some 93) (v := ?_) (a' := ?_) #[true, true, true, true, true, true, true, true, true, true, false, true, true, true, false, false, false, false, false, false, false, false] rfl rfl (by kernel_rfl) (fun _ _ _ h => h) (Or.inl ⟨by rfl, ?_⟩) ?_ ?_
        rotate_left
        · intro w'
          go_simp
          with_reducible rfl
        rotate_left
        · simp only [Act.put, List.setIfInBounds_toArray, List.set_cons_zero, List.set_cons_succ, i64_w, i32_w]
          rfl
        refine take_ (i := 10) (N := some 90) (v := ?_) (a' := ?_) #[true, true, true, true, true, true, true, true, true, true, true, true, true, true, false, false, false, false, false, false, false, false] rfl rfl (by kernel_rfl) (fun _ _ _ h => h) (Or.inl ⟨by rfl, ?_⟩) hHeld ?_ ?_
        rotate_left
        · rintro w' ⟨s0, s1⟩
          go_simp
          with_reducible rfl
        rotate_left
        · simp only [Act.put, List.setIfInBounds_toArray, List.set_cons_zero, List.set_cons_succ, i64_w, i32_w]
          rfl
        refine take_ (i := 14) (N := some 94) (v := ?_) (a' := ?_) #[true, true, true, true, true, true, true, true, true, true, true, true, true, true, true, false, false, false, false, false, false, false] rfl rfl (by kernel_rfl) (fun _ _ _ h => h) (Or.inl ⟨by rfl, ?_⟩) hHeld ?_ ?_
        rotate_left
        · rintro w' ⟨s0, s1⟩
          go_simp
          with_reducible rfl
        rotate_left
        · simp only [Act.put, List.setIfInBounds_toArray, List.set_cons_zero, List.set_cons_succ, i64_w, i32_w]
          rfl
        refine pure_ (i := 15) (N := some 95) (v := ?_) (a' := ?_) #[true, true, true, true, true, true, true, true, true, true, true, true, true, true, true, true, false, false, false, false, false, false] rfl rfl (by kernel_rfl) (fun _ _ _ h => h) (Or.inl ⟨by rfl, ?_⟩) ?_ ?_
        rotate_left
        · intro w'
          go_simp
          with_reducible rfl
        rotate_left
        · simp only [Act.put, List.setIfInBounds_toArray, List.set_cons_zero, List.set_cons_succ, i64_w, i32_w]
          rfl
        refine pure_ (i := 16) (N := some 96) (v := ?_) (a' := ?_) #[true, true, true, true, true, true, true, true, true, true, true, true, true, true, true, true, true, false, false, false, false, false] rfl rfl (by kernel_rfl) (fun _ _ _ h => h) (Or.inl ⟨by rfl, ?_⟩) ?_ ?_
        rotate_left
        · intro w'
          go_simp
          with_reducible rfl
        rotate_left
        · simp only [Act.put, List.setIfInBounds_toArray, List.set_cons_zero, List.set_cons_succ, i64_w, i32_w]
          rfl
        simp only [g4]
        clear g1 g2 g2' g3 g4
        refine pure_ (i := 17) (N := some 97) (v := ?_) (a' := ?_) #[true, true, true, true, true, true, true, true, true, true, true, true, true, true, true, true, true, true, false, false, false, false] rfl rfl (by kernel_rfl) (fun _ _ _ h => h) (Or.inl ⟨by rfl, ?_⟩) ?_ ?_
        rotate_left
        · intro w'
          go_simp
          with_reducible rfl
        rotate_left
        · simp only [Act.put, List.setIfInBounds_toArray, List.set_cons_zero, List.set_cons_succ, i64_w, i32_w]
          rfl
        refine pure_ (i := 18) (N := some 98) (v := ?_) (a' := ?_) #[true, true, true, true, true, true, true, true, true, true, true, true, true, true, true, true, true, true, true, false, false, false] rfl rfl (by kernel_rfl) (fun _ _ _ h => h) (Or.inl ⟨by rfl, ?_⟩) ?_ ?_
        rotate_left
        · intro w'
          go_simp
          with_reducible rfl
        rotate_left
        · simp only [Act.put, List.setIfInBounds_toArray, List.set_cons_zero, List.set_cons_succ, i64_w, i32_w]
          rfl
        refine one_ (i := 19) (N := some 99) #[true, true, true, true, true, true, true, true, true, true, true, true, true, true, true, true, true, true, true, true, false, false] rfl rfl (by kernel_rfl) (by decide) (fun K hK => ?_)
        refine value_ (w1 := ?_) (v := ?_) (by rfl) rfl ?_ ?_
        rotate_left 2
        · go_simp
          constructor
          · rfl
          · rfl
        refine hK.out _ _ ⟨cell_below ((Below.refl _ _).alloc (Nat.le_refl _) _) (cell_lt hHeld.1) hHeld.1, cell_below ((Below.refl _ _).alloc (Nat.le_refl _) _) (cell_lt hHeld.2) hHeld.2⟩ (fun hHeld => ?_)
        clear hK K
        refine norm_ (a' := ?_) ?_ ?_
        rotate_left
        · show Act.put _ (some 99) _ = _
          simp only [Act.put, List.setIfInBounds_toArray, List.set_cons_zero, List.set_cons_succ, i64_w, i32_w]
          rfl
        refine one_ (i := 20) (N := some 100) #[true, true, true, true, true, true, true, true, true, true, true, true, true, true, true, true, true, true, true, true, true, false] rfl rfl (by kernel_rfl) (by decide) (fun K hK => ?_)
        refine step_append_own bytesE (B + 1) (.tmp 80) (.tmp 99) (.slice Av nv cv) (outA rate (Y, 0) i) _ _ _ [xv / 2 ^ sh % 256] (HO8.out.drew.alloc _) (Rd.lit (k := .u8) (T := 5) (w := w8) (l := [xv / 2 ^ sh % 256]) (by simp only [IntKind.wrap_u8, HMN.out]; rfl) rfl (by simp)).drew rfl rfl rfl (by rfl) (by rfl) (by rw [outA_length]; simp; omega) (by rw [outA_length]; simp [maxLen]; omega) (by simp; omega) ?_
        intro v9 w9 ho9 hg9
        have hne9 : some B ≠ (Value.slice Av nv cv).ownBlock := fun e => by have := (HO8.out.blk B e.symm).1; omega
        have q1 := (World.cell?_of_block (a := ⟨B, 2 + r0 * 5 + q0, none⟩) (hg9.block B (by simp; omega) hne9)).trans hHeld.1
        have q2 := (World.cell?_of_block (a := ⟨B, 27, none⟩) (hg9.block B (by simp; omega) hne9)).trans hHeld.2
        have hs9 : SQ w B rate L2 at2 true w9 := ((HS8.out.drewN 1).below ((Below.refl _ _).alloc (Nat.le_refl _) _)).grown (HO8.out.drew.alloc _) hg9
        have HS9 := Lib.hid hs9
        have HO9 := Lib.hid ho9
        clear hne9 hs9 ho9 hg9
        refine hK.out _ _ ⟨q1, q2⟩ (fun hHeld => ?_)
        clear hK K
        refine norm_ (a' := ?_) ?_ ?_
        rotate_left
        · show Act.put _ (some 100) _ = _
          simp only [Act.put, List.setIfInBounds_toArray, List.set_cons_zero, List.set_cons_succ, i64_w, i32_w]
          rfl
        refine pure_ (i := 21) (N := some 5) (v := ?_) (a' := ?_) #[true, true, true, true, true, true, true, true, true, true, true, true, true, true, true, true, true, true, true, true, true, true] rfl rfl (by kernel_rfl) (fun _ _ _ h => h) (Or.inl ⟨by rfl, ?_⟩) ?_ ?_
        rotate_left
        · intro w'
          go_simp
          with_reducible rfl
        rotate_left
        · simp only [Act.put, List.setIfInBounds_toArray, List.set_cons_zero, List.set_cons_succ, i64_w, i32_w]
          rfl
        refine done_ (by kernel_rfl) ?_
        have f27e := HS9.out.free 27
        have c27e := HS9.out.cAt
        clear c27 k1
        go_wp2_with fail
        go_roundw
        case rel =>
          have hp1 : preS rate (readS rate (Y, 0) i) = (L2, at2) := by rw [← HSD.out, HP.out]
          have e1 : (readS rate (Y, 0) (i + 1)).1 = L2 := by rw [readS, hp1]
          have e2 : (readS rate (Y, 0) (i + 1)).2 = at2 + 1 := by rw [readS, hp1]
          refine ⟨i + 1, hin, by go_num, ?_, ?_⟩
          · rw [e1, e2]
            have := HS9.out.setAt (at2 + 1)
            rwa [show (((at2 + 1 : Nat)) : Int) = (at2 : Int) + 1 by omega] at this
          · rw [outA_succ, hp1, byteS]
            simp only
            rw [Nat.mul_comm, ← HXV.out, ← HSH.out]
            exact HO9.out.other (p := ⟨B, 27, none⟩) (fun b hb => by have := (HO9.out.blk b hb).1; show b ≠ B; omega) _
        case measure => simp [intOf]; omega
    · obtain rfl : i = n := by omega
      have HS := Lib.hid hs
      have HO := Lib.hid ho
      clear hs ho
      have hnn : nv = i := by rw [HNV.out, outA_length]
      subst hnn
      go_wp2_with fail
      go_ret
      refine ⟨Av, cv, rfl, ?_, HS.out.b⟩
      rw [outK_outA, HFIN.out]
      exact HO.out.mono (by have := HS.out.ge; omega)
end Go.Proofs.YtlmcpnicjdcmdaaDoor
