/- The document's SHA-256 of bytes is the program's. -/
import Derived.Test.YtlmcpnicjdcmdaaDoorRb
import Derived.Test.YtlmcpnicjdcmdaaDoorSg
set_option linter.unusedVariables false
set_option linter.unusedSimpArgs false
namespace Go.Proofs.YtlmcpnicjdcmdaaDoor
open Go Go.RowKit Go.BigFrame PrintLast

theorem grown_row (w : World) (g : Nat) (cs : Array Value) : w.grownBy (w.setRow g cs) (some g) := ⟨rfl, rfl, rfl, by simp, fun i _ hne => setRow_other w g i cs (fun e => hne (by rw [e]))⟩
theorem getD_take (l : List Int) (n j : Nat) (h : j < n) : (l.take n).getD j 0 = l.getD j 0 := by simp [List.getD_eq_getElem?_getD, List.getElem?_take, h]
theorem be32_take (l : List Int) (i : Nat) (h : i < 16) : be32 (l.take 64) i = be32 l i := by
  unfold be32
  rw [getD_take l 64 _ (by omega), getD_take l 64 _ (by omega), getD_take l 64 _ (by omega), getD_take l 64 _ (by omega)]
theorem lay16_take (l : List Int) (i : Nat) (h : i ≤ 16) : lay16 (l.take 64) i = lay16 l i := by
  induction i with
  | zero => rfl
  | succ i ih => rw [lay16, lay16, ih (by omega), be32_take l i (by omega)]
theorem lay64_take (l : List Int) (i : Nat) : lay64 (l.take 64) i = lay64 l i := by
  induction i with
  | zero => exact lay16_take l 16 (Nat.le_refl _)
  | succ i ih => rw [lay64, lay64, ih]
theorem blockF_take (st l : List Int) : blockF st (l.take 64) = blockF st l := by
  unfold blockF wordsOf
  rw [lay64_take]
theorem blockF_eq {st l m : List Int} (h : l.take 64 = m.take 64) : blockF st l = blockF st m := by rw [← blockF_take st l, h, blockF_take]
theorem feedN_add (st l : List Int) (q m : Nat) : feedN (feedN st l q) (l.drop (64 * q)) m = feedN st l (q + m) := by
  induction m with
  | zero => rfl
  | succ m ih =>
    rw [← Nat.add_assoc, feedN, feedN, ih, List.drop_drop]
    rw [show 64 * q + 64 * m = 64 * (q + m) by omega]
theorem feedN_app (st l r : List Int) (q : Nat) (h : 64 * q ≤ l.length) : feedN st (l ++ r) q = feedN st l q := by
  induction q with
  | zero => rfl
  | succ q ih =>
    rw [feedN, feedN, ih (by omega)]
    apply blockF_eq
    rw [List.drop_append_of_le_length (by omega), List.take_append_of_le_length (by rw [List.length_drop]; omega)]
theorem padOf_drop (l : List Int) (m : Int) (q : Nat) (h : 64 * q ≤ l.length) : padOf (l.drop (64 * q)) m = (padOf l m).drop (64 * q) := by
  unfold padOf
  have hz : zerosOf ((l.drop (64 * q)).length + 1) = zerosOf (l.length + 1) := by
    unfold zerosOf
    rw [List.length_drop]
    omega
  rw [hz, List.append_assoc, List.append_assoc, List.append_assoc, List.append_assoc, List.drop_append_of_le_length h]
/-- The sum, all at once. -/
theorem shaF_whole (l : List Int) : shaF l = outOf (feedN H0 (padOf l l.length) ((padOf l l.length).length / 64)) 8 := by
  have hq : 64 * (l.length / 64) ≤ l.length := by omega
  unfold shaF sumF
  rw [padOf_drop l l.length (l.length / 64) hq]
  have e1 : feedN H0 l (l.length / 64) = feedN H0 (padOf l l.length) (l.length / 64) := by
    unfold padOf
    rw [List.append_assoc, List.append_assoc]
    exact (feedN_app H0 l _ _ hq).symm
  rw [e1, feedN_add]
  have hle : l.length ≤ (padOf l l.length).length := by unfold padOf; simp only [List.length_append]; omega
  congr 2
  rw [List.length_drop]
  omega

theorem eight_list {st : List Int} (h : st.length = 8) : ∃ a b c d e f g i, st = [a, b, c, d, e, f, g, i] := by
  match st, h with
  | [a, b, c, d, e, f, g, i], _ => exact ⟨a, b, c, d, e, f, g, i, rfl⟩

set_option maxRecDepth 100000 in
set_option maxHeartbeats 4000000 in
theorem rsum_calls (w : World) (A : Option Addr) (n c : Nat) (l : List Int) (hn : n = l.length) (hR : Rd .u8 w A l) (hle : l.length ≤ 140737488300000) :
    Calls Tryd.prog 34 #[.slice A n c] w (RetB w (shaF l)) := by
  have hn2 : n ≤ 140737488300000 := by omega
  have HN := Lib.hid hn
  have HR := Lib.hid hR
  clear hn hR hle
  go_enter Tryd.func34, Tryd.ntmps34
  go_wp2_with ((with_reducible refine gate_dst (N := 12) rfl ?_); refine stop ?_)
  refine Stop.go ?_
  refine wpList_append_new bytesE w (.tmp 10) (.tmp 11) _ [] A c n l (Own.lit (Nat.le_refl _) rfl rfl (by decide) rfl rfl) ((Below.refl _ _).alloc (Nat.le_refl _) _) (HR.out.alloc _) HN.out rfl rfl rfl rfl (by have := HN.out; simp; omega) (by have := HN.out; simp [maxLen]; omega) ?_
  intro v1 w1 ho1 hb1
  have HO1 := Lib.hid ho1
  have HB1 := Lib.hid hb1
  clear ho1 hb1
  go_wp2_with ((with_reducible refine gate_dst (N := 14) rfl ?_); refine stop ?_)
  refine Stop.go ?_
  refine wpList_append_new bytesE w (.tmp 12) (.tmp 13) _ ([] ++ l) _ _ _ [128] (HO1.out.alloc _) (HB1.out.alloc HB1.out.size _) (Rd.lit rfl rfl (by decide)) rfl rfl rfl rfl rfl (by have := HN.out; simp; omega) (by have := HN.out; simp [maxLen]; omega) ?_
  intro v2 w2 ho2 hb2
  have HO2 := Lib.hid ho2
  have HB2 := Lib.hid hb2
  clear ho2 hb2
  go_wp2_with fail
  go_loopw [3] (fun v wr => ∃ j, j ≤ zerosOf (l.length + 1) ∧ Own .u8 5 wr w.heap.size v (l ++ [128] ++ List.replicate j 0) ∧ Below w.heap.size w wr) (fun v _ => n + 200 - lenV v)
  case atStart => exact ⟨0, Nat.zero_le _, by simpa using HO2.out, HB2.out⟩
  case round =>
    obtain ⟨j, hj, ho, hb⟩ := hrel
    obtain ⟨A1, n1, c1, rfl, hn1, hle1, hm1, ho1⟩ := ho.form2
    have hnl := HN.out
    have hn12 : n1 = n + 1 + j := by rw [hn1]; simp; omega
    have HO3 := Lib.hid ho1
    have HB3 := Lib.hid hb
    have HN1 := Lib.hid hn1
    have HN12 := Lib.hid hn12
    have hz : zerosOf (l.length + 1) < 64 := Nat.mod_lt _ (by decide)
    have hn1b : n1 ≤ 140737488300100 := by omega
    clear ho ho1 hb hn1 hn12 hnl
    by_cases h56 : n1 % 64 = 56
    · go_wp2_with fail
      have hjz : j = zerosOf (l.length + 1) := by
        have := HN12.out
        have := HN.out
        have : zerosOf (l.length + 1) = (120 - (l.length + 1) % 64) % 64 := rfl
        omega
      subst hjz
      clear h56
      generalize ((n1 : Int) % 64 != 56) = q24
      go_loopw [3, 5] (fun v s wr => ∃ i, i ≤ 8 ∧ s = .int .i64 (56 - 8 * (i : Nat)) ∧ Own .u8 5 wr w.heap.size v (l ++ [128] ++ List.replicate (zerosOf (l.length + 1)) 0 ++ lens ((n : Int) * 8) i) ∧ Below w.heap.size w wr) (fun _ s _ => (intOf s + 8).toNat)
      case atStart => exact ⟨0, by decide, by go_num, by simpa [lens] using HO3.out, HB3.out⟩
      case round =>
        obtain ⟨i, hi, rfl, ho, hb⟩ := hrel
        obtain ⟨A7, n7, c7, rfl, hn7, hle7, hm7, ho7⟩ := ho.form2
        have hn72 : n7 = n1 + i := by rw [hn7, HN1.out]; simp [lens]; omega
        have hn7b : n7 ≤ 140737488300200 := by omega
        have HO7 := Lib.hid ho7
        have HB7 := Lib.hid hb
        have HN7 := Lib.hid hn7
        have HN72 := Lib.hid hn72
        clear ho ho7 hb hn7 hn72
        by_cases hi8 : i < 8
        · go_wp2_with ((with_reducible refine gate_dst (N := 36) rfl ?_); refine stop ?_)
          refine Stop.go ?_
          refine wpList_append_new bytesE w (.tmp 30) (.tmp 35) _ _ _ _ _ [be8 ((n : Int) * 8) i] (HO7.out.alloc _) (HB7.out.alloc HB7.out.size _) (Rd.lit rfl rfl (by simp)) rfl rfl rfl rfl rfl (by rw [← HN7.out]; simp; omega) (by rw [← HN7.out]; simp [maxLen]; omega) ?_
          intro v8 w8 ho8 hb8
          have HO8 := Lib.hid ho8
          have HB8 := Lib.hid hb8
          clear ho8 hb8
          go_wp2_with fail
          go_roundw
          case rel =>
            refine ⟨i + 1, by omega, ?_, ?_, HB8.out⟩
            · congr 1
              omega
            · have := HO8.out
              rw [List.append_assoc] at this
              rw [lens, List.range_succ, List.map_append]
              exact this
          case measure =>
            simp only [intOf]
            omega
        · obtain rfl : i = 8 := by omega
          go_wp2_with fail
          rw [show (56 - 8 * ((8 : Nat) : Int)) = -8 from rfl]
          obtain ⟨pad, hpad⟩ : ∃ pad, pad = padOf l l.length := ⟨_, rfl⟩
          have hpe : l ++ [128] ++ List.replicate (zerosOf (l.length + 1)) 0 ++ lens ((n : Int) * 8) 8 = pad := by
            rw [hpad]
            unfold padOf
            rw [← HN.out, show ((n : Int) * 8 % 18446744073709551616) = n * 8 by omega]
          have ho7 := HO7.out
          have hn7 := HN7.out
          rw [hpe] at ho7 hn7
          have hp64 : n7 % 64 = 0 := by
            have := HN72.out
            have := HN12.out
            have := HN.out
            have : zerosOf (l.length + 1) = (120 - (l.length + 1) % 64) % 64 := rfl
            omega
          have HPAD := Lib.hid hpad
          have HOP := Lib.hid ho7
          have HPL := Lib.hid hn7
          clear hpad hpe ho7 hn7 HO7 HN7
          obtain ⟨S, hS⟩ : ∃ S, S = wr.heap.size := ⟨_, rfl⟩
          rw [← hS]
          refine with_world (fun w9 => Arr w9 S 62 .u32 H0 ∧ Own .u8 5 w9 w.heap.size (.slice A7 n7 c7) pad ∧ Below w.heap.size w w9 ∧ (∀ b off, A7 = some ⟨b, off, none⟩ → b ≠ S) ∧ w.heap.size ≤ S) ?_ ?_
          · subst hS
            refine ⟨?_, ?_, ?_, ?_, HB7.out.size⟩
            · exact Arr.lit rfl rfl
            · exact HOP.out.alloc _
            · exact HB7.out.alloc HB7.out.size _
            · intro b off h
              have := (HOP.out.blk b (by rw [h]; rfl)).2
              omega
          rintro w9 ⟨hA9, hO9, hB9, hne9, hge9⟩
          have HA9 := Lib.hid hA9
          have HO9 := Lib.hid hO9
          have HB9 := Lib.hid hB9
          have HNE := Lib.hid hne9
          clear hA9 hO9 hB9 hne9 hS
          go_loopw [7] (fun s wr => ∃ k : Nat, 64 * k ≤ n7 ∧ s = .int .i64 (64 * (k : Int)) ∧ Arr wr S 62 .u32 (feedN H0 pad k) ∧ Own .u8 5 wr w.heap.size (.slice A7 n7 c7) pad ∧ Below w.heap.size w wr) (fun s _ => (n7 : Nat) - (intOf s).toNat)
          case atStart => exact ⟨0, by omega, by simp, HA9.out, HO9.out, HB9.out⟩
          case round =>
            clear HA9 HO9 HB9
            obtain ⟨k, hk, rfl, ha, ho, hb⟩ := hrel
            by_cases hlt : 64 * k < n7
            · have h64 : 64 * k + 64 ≤ n7 := by omega
              obtain ⟨g, eg, hg, _⟩ := ho.addr (by have := HPL.out; omega)
              subst eg
              have hrd := ho.rd.drop (64 * k)
              have hrd2 := hrd.take 64
              have hlen : ((pad.drop (64 * k)).take 64).length = 64 := by rw [List.length_take, List.length_drop]; have := HPL.out; omega
              have hcap := ho.le
              have hcb : 64 * k + 64 ≤ c7 := by have := HPL.out; omega
              have hgS : g ≠ S := HNE.out g 0 rfl
              have hSlt := ha.lt
              obtain ⟨x0, x1, x2, x3, x4, x5, x6, x7, hx⟩ := eight_list (by rw [feedN_length]; rfl : (feedN H0 pad k).length = 8)
              rw [hx] at ha
              have d0 : wr.cell? ⟨S, 0, none⟩ = some (.int .u32 x0) := ha.cell 0 (by show 0 < 8; decide)
              have d1 : wr.cell? ⟨S, 1, none⟩ = some (.int .u32 x1) := ha.cell 1 (by show 1 < 8; decide)
              have d2 : wr.cell? ⟨S, 2, none⟩ = some (.int .u32 x2) := ha.cell 2 (by show 2 < 8; decide)
              have d3 : wr.cell? ⟨S, 3, none⟩ = some (.int .u32 x3) := ha.cell 3 (by show 3 < 8; decide)
              have d4 : wr.cell? ⟨S, 4, none⟩ = some (.int .u32 x4) := ha.cell 4 (by show 4 < 8; decide)
              have d5 : wr.cell? ⟨S, 5, none⟩ = some (.int .u32 x5) := ha.cell 5 (by show 5 < 8; decide)
              have d6 : wr.cell? ⟨S, 6, none⟩ = some (.int .u32 x6) := ha.cell 6 (by show 6 < 8; decide)
              have d7 : wr.cell? ⟨S, 7, none⟩ = some (.int .u32 x7) := ha.cell 7 (by show 7 < 8; decide)
              have HX := Lib.hid hx
              have HA := Lib.hid ha
              have HO := Lib.hid ho
              have HB := Lib.hid hb
              have HRD := Lib.hid hrd2
              have HLEN := Lib.hid hlen
              have HGS := Lib.hid hgS
              clear hx ha ho hb hrd hrd2 hlen hgS hcap
              go_wp2_with fail
              refine wp_region_quiet_tail 6 (by kernel_rfl) (by kernel_rfl) ?_
              simp only [List.take_succ_cons, List.take_zero, List.drop_succ_cons, List.drop_zero]
              repeat (go_big_quiet_step (fail))
              refine wpQuiet_nil ?_
              intro _ hw'
              obtain ⟨nq, hw''⟩ := hw'
              subst hw''
              go_wp2_with (go_at_call 46; refine stop ?_)
              clear d0 d1 d2 d3 d4 d5 d6 d7
              refine Stop.call (rblock_calls (wr.drewN nq) [x0, x1, x2, x3, x4, x5, x6, x7] rfl g (64 * k) 64 (c7 - 64 * k) ((pad.drop (64 * k)).take 64) HLEN.out.symm (by rw [HLEN.out]; omega) (by rw [HLEN.out]; omega) (by have := HRD.out.drewN nq; rwa [Nat.zero_add] at this)) ?_
              rintro e w5 ⟨rfl, hb5⟩
              have HB5 := Lib.hid hb5
              clear hb5
              go_wp2_with ((with_reducible refine gate_none rfl ?_); refine stop ?_)
              refine Stop.go ?_
              refine wpList_store_row rfl 62 (.tmp 6) (.tmp 50) rfl _ (ints .u32 (blockF [x0, x1, x2, x3, x4, x5, x6, x7] ((pad.drop (64 * k)).take 64))).toArray rfl rfl 62 _ ((HA.out.drewN nq).below HB5.out (by simpa using hSlt)).block (by rw [List.size_toArray, ints_length, blockF_length]; kernel_rfl) (by rw [List.size_toArray, List.size_toArray, ints_length, ints_length, blockF_length]) (ints_all _ _) ?_
              go_wp2_with fail
              go_roundw
              case rel =>
                have hA2 := ((HA.out.drewN nq).below HB5.out (by simpa using hSlt)).row (blockF [x0, x1, x2, x3, x4, x5, x6, x7] ((pad.drop (64 * k)).take 64))
                have hO2 := (HO.out.drewN nq).below HB5.out
                refine ⟨k + 1, by omega, ?_, hA2.cast ?_, ?_, ?_⟩
                · congr 1
                · rw [feedN, HX.out, blockF_take]
                · exact hO2.kept (grown_row _ S _) (.inr (by intro e; injection e with e; exact HGS.out e))
                · have hq : Below wr.heap.size wr w5 := below_of_drewN HB5.out
                  exact below_row (HB.out.trans (hq.mono HB.out.size)) S hge9 _
              case measure => simp only [intOf]; omega
            · have hk' : k = n7 / 64 := by omega
              have hr : feedN H0 pad k = feedN H0 (padOf l l.length) ((padOf l l.length).length / 64) := by rw [← HPAD.out, ← HPL.out, hk']
              obtain ⟨x, hx⟩ : ∃ x, x = feedN H0 pad k := ⟨_, rfl⟩
              rw [← hx] at ha hr
              have hx8 : x.length = 8 := by rw [hx, feedN_length]; rfl
              have HX := Lib.hid hr
              have HX8 := Lib.hid hx8
              have HA := Lib.hid ha
              have HB := Lib.hid hb
              clear hx ha hb ho hr hx8 hk'
              go_wp2_with fail
              clear hlt
              generalize (decide (64 * (k : Int) < n7)) = q41
              obtain ⟨W0, hW0⟩ : ∃ W0, W0 = wr := ⟨_, rfl⟩
              subst hW0
              go_loopw [8, 9] (fun v s w2 => ∃ i, i ≤ 8 ∧ s = .int .i64 (i : Nat) ∧ Own .u8 5 w2 W0.heap.size v (outOf x i) ∧ Below W0.heap.size W0 w2) (fun _ s _ => 8 - (intOf s).toNat)
              case atStart => exact ⟨0, by decide, rfl, Own.nil _ _ _ _, Below.refl _ _⟩
              case round =>
                obtain ⟨i, hi, rfl, ho, hb⟩ := hrel
                by_cases hi8 : i < 8
                · have c0 := (HA.out.below hb HA.out.lt).cell i (by rw [HX8.out]; exact hi8)
                  obtain ⟨xi, hxi⟩ : ∃ xi, xi = x.getD i 0 := ⟨_, rfl⟩
                  rw [← hxi] at c0
                  have c00 : W0.cell? ⟨S, i, none⟩ = some (.int .u32 xi) := by rw [hxi]; exact HA.out.cell i (by rw [HX8.out]; exact hi8)
                  have C00 := Lib.hid c00
                  clear c00
                  have HXI := Lib.hid hxi
                  have HO := Lib.hid ho
                  have HBB := Lib.hid hb
                  clear ho hb hxi
                  go_wp2_with fail
                  refine start_ (n := 23) (S := fun w' => w'.cell? ⟨S, i, none⟩ = some (.int .u32 xi)) (ds := []) #[false, false, false, false, false, false, false, false, false, false, false, false, false, false, false, false, false, false, false, false, false, false, false] (by kernel_rfl) rfl rfl (c0) (fun hHeld => ?_)
                  refine pure_ (i := 0) (N := some 55) (v := ?_) (a' := ?_) #[true, false, false, false, false, false, false, false, false, false, false, false, false, false, false, false, false, false, false, false, false, false, false] rfl rfl (by kernel_rfl) (fun _ _ _ h => h) (Or.inl ⟨by rfl, ?_⟩) ?_ ?_
                  rotate_left
                  · intro w'
                    go_simp
                    with_reducible rfl
                  rotate_left
                  · simp only [Act.put, List.setIfInBounds_toArray, List.set_cons_zero, List.set_cons_succ, i64_w, i32_w]
                    rfl
                  refine pure_ (i := 1) (N := some 56) (v := ?_) (a' := ?_) #[true, true, false, false, false, false, false, false, false, false, false, false, false, false, false, false, false, false, false, false, false, false, false] rfl rfl (by kernel_rfl) (fun _ _ _ h => h) (Or.inl ⟨by rfl, ?_⟩) ?_ ?_
                  rotate_left
                  · intro w'
                    go_simp
                    with_reducible rfl
                  rotate_left
                  · simp only [Act.put, List.setIfInBounds_toArray, List.set_cons_zero, List.set_cons_succ, i64_w, i32_w]
                    rfl
                  refine pure_ (i := 2) (N := some 57) (v := ?_) (a' := ?_) #[true, true, true, false, false, false, false, false, false, false, false, false, false, false, false, false, false, false, false, false, false, false, false] rfl rfl (by kernel_rfl) (fun _ _ _ h => h) (Or.inl ⟨by rfl, ?_⟩) ?_ ?_
                  rotate_left
                  · intro w'
                    go_simp
                    with_reducible rfl
                  rotate_left
                  · simp only [Act.put, List.setIfInBounds_toArray, List.set_cons_zero, List.set_cons_succ, i64_w, i32_w]
                    rfl
                  refine pure_ (i := 6) (N := some 61) (v := ?_) (a' := ?_) #[true, true, true, false, false, false, true, false, false, false, false, false, false, false, false, false, false, false, false, false, false, false, false] rfl rfl (by kernel_rfl) (fun _ _ _ h => h) (Or.inl ⟨by rfl, ?_⟩) ?_ ?_
                  rotate_left
                  · intro w'
                    go_simp
                    with_reducible rfl
                  rotate_left
                  · simp only [Act.put, List.setIfInBounds_toArray, List.set_cons_zero, List.set_cons_succ, i64_w, i32_w]
                    rfl
                  refine pure_ (i := 7) (N := some 62) (v := ?_) (a' := ?_) #[true, true, true, false, false, false, true, true, false, false, false, false, false, false, false, false, false, false, false, false, false, false, false] rfl rfl (by kernel_rfl) (fun _ _ _ h => h) (Or.inl ⟨by rfl, ?_⟩) ?_ ?_
                  rotate_left
                  · intro w'
                    go_simp
                    with_reducible rfl
                  rotate_left
                  · simp only [Act.put, List.setIfInBounds_toArray, List.set_cons_zero, List.set_cons_succ, i64_w, i32_w]
                    rfl
                  refine pure_ (i := 11) (N := some 66) (v := ?_) (a' := ?_) #[true, true, true, false, false, false, true, true, false, false, false, true, false, false, false, false, false, false, false, false, false, false, false] rfl rfl (by kernel_rfl) (fun _ _ _ h => h) (Or.inl ⟨by rfl, ?_⟩) ?_ ?_
                  rotate_left
                  · intro w'
                    go_simp
                    with_reducible rfl
                  rotate_left
                  · simp only [Act.put, List.setIfInBounds_toArray, List.set_cons_zero, List.set_cons_succ, i64_w, i32_w]
                    rfl
                  refine pure_ (i := 12) (N := some 67) (v := ?_) (a' := ?_) #[true, true, true, false, false, false, true, true, false, false, false, true, true, false, false, false, false, false, false, false, false, false, false] rfl rfl (by kernel_rfl) (fun _ _ _ h => h) (Or.inl ⟨by rfl, ?_⟩) ?_ ?_
                  rotate_left
                  · intro w'
                    go_simp
                    with_reducible rfl
                  rotate_left
                  · simp only [Act.put, List.setIfInBounds_toArray, List.set_cons_zero, List.set_cons_succ, i64_w, i32_w]
                    rfl
                  refine pure_ (i := 16) (N := some 71) (v := ?_) (a' := ?_) #[true, true, true, false, false, false, true, true, false, false, false, true, true, false, false, false, true, false, false, false, false, false, false] rfl rfl (by kernel_rfl) (fun _ _ _ h => h) (Or.inl ⟨by rfl, ?_⟩) ?_ ?_
                  rotate_left
                  · intro w'
                    go_simp
                    with_reducible rfl
                  rotate_left
                  · simp only [Act.put, List.setIfInBounds_toArray, List.set_cons_zero, List.set_cons_succ, i64_w, i32_w]
                    rfl
                  refine pure_ (i := 17) (N := some 72) (v := ?_) (a' := ?_) #[true, true, true, false, false, false, true, true, false, false, false, true, true, false, false, false, true, true, false, false, false, false, false] rfl rfl (by kernel_rfl) (fun _ _ _ h => h) (Or.inl ⟨by rfl, ?_⟩) ?_ ?_
                  rotate_left
                  · intro w'
                    go_simp
                    with_reducible rfl
                  rotate_left
                  · simp only [Act.put, List.setIfInBounds_toArray, List.set_cons_zero, List.set_cons_succ, i64_w, i32_w]
                    rfl
                  refine take_ (i := 3) (N := some 58) (v := ?_) (a' := ?_) #[true, true, true, true, false, false, true, true, false, false, false, true, true, false, false, false, true, true, false, false, false, false, false] rfl rfl (by kernel_rfl) (fun _ _ _ h => h) (Or.inl ⟨by rfl, ?_⟩) hHeld ?_ ?_
                  rotate_left
                  · intro w' s0
                    go_simp
                    with_reducible rfl
                  rotate_left
                  · simp only [Act.put, List.setIfInBounds_toArray, List.set_cons_zero, List.set_cons_succ, i64_w, i32_w]
                    rfl
                  refine pure_ (i := 4) (N := some 59) (v := ?_) (a' := ?_) #[true, true, true, true, true, false, true, true, false, false, false, true, true, false, false, false, true, true, false, false, false, false, false] rfl rfl (by kernel_rfl) (fun _ _ _ h => h) (Or.inl ⟨by rfl, ?_⟩) ?_ ?_
                  rotate_left
                  · intro w'
                    go_simp
                    with_reducible rfl
                  rotate_left
                  · simp only [Act.put, List.setIfInBounds_toArray, List.set_cons_zero, List.set_cons_succ, i64_w, i32_w]
                    rfl
                  refine pure_ (i := 5) (N := some 60) (v := ?_) (a' := ?_) #[true, true, true, true, true, true, true, true, false, false, false, true, true, false, false, false, true, true, false, false, false, false, false] rfl rfl (by kernel_rfl) (fun _ _ _ h => h) (Or.inl ⟨by rfl, ?_⟩) ?_ ?_
                  rotate_left
                  · intro w'
                    go_simp
                    with_reducible rfl
                  rotate_left
                  · simp only [Act.put, List.setIfInBounds_toArray, List.set_cons_zero, List.set_cons_succ, i64_w, i32_w]
                    rfl
                  refine take_ (i := 8) (N := some 63) (v := ?_) (a' := ?_) #[true, true, true, true, true, true, true, true, true, false, false, true, true, false, false, false, true, true, false, false, false, false, false] rfl rfl (by kernel_rfl) (fun _ _ _ h => h) (Or.inl ⟨by rfl, ?_⟩) hHeld ?_ ?_
                  rotate_left
                  · intro w' s0
                    go_simp
                    with_reducible rfl
                  rotate_left
                  · simp only [Act.put, List.setIfInBounds_toArray, List.set_cons_zero, List.set_cons_succ, i64_w, i32_w]
                    rfl
                  refine pure_ (i := 9) (N := some 64) (v := ?_) (a' := ?_) #[true, true, true, true, true, true, true, true, true, true, false, true, true, false, false, false, true, true, false, false, false, false, false] rfl rfl (by kernel_rfl) (fun _ _ _ h => h) (Or.inl ⟨by rfl, ?_⟩) ?_ ?_
                  rotate_left
                  · intro w'
                    go_simp
                    with_reducible rfl
                  rotate_left
                  · simp only [Act.put, List.setIfInBounds_toArray, List.set_cons_zero, List.set_cons_succ, i64_w, i32_w]
                    rfl
                  refine pure_ (i := 10) (N := some 65) (v := ?_) (a' := ?_) #[true, true, true, true, true, true, true, true, true, true, true, true, true, false, false, false, true, true, false, false, false, false, false] rfl rfl (by kernel_rfl) (fun _ _ _ h => h) (Or.inl ⟨by rfl, ?_⟩) ?_ ?_
                  rotate_left
                  · intro w'
                    go_simp
                    with_reducible rfl
                  rotate_left
                  · simp only [Act.put, List.setIfInBounds_toArray, List.set_cons_zero, List.set_cons_succ, i64_w, i32_w]
                    rfl
                  refine take_ (i := 13) (N := some 68) (v := ?_) (a' := ?_) #[true, true, true, true, true, true, true, true, true, true, true, true, true, true, false, false, true, true, false, false, false, false, false] rfl rfl (by kernel_rfl) (fun _ _ _ h => h) (Or.inl ⟨by rfl, ?_⟩) hHeld ?_ ?_
                  rotate_left
                  · intro w' s0
                    go_simp
                    with_reducible rfl
                  rotate_left
                  · simp only [Act.put, List.setIfInBounds_toArray, List.set_cons_zero, List.set_cons_succ, i64_w, i32_w]
                    rfl
                  refine pure_ (i := 14) (N := some 69) (v := ?_) (a' := ?_) #[true, true, true, true, true, true, true, true, true, true, true, true, true, true, true, false, true, true, false, false, false, false, false] rfl rfl (by kernel_rfl) (fun _ _ _ h => h) (Or.inl ⟨by rfl, ?_⟩) ?_ ?_
                  rotate_left
                  · intro w'
                    go_simp
                    with_reducible rfl
                  rotate_left
                  · simp only [Act.put, List.setIfInBounds_toArray, List.set_cons_zero, List.set_cons_succ, i64_w, i32_w]
                    rfl
                  refine pure_ (i := 15) (N := some 70) (v := ?_) (a' := ?_) #[true, true, true, true, true, true, true, true, true, true, true, true, true, true, true, true, true, true, false, false, false, false, false] rfl rfl (by kernel_rfl) (fun _ _ _ h => h) (Or.inl ⟨by rfl, ?_⟩) ?_ ?_
                  rotate_left
                  · intro w'
                    go_simp
                    with_reducible rfl
                  rotate_left
                  · simp only [Act.put, List.setIfInBounds_toArray, List.set_cons_zero, List.set_cons_succ, i64_w, i32_w]
                    rfl
                  refine take_ (i := 18) (N := some 73) (v := ?_) (a' := ?_) #[true, true, true, true, true, true, true, true, true, true, true, true, true, true, true, true, true, true, true, false, false, false, false] rfl rfl (by kernel_rfl) (fun _ _ _ h => h) (Or.inl ⟨by rfl, ?_⟩) hHeld ?_ ?_
                  rotate_left
                  · intro w' s0
                    go_simp
                    with_reducible rfl
                  rotate_left
                  · simp only [Act.put, List.setIfInBounds_toArray, List.set_cons_zero, List.set_cons_succ, i64_w, i32_w]
                    rfl
                  refine pure_ (i := 19) (N := some 74) (v := ?_) (a' := ?_) #[true, true, true, true, true, true, true, true, true, true, true, true, true, true, true, true, true, true, true, true, false, false, false] rfl rfl (by kernel_rfl) (fun _ _ _ h => h) (Or.inl ⟨by rfl, ?_⟩) ?_ ?_
                  rotate_left
                  · intro w'
                    go_simp
                    with_reducible rfl
                  rotate_left
                  · simp only [Act.put, List.setIfInBounds_toArray, List.set_cons_zero, List.set_cons_succ, i64_w, i32_w]
                    rfl
                  refine one_ (i := 20) (N := some 75) #[true, true, true, true, true, true, true, true, true, true, true, true, true, true, true, true, true, true, true, true, true, false, false] rfl rfl (by kernel_rfl) (by decide) (fun K hK => ?_)
                  refine value_ (w1 := ?_) (v := ?_) (by rfl) rfl ?_ ?_
                  rotate_left 2
                  · go_simp
                    constructor
                    · rfl
                    · rfl
                  refine hK.out _ _ (cell_below ((Below.refl _ _).alloc (Nat.le_refl _) _) (cell_lt hHeld) hHeld) (fun hHeld => ?_)
                  clear hK K
                  refine norm_ (a' := ?_) ?_ ?_
                  rotate_left
                  · show Act.put _ (some 75) _ = _
                    simp only [Act.put, List.setIfInBounds_toArray, List.set_cons_zero, List.set_cons_succ, i64_w, i32_w]
                    rfl
                  refine one_ (i := 21) (N := some 76) #[true, true, true, true, true, true, true, true, true, true, true, true, true, true, true, true, true, true, true, true, true, true, false] rfl rfl (by kernel_rfl) (by decide) (fun K hK => ?_)
                  refine step_append_new bytesE W0 (.tmp 55) (.tmp 75) _ (outOf x i) _ _ _ [xi / 16777216 % 256, xi / 65536 % 256, xi / 256 % 256, xi % 256] (HO.out.drew.alloc _) ((below_drew HBB.out).alloc (by simpa using HBB.out.size) _) (Rd.lit (k := .u8) (T := 5) (w := wr) (l := [xi / 16777216 % 256, xi / 65536 % 256, xi / 256 % 256, xi % 256]) (by simp only [IntKind.wrap_u8]; rfl) rfl (by simp)).drew rfl rfl rfl (by rfl) (by rfl) (by rw [outOf_length]; simp; omega) (by rw [outOf_length]; simp [maxLen]; omega) ?_
                  intro v8 w8 ho8 hb8 _
                  have HO8 := Lib.hid ho8
                  have HB8 := Lib.hid hb8
                  have q1 := cell_below hb8 HA.out.lt (C00.out)
                  clear ho8 hb8
                  refine hK.out _ _ (q1) (fun hHeld => ?_)
                  clear hK K
                  refine norm_ (a' := ?_) ?_ ?_
                  rotate_left
                  · show Act.put _ (some 76) _ = _
                    simp only [Act.put, List.setIfInBounds_toArray, List.set_cons_zero, List.set_cons_succ, i64_w, i32_w]
                    rfl
                  refine pure_ (i := 22) (N := some 8) (v := ?_) (a' := ?_) #[true, true, true, true, true, true, true, true, true, true, true, true, true, true, true, true, true, true, true, true, true, true, true] rfl rfl (by kernel_rfl) (fun _ _ _ h => h) (Or.inl ⟨by rfl, ?_⟩) ?_ ?_
                  rotate_left
                  · intro w'
                    go_simp
                    with_reducible rfl
                  rotate_left
                  · simp only [Act.put, List.setIfInBounds_toArray, List.set_cons_zero, List.set_cons_succ, i64_w, i32_w]
                    rfl
                  refine done_ (by kernel_rfl) ?_
                  go_wp2_with fail
                  go_roundw
                  case rel =>
                    refine ⟨i + 1, by omega, by go_num, ?_, HB8.out⟩
                    rw [outOf_succ, ← HXI.out]
                    exact HO8.out
                  case measure => simp [intOf]; omega
                · obtain rfl : i = 8 := by omega
                  obtain ⟨A1, n1, c1, rfl, hn1, _, _, ho1⟩ := ho.form2
                  have HO := Lib.hid ho1
                  have HN1 := Lib.hid hn1
                  have HBB := Lib.hid hb
                  clear ho hb ho1 hn1
                  go_wp2_with fail
                  go_ret
                  have hsum : outOf x 8 = shaF l := by rw [shaF_whole, HX.out]
                  rw [← hsum]
                  exact RetB.mk2 HN1.out (HO.out.mono HB.out.size) (HB.out.trans (HBB.out.mono HB.out.size))
    · go_wp2_with ((with_reducible refine gate_dst (N := 21) rfl ?_); refine stop ?_)
      refine Stop.go ?_
      refine wpList_append_new bytesE w (.tmp 19) (.tmp 20) _ _ _ _ _ [0] (HO3.out.alloc _) (HB3.out.alloc HB3.out.size _) (Rd.lit rfl rfl (by decide)) rfl rfl rfl rfl rfl (by rw [← HN1.out]; simp; omega) (by rw [← HN1.out]; simp [maxLen]; omega) ?_
      intro v4 w4 ho4 hb4
      have HO4 := Lib.hid ho4
      have HB4 := Lib.hid hb4
      clear ho4 hb4
      go_wp2_with fail
      go_roundw
      case rel =>
        refine ⟨j + 1, ?_, ?_, HB4.out⟩
        · have := HN12.out
          have := HN.out
          have : zerosOf (l.length + 1) = (120 - (l.length + 1) % 64) % 64 := rfl
          omega
        · have := HO4.out
          rw [List.replicate_succ', ← List.append_assoc]
          exact this
      case measure =>
        obtain ⟨A5, n5, c5, rfl, hn5, _⟩ := HO4.out.form2
        have h5 : n5 = n1 + 1 := by rw [hn5, HN1.out]; simp; omega
        have := HN12.out
        have := HN.out
        simp only [lenV, h5]
        omega
end Go.Proofs.YtlmcpnicjdcmdaaDoor
