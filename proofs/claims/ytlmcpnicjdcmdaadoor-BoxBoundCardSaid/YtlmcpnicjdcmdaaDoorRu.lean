/- The document's sponge: the constants of its rounds. -/
import Derived.Test.YtlmcpnicjdcmdaaDoorKb
import Derived.Test.YtlmcpnicjdcmdaaDoorLd
set_option linter.unusedVariables false
set_option linter.unusedSimpArgs false
namespace Go.Proofs.YtlmcpnicjdcmdaaDoor
open Go Go.RowKit Go.BigFrame

set_option maxRecDepth 100000 in
theorem rturn64_calls (x : Int) (s : Nat) (w : World) (hs : s < 64) :
    Calls Tryd.prog 65 #[.int .u64 x, .int .i64 s] w (RetQ w (.int .u64 (rotl64 x s))) := by
  go_enter Tryd.func65, Tryd.ntmps65
  go_wp2_with fail
  go_quiet (fail)
  go_wp2_with fail
  go_ret
  exact ⟨rfl, nq, rfl⟩

/-- The table of the turns, as it is filled: where, and the rows. -/
def tN : Nat → Nat × Nat × List Int
  | 0 => (1, 0, List.replicate 25 0)
  | i + 1 => ((tN i).2.1, (2 * (tN i).1 + 3 * (tN i).2.1) % 5, (tN i).2.2.set ((tN i).1 * 5 + (tN i).2.1) ((((i + 1) * (i + 2) : Nat) : Int) / 2 % 64))
theorem tN_lt (i : Nat) : (tN i).1 < 5 ∧ (tN i).2.1 < 5 ∧ (tN i).2.2.length = 25 := by
  induction i with
  | zero => exact ⟨by decide, by decide, by decide⟩
  | succ i ih => exact ⟨ih.2.1, Nat.mod_lt _ (by decide), by rw [tN]; simp [ih.2.2]⟩
def TT : List Int := [0, 36, 3, 41, 18, 1, 44, 10, 45, 2, 62, 6, 43, 15, 61, 28, 55, 25, 21, 56, 27, 20, 39, 8, 14]
theorem tN_24 : (tN 24).2.2 = TT := by decide +kernel
theorem info_t55 : (Tryd.prog.info? 89).map (·.size) = some 25 := by kernel_rfl
theorem info_w55 : (Tryd.prog.info? 84).map (·.size) = some 25 := by kernel_rfl

set_option maxRecDepth 100000 in
set_option maxHeartbeats 1000000 in
theorem rturns_calls (w : World) : Calls Tryd.prog 63 #[] w fun e w' => e = .returned (.agg (ints .i64 TT).toArray) ∧ Below w.heap.size w w' := by
  go_enter Tryd.func63, Tryd.ntmps63
  go_wp2_with fail
  go_loopw [2, 3, 4, 5] (fun x y s _ wr => ∃ i : Nat, i ≤ 24 ∧ s = .int .i64 (i : Nat) ∧ x = .int .i64 ((tN i).1 : Nat) ∧ y = .int .i64 ((tN i).2.1 : Nat) ∧ Below w.heap.size w wr ∧ Arr wr w.heap.size 89 .i64 (List.replicate 25 0) ∧ Arr wr (w.heap.size + 1) 89 .i64 (tN i).2.2) (fun _ _ s _ _ => 24 - (intOf s).toNat)
  case atStart => exact ⟨0, by decide, rfl, rfl, rfl, ((Below.refl _ _).alloc (Nat.le_refl _) _).alloc (by simp) _, (Arr.lit (k := .i64) (l := List.replicate 25 0) rfl rfl).alloc _, Arr.lit rfl (by simp)⟩
  case round =>
    obtain ⟨i, hi, rfl, rfl, rfl, hb, h0, h1⟩ := hrel
    by_cases h24 : i < 24
    · obtain ⟨hx, hy, hl⟩ := tN_lt i
      obtain ⟨x, hxe⟩ : ∃ x, x = (tN i).1 := ⟨_, rfl⟩
      obtain ⟨y, hye⟩ : ∃ y, y = (tN i).2.1 := ⟨_, rfl⟩
      rw [← hxe] at hx
      rw [← hye] at hy
      rw [← hxe, ← hye]
      have c0 := h1.cell (x * 5 + y) (by rw [hl]; omega)
      have f0 := h1.free (x * 5 + y)
      have HX := Lib.hid hxe
      have HY := Lib.hid hye
      have HB := Lib.hid hb
      have H0 := Lib.hid h0
      have H1 := Lib.hid h1
      obtain ⟨p, hp⟩ : ∃ p, p = (i + 1) * (i + 2) := ⟨_, rfl⟩
      have hp2 : p ≤ 600 := by rw [hp]; exact Nat.mul_le_mul (by omega : i + 1 ≤ 24) (by omega : i + 2 ≤ 25)
      have hw : wrap64 (((i : Int) + 1) * ((i : Int) + 2)) = (p : Int) := by
        have e : ((i : Int) + 1) * ((i : Int) + 2) = (p : Int) := by rw [hp]; push_cast; rfl
        rw [e]
        unfold wrap64
        omega
      have HP := Lib.hid hp
      clear hxe hye hb h0 h1 hl hp
      go_wp2_with fail
      go_roundw
      case rel =>
        refine ⟨i + 1, by omega, by go_num, ?_, ?_, below_set HB.out _ (by simp) _, H0.out.other (by simp) _, ?_⟩
        · rw [tN, ← HY.out]
        · rw [tN, ← HX.out, ← HY.out]; push_cast; rfl
        · rw [tN, ← HX.out, ← HY.out, ← HP.out]
          exact H1.out.set (x * 5 + y) _
      case measure => simp [intOf]; omega
    · obtain rfl : i = 24 := by omega
      rw [tN_24] at h1
      have HB := Lib.hid hb
      have H0 := Lib.hid h0
      have H1 := Lib.hid h1
      clear hb h0 h1
      go_wp2_with (first
        | ((with_reducible refine gate_dst (N := 29) rfl ?_); refine wpList_load_row rfl 89 (.tmp 1) rfl _ rfl 89 (ints .i64 TT).toArray (0, 0) _ H1.out.block Tryd.underlying89 rfl info_t55 ?_)
        | ((with_reducible refine gate_none rfl ?_); refine wpList_store_row rfl 89 (.tmp 0) (.tmp 29) rfl _ (ints .i64 TT).toArray rfl rfl 89 _ H0.out.block info_t55 rfl (ints_all _ _) ?_))
      exact bodyPost_ret (results_cell_row Tryd.results63 _ _ _ 89 (ints .i64 TT).toArray (0, 0) _ rfl (H0.out.row _).block Tryd.underlying89 rfl info_t55) rfl ⟨rfl, below_row HB.out _ (Nat.le_refl _) _⟩

/-- The constants, as they are filled. -/
def stepC (i j : Nat) (s : Int × List Int) : Int × List Int :=
  (if 256 ≤ s.1 * 2 then bits .xor .i64 (s.1 * 2) 369 else s.1 * 2, if s.1 % 2 = 1 then s.2.set i (bits .or .u64 (s.2.getD i 0) (2 ^ (2 ^ j - 1))) else s.2)
def cJ (s : Int × List Int) (i : Nat) : Nat → Int × List Int
  | 0 => s
  | j + 1 => stepC i j (cJ s i j)
def cI : Nat → Int × List Int
  | 0 => (1, List.replicate 24 0)
  | i + 1 => cJ (cI i) i 7
theorem cI_24 : (cI 24).2 = KC := by decide +kernel
theorem cJ_range : ∀ i : Fin 24, ∀ j : Fin 8, 0 ≤ (cJ (cI i.val) i.val j.val).1 ∧ (cJ (cI i.val) i.val j.val).1 < 256 := by decide +kernel
theorem cJ_length (s : Int × List Int) (i j : Nat) : (cJ s i j).2.length = s.2.length := by
  induction j with
  | zero => rfl
  | succ j ih =>
    rw [cJ, stepC]
    simp only
    split
    · rw [List.length_set, ih]
    · exact ih
theorem cI_length (i : Nat) : (cI i).2.length = 24 := by
  induction i with
  | zero => rfl
  | succ i ih => rw [cI, cJ_length, ih]
end Go.Proofs.YtlmcpnicjdcmdaaDoor

namespace Go.Proofs.YtlmcpnicjdcmdaaDoor
open Go Go.RowKit Go.BigFrame

set_option maxRecDepth 100000 in
set_option maxHeartbeats 4000000 in
theorem rconst64_calls (w : World) : Calls Tryd.prog 64 #[] w fun e w' => e = .returned (.agg (ints .u64 KC).toArray) ∧ Below w.heap.size w w' := by
  go_enter Tryd.func64, Tryd.ntmps64
  go_wp2_with fail
  go_loopw [2, 3, 4] (fun r s _ wr => ∃ i : Nat, i ≤ 24 ∧ s = .int .i64 (i : Nat) ∧ r = .int .i64 (cI i).1 ∧ Below w.heap.size w wr ∧ Arr wr w.heap.size 91 .u64 (List.replicate 24 0) ∧ Arr wr (w.heap.size + 1) 91 .u64 (cI i).2) (fun _ s _ _ => 24 - (intOf s).toNat)
  case atStart => exact ⟨0, by decide, rfl, rfl, ((Below.refl _ _).alloc (Nat.le_refl _) _).alloc (by simp) _, (Arr.lit (k := .u64) (l := List.replicate 24 0) rfl rfl).alloc _, Arr.lit rfl (by simp)⟩
  case round =>
    obtain ⟨i, hi, rfl, rfl, hb, h0, h1⟩ := hrel
    by_cases h24 : i < 24
    · obtain ⟨s, hs⟩ : ∃ s, s = cI i := ⟨_, rfl⟩
      rw [← hs] at h1 ⊢
      have hl : s.2.length = 24 := by rw [hs, cI_length]
      have HL := Lib.hid hl
      have HS := Lib.hid hs
      have HB := Lib.hid hb
      have H0 := Lib.hid h0
      have H1 := Lib.hid h1
      have hR : ∀ j : Nat, j < 8 → 0 ≤ (cJ s i j).1 ∧ (cJ s i j).1 < 256 := fun j hj => by rw [hs]; exact cJ_range ⟨i, h24⟩ ⟨j, hj⟩
      have HR := Lib.hid hR
      clear hs hb h0 h1 hR hl
      go_wp2_with fail
      generalize (decide ((i : Int) < 24)) = q6
      go_loopw [2, 4] (fun r s4 wr => ∃ j : Nat, j ≤ 7 ∧ s4 = .int .i64 (j : Nat) ∧ r = .int .i64 (cJ s i j).1 ∧ Below w.heap.size w wr ∧ Arr wr w.heap.size 91 .u64 (List.replicate 24 0) ∧ Arr wr (w.heap.size + 1) 91 .u64 (cJ s i j).2) (fun _ s _ => 7 - (intOf s).toNat)
      case atStart => exact ⟨0, by decide, rfl, rfl, HB.out, H0.out, H1.out⟩
      case round =>
        clear HB H0 H1
        obtain ⟨j, hj, rfl, rfl, hb, h0, h1⟩ := hrel
        by_cases h7 : j < 7
        · obtain ⟨hr0, hr1⟩ := HR.out j (by omega)
          obtain ⟨u, hu⟩ : ∃ u, u = cJ s i j := ⟨_, rfl⟩
          have hul : u.2.length = 24 := by rw [hu, cJ_length]; exact HL.out
          rw [← hu] at h1 hr0 hr1 ⊢
          obtain ⟨r, hr⟩ : ∃ r, r = u.1 := ⟨_, rfl⟩
          rw [← hr] at hr0 hr1 ⊢
          have c0 := h1.cell i (by rw [hul]; exact h24)
          have f0 := h1.free i
          have HU := Lib.hid hu
          have HRR := Lib.hid hr
          have HB := Lib.hid hb
          have H0 := Lib.hid h0
          have H1 := Lib.hid h1
          clear hu hr hb h0 h1 hul
          obtain ⟨J, hJ⟩ : ∃ J, J = j := ⟨_, rfl⟩
          have HJ := Lib.hid hJ
          clear hJ
          obtain rfl | rfl | rfl | rfl | rfl | rfl | rfl : j = 0 ∨ j = 1 ∨ j = 2 ∨ j = 3 ∨ j = 4 ∨ j = 5 ∨ j = 6 := by omega
          all_goals
            by_cases hodd : r % 2 = 1
            · have ho1 : (r % 2 == 1) = true := by simp [hodd]
              have HODD := Lib.hid hodd
              clear hodd
              by_cases hbig : 256 ≤ r * 2
              · go_wp2_with fail
                refine wp_region_quiet_tail 10 (by kernel_rfl) (by kernel_rfl) ?_
                simp only [List.take_succ_cons, List.take_zero, List.drop_succ_cons, List.drop_zero]
                repeat (go_big_quiet_step (fail))
                refine wpQuiet_nil ?_
                intro _ hw'
                obtain ⟨nq, hw''⟩ := hw'
                subst hw''
                go_wp2_with fail
                go_roundw
                case rel =>
                  refine ⟨J + 1, by have := HJ.out; omega, by rw [HJ.out]; rfl, ?_, ?_, ?_, ?_⟩
                  · rw [cJ, stepC, HJ.out, ← HU.out, ← HRR.out]
                    simp only
                    rw [if_pos hbig]
                  · exact below_set (below_drewN HB.out nq) _ (by simp) _
                  · exact (H0.out.drewN nq).other (by simp) _
                  · rw [cJ, stepC, HJ.out, ← HU.out, ← HRR.out]
                    simp only
                    rw [if_pos HODD.out]
                    exact (H1.out.drewN nq).set i _
                case measure => simp [intOf]
              · go_wp2_with fail
                refine wp_region_quiet_tail 10 (by kernel_rfl) (by kernel_rfl) ?_
                simp only [List.take_succ_cons, List.take_zero, List.drop_succ_cons, List.drop_zero]
                repeat (go_big_quiet_step (fail))
                refine wpQuiet_nil ?_
                intro _ hw'
                obtain ⟨nq, hw''⟩ := hw'
                subst hw''
                go_wp2_with fail
                go_roundw
                case rel =>
                  refine ⟨J + 1, by have := HJ.out; omega, by rw [HJ.out]; rfl, ?_, ?_, ?_, ?_⟩
                  · rw [cJ, stepC, HJ.out, ← HU.out, ← HRR.out]
                    simp only
                    rw [if_neg (by omega)]
                  · exact below_set (below_drewN HB.out nq) _ (by simp) _
                  · exact (H0.out.drewN nq).other (by simp) _
                  · rw [cJ, stepC, HJ.out, ← HU.out, ← HRR.out]
                    simp only
                    rw [if_pos HODD.out]
                    exact (H1.out.drewN nq).set i _
                case measure => simp [intOf]
            · have ho1 : (r % 2 == 1) = false := by simp [hodd]
              have HODD := Lib.hid hodd
              clear hodd
              by_cases hbig : 256 ≤ r * 2
              · go_wp2_with fail
                go_roundw
                case rel =>
                  refine ⟨J + 1, by have := HJ.out; omega, by rw [HJ.out]; rfl, ?_, ?_, ?_, ?_⟩
                  · rw [cJ, stepC, HJ.out, ← HU.out, ← HRR.out]
                    simp only
                    rw [if_pos hbig]
                  · exact HB.out
                  · exact H0.out
                  · rw [cJ, stepC, HJ.out, ← HU.out, ← HRR.out]
                    simp only
                    rw [if_neg HODD.out]
                    exact H1.out
                case measure => simp [intOf]
              · go_wp2_with fail
                go_roundw
                case rel =>
                  refine ⟨J + 1, by have := HJ.out; omega, by rw [HJ.out]; rfl, ?_, ?_, ?_, ?_⟩
                  · rw [cJ, stepC, HJ.out, ← HU.out, ← HRR.out]
                    simp only
                    rw [if_neg (by omega)]
                  · exact HB.out
                  · exact H0.out
                  · rw [cJ, stepC, HJ.out, ← HU.out, ← HRR.out]
                    simp only
                    rw [if_neg HODD.out]
                    exact H1.out
                case measure => simp [intOf]
        · obtain rfl : j = 7 := by omega
          have HB := Lib.hid hb
          have H0 := Lib.hid h0
          have H1 := Lib.hid h1
          clear hb h0 h1
          go_wp2_with fail
          go_roundw
          case rel => exact ⟨i + 1, by omega, by go_num, by rw [cI, ← HS.out], HB.out, H0.out, by rw [cI, ← HS.out]; exact H1.out⟩
          case measure => simp [intOf]; omega
    · obtain rfl : i = 24 := by omega
      rw [cI_24] at h1
      have HB := Lib.hid hb
      have H0 := Lib.hid h0
      have H1 := Lib.hid h1
      clear hb h0 h1
      have hi24 : (Tryd.prog.info? 91).map (·.size) = some (ints .u64 KC).toArray.size := by rw [info_w24]; rfl
      have HI := Lib.hid hi24
      clear hi24
      go_wp2_with (first
        | ((with_reducible refine gate_dst (N := 32) rfl ?_); refine wpList_load_row rfl 91 (.tmp 1) rfl _ rfl 91 (ints .u64 KC).toArray (0, 0) _ H1.out.block Tryd.underlying91 rfl HI.out ?_)
        | ((with_reducible refine gate_none rfl ?_); refine wpList_store_row rfl 91 (.tmp 0) (.tmp 32) rfl _ (ints .u64 KC).toArray rfl rfl 91 _ H0.out.block HI.out rfl (ints_all _ _) ?_))
      exact bodyPost_ret (results_cell_row Tryd.results64 _ _ _ 91 (ints .u64 KC).toArray (0, 0) _ rfl (H0.out.row _).block Tryd.underlying91 rfl HI.out) rfl ⟨rfl, below_row HB.out _ (Nat.le_refl _) _⟩
end Go.Proofs.YtlmcpnicjdcmdaaDoor
