/- wire: a number's bytes; a text with its length ahead. -/
import Derived.Test.YtlmcpnicjdcmdaaDoorHd
import Derived.Test.YtlmcpnicjdcmdaaDoorLd
set_option linter.unusedVariables false
set_option linter.unusedSimpArgs false
namespace Go.Proofs.YtlmcpnicjdcmdaaDoor
open Go Go.RowKit Go.BigFrame

def numK (n : Int) (size : Nat) : Nat → List Int
  | 0 => List.replicate size 0
  | k + 1 => (numK n size k).set (size - 1 - k) (n / 2 ^ (8 * k) % 256)
def numF (n : Int) (size : Nat) : List Int := numK n size size
theorem numK_length (n : Int) (size k : Nat) : (numK n size k).length = size := by
  induction k with
  | zero => exact List.length_replicate
  | succ k ih => rw [numK, List.length_set, ih]

set_option maxRecDepth 100000 in
theorem fits_calls (w : World) (size : Nat) (hs : size = 1 ∨ size = 2 ∨ size = 4 ∨ size = 8) :
    Calls Tryd.prog 54 #[.int .i64 size] w fun e w' => e = .returned (.bool true) ∧ w = w' := by
  go_enter Tryd.func54, Tryd.ntmps54
  rcases hs with rfl | rfl | rfl | rfl
  all_goals
    go_wp2
    go_ret
    exact ⟨rfl, rfl⟩

set_option maxRecDepth 100000 in
set_option maxHeartbeats 400000 in
theorem number_calls (w : World) (n : Nat) (size : Nat) (hs : size = 1 ∨ size = 2 ∨ size = 4 ∨ size = 8) (hn : n < 2 ^ 62) (hf : size < 8 → n < 2 ^ (8 * size)) :
    Calls Tryd.prog 43 #[.int .i64 n, .int .i64 size] w (RetB w (numF n size)) := by
  have hs8 : size ≤ 8 := by omega
  have hs1 : 1 ≤ size := by omega
  have HF := Lib.hid (fits_calls w size hs)
  have hc : size < 8 → ¬ (wrap64 (2 ^ (8 * size)) ≤ (n : Int)) := by
    intro h8
    have h := hf h8
    have h2 : (2 : Int) ^ (8 * size) = ((2 ^ (8 * size) : Nat) : Int) := by simp
    have h3 : 2 ^ (8 * size) ≤ 2 ^ 56 := Nat.pow_le_pow_right (by decide) (by omega)
    have h4 : wrap64 ((2 ^ (8 * size) : Nat) : Int) = ((2 ^ (8 * size) : Nat) : Int) := by unfold wrap64; omega
    rw [h2, h4]
    omega
  by_cases h8 : size < 8
  case' pos => have hc := hc h8
  case' neg => clear hc
  all_goals
    clear hs hf
    go_enter Tryd.func43, Tryd.ntmps43
    go_wp2_with (go_at_call 54; refine stop ?_)
    refine Stop.call HF.out ?_
    rintro e w1 ⟨rfl, rfl⟩
    go_wp2_with ((with_reducible refine gate_dst (N := 26) rfl ?_); refine stop ?_)
    refine Stop.go ?_
    refine wpList_make_new bytesE (.tmp 25) (.tmp 25) size size .i64 .i64 rfl rfl rfl rfl (Nat.le_refl _) (by omega) (by omega) ?_
    go_wp2_with fail
    generalize (decide ((size : Int) < 8)) = q1
    generalize (decide (wrap64 (2 ^ (8 * size)) ≤ (n : Int))) = q2
    generalize (decide ((n : Int) < 0)) = q3
    go_loopw [6, 29] (fun _ s wr => ∃ k, k ≤ size ∧ s = .int .i64 (k : Nat) ∧ Arr wr w.heap.size 5 .u8 (numK n size k) ∧ Below w.heap.size w wr) (fun _ s _ => size - (intOf s).toNat)
    case atStart => exact ⟨0, Nat.zero_le _, rfl, Arr.new _ _ _ _, (Below.refl _ _).alloc (Nat.le_refl _) _⟩
    case round =>
      obtain ⟨k, hk, rfl, hA, hB⟩ := hrel
      by_cases hks : k < size
      · have c0 := hA.cell (size - 1 - k) (by rw [numK_length]; omega)
        have f0 := hA.free (size - 1 - k)
        have hsub : ((size : Int) - 1 - k) = ((size - 1 - k : Nat) : Int) := by omega
        have HA := Lib.hid hA
        have HB := Lib.hid hB
        clear hA hB
        go_wp2_with fail
        go_roundw
        case rel => exact ⟨k + 1, hks, by go_num, HA.out.set (size - 1 - k) _, below_set HB.out _ (Nat.le_refl _) _⟩
        case measure => simp [intOf]; omega
      · obtain rfl : k = size := by omega
        have HA := Lib.hid hA
        have HB := Lib.hid hB
        clear hA hB
        go_wp2_with fail
        go_ret
        have hl : (numF n k).length = k := numK_length _ _ _
        exact ⟨_, k, by rw [hl]; rfl, by rw [hl]; exact HA.out.own (Nat.le_refl _) hl.symm hl.symm (by rw [numK_length]; unfold maxLen; omega), HB.out⟩

/-- What the table of the lengths' kinds holds. -/
def Kwire (w : World) : Prop := Rd .i64 w (some ⟨0, 0, none⟩) [6, 14, 30]
def lengthF (n : Nat) : List Int := if n < 64 then numF n 1 else if n < 16384 then numF (n + 16384) 2 else numF (n + 2147483648) 4
theorem or_add (n c : Nat) (k : Nat) (h : n < 2 ^ k) : n ||| c * 2 ^ k = n + c * 2 ^ k := by
  rw [Nat.or_comm, Nat.mul_comm, ← Nat.two_pow_add_eq_or_of_lt h]
  omega
theorem wraps_i64 (n : Int) (h₀ : 0 ≤ n) (h₁ : n < 2 ^ 62) : IntKind.i64.wrap n = n := by rw [IntKind.wrap_i64]; omega
theorem or_i64 (n c k : Nat) (h : n < 2 ^ k) (hn : n < 2 ^ 62) (hc : c * 2 ^ k < 2 ^ 62) : bits .or .i64 (n : Int) ((c * 2 ^ k : Nat) : Int) = ((n + c * 2 ^ k : Nat) : Int) := by
  rw [(bits_nat .i64 62 (by decide) wraps_i64 n (c * 2 ^ k) hn hc).2, or_add n c k h]
theorem or_i64_0 (n : Nat) (h : n < 64) : bits .or .i64 (n : Int) 0 = (n : Int) := or_i64 n 0 6 h (by omega) (by decide)
theorem or_i64_1 (n : Nat) (h : n < 16384) : bits .or .i64 (n : Int) 16384 = ((n + 16384 : Nat) : Int) := or_i64 n 1 14 h (by omega) (by decide)
theorem or_i64_2 (n : Nat) (h : n < 1073741824) : bits .or .i64 (n : Int) 2147483648 = ((n + 2147483648 : Nat) : Int) := or_i64 n 2 30 h (by omega) (by decide)

set_option maxRecDepth 100000 in
set_option maxHeartbeats 400000 in
theorem length_calls (w : World) (n : Nat) (hn : n ≤ 1048576) (hK : Kwire w) :
    Calls Tryd.prog 27 #[.int .i64 n] w (RetB w (lengthF n)) := by
  obtain ⟨b, off, e, hlt, hcs⟩ := Rd.at_ hK (by decide)
  injection e with e
  injection e with e1 e2
  subst e1 e2
  have c0 := hcs 0 (by decide)
  have c1 := hcs 1 (by decide)
  have c2 := hcs 2 (by decide)
  simp only [Nat.zero_add] at c0 c1 c2
  clear hcs hK
  go_enter Tryd.func27, Tryd.ntmps27
  go_wp2_with fail
  go_step3
  go_wp2_with fail
  go_step3
  go_wp2_with fail
  have hcase : (n < 64) ∨ (64 ≤ n ∧ n < 16384) ∨ (16384 ≤ n) := by omega
  go_loop [3] (fun s => ∃ c : Nat, c ≤ 2 ∧ (1 ≤ c → 64 ≤ n) ∧ (2 ≤ c → 16384 ≤ n) ∧ s = .int .i64 (c : Nat)) (fun s => 2 - (intOf s).toNat)
  case atStart => exact ⟨0, by omega, by omega, by omega, rfl⟩
  case round =>
    obtain ⟨c, hc, h1, h2, rfl⟩ := hrel
    obtain rfl | rfl | rfl : c = 0 ∨ c = 1 ∨ c = 2 := by omega
    · by_cases h : n < 64
      · have h' : (n : Int) < 64 := by omega
        go_wp2_with fail
        refine wp_region_quiet_tail 9 (by kernel_rfl) (by kernel_rfl) ?_
        simp only [List.take_succ_cons, List.take_zero, List.drop_succ_cons, List.drop_zero]
        repeat (go_big_quiet_step (fail))
        refine wpQuiet_nil ?_
        intro _ hw'
        obtain ⟨nq, hw''⟩ := hw'
        subst hw''
        go_wp2_with fail
        rw [or_i64_0 n h]
        refine (number_calls (w.drewN nq) n 1 (by omega) (by omega) (by omega)).mono ?_
        intro e w1 hr
        have hf : lengthF n = numF n 1 := by unfold lengthF; simp [h]
        rw [hf]
        obtain ⟨A, m, c, rfl, hm, h63, ho, hb⟩ := hr.form
        have HO := Lib.hid ho
        have HB := Lib.hid hb
        have HM := Lib.hid hm
        clear ho hb hm hf
        go_wp2_with fail
        rw [Exit.noGoto_ret]
        go_ret
        have hf : lengthF n = numF n 1 := by unfold lengthF; simp [h]
        rw [hf]
        exact RetB.mk2 HM.out HO.out (below_of_drewN HB.out)
      · have h' : ¬ (n : Int) < 64 := by omega
        go_wp2_with fail
        go_round
        case rel => exact ⟨1, by omega, by omega, by omega, rfl⟩
        case measure => simp [intOf]
    · by_cases h : n < 16384
      · have h' : (n : Int) < 16384 := by omega
        go_wp2_with fail
        refine wp_region_quiet_tail 9 (by kernel_rfl) (by kernel_rfl) ?_
        simp only [List.take_succ_cons, List.take_zero, List.drop_succ_cons, List.drop_zero]
        repeat (go_big_quiet_step (fail))
        refine wpQuiet_nil ?_
        intro _ hw'
        obtain ⟨nq, hw''⟩ := hw'
        subst hw''
        go_wp2_with fail
        rw [or_i64_1 n h]
        refine (number_calls (w.drewN nq) (n + 16384) 2 (by omega) (by omega) (by omega)).mono ?_
        intro e w1 hr
        have hf : lengthF n = numF (n + 16384) 2 := by unfold lengthF; simp [h, show ¬ n < 64 by omega]
        rw [hf]
        obtain ⟨A, m, c, rfl, hm, h63, ho, hb⟩ := hr.form
        have HO := Lib.hid ho
        have HB := Lib.hid hb
        have HM := Lib.hid hm
        clear ho hb hm hf
        go_wp2_with fail
        rw [Exit.noGoto_ret]
        go_ret
        have hf : lengthF n = numF (n + 16384) 2 := by unfold lengthF; simp [h, show ¬ n < 64 by omega]
        rw [hf]
        exact RetB.mk2 HM.out HO.out (below_of_drewN HB.out)
      · have h' : ¬ (n : Int) < 16384 := by omega
        go_wp2_with fail
        go_round
        case rel => exact ⟨2, by omega, by omega, by omega, rfl⟩
        case measure => simp [intOf]
    · have h' : (n : Int) < 1073741824 := by omega
      by_cases h : n < 1073741824
      · go_wp2_with fail
        refine wp_region_quiet_tail 9 (by kernel_rfl) (by kernel_rfl) ?_
        simp only [List.take_succ_cons, List.take_zero, List.drop_succ_cons, List.drop_zero]
        repeat (go_big_quiet_step (fail))
        refine wpQuiet_nil ?_
        intro _ hw'
        obtain ⟨nq, hw''⟩ := hw'
        subst hw''
        go_wp2_with fail
        rw [or_i64_2 n h]
        refine (number_calls (w.drewN nq) (n + 2147483648) 4 (by omega) (by omega) (by omega)).mono ?_
        intro e w1 hr
        have hf : lengthF n = numF (n + 2147483648) 4 := by unfold lengthF; simp [show ¬ n < 64 by omega, show ¬ n < 16384 by omega]
        rw [hf]
        obtain ⟨A, m, c, rfl, hm, h63, ho, hb⟩ := hr.form
        have HO := Lib.hid ho
        have HB := Lib.hid hb
        have HM := Lib.hid hm
        clear ho hb hm hf
        go_wp2_with fail
        rw [Exit.noGoto_ret]
        go_ret
        have hf : lengthF n = numF (n + 2147483648) 4 := by unfold lengthF; simp [show ¬ n < 64 by omega, show ¬ n < 16384 by omega]
        rw [hf]
        exact RetB.mk2 HM.out HO.out (below_of_drewN HB.out)
      · omega
end Go.Proofs.YtlmcpnicjdcmdaaDoor
