/- The document's bytes of a text with its length ahead are the program's. -/
import Derived.Test.YtlmcpnicjdcmdaaDoorWb
set_option linter.unusedVariables false
set_option linter.unusedSimpArgs false
namespace Go.Proofs.YtlmcpnicjdcmdaaDoor
open Go Go.RowKit Go.BigFrame

theorem numF_1 (n : Int) : numF n 1 = [n % 256] := by simp [numF, numK]
theorem numF_2 (n : Int) : numF n 2 = [n / 256 % 256, n % 256] := by simp [numF, numK]
theorem numF_4 (n : Int) : numF n 4 = [n / 16777216 % 256, n / 65536 % 256, n / 256 % 256, n % 256] := by simp [numF, numK, List.replicate]
theorem lengthF_ref (n : Nat) (hn : n ≤ 1048576) : lengthF n = if n < 64 then [(n : Int)] else if n < 16384 then [(n : Int) / 256 + 64, (n : Int) % 256] else [(n : Int) / 16777216 + 128, (n : Int) / 65536, (n : Int) / 256 % 256, (n : Int) % 256] := by
  unfold lengthF
  by_cases h1 : n < 64
  · rw [if_pos h1, if_pos h1, numF_1]
    congr 1
    omega
  · rw [if_neg h1, if_neg h1]
    by_cases h2 : n < 16384
    · rw [if_pos h2, if_pos h2, numF_2]
      congr 1
      · push_cast; omega
      · congr 1; push_cast; omega
    · rw [if_neg h2, if_neg h2, numF_4]
      congr 1
      · push_cast; omega
      · congr 1
        · push_cast; omega
        · congr 1
          · push_cast; omega
          · congr 1; push_cast; omega

set_option maxRecDepth 100000 in
set_option maxHeartbeats 400000 in
theorem rlength_calls (w : World) (n : Nat) (hn : n ≤ 1048576) :
    Calls Tryd.prog 33 #[.int .i64 n] w (RetB w (lengthF n)) := by
  have HF := Lib.hid (lengthF_ref n hn)
  go_enter Tryd.func33, Tryd.ntmps33
  by_cases h1 : n < 64
  · go_wp2_with fail
    go_ret
    rw [HF.out, if_pos h1]
    exact ⟨_, 1, rfl, Own.lit (Nat.le_refl _) rfl rfl (by simp [maxLen]) rfl rfl, (Below.refl _ _).alloc (Nat.le_refl _) _⟩
  · by_cases h2 : n < 16384
    · go_wp2_with fail
      go_ret
      rw [HF.out, if_neg h1, if_pos h2]
      exact ⟨_, 2, rfl, Own.lit (Nat.le_refl _) rfl rfl (by simp [maxLen]) rfl rfl, (Below.refl _ _).alloc (Nat.le_refl _) _⟩
    · go_wp2_with fail
      go_ret
      rw [HF.out, if_neg h1, if_neg h2]
      exact ⟨_, 4, rfl, Own.lit (Nat.le_refl _) rfl rfl (by simp [maxLen]) rfl rfl, (Below.refl _ _).alloc (Nat.le_refl _) _⟩

set_option maxRecDepth 100000 in
set_option maxHeartbeats 400000 in
theorem rtext_calls (w : World) (A : Option Addr) (n c : Nat) (l : List Int) (hn : n = l.length) (hR : Rd .u8 w A l) (hl : l.length ≤ 1048576) :
    Calls Tryd.prog 19 #[.slice A n c] w (RetBE w (textF l) 0) := by
  have hn2 : n ≤ 1048576 := by omega
  have hle : ¬ (n : Int) > 1048576 := by omega
  have HN := Lib.hid hn
  have HR := Lib.hid hR
  clear hn hR hl
  go_enter Tryd.func19, Tryd.ntmps19
  go_wp2_with (go_at_call 33; refine stop ?_)
  refine Stop.call (rlength_calls w n hn2) ?_
  intro e w1 h
  obtain ⟨A1, n1, c1, rfl, hn1, h63, ho, hb⟩ := h.form
  have HO := Lib.hid ho
  have HB := Lib.hid hb
  have HN1 := Lib.hid hn1
  clear ho hb hn1
  go_wp2_with ((with_reducible refine gate_dst (N := 11) rfl ?_); refine stop ?_)
  refine Stop.go ?_
  refine wpList_append_new bytesE w (.tmp 9) (.tmp 10) (.slice A1 n1 c1) (lengthF n) A c n l HO.out HB.out (HR.out.below HB.out) HN.out rfl rfl rfl rfl (by have := HN.out; have := lengthF_length n; omega) (by have := HN.out; have := lengthF_length n; simp [maxLen]; omega) ?_
  intro v2 w2 ho2 hb2
  obtain ⟨A2, n2, c2, rfl, hn2, _, _, ho2⟩ := ho2.form2
  have HO2 := Lib.hid ho2
  have HB2 := Lib.hid hb2
  have HN2 := Lib.hid hn2
  clear ho2 hb2 hn2
  go_wp2_with fail
  go_ret2
  have hf : textF l = lengthF n ++ l := by unfold textF; rw [HN.out]
  rw [hf]
  exact RetBE.mk2 HN2.out HO2.out HB2.out
end Go.Proofs.YtlmcpnicjdcmdaaDoor
