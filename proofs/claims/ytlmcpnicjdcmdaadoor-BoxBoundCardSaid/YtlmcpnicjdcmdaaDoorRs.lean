/- The document's change of a state is the program's, its words laid the other way. -/
import Derived.Test.YtlmcpnicjdcmdaaDoorRr
set_option linter.unusedVariables false
set_option linter.unusedSimpArgs false
namespace Go.Proofs.YtlmcpnicjdcmdaaDoor
open Go Go.RowKit Go.BigFrame

/-- The words of a state, laid the other way. -/
def tr (L : List Int) : List Int := (List.range 25).map fun p => L.getD (p / 5 + 5 * (p % 5)) 0
theorem tr_length (L : List Int) : (tr L).length = 25 := by simp [tr]
theorem tr_at (L : List Int) (p : Nat) (h : p < 25) : (tr L).getD p 0 = L.getD (p / 5 + 5 * (p % 5)) 0 := by simp [tr, List.getD_eq_getElem?_getD, h]
theorem list25 (L : List Int) (h : L.length = 25) : L = (List.range 25).map fun i => L.getD i 0 := by
  apply ext_getD (by simp [h])
  intro j hj
  rw [h] at hj
  simp [List.getD_eq_getElem?_getD, hj]
theorem wrap_bv64 (b : BitVec IntKind.u64.bits) : BitVec.ofInt IntKind.u64.bits (IntKind.u64.wrap (b.toNat : Int)) = b := by
  apply BitVec.eq_of_toNat_eq
  rw [BitVec.toNat_ofInt, IntKind.wrap_u64]
  have := b.isLt
  simp only [show IntKind.u64.bits = 64 from rfl] at this ⊢
  omega
theorem ofInt_xor64 (x y : Int) : BitVec.ofInt 64 (bits .xor .u64 x y) = BitVec.ofInt 64 x ^^^ BitVec.ofInt 64 y := wrap_bv64 _
theorem xor64_eq (x y : Int) : bits .xor .u64 x y = IntKind.u64.wrap ((BitVec.ofInt 64 x ^^^ BitVec.ofInt 64 y).toNat : Int) := by kernel_rfl
theorem xor0 (a b : Int) : bits .xor .u64 (bits .xor .u64 0 a) b = bits .xor .u64 a b := by
  rw [xor64_eq (bits .xor .u64 0 a), ofInt_xor64, xor64_eq a b]
  congr 3
  have : BitVec.ofInt 64 0 = 0#64 := by decide
  rw [this]
  simp
theorem xor64_range (x y : Int) : 0 ≤ bits .xor .u64 x y ∧ bits .xor .u64 x y < 18446744073709551616 := by
  rw [xor64_eq, IntKind.wrap_u64]
  omega
theorem or64_0 (a : Int) (h0 : 0 ≤ a) (h1 : a < 18446744073709551616) : bits .or .u64 a 0 = a := by
  show IntKind.u64.wrap ((BitVec.ofInt 64 a ||| BitVec.ofInt 64 0).toNat : Int) = a
  have : BitVec.ofInt 64 0 = 0#64 := by decide
  rw [this, BitVec.or_zero, BitVec.toNat_ofInt, IntKind.wrap_u64]
  omega
theorem rotl64_0 (x y : Int) : rotl64 (bits .xor .u64 x y) 0 = bits .xor .u64 x y := by
  obtain ⟨h0, h1⟩ := xor64_range x y
  generalize bits .xor .u64 x y = a at h0 h1
  unfold rotl64
  have e1 : a * 2 ^ 0 % 18446744073709551616 = a := by rw [show (2 : Int) ^ 0 = 1 from rfl]; omega
  have e2 : a / 2 ^ (64 - 0) = 0 := by rw [show (2 : Int) ^ (64 - 0) = 18446744073709551616 from rfl]; omega
  rw [e1, e2]
  exact or64_0 a h0 h1
theorem sums_list (l : Nat → Int) : sumsK ((List.range 25).map l) 25 = (List.range 5).map fun x => bits .xor .u64 (bits .xor .u64 (bits .xor .u64 (bits .xor .u64 (bits .xor .u64 0 (l x)) (l (x + 5))) (l (x + 10))) (l (x + 15))) (l (x + 20)) := by kernel_rfl
theorem c_list (r : Nat → Int) : cR ((List.range 25).map r) 5 = (List.range 5).map fun x => bits .xor .u64 (bits .xor .u64 (bits .xor .u64 (bits .xor .u64 (r (x * 5)) (r (x * 5 + 1))) (r (x * 5 + 2))) (r (x * 5 + 3))) (r (x * 5 + 4)) := by kernel_rfl
theorem c_eq (L : List Int) (h : L.length = 25) : cR (tr L) 5 = sumsK L 25 := by
  have e : sumsK L 25 = sumsK ((List.range 25).map fun i => L.getD i 0) 25 := congrArg (fun x => sumsK x 25) (list25 L h)
  rw [e, sums_list, tr, c_list]
  simp only [xor0]
  rfl
theorem thetaK_at (L : List Int) : ∀ (n j : Nat), j < n → j < L.length → (thetaK L n).getD j 0 = bits .xor .u64 (L.getD j 0) (bits .xor .u64 ((sumsK L 25).getD ((j + 4) % 5) 0) (rotl64 ((sumsK L 25).getD ((j + 1) % 5) 0) 1))
  | 0, j, h, _ => by omega
  | n + 1, j, h, hs => by
    rw [thetaK]
    simp only [List.getD_eq_getElem?_getD]
    by_cases e : n = j
    · subst e
      rw [List.getElem?_set_self (by rw [thetaK_length]; exact hs)]
      rfl
    · rw [List.getElem?_set_ne e]
      have := thetaK_at L n j (by omega) hs
      simpa only [List.getD_eq_getElem?_getD] using this
theorem theta_list (L : List Int) (h : L.length = 25) : thetaK L 25 = (List.range 25).map fun i => bits .xor .u64 (L.getD i 0) (bits .xor .u64 ((sumsK L 25).getD ((i + 4) % 5) 0) (rotl64 ((sumsK L 25).getD ((i + 1) % 5) 0) 1)) := by
  apply ext_getD (by simp [thetaK_length, h])
  intro j hj
  rw [thetaK_length, h] at hj
  rw [thetaK_at L 25 j hj (by rw [h]; exact hj)]
  simp [List.getD_eq_getElem?_getD, hj]
theorem rhopi_list (m : Nat → Int) : (rhopiK ((List.range 25).map m) 24).2 = [m 0, rotl64 (m 6) 44, rotl64 (m 12) 43, rotl64 (m 18) 21, rotl64 (m 24) 14, rotl64 (m 3) 28, rotl64 (m 9) 20, rotl64 (m 10) 3, rotl64 (m 16) 45, rotl64 (m 22) 61, rotl64 (m 1) 1, rotl64 (m 7) 6, rotl64 (m 13) 25, rotl64 (m 19) 8, rotl64 (m 20) 18, rotl64 (m 4) 27, rotl64 (m 5) 36, rotl64 (m 11) 10, rotl64 (m 17) 15, rotl64 (m 23) 56, rotl64 (m 2) 62, rotl64 (m 8) 55, rotl64 (m 14) 39, rotl64 (m 15) 41, rotl64 (m 21) 2] := by kernel_rfl
theorem b_list (r : Nat → Int) (C : List Int) : bR ((List.range 25).map r) C 25 = [rotl64 (bits .xor .u64 (r 0) (dR C 0)) 0, rotl64 (bits .xor .u64 (r 15) (dR C 3)) 28, rotl64 (bits .xor .u64 (r 5) (dR C 1)) 1, rotl64 (bits .xor .u64 (r 20) (dR C 4)) 27, rotl64 (bits .xor .u64 (r 10) (dR C 2)) 62, rotl64 (bits .xor .u64 (r 6) (dR C 1)) 44, rotl64 (bits .xor .u64 (r 21) (dR C 4)) 20, rotl64 (bits .xor .u64 (r 11) (dR C 2)) 6, rotl64 (bits .xor .u64 (r 1) (dR C 0)) 36, rotl64 (bits .xor .u64 (r 16) (dR C 3)) 55, rotl64 (bits .xor .u64 (r 12) (dR C 2)) 43, rotl64 (bits .xor .u64 (r 2) (dR C 0)) 3, rotl64 (bits .xor .u64 (r 17) (dR C 3)) 25, rotl64 (bits .xor .u64 (r 7) (dR C 1)) 10, rotl64 (bits .xor .u64 (r 22) (dR C 4)) 39, rotl64 (bits .xor .u64 (r 18) (dR C 3)) 21, rotl64 (bits .xor .u64 (r 8) (dR C 1)) 45, rotl64 (bits .xor .u64 (r 23) (dR C 4)) 8, rotl64 (bits .xor .u64 (r 13) (dR C 2)) 15, rotl64 (bits .xor .u64 (r 3) (dR C 0)) 41, rotl64 (bits .xor .u64 (r 24) (dR C 4)) 14, rotl64 (bits .xor .u64 (r 14) (dR C 2)) 61, rotl64 (bits .xor .u64 (r 4) (dR C 0)) 18, rotl64 (bits .xor .u64 (r 19) (dR C 3)) 56, rotl64 (bits .xor .u64 (r 9) (dR C 1)) 2] := by kernel_rfl
theorem b_eq (L : List Int) (h : L.length = 25) : bR (tr L) (sumsK L 25) 25 = tr (rhopiK (thetaK L 25) 24).2 := by
  rw [theta_list L h, rhopi_list, tr, b_list]
  generalize sumsK L 25 = S
  rw [show dR S 0 = bits .xor .u64 (S.getD 4 0) (rotl64 (S.getD 1 0) 1) from rfl, rotl64_0]
  rfl
theorem chi_list (n : Nat → Int) : chiK ((List.range 25).map n) 5 = (List.range 25).map fun i => bits .xor .u64 (n i) (bits .and .u64 (bits .xor .u64 18446744073709551615 (n (5 * (i / 5) + (i % 5 + 1) % 5))) (n (5 * (i / 5) + (i % 5 + 2) % 5))) := by kernel_rfl
theorem u64_max : IntKind.u64.max = 18446744073709551615 := by decide
theorem w_list (r b : Nat → Int) : wR ((List.range 25).map r) ((List.range 25).map b) 25 = (List.range 25).map fun k => bits .xor .u64 (b k) (bits .and .u64 (bits .xor .u64 IntKind.u64.max (b ((k / 5 + 1) % 5 * 5 + k % 5))) (b ((k / 5 + 2) % 5 * 5 + k % 5))) := by kernel_rfl
theorem w_eq (L N : List Int) (h : N.length = 25) : wR (tr L) (tr N) 25 = tr (chiK N 5) := by
  have e : chiK N 5 = chiK ((List.range 25).map fun i => N.getD i 0) 5 := congrArg (fun x => chiK x 5) (list25 N h)
  rw [e, chi_list, tr, tr, w_list, u64_max]
  rfl
theorem round_eq (c : Int) (L : List Int) (h : L.length = 25) : roundR c (tr L) = tr (roundK c L) := by
  unfold roundR roundK
  have hN : (rhopiK (thetaK L 25) 24).2.length = 25 := by rw [rhopiK_length, thetaK_length, h]
  rw [c_eq L h, b_eq L h, w_eq L _ hN]
  have hX : (chiK (rhopiK (thetaK L 25) 24).2 5).length = 25 := by rw [chiK_length, hN]
  generalize chiK (rhopiK (thetaK L 25) 24).2 5 = X at hX
  rw [tr_at X 0 (by decide)]
  rw [list25 X hX]
  rfl
theorem change_eq (L : List Int) (h : L.length = 25) (i : Nat) : changeR (tr L) i = tr (changeN L i) := by
  induction i with
  | zero => rfl
  | succ i ih => rw [changeR, ih, round_eq _ _ (by rw [changeN_length, h]), changeN]
theorem changeF_eq (L : List Int) (h : L.length = 25) : changeR (tr L) 24 = tr (changeF L) := change_eq L h 24
end Go.Proofs.YtlmcpnicjdcmdaaDoor
