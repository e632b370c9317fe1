/- box: plain laws of what is turned; a string of bytes. -/
import Derived.Test.YtlmcpnicjdcmdaaDoorXe
set_option linter.unusedVariables false
set_option linter.unusedSimpArgs false
namespace Go.Proofs.YtlmcpnicjdcmdaaDoor
open Go Go.RowKit Go.BigFrame

theorem u8_of_bv (b : BitVec 8) : IntKind.u8.wrap (b.toNat : Int) = (b.toNat : Int) := by
  have := b.isLt
  rw [IntKind.wrap_u8]
  omega
theorem xor_u8 (x y : Int) : bits .xor .u8 x y = ((BitVec.ofInt 8 x ^^^ BitVec.ofInt 8 y).toNat : Int) := by
  show IntKind.u8.wrap _ = _
  exact u8_of_bv _
theorem ofInt_bv (b : BitVec 8) : BitVec.ofInt 8 (b.toNat : Int) = b := by
  apply BitVec.eq_of_toNat_eq
  rw [BitVec.toNat_ofInt]
  have := b.isLt
  omega
theorem xor_range (x y : Int) : 0 ≤ bits .xor .u8 x y ∧ bits .xor .u8 x y < 256 := by
  rw [xor_u8]
  have := (BitVec.ofInt 8 x ^^^ BitVec.ofInt 8 y).isLt
  omega
theorem xor_pair (s a b : Int) : bits .xor .u8 (bits .xor .u8 s a) (bits .xor .u8 s b) = bits .xor .u8 a b := by
  rw [xor_u8 (bits .xor .u8 s a), xor_u8 s a, xor_u8 s b, ofInt_bv, ofInt_bv, xor_u8 a b]
  congr 2
  generalize BitVec.ofInt 8 s = p
  generalize BitVec.ofInt 8 a = q
  generalize BitVec.ofInt 8 b = r
  ext i hi
  simp
  cases p[i] <;> cases q[i] <;> cases r[i] <;> rfl
theorem xor_back (s x : Int) (h0 : 0 ≤ x) (h1 : x < 256) : bits .xor .u8 s (bits .xor .u8 s x) = x := by
  rw [xor_u8 s (bits .xor .u8 s x), xor_u8 s x, ofInt_bv]
  have e : BitVec.ofInt 8 s ^^^ (BitVec.ofInt 8 s ^^^ BitVec.ofInt 8 x) = BitVec.ofInt 8 x := by
    generalize BitVec.ofInt 8 s = p
    generalize BitVec.ofInt 8 x = q
    ext i hi
    simp
  rw [e, BitVec.toNat_ofInt]
  omega
theorem xorK_at (s l : List Int) : ∀ (n j : Nat), j < n → j < s.length → (xorK s l n).getD j 0 = bits .xor .u8 (s.getD j 0) (l.getD j 0)
  | 0, j, h, _ => by omega
  | n + 1, j, h, hs => by
    rw [xorK]
    simp only [List.getD_eq_getElem?_getD]
    by_cases e : n = j
    · subst e
      rw [List.getElem?_set_self (by rw [xorK_length]; exact hs)]
      rfl
    · rw [List.getElem?_set_ne e]
      have := xorK_at s l n j (by omega) hs
      simpa only [List.getD_eq_getElem?_getD] using this
theorem turned_at (sk l : List Int) (j : Nat) (h : j < l.length) : (turnedF sk l).getD j 0 = bits .xor .u8 ((shakeF sk l.length).getD j 0) (l.getD j 0) := by
  unfold turnedF
  exact xorK_at _ _ _ _ h (by rw [shakeF_length]; exact h)
theorem turned_bytes (sk l : List Int) : Bytes (turnedF sk l) := by
  intro j h
  rw [turnedF_length] at h
  rw [turned_at sk l j h]
  exact xor_range _ _
/-- What is turned twice is as it was. -/
theorem turned_back (sk l : List Int) (h : Bytes l) : turnedF sk (turnedF sk l) = l := by
  apply ext_getD (by rw [turnedF_length, turnedF_length])
  intro j hj
  rw [turnedF_length, turnedF_length] at hj
  rw [turned_at sk _ j (by rw [turnedF_length]; exact hj), turnedF_length, turned_at sk l j hj]
  exact xor_back _ _ (h j hj).1 (h j hj).2

end Go.Proofs.YtlmcpnicjdcmdaaDoor
