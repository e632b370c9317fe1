/- box: plain laws of what is turned; a string of bytes. -/
import Derived.Test.YtlmcpnicjdcmdaaDoorXe
set_option linter.unusedVariables false
set_option linter.unusedSimpArgs false
namespace Go.Proofs.YtlmcpnicjdcmdaaDoor
open Go Go.RowKit Go.BigFrame

theorem u8_of_bv (b : BitVec 8) : IntKind.u8.wrap (b.toNat : Int) = (b.toNat : Int) := by
  have := b.isLt
  rw [IntKind.wrap_u8]
  omega
theorem xor_u8 (x y : Int) : bits .xor .u8 x y = ((BitVec.ofInt 8 x ^^^ BitVec.ofInt 8 y).toNat : Int) := by
  show IntKind.u8.wrap _ = _
  exact u8_of_bv _
theorem ofInt_bv (b : BitVec 8) : BitVec.ofInt 8 (b.toNat : Int) = b := by
  apply BitVec.eq_of_toNat_eq
  rw [BitVec.toNat_ofInt]
  have := b.isLt
  omega
theorem xor_range (x y : Int) : 0 ≤ bits .xor .u8 x y ∧ bits .xor .u8 x y < 256 := by
  rw [xor_u8]
  have := (BitVec.ofInt 8 x ^^^ BitVec.ofInt 8 y).isLt
  omega
theorem xor_pair (s a b : Int) : bits .xor .u8 (bits .xor .u8 s a) (bits .xor .u8 s b) = bits .xor .u8 a b := by
  rw [xor_u8 (bits .xor .u8 s a), xor_u8 s a, xor_u8 s b, ofInt_bv, ofInt_bv, xor_u8 a b]
  congr 2
  generalize BitVec.ofInt 8 s = p
  generalize BitVec.ofInt 8 a = q
  generalize BitVec.ofInt 8 b = r
  ext i hi
  simp
  cases p[i] <;> cases q[i] <;> cases r[i] <;> rfl
theorem xor_back (s x : Int) (h0 : 0 ≤ x) (h1 : x < 256) : bits .xor .u8 s (bits .xor .u8 s x) = x := by
  rw [xor_u8 s (bits .xor .u8 s x), xor_u8 s x, ofInt_bv]
  have e : BitVec.ofInt 8 s ^^^ (BitVec.ofInt 8 s ^^^ BitVec.ofInt 8 x) = BitVec.ofInt 8 x := by
    generalize BitVec.ofInt 8 s = p
    generalize BitVec.ofInt 8 x = q
    ext i hi
    simp
  rw [e, BitVec.toNat_ofInt]
  omega
theorem xorK_at (s l : List Int) : ∀ (n j : Nat), j < n → j < s.length → (xorK s l n).getD j 0 = bits .xor .u8 (s.getD j 0) (l.getD j 0)
  | 0, j, h, _ => by omega
  | n + 1, j, h, hs => by
    rw [xorK]
    simp only [List.getD_eq_getElem?_getD]
    by_cases e : n = j
    · subst e
      rw [List.getElem?_set_self (by rw [xorK_length]; exact hs)]
      rfl
    · rw [List.getElem?_set_ne e]
      have := xorK_at s l n j (by omega) hs
      simpa only [List.getD_eq_getElem?_getD] using this
theorem turned_at (sk l : List Int) (j : Nat) (h : j < l.length) : (turnedF sk l).getD j 0 = bits .xor .u8 ((shakeF sk l.length).getD j 0) (l.getD j 0) := by
  unfold turnedF
  exact xorK_at _ _ _ _ h (by rw [shakeF_length]; exact h)
/-- Numbers of one byte each. -/
def Bytes (l : List Int) : Prop := ∀ j, j < l.length → 0 ≤ l.getD j 0 ∧ l.getD j 0 < 256
theorem turned_bytes (sk l : List Int) : Bytes (turnedF sk l) := by
  intro j h
  rw [turnedF_length] at h
  rw [turned_at sk l j h]
  exact xor_range _ _
theorem ext_getD {l m : List Int} (h : l.length = m.length) (hj : ∀ j, j < l.length → l.getD j 0 = m.getD j 0) : l = m := by
  apply List.ext_getElem h
  intro j h1 h2
  have := hj j h1
  simpa [List.getD_eq_getElem?_getD, h1, h2] using this
/-- What is turned twice is as it was. -/
theorem turned_back (sk l : List Int) (h : Bytes l) : turnedF sk (turnedF sk l) = l := by
  apply ext_getD (by rw [turnedF_length, turnedF_length])
  intro j hj
  rw [turnedF_length, turnedF_length] at hj
  rw [turned_at sk _ j (by rw [turnedF_length]; exact hj), turnedF_length, turned_at sk l j hj]
  exact xor_back _ _ (h j hj).1 (h j hj).2

/-- The string of bytes. -/
def strB (l : List Int) : ByteArray := l.foldl (fun r n => r.push (UInt8.ofNat n.toNat)) ByteArray.empty
section
variable {P : Program}
theorem run_string_rd (w : World) (src dst e : TypeId) (hs : P.underlying src = some (.slice e)) (he : P.underlying e = some (.int .u8)) (hd : P.underlying dst = some .string)
    (A : Option Addr) (n c : Nat) (l : List Int) (hn : n = l.length) (hR : Rd .u8 w A l) : (convert src dst (.slice A n c)).run P w = .ok (.string (strB l)) w := by
  subst hn
  rw [run_convert_bytes_string w src dst e A l.length c hs he hd]
  by_cases h0 : 0 < l.length
  · obtain ⟨b, off, rfl, _, _⟩ := hR.at_ h0
    have hl := run_loadCells_list (P := P) w ⟨b, off, none⟩ (ints .u8 l) (hR.news h0)
    rw [ints_length] at hl
    exact run_bytesToString w _ _ c l hl
  · obtain rfl : l = [] := List.eq_nil_of_length_eq_zero (by omega)
    cases A with
    | none => simp [Conv.bytesToString, strB]
    | some a =>
      have hl := run_loadCells_list (P := P) w a [] (by intro j v h; simp at h)
      exact run_bytesToString w a 0 c [] hl
end
end Go.Proofs.YtlmcpnicjdcmdaaDoor
