/- The document's SHA-256: a block changes a state as the program's does. -/
import Derived.Test.YtlmcpnicjdcmdaaDoorSd
import Derived.Test.YtlmcpnicjdcmdaaDoorKa
import Derived.Test.YtlmcpnicjdcmdaaDoorLd
set_option linter.unusedVariables false
set_option linter.unusedSimpArgs false
namespace Go.Proofs.YtlmcpnicjdcmdaaDoor
open Go Go.RowKit Go.BigFrame

theorem bits_or_comm (k : IntKind) (x y : Int) : bits .or k x y = bits .or k y x := by
  unfold bits
  simp only [BitVec.or_comm]
theorem bits_ch (k : IntKind) (m e f g : Int) (hm : BitVec.ofInt k.bits m = BitVec.allOnes k.bits) (hw : ∀ b : BitVec k.bits, BitVec.ofInt k.bits (k.wrap (b.toNat : Int)) = b) :
    bits .xor k (bits .and k e f) (bits .and k (bits .xor k m e) g) = bits .xor k g (bits .and k e (bits .xor k f g)) := by
  have h1 : ∀ x y, BitVec.ofInt k.bits (bits .and k x y) = BitVec.ofInt k.bits x &&& BitVec.ofInt k.bits y := fun x y => hw _
  have h2 : ∀ x y, BitVec.ofInt k.bits (bits .xor k x y) = BitVec.ofInt k.bits x ^^^ BitVec.ofInt k.bits y := fun x y => hw _
  have h0 : ∀ x y, bits .xor k x y = k.wrap ((BitVec.ofInt k.bits x ^^^ BitVec.ofInt k.bits y).toNat : Int) := fun x y => rfl
  rw [h0 (bits .and k e f), h0 g, h1, h1, h1, h2, h2, hm]
  congr 3
  generalize BitVec.ofInt k.bits e = a
  generalize BitVec.ofInt k.bits f = b
  generalize BitVec.ofInt k.bits g = c
  ext i hi
  simp
  cases a[i] <;> cases b[i] <;> cases c[i] <;> rfl
theorem bits_maj (k : IntKind) (a b c : Int) (hw : ∀ b : BitVec k.bits, BitVec.ofInt k.bits (k.wrap (b.toNat : Int)) = b) :
    bits .xor k (bits .xor k (bits .and k a b) (bits .and k a c)) (bits .and k b c) = bits .or k (bits .and k a b) (bits .and k c (bits .or k a b)) := by
  have h1 : ∀ x y, BitVec.ofInt k.bits (bits .and k x y) = BitVec.ofInt k.bits x &&& BitVec.ofInt k.bits y := fun x y => hw _
  have h2 : ∀ x y, BitVec.ofInt k.bits (bits .xor k x y) = BitVec.ofInt k.bits x ^^^ BitVec.ofInt k.bits y := fun x y => hw _
  have h3 : ∀ x y, BitVec.ofInt k.bits (bits .or k x y) = BitVec.ofInt k.bits x ||| BitVec.ofInt k.bits y := fun x y => hw _
  have h0 : ∀ x y, bits .xor k x y = k.wrap ((BitVec.ofInt k.bits x ^^^ BitVec.ofInt k.bits y).toNat : Int) := fun x y => rfl
  have h5 : ∀ x y, bits .or k x y = k.wrap ((BitVec.ofInt k.bits x ||| BitVec.ofInt k.bits y).toNat : Int) := fun x y => rfl
  rw [h0 (bits .xor k _ _), h5 (bits .and k a b)]
  simp only [h1, h2, h3]
  congr 3
  generalize BitVec.ofInt k.bits a = p
  generalize BitVec.ofInt k.bits b = q
  generalize BitVec.ofInt k.bits c = r
  ext i hi
  simp
  cases p[i] <;> cases q[i] <;> cases r[i] <;> rfl
theorem wrap_bv32 (b : BitVec IntKind.u32.bits) : BitVec.ofInt IntKind.u32.bits (IntKind.u32.wrap (b.toNat : Int)) = b := by
  apply BitVec.eq_of_toNat_eq
  rw [BitVec.toNat_ofInt, IntKind.wrap_u32]
  have := b.isLt
  simp only [show IntKind.u32.bits = 32 from rfl] at this ⊢
  omega
theorem chF_ref (e f g : Int) : bits .xor .u32 (bits .and .u32 e f) (bits .and .u32 (bits .xor .u32 4294967295 e) g) = chF e f g := bits_ch .u32 4294967295 e f g (by decide) wrap_bv32
theorem majF_ref (a b c : Int) : bits .xor .u32 (bits .xor .u32 (bits .and .u32 a b) (bits .and .u32 a c)) (bits .and .u32 b c) = majF a b c := bits_maj .u32 a b c wrap_bv32
theorem turned_ref (x : Int) (n : Nat) (h : n < 32) : bits .or .u32 (x / 2 ^ n) (x * 2 ^ (32 - n) % 4294967296) = rotr32 x n := by
  unfold rotr32 rotl32
  rw [bits_or_comm, show 32 - (32 - n) = n by omega]

set_option maxRecDepth 100000 in
theorem rturned_calls (x : Int) (n : Nat) (h0 : 0 < n) (h : n < 32) (w : World) :
    Calls Tryd.prog 58 #[.int .u32 x, .int .i64 n] w (RetQ w (.int .u32 (rotr32 x n))) := by
  have ht := Lib.hid (turned_ref x n h)
  go_enter Tryd.func58, Tryd.ntmps58
  go_wp2_with fail
  go_quiet (fail)
  go_wp2_with fail
  go_ret
  refine ⟨?_, nq, rfl⟩
  show Ending.returned (.int .u32 (bits .or .u32 (x / 2 ^ n) (x * 2 ^ (32 - n) % 4294967296))) = _
  rw [ht.out]

set_option maxRecDepth 100000 in
set_option maxHeartbeats 4000000 in
theorem rconst_calls (w : World) : Calls Tryd.prog 57 #[] w fun e w' => e = .returned (.agg (ints .u32 K256).toArray) ∧ Below w.heap.size w w' := by
  go_enter Tryd.func57, Tryd.ntmps57
  go_wp2_with ((with_reducible refine gate_none rfl ?_); refine stop ?_)
  refine Stop.go ?_
  refine wpList_store_row rfl 79 (.tmp 0) (.tmp 1) rfl _ _ rfl rfl 79 _ (heap_alloc_new _ _) (by kernel_rfl) (by kernel_rfl) (by kernel_rfl) ?_
  refine stop ?_
  refine with_worldL (fun w2 => Arr w2 w.heap.size 79 .u32 K256 ∧ Below w.heap.size w w2) ⟨Arr.rowOf (Arr.lit (l := List.replicate 64 0) (by kernel_rfl) rfl) (by kernel_rfl), below_row ((Below.refl _ _).alloc (Nat.le_refl _) _) _ (Nat.le_refl _) _⟩ ?_
  rintro w2 ⟨hA, hB⟩
  have HA := Lib.hid hA
  have HB := Lib.hid hB
  clear hA hB
  go_wp2_with fail
  exact bodyPost_ret (results_cell_row Tryd.results57 _ _ _ 79 (ints .u32 K256).toArray (0, 0) _ rfl HA.out.block Tryd.underlying79 rfl info_w64) rfl ⟨rfl, HB.out⟩
end Go.Proofs.YtlmcpnicjdcmdaaDoor
