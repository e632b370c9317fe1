/- SHA-256's words: turns, a block's words. -/
import Derived.Test.YtlmcpnicjdcmdaaDoorL
import Derived.Deep.DeepMust
set_option linter.unusedVariables false
set_option linter.unusedSimpArgs false
namespace Go.Proofs.YtlmcpnicjdcmdaaDoor
open Go Go.RowKit Go.BigFrame

def rotl32 (x : Int) (s : Nat) : Int := bits .or .u32 (x * 2 ^ s % 4294967296) (x / 2 ^ (32 - s))
def rotr32 (x : Int) (n : Nat) : Int := rotl32 x (32 - n)

set_option maxRecDepth 100000 in
theorem rotl32_calls (x k : Int) (s : Nat) (w : World) (hs : s < 32) (hk : bits .and .u64 (IntKind.u64.wrap k) 31 = s) :
    Calls Tryd.prog 62 #[.int .u32 x, .int .i64 k] w fun e w' => e = .returned (.int .u32 (rotl32 x s)) ∧ w = w' := by
  go_enter Tryd.func62, Tryd.ntmps62
  go_wp2
  go_ret
  exact ⟨rfl, rfl⟩

theorem neg_and31 : ∀ n : Fin 32, 0 < n.val → bits .and .u64 (IntKind.u64.wrap (-(n.val : Int))) 31 = ((32 - n.val : Nat) : Int) := by decide +kernel

set_option maxRecDepth 100000 in
theorem right_calls (x n : Int) (h0 : 0 < n) (h1 : n < 32) (w : World) :
    Calls Tryd.prog 56 #[.int .u32 x, .int .i64 n] w fun e w' => e = .returned (.int .u32 (rotr32 x n.toNat)) ∧ w = w' := by
  obtain ⟨n, rfl⟩ := Int.eq_ofNat_of_zero_le (Int.le_of_lt h0)
  have hk := neg_and31 ⟨n, by omega⟩ (show 0 < n by omega)
  have HK := Lib.hid hk
  clear hk
  go_enter Tryd.func56, Tryd.ntmps56
  go_wp2_with fail
  refine (rotl32_calls _ _ (32 - n) _ (by omega) HK.out).mono ?_
  rintro e w' ⟨rfl, rfl⟩
  go_wp2
  go_ret
  exact ⟨rfl, rfl⟩
/-! ### a block's words -/
/-- Four bytes as a word, the highest first. -/
def be32 (l : List Int) (i : Nat) : Int :=
  bits .or .u32 (bits .or .u32 (bits .or .u32 (l.getD (4 * i) 0 % 4294967296 * 16777216 % 4294967296) (l.getD (4 * i + 1) 0 % 4294967296 * 65536 % 4294967296))
    (l.getD (4 * i + 2) 0 % 4294967296 * 256 % 4294967296)) (l.getD (4 * i + 3) 0 % 4294967296)
def sg0 (x : Int) : Int := bits .xor .u32 (bits .xor .u32 (rotr32 x 7) (rotr32 x 18)) (x / 8)
def sg1 (x : Int) : Int := bits .xor .u32 (bits .xor .u32 (rotr32 x 17) (rotr32 x 19)) (x / 1024)
def nextWord (w16 w7 w15 w2 : Int) : Int := (w16 + w7 + sg0 w15 + sg1 w2) % 4294967296
/-- The first 16 words of a block are laid, i of them. -/
def lay16 (l : List Int) : Nat → List Int
  | 0 => List.replicate 64 0
  | i + 1 => (lay16 l i).set i (be32 l i)
def lay64 (l : List Int) : Nat → List Int
  | 0 => lay16 l 16
  | i + 1 => (lay64 l i).set (16 + i) (nextWord ((lay64 l i).getD i 0) ((lay64 l i).getD (16 + i - 7) 0) ((lay64 l i).getD (16 + i - 15) 0) ((lay64 l i).getD (16 + i - 2) 0))
def wordsOf (l : List Int) : List Int := lay64 l 48
theorem lay16_length (l : List Int) (i : Nat) : (lay16 l i).length = 64 := by
  induction i with
  | zero => rfl
  | succ i ih => simp [lay16, ih]
theorem lay64_length (l : List Int) (i : Nat) : (lay64 l i).length = 64 := by
  induction i with
  | zero => exact lay16_length l 16
  | succ i ih => simp [lay64, ih]
theorem wordsOf_length (l : List Int) : (wordsOf l).length = 64 := lay64_length l 48

theorem info_w64 : (Tryd.prog.info? 79).map (·.size) = some 64 := by kernel_rfl

set_option maxRecDepth 100000 in
set_option maxHeartbeats 1000000 in
theorem words_calls (b off n cap : Nat) (l : List Int) (w : World) (hn : n = l.length) (hl : 64 ≤ l.length) (hm : l.length ≤ 9223372036854775807) (hR : Rd .u8 w (some ⟨b, off, none⟩) l) :
    Calls Tryd.prog 55 #[.slice (some ⟨b, off, none⟩) n cap] w fun e w' => e = .returned (.agg (ints .u32 (wordsOf l)).toArray) ∧ Below w.heap.size w w' := by
  obtain ⟨b', off', he, hlt', hc⟩ := hR.at_ (by omega)
  obtain ⟨rfl, rfl⟩ : b = b' ∧ off = off' := by simpa using he
  have HC := Lib.hid hc
  have HN := Lib.hid hn
  have hn2 : 64 ≤ n := by omega
  have hn3 : n ≤ 9223372036854775807 := by omega
  clear hc hn hR he hl hm
  go_enter Tryd.func55, Tryd.ntmps55
  go_wp2
  go_loopw [4, 8] (fun _ c wr => ∃ i : Nat, i ≤ 16 ∧ c = .int .i64 i ∧ Below w.heap.size w wr ∧ Arr wr w.heap.size 79 .u32 (List.replicate 64 0) ∧ Arr wr (w.heap.size + 1) 79 .u32 (lay16 l i)) (fun _ c _ => 16 - (intOf c).toNat)
  case atStart =>
    refine ⟨0, by omega, rfl, (((Below.refl _ _).alloc (Nat.le_refl _) _).alloc (by simp) _), Arr.alloc (Arr.lit ?_ rfl) _, Arr.lit ?_ (by simp)⟩
    · rfl
    · rfl
  case round =>
    obtain ⟨i, hi, rfl, hb, hA, hB⟩ := hrel
    by_cases hlt : i < 16
    · have c0 := cell_below hb hlt' (HC.out (4 * i) (by have := HN.out; omega))
      have c1 := cell_below hb hlt' (HC.out (4 * i + 1) (by have := HN.out; omega))
      have c2 := cell_below hb hlt' (HC.out (4 * i + 2) (by have := HN.out; omega))
      have c3 := cell_below hb hlt' (HC.out (4 * i + 3) (by have := HN.out; omega))
      have d0 := hB.cell i (by rw [lay16_length]; omega)
      have d1 := hB.free i
      have HB := Lib.hid hb
      have HA := Lib.hid hA
      have HBB := Lib.hid hB
      clear hb hA hB
      go_wp2
      refine wp_region_quiet_tail 35 (by kernel_rfl) (by kernel_rfl) ?_
      simp only [List.take_succ_cons, List.take_zero, List.drop_succ_cons, List.drop_zero]
      repeat (go_big_quiet_step (fail))
      refine wpQuiet_nil ?_
      intro _ hw'
      obtain ⟨nq, hw''⟩ := hw'
      subst hw''
      go_wp2
      go_roundw
      case rel =>
        refine ⟨i + 1, by omega, by go_num, below_set (below_drewN HB.out nq) _ (by simp) _, (HA.out.drewN nq).other (by simp) _, ?_⟩
        exact (HBB.out.drewN nq).set i _
      case measure => simp [intOf]; omega
    · obtain rfl : i = 16 := by omega
      have HB := Lib.hid hb
      have HA := Lib.hid hA
      have HBB := Lib.hid hB
      clear hb hA hB
      go_wp2
      go_loopw [5, 6, 7] (fun c _ _ wr => ∃ i : Nat, i ≤ 48 ∧ c = .int .i64 (16 + i : Nat) ∧ Below w.heap.size w wr ∧ Arr wr w.heap.size 79 .u32 (List.replicate 64 0) ∧ Arr wr (w.heap.size + 1) 79 .u32 (lay64 l i)) (fun c _ _ _ => 64 - (intOf c).toNat)
      case atStart => exact ⟨0, by omega, by go_num, HB.out, HA.out, HBB.out⟩
      case round =>
        clear HB HA HBB
        obtain ⟨i, hi, rfl, hb, hA, hB⟩ := hrel
        by_cases hlt : i < 48
        · have c0 := hB.cell (16 + i - 15) (by rw [lay64_length]; omega)
          have c1 := hB.cell (16 + i - 2) (by rw [lay64_length]; omega)
          have c2 := hB.cell i (by rw [lay64_length]; omega)
          have c3 := hB.cell (16 + i - 7) (by rw [lay64_length]; omega)
          have d0 := hB.cell (16 + i) (by rw [lay64_length]; omega)
          have d1 := hB.free (16 + i)
          have HB := Lib.hid hb
          have HA := Lib.hid hA
          have HBB := Lib.hid hB
          clear hb hA hB
          go_wp2
          go_quiet (fail)
          go_wp2
          refine wp_region_quiet_tail 29 (by kernel_rfl) (by kernel_rfl) ?_
          simp only [List.take_succ_cons, List.take_zero, List.drop_succ_cons, List.drop_zero]
          repeat (go_big_quiet_step (exact calls_same (right_calls _ _ (by omega) (by omega) _) ⟨_, rfl⟩))
          refine wpQuiet_nil ?_
          intro _ hw'
          obtain ⟨nq2, hw''⟩ := hw'
          subst hw''
          go_wp2
          go_roundw
          case rel =>
            refine ⟨i + 1, by omega, by go_num, ?_, ?_, ?_⟩
            · exact below_set (below_drewN HB.out (nq + nq2)) _ (by simp) _
            · exact (HA.out.drewN (nq + nq2)).other (by simp) _
            · exact (HBB.out.drewN (nq + nq2)).set (16 + i) _
          case measure => simp [intOf]; omega
        · obtain rfl : i = 48 := by omega
          have HB := Lib.hid hb
          have HAA := Lib.hid hA
          have HBB := Lib.hid hB
          clear hb hA hB
          have hi64 : (Tryd.prog.info? 79).map (·.size) = some (ints .u32 (lay64 l 48)).toArray.size := by rw [info_w64]; simp [ints, lay64_length]
          have HI := Lib.hid hi64
          have ho64 : (ints .u32 (List.replicate 64 0)).toArray.size = (ints .u32 (lay64 l 48)).toArray.size := by simp [ints, lay64_length]
          have HO := Lib.hid ho64
          clear ho64
          clear hi64
          go_wp2_with (first
            | ((with_reducible refine gate_dst (N := 88) rfl ?_); refine wpList_load_row rfl 79 (.tmp 3) rfl _ rfl 79 (ints .u32 (lay64 l 48)).toArray (0, 0) _ HBB.out.block Tryd.underlying79 rfl HI.out ?_)
            | ((with_reducible refine gate_none rfl ?_); refine wpList_store_row rfl 79 (.tmp 2) (.tmp 88) rfl _ (ints .u32 (lay64 l 48)).toArray rfl rfl 79 _ HAA.out.block HI.out HO.out (ints_all _ _) ?_))
          exact bodyPost_ret (results_cell_row Tryd.results55 _ _ _ 79 (ints .u32 (lay64 l 48)).toArray (0, 0) _ rfl (HAA.out.row _).block Tryd.underlying79 rfl HI.out) rfl ⟨rfl, below_row HB.out _ (Nat.le_refl _) _⟩
end Go.Proofs.YtlmcpnicjdcmdaaDoor
