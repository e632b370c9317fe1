/- Keccak: the change of a state. -/
import Derived.Test.YtlmcpnicjdcmdaaDoorKa
import Derived.Test.YtlmcpnicjdcmdaaDoorSc
import Derived.Test.YtlmcpnicjdcmdaaDoorSd
import Derived.Laws.Cover3
set_option linter.unusedVariables false
set_option linter.unusedSimpArgs false
namespace Go.Proofs.YtlmcpnicjdcmdaaDoor
open Go Go.RowKit Go.BigFrame

def KC : List Int := [0x0000000000000001, 0x0000000000008082, 0x800000000000808a, 0x8000000080008000, 0x000000000000808b, 0x0000000080000001, 0x8000000080008081, 0x8000000000008009, 0x000000000000008a, 0x0000000000000088, 0x0000000080008009, 0x000000008000000a, 0x000000008000808b, 0x800000000000008b, 0x8000000000008089, 0x8000000000008003, 0x8000000000008002, 0x8000000000000080, 0x000000000000800a, 0x800000008000000a, 0x8000000080008081, 0x8000000000008080, 0x0000000080000001, 0x8000000080008008]
def KT : List Int := [1, 3, 6, 10, 15, 21, 28, 36, 45, 55, 2, 14, 27, 41, 56, 8, 25, 43, 62, 18, 39, 61, 20, 44]
def KP : List Int := [10, 7, 11, 17, 18, 3, 5, 16, 8, 21, 24, 4, 15, 23, 19, 13, 12, 2, 20, 14, 22, 9, 6, 1]
theorem KP_nat : ∀ i : Fin 24, KP.getD i.val 0 = ((KP.getD i.val 0).toNat : Int) ∧ (KP.getD i.val 0).toNat < 25 := by decide +kernel
theorem KT_nat : ∀ i : Fin 24, KT.getD i.val 0 = ((KT.getD i.val 0).toNat : Int) ∧ (KT.getD i.val 0).toNat < 64 := by decide +kernel
/-- What the package's tables hold. -/
structure Kkec (w : World) : Prop where
  c : ∃ T, Arr w 2 T .u64 KC
  t : ∃ T, Arr w 4 T .i64 KT
  p : ∃ T, Arr w 3 T .i64 KP
theorem Kkec.grown {w w' : World} (h : Kkec w) {B : Nat} (hg : w.grownBy w' (some B)) (h1 : B ≠ 2) (h2 : B ≠ 4) (h3 : B ≠ 3) : Kkec w' :=
  ⟨h.c.imp fun _ h => h.grown hg (fun e => h1 (by injection e with e; exact e.symm)), h.t.imp fun _ h => h.grown hg (fun e => h2 (by injection e with e; exact e.symm)), h.p.imp fun _ h => h.grown hg (fun e => h3 (by injection e with e; exact e.symm))⟩

def sumsK (l : List Int) : Nat → List Int
  | 0 => [0, 0, 0, 0, 0]
  | k + 1 => (sumsK l k).set (k % 5) (bits .xor .u64 ((sumsK l k).getD (k % 5) 0) (l.getD k 0))
theorem sumsK_length (l : List Int) (k : Nat) : (sumsK l k).length = 5 := by
  induction k with
  | zero => rfl
  | succ k ih => simp [sumsK, ih]
def thetaK (l : List Int) : Nat → List Int
  | 0 => l
  | k + 1 => (thetaK l k).set k (bits .xor .u64 (l.getD k 0) (bits .xor .u64 ((sumsK l 25).getD ((k + 4) % 5) 0) (rotl64 ((sumsK l 25).getD ((k + 1) % 5) 0) 1)))
theorem thetaK_length (l : List Int) (k : Nat) : (thetaK l k).length = l.length := by
  induction k with
  | zero => rfl
  | succ k ih => simp [thetaK, ih]
theorem thetaK_get (l : List Int) (i j : Nat) (h : i ≤ j) : (thetaK l i).getD j 0 = l.getD j 0 := by
  induction i with
  | zero => rfl
  | succ i ih =>
    rw [thetaK]
    simp only [List.getD_eq_getElem?_getD] at ih ⊢
    rw [List.getElem?_set_ne (by omega), ih (by omega)]
def rhopiK (l : List Int) : Nat → Int × List Int
  | 0 => (l.getD 1 0, l)
  | k + 1 => ((rhopiK l k).2.getD (KP.getD k 0).toNat 0, (rhopiK l k).2.set (KP.getD k 0).toNat (rotl64 (rhopiK l k).1 (KT.getD k 0).toNat))
theorem rhopiK_length (l : List Int) (k : Nat) : (rhopiK l k).2.length = l.length := by
  induction k with
  | zero => rfl
  | succ k ih => simp [rhopiK, ih]
def chiRow (l : List Int) (y : Nat) : Nat → List Int
  | 0 => l
  | x + 1 => (chiRow l y x).set (5 * y + x) (bits .xor .u64 (l.getD (5 * y + x) 0) (bits .and .u64 (bits .xor .u64 18446744073709551615 (l.getD (5 * y + (x + 1) % 5) 0)) (l.getD (5 * y + (x + 2) % 5) 0)))
theorem chiRow_length (l : List Int) (y x : Nat) : (chiRow l y x).length = l.length := by
  induction x with
  | zero => rfl
  | succ x ih => simp [chiRow, ih]
def chiK (l : List Int) : Nat → List Int
  | 0 => l
  | y + 1 => chiRow (chiK l y) y 5
theorem chiK_length (l : List Int) (y : Nat) : (chiK l y).length = l.length := by
  induction y with
  | zero => rfl
  | succ y ih => rw [chiK, chiRow_length, ih]
def roundK (c : Int) (l : List Int) : List Int := (chiK (rhopiK (thetaK l 25) 24).2 5).set 0 (bits .xor .u64 ((chiK (rhopiK (thetaK l 25) 24).2 5).getD 0 0) c)
theorem roundK_length (c : Int) (l : List Int) : (roundK c l).length = l.length := by unfold roundK; rw [List.length_set, chiK_length, rhopiK_length, thetaK_length]
def changeN (l : List Int) : Nat → List Int
  | 0 => l
  | i + 1 => roundK (KC.getD i 0) (changeN l i)
theorem changeN_length (l : List Int) (i : Nat) : (changeN l i).length = l.length := by
  induction i with
  | zero => rfl
  | succ i ih => rw [changeN, roundK_length, ih]
def changeF (l : List Int) : List Int := changeN l 24

/-- What is known while a state is changed. -/
structure KS (w : World) (B T : Nat) (a b : Value) (post : List Value) (L : List Int) (wr : World) : Prop where
  m : Mid wr B T .u64 [a, b] L post
  len : L.length = 25
  k : Kkec wr
  g : w.grownBy wr (some B)
  h1 : B ≠ 2
  h2 : B ≠ 4
  h3 : B ≠ 3
  lt : 2 < w.heap.size ∧ 4 < w.heap.size ∧ 3 < w.heap.size ∧ B < w.heap.size
section
variable {w wr : World} {B T : Nat} {a b : Value} {post : List Value} {L : List Int}
theorem KS.cell (h : KS w B T a b post L wr) (i : Nat) (hi : i < 25) : wr.cell? ⟨B, 2 + i, none⟩ = some (.int .u64 (L.getD i 0)) := h.m.cell i (by rw [h.len]; exact hi)
theorem KS.free (h : KS w B T a b post L wr) (i : Nat) : wr.frozen? ⟨B, i, none⟩ = false := h.m.free i
theorem KS.set (h : KS w B T a b post L wr) (i : Nat) (hi : i < 25) (x : Int) : KS w B T a b post (L.set i x) (wr.setCell ⟨B, 2 + i, none⟩ (.int .u64 x)) :=
  ⟨h.m.set i (by rw [h.len]; exact hi) x, by rw [List.length_set]; exact h.len, h.k.grown (grown_set _ _ _) h.h1 h.h2 h.h3, grown_trans h.g (grown_set _ _ _), h.h1, h.h2, h.h3, h.lt⟩
theorem KS.setNew (h : KS w B T a b post L wr) (S i : Nat) (hS : w.heap.size ≤ S) (v : Value) : KS w B T a b post L (wr.setCell ⟨S, i, none⟩ v) :=
  ⟨h.m.other (by have := h.lt; show S ≠ B; omega) v, h.len, h.k.grown (grown_set _ ⟨S, i, none⟩ _) (by have := h.lt; show S ≠ _; omega) (by have := h.lt; show S ≠ _; omega) (by have := h.lt; show S ≠ _; omega),
    ⟨h.g.os, h.g.tape, h.g.output, by simpa [World.setCell] using h.g.size, fun j hj hne => (Below.heap_setCell _ _ _ _ (by show j ≠ S; omega)).trans (h.g.block j hj hne)⟩, h.h1, h.h2, h.h3, h.lt⟩
theorem KS.drewN (h : KS w B T a b post L wr) (n : Nat) : KS w B T a b post L (wr.drewN n) := ⟨h.m.drewN n, h.len, ⟨h.k.c.imp fun _ h => h.drewN n, h.k.t.imp fun _ h => h.drewN n, h.k.p.imp fun _ h => h.drewN n⟩, grown_trans h.g (grown_drewN _ _ _), h.h1, h.h2, h.h3, h.lt⟩
theorem KS.alloc (h : KS w B T a b post L wr) (o : Obj) : KS w B T a b post L (wr.alloc o) := ⟨h.m.alloc o, h.len, ⟨h.k.c.imp fun _ h => h.alloc o, h.k.t.imp fun _ h => h.alloc o, h.k.p.imp fun _ h => h.alloc o⟩, grown_trans h.g (grown_new _ _ _), h.h1, h.h2, h.h3, h.lt⟩
theorem KS.size (h : KS w B T a b post L wr) : w.heap.size ≤ wr.heap.size := h.g.size
end

theorem rotl64_one (x : Int) (w : World) : Calls Tryd.prog 66 #[.int .u64 x, .int .i64 1] w fun e w' => e = .returned (.int .u64 (rotl64 x 1)) ∧ w = w' := rotl64_calls x 1 w (by decide)
def rowY (l : List Int) (y : Nat) : List Int := [l.getD (5 * y) 0, l.getD (5 * y + 1) 0, l.getD (5 * y + 2) 0, l.getD (5 * y + 3) 0, l.getD (5 * y + 4) 0]
theorem rowY_get (l : List Int) (y x : Nat) (h : x < 5) : (rowY l y).getD x 0 = l.getD (5 * y + x) 0 := by
  match x, h with
  | 0, _ => rfl
  | 1, _ => rfl
  | 2, _ => rfl
  | 3, _ => rfl
  | 4, _ => rfl
theorem arrayLen_state : Tryd.prog.arrayLen 72 = 25 := by kernel_rfl
theorem slice_five (y : Nat) (hy : y < 5) (B : Nat) (w : World) :
    (Instr.sliceAt 72 (.pointer (some ⟨B, 2, none⟩)) (some (.int .i64 (5 * (y : Int)))) (some (.int .i64 (5 * (y : Int) + 5))) none).run Tryd.prog w = .ok (.slice (some ⟨B, 2 + 5 * y, none⟩) 5 (25 - 5 * y)) w := by
  have h := run_sliceAt_array_lh (P := Tryd.prog) w 72 ⟨B, 2, none⟩ (by kernel_rfl) .i64 .i64 (5 * (y : Int)) (5 * (y : Int) + 5) (by omega) (by omega) (by rw [arrayLen_state]; omega)
  have hs : (sizeOf (Tryd.prog.elem 72)).run Tryd.prog w = .ok 1 w := by
    have : Tryd.prog.elem 72 = 65 := by kernel_rfl
    rw [this]
    go_simp
  rw [hs] at h
  rw [h]
  have e1 : (5 * (y : Int)).toNat = 5 * y := by omega
  have e2 : (5 * (y : Int) + 5).toNat = 5 * y + 5 := by omega
  simp only [Result.andThen, slicedAt, e1, e2, arrayLen_state]
  rw [if_neg (by omega), Nat.add_sub_cancel_left]
  simp [Addr.add]
theorem info_w24 : (Tryd.prog.info? 91).map (·.size) = some 24 := by kernel_rfl
theorem info_p24 : (Tryd.prog.info? 95).map (·.size) = some 24 := by kernel_rfl

set_option maxRecDepth 100000 in
set_option maxHeartbeats 1000000 in
theorem change_calls (w : World) (B T : Nat) (a b : Value) (l : List Int) (post : List Value) (hM : Mid w B T .u64 [a, b] l post) (hl : l.length = 25) (hK : Kkec w) (h1 : B ≠ 2) (h2 : B ≠ 4) (h3 : B ≠ 3) :
    Calls Tryd.prog 61 #[.pointer (some ⟨B, 2, none⟩)] w fun e w' => e = .returned (.tuple #[]) ∧ Mid w' B T .u64 [a, b] (changeF l) post ∧ w.grownBy w' (some B) := by
  have hi24 : (Tryd.prog.info? 91).map (·.size) = some (ints .u64 KC).toArray.size := by rw [info_w24]; rfl
  have HI := Lib.hid hi24
  have hip24 : (Tryd.prog.info? 95).map (·.size) = some (ints .i64 KP).toArray.size := by rw [info_p24]; rfl
  have HIP := Lib.hid hip24
  clear hip24
  have HK := Lib.hid hK
  have HM := Lib.hid hM
  clear hi24 hK hM
  obtain ⟨kc, hkc⟩ : ∃ kc, kc = ints .u64 KC := ⟨_, rfl⟩
  go_enter Tryd.func61, Tryd.ntmps61
  go_wp2_with ((with_reducible refine gate_dst (N := 14) rfl ?_); refine stop ?_)
  refine Stop.go ?_
  obtain ⟨Tc, hKc⟩ := HK.out.c
  obtain ⟨Tp, hKp⟩ := HK.out.p
  obtain ⟨Tt, hKt⟩ := HK.out.t
  refine wpList_load_row rfl 91 (.global 2) rfl _ rfl Tc (ints .u64 KC).toArray (0, 0) _ hKc.block Tryd.underlying91 rfl HI.out ?_
  obtain ⟨V, hV⟩ : ∃ V, V = Value.agg (ints .u64 KC).toArray := ⟨_, rfl⟩
  rw [← hV]
  have HV := Lib.hid hV
  have hks : KS w B T a b post (changeN l 0) w := ⟨HM.out, hl, HK.out, grown_refl _ _, h1, h2, h3, hKc.lt, hKt.lt, hKp.lt, HM.out.lt⟩
  have HKS := Lib.hid hks
  clear hV hkc hks hKc hKp hKt
  clear kc
  go_wp2_with fail
  go_loopw [15] (fun s wr => ∃ i, i ≤ 24 ∧ s = .int .i64 (i : Nat) ∧ KS w B T a b post (changeN l i) wr) (fun s _ => 24 - (intOf s).toNat)
  case atStart => exact ⟨0, by decide, rfl, HKS.out⟩
  case round =>
    clear HKS
    obtain ⟨i, hi, rfl, hks⟩ := hrel
    by_cases hi24 : i < 24
    · have hix : ∀ w, (Instr.index 91 V (.int .i64 i)).run Tryd.prog w = .ok (.int .u64 (KC.getD i 0)) w := by
        intro w
        rw [HV.out]
        exact run_index_ints (l := KC) (n := 24) w Tryd.underlying91 Tryd.underlying65 (by kernel_rfl) rfl hi24
      obtain ⟨kc, hkc⟩ : ∃ kc, kc = KC.getD i 0 := ⟨_, rfl⟩
      rw [← hkc] at hix
      obtain ⟨L, hL⟩ : ∃ L, L = changeN l i := ⟨_, rfl⟩
      rw [← hL] at hks
      have HL := Lib.hid hL
      have HKC := Lib.hid hkc
      have HKS := Lib.hid hks
      clear hL hkc hks
      go_wp2_with fail
      obtain ⟨S, hS⟩ : ∃ S, S = wr.heap.size := ⟨_, rfl⟩
      rw [← hS]
      have hSw : w.heap.size ≤ S := by rw [hS]; exact HKS.out.size
      have HI24 := Lib.hid hi24
      refine with_world (fun w2 => KS w B T a b post L w2 ∧ Arr w2 S 83 .u64 (sumsK L 0)) ⟨HKS.out.alloc _, Arr.lit rfl hS⟩ ?_
      generalize (decide ((i : Int) < 24)) = q16
      clear hi24 hix hS HKS
      rintro w2 ⟨hks, hA⟩
      have HKS := Lib.hid hks
      have HA := Lib.hid hA
      clear hks hA
      go_loopw [5, 6, 19] (fun _ _ s wr => ∃ k, k ≤ 25 ∧ s = .int .i64 (k : Nat) ∧ KS w B T a b post L wr ∧ Arr wr S 83 .u64 (sumsK L k)) (fun _ _ s _ => 25 - (intOf s).toNat)
      case atStart => exact ⟨0, by decide, rfl, HKS.out, HA.out⟩
      case round =>
        clear HKS HA
        obtain ⟨k, hk, rfl, hks, hA⟩ := hrel
        by_cases hk25 : k < 25
        · have c0 := hks.cell k hk25
          have c1 := hA.cell (k % 5) (by rw [sumsK_length]; omega)
          have c2 := hA.free (k % 5)
          have HKS := Lib.hid hks
          have HA := Lib.hid hA
          clear hks hA
          go_wp2_with fail
          go_quiet (fail)
          go_wp2_with fail
          go_roundw
          case rel => exact ⟨k + 1, by omega, by go_num, (HKS.out.drewN nq).setNew S _ hSw _, (HA.out.drewN nq).set (k % 5) _⟩
          case measure => simp [intOf]; omega
        · obtain rfl : k = 25 := by omega
          have HKS := Lib.hid hks
          have HA := Lib.hid hA
          clear hks hA
          go_wp2_with fail
          go_loopw [7, 33] (fun _ s wr => ∃ k, k ≤ 25 ∧ s = .int .i64 (k : Nat) ∧ KS w B T a b post (thetaK L k) wr ∧ Arr wr S 83 .u64 (sumsK L 25)) (fun _ s _ => 25 - (intOf s).toNat)
          case atStart => exact ⟨0, by decide, rfl, HKS.out, HA.out⟩
          case round =>
            clear HKS HA
            obtain ⟨k, hk, rfl, hks, hA⟩ := hrel
            by_cases hk25 : k < 25
            · have c0 := hks.cell k hk25
              rw [thetaK_get L k k (Nat.le_refl _)] at c0
              have f0 := hks.free (2 + k)
              have c1 := hA.cell ((k + 4) % 5) (by rw [sumsK_length]; omega)
              have c2 := hA.cell ((k + 1) % 5) (by rw [sumsK_length]; omega)
              have HKS := Lib.hid hks
              have HA := Lib.hid hA
              clear hks hA
              go_wp2_with fail
              refine wp_region_quiet_tail 20 (by kernel_rfl) (by kernel_rfl) ?_
              simp only [List.take_succ_cons, List.take_zero, List.drop_succ_cons, List.drop_zero]
              repeat (go_big_quiet_step (exact calls_same (rotl64_one _ _) ⟨_, rfl⟩))
              refine wpQuiet_nil ?_
              intro _ hw'
              obtain ⟨nq, hw''⟩ := hw'
              subst hw''
              go_wp2_with fail
              go_roundw
              case rel =>
                exact ⟨k + 1, by omega, by go_num, (HKS.out.drewN nq).set k hk25 _, (HA.out.drewN nq).other (by have := HKS.out.lt; show B ≠ S; omega) _⟩
              case measure => simp [intOf]; omega
            · obtain rfl : k = 25 := by omega
              have c1 := hks.cell 1 (by decide)
              have HKS := Lib.hid hks
              clear hks hA
              go_wp2_with ((with_reducible refine gate_dst (N := 61) rfl ?_); refine stop ?_)
              refine Stop.go ?_
              obtain ⟨Tp, hKp⟩ := HKS.out.k.p
              refine wpList_load_row rfl 95 (.global 3) rfl _ rfl Tp (ints .i64 KP).toArray (0, 0) _ hKp.block Tryd.underlying95 rfl HIP.out ?_
              obtain ⟨V2, hV2⟩ : ∃ V2, V2 = Value.agg (ints .i64 KP).toArray := ⟨_, rfl⟩
              rw [← hV2]
              have HV2 := Lib.hid hV2
              obtain ⟨M, hM⟩ : ∃ M, M = thetaK L 25 := ⟨_, rfl⟩
              rw [← hM] at c1 ⊢
              have hks := HKS.out
              rw [← hM] at hks
              clear HKS
              have HKS := Lib.hid hks
              have HMM := Lib.hid hM
              clear hV2 hM hks hKp
              go_wp2_with fail
              clear c1
              go_loopw [8, 9, 10, 62] (fun h _ _ s wr => ∃ k, k ≤ 24 ∧ s = .int .i64 (k : Nat) ∧ h = .int .u64 (rhopiK M k).1 ∧ KS w B T a b post (rhopiK M k).2 wr) (fun _ _ _ s _ => 24 - (intOf s).toNat)
              case atStart => exact ⟨0, by decide, rfl, rfl, HKS.out⟩
              case round =>
                clear HKS
                obtain ⟨k, hk, rfl, rfl, hks⟩ := hrel
                by_cases hk24 : k < 24
                · obtain ⟨hto, hto25⟩ := KP_nat ⟨k, hk24⟩
                  obtain ⟨htu, htu64⟩ := KT_nat ⟨k, hk24⟩
                  simp only at hto hto25 htu htu64
                  obtain ⟨to, hto2⟩ : ∃ to, to = (KP.getD k 0).toNat := ⟨_, rfl⟩
                  obtain ⟨tu, htu2⟩ : ∃ tu, tu = (KT.getD k 0).toNat := ⟨_, rfl⟩
                  rw [← hto2] at hto hto25
                  rw [← htu2] at htu htu64
                  have hix : ∀ w, (Instr.index 95 V2 (.int .i64 k)).run Tryd.prog w = .ok (.int .i64 (to : Int)) w := by
                    intro w
                    rw [HV2.out, ← hto]
                    exact run_index_ints (l := KP) (n := 24) w Tryd.underlying95 Tryd.underlying3 (by kernel_rfl) rfl hk24
                  have c0 := hks.cell to hto25
                  have f0 := hks.free (2 + to)
                  obtain ⟨Tt, hKt⟩ := hks.k.t
                  have c2 := hKt.cell k hk24
                  rw [htu] at c2
                  have HKS := Lib.hid hks
                  have HTO := Lib.hid hto2
                  have HTU := Lib.hid htu2
                  clear hks hKt hto htu hto2 htu2
                  go_wp2_with fail
                  refine wp_region_quiet_tail 15 (by kernel_rfl) (by kernel_rfl) ?_
                  simp only [List.take_succ_cons, List.take_zero, List.drop_succ_cons, List.drop_zero]
                  repeat (go_big_quiet_step (exact calls_same (rotl64_calls _ _ _ htu64) ⟨_, rfl⟩))
                  refine wpQuiet_nil ?_
                  intro _ hw'
                  obtain ⟨nq, hw''⟩ := hw'
                  subst hw''
                  go_wp2_with fail
                  go_roundw
                  case rel =>
                    have hs := (HKS.out.drewN nq).set to hto25 (rotl64 (rhopiK M k).1 tu)
                    exact ⟨k + 1, by omega, by go_num, by rw [rhopiK, ← HTO.out]; rfl, by rw [rhopiK, ← HTO.out, ← HTU.out]; exact hs⟩
                  case measure => simp [intOf]; omega
                · obtain rfl : k = 24 := by omega
                  have HKS := Lib.hid hks
                  clear hks
                  go_wp2_with fail
                  obtain ⟨N, hN⟩ : ∃ N, N = (rhopiK M 24).2 := ⟨_, rfl⟩
                  have hks := HKS.out
                  rw [← hN] at hks
                  clear HKS
                  have HKS := Lib.hid hks
                  have HNN := Lib.hid hN
                  clear hN hks
                  generalize (Value.int IntKind.u64 (rhopiK M 24).1) = q8
                  go_loopw [11] (fun s wr => ∃ y, y ≤ 5 ∧ s = .int .i64 (5 * (y : Nat)) ∧ KS w B T a b post (chiK N y) wr) (fun s _ => 25 - (intOf s).toNat)
                  case atStart => exact ⟨0, by decide, rfl, HKS.out⟩
                  case round =>
                    clear HKS
                    obtain ⟨y, hy, rfl, hks⟩ := hrel
                    by_cases hy5 : y < 5
                    · obtain ⟨Y, hY⟩ : ∃ Y, Y = chiK N y := ⟨_, rfl⟩
                      rw [← hY] at hks
                      have d0 := hks.cell (5 * y) (by omega)
                      have d1 := hks.cell (5 * y + 1) (by omega)
                      have d2 := hks.cell (5 * y + 2) (by omega)
                      have d3 := hks.cell (5 * y + 3) (by omega)
                      have d4 := hks.cell (5 * y + 4) (by omega)
                      rw [← Nat.add_assoc] at d1 d2 d3 d4
                      have hsl := fun w => slice_five y hy5 B w
                      have har := fun w => run_arrayAt (P := Tryd.prog) (w := w) 83 65 5 (some ⟨B, 2 + 5 * y, none⟩) 5 (25 - 5 * y) Tryd.underlying83 (Nat.le_refl _)
                      have HKS := Lib.hid hks
                      have HY := Lib.hid hY
                      clear hks hY
                      go_wp2_with fail
                      obtain ⟨R, hR⟩ : ∃ R, R = wr.heap.size := ⟨_, rfl⟩
                      rw [← hR]
                      have hRw : w.heap.size ≤ R := by rw [hR]; exact HKS.out.size
                      refine with_world (fun w2 => KS w B T a b post (chiRow Y y 0) w2 ∧ Arr w2 R 83 .u64 (rowY Y y)) ⟨HKS.out.alloc _, Arr.lit rfl hR⟩ ?_
                      clear hsl har d0 d1 d2 d3 d4 hR HKS
                      rintro w2 ⟨hks, hA⟩
                      have HKS := Lib.hid hks
                      have HA := Lib.hid hA
                      clear hks hA
                      generalize (decide (5 * (y : Int) < 25)) = q82
                      go_loopw [13, 93] (fun _ s wr => ∃ x, x ≤ 5 ∧ s = .int .i64 (x : Nat) ∧ KS w B T a b post (chiRow Y y x) wr ∧ Arr wr R 83 .u64 (rowY Y y)) (fun _ s _ => 5 - (intOf s).toNat)
                      case atStart => exact ⟨0, by decide, rfl, HKS.out, HA.out⟩
                      case round =>
                        clear HKS HA
                        obtain ⟨x, hx, rfl, hks, hA⟩ := hrel
                        by_cases hx5 : x < 5
                        · have c0 := hA.cell x hx5
                          have c1 := hA.cell ((x + 1) % 5) (Nat.mod_lt _ (by decide))
                          have c2 := hA.cell ((x + 2) % 5) (Nat.mod_lt _ (by decide))
                          have e0 := hks.cell (5 * y + x) (by omega)
                          have f0 := hks.free (2 + (5 * y + x))
                          rw [rowY_get Y y _ hx5] at c0
                          rw [rowY_get Y y _ (Nat.mod_lt _ (by decide))] at c1 c2
                          have HKS := Lib.hid hks
                          have HA := Lib.hid hA
                          clear hks hA
                          go_wp2_with fail
                          refine wp_region_quiet_tail 22 (by kernel_rfl) (by kernel_rfl) ?_
                          simp only [List.take_succ_cons, List.take_zero, List.drop_succ_cons, List.drop_zero]
                          repeat (go_big_quiet_step (fail))
                          refine wpQuiet_nil ?_
                          intro _ hw'
                          obtain ⟨nq, hw''⟩ := hw'
                          subst hw''
                          go_wp2_with fail
                          go_roundw
                          case rel =>
                            exact ⟨x + 1, by omega, by go_num, (HKS.out.drewN nq).set (5 * y + x) (by omega) _, (HA.out.drewN nq).other (by have := HKS.out.lt; show B ≠ R; omega) _⟩
                          case measure => simp [intOf]; omega
                        · obtain rfl : x = 5 := by omega
                          have HKS := Lib.hid hks
                          clear hks hA
                          go_wp2_with fail
                          go_roundw
                          case rel => exact ⟨y + 1, by omega, by go_num, by rw [chiK, ← HY.out]; exact HKS.out⟩
                          case measure => simp [intOf]; omega
                    · obtain rfl : y = 5 := by omega
                      obtain ⟨Y, hY⟩ : ∃ Y, Y = chiK N 5 := ⟨_, rfl⟩
                      rw [← hY] at hks
                      have c0 : wr.cell? ⟨B, 2, none⟩ = some (.int .u64 (Y.getD 0 0)) := hks.cell 0 (by decide)
                      have f0 := hks.free 2
                      have HKS := Lib.hid hks
                      have HY := Lib.hid hY
                      clear hks hY
                      go_wp2_with fail
                      refine wp_region_quiet_tail 8 (by kernel_rfl) (by kernel_rfl) ?_
                      simp only [List.take_succ_cons, List.take_zero, List.drop_succ_cons, List.drop_zero]
                      repeat (go_big_quiet_step (fail))
                      refine wpQuiet_nil ?_
                      intro _ hw'
                      obtain ⟨nq, hw''⟩ := hw'
                      subst hw''
                      go_wp2_with fail
                      go_roundw
                      case rel =>
                        have hs := (HKS.out.drewN nq).set 0 (by decide) (bits .xor .u64 (Y.getD 0 0) kc)
                        have he : changeN l (i + 1) = Y.set 0 (bits .xor .u64 (Y.getD 0 0) kc) := by
                          rw [changeN, roundK, ← HL.out, ← HMM.out, ← HNN.out, ← HY.out, ← HKC.out]
                        exact ⟨i + 1, by have := HI24.out; omega, by go_num, by rw [he]; exact hs⟩
                      case measure => have := HI24.out; simp [intOf]; omega
    · obtain rfl : i = 24 := by omega
      have HKS := Lib.hid hks
      clear hks
      go_wp2_with fail
      go_end0
      exact ⟨rfl, HKS.out.m, HKS.out.g⟩
end Go.Proofs.YtlmcpnicjdcmdaaDoor
