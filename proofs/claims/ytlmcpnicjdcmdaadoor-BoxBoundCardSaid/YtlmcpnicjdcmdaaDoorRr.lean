/- The document's sponge: the change of a state. -/
import Derived.Test.YtlmcpnicjdcmdaaDoorRu
set_option linter.unusedVariables false
set_option linter.unusedSimpArgs false
namespace Go.Proofs.YtlmcpnicjdcmdaaDoor
open Go Go.RowKit Go.BigFrame

def cR (R : List Int) : Nat → List Int
  | 0 => List.replicate 5 0
  | x + 1 => (cR R x).set x (bits .xor .u64 (bits .xor .u64 (bits .xor .u64 (bits .xor .u64 (R.getD (x * 5) 0) (R.getD (x * 5 + 1) 0)) (R.getD (x * 5 + 2) 0)) (R.getD (x * 5 + 3) 0)) (R.getD (x * 5 + 4) 0))
theorem cR_length (R : List Int) (k : Nat) : (cR R k).length = 5 := by
  induction k with
  | zero => rfl
  | succ k ih => rw [cR, List.length_set, ih]
def dR (C : List Int) (x : Nat) : Int := bits .xor .u64 (C.getD ((x + 4) % 5) 0) (rotl64 (C.getD ((x + 1) % 5) 0) 1)
def bR (R C : List Int) : Nat → List Int
  | 0 => List.replicate 25 0
  | k + 1 => (bR R C k).set (k % 5 * 5 + (2 * (k / 5) + 3 * (k % 5)) % 5) (rotl64 (bits .xor .u64 (R.getD k 0) (dR C (k / 5))) (TT.getD k 0).toNat)
theorem bR_length (R C : List Int) (k : Nat) : (bR R C k).length = 25 := by
  induction k with
  | zero => rfl
  | succ k ih => rw [bR, List.length_set, ih]
def wR (R B : List Int) : Nat → List Int
  | 0 => R
  | k + 1 => (wR R B k).set k (bits .xor .u64 (B.getD k 0) (bits .and .u64 (bits .xor .u64 IntKind.u64.max (B.getD ((k / 5 + 1) % 5 * 5 + k % 5) 0)) (B.getD ((k / 5 + 2) % 5 * 5 + k % 5) 0)))
theorem wR_length (R B : List Int) (k : Nat) : (wR R B k).length = R.length := by
  induction k with
  | zero => rfl
  | succ k ih => rw [wR, List.length_set, ih]
def roundR (c : Int) (R : List Int) : List Int := (wR R (bR R (cR R 5) 25) 25).set 0 (bits .xor .u64 ((wR R (bR R (cR R 5) 25) 25).getD 0 0) c)
theorem roundR_length (c : Int) (R : List Int) : (roundR c R).length = R.length := by unfold roundR; rw [List.length_set, wR_length]
def changeR (R : List Int) : Nat → List Int
  | 0 => R
  | i + 1 => roundR (KC.getD i 0) (changeR R i)
theorem changeR_length (R : List Int) (k : Nat) : (changeR R k).length = R.length := by
  induction k with
  | zero => rfl
  | succ k ih => rw [changeR, roundR_length, ih]

/-- What is known while the document's state changes. -/
structure C0 (w : World) (A R T L : Nat) (l : List Int) (wr : World) : Prop where
  b : Below w.heap.size w wr
  a : Arr wr A 84 .u64 l
  r : Arr wr R 84 .u64 (List.replicate 25 0)
  t : Arr wr T 89 .i64 TT
  k : Arr wr L 91 .u64 KC
  ge : w.heap.size ≤ A ∧ w.heap.size ≤ R
  ne : A ≠ R ∧ A ≠ T ∧ A ≠ L
structure CB (w : World) (A R T L C B : Nat) (l cs bs : List Int) (wr : World) : Prop where
  z : C0 w A R T L l wr
  c : Arr wr C 83 .u64 cs
  d : Arr wr B 84 .u64 bs
  ge : w.heap.size ≤ C ∧ w.heap.size ≤ B
  ne : C ≠ A ∧ C ≠ R ∧ C ≠ T ∧ C ≠ L ∧ B ≠ A ∧ B ≠ R ∧ B ≠ T ∧ B ≠ L ∧ B ≠ C
section
variable {w wr w' : World} {A R T L C B : Nat} {l cs bs : List Int}
theorem C0.drewN (h : C0 w A R T L l wr) (n : Nat) : C0 w A R T L l (wr.drewN n) := ⟨below_drewN h.b n, h.a.drewN n, h.r.drewN n, h.t.drewN n, h.k.drewN n, h.ge, h.ne⟩
theorem C0.below (h : C0 w A R T L l wr) (hb : Below wr.heap.size wr w') : C0 w A R T L l w' := ⟨h.b.trans (hb.mono h.b.size), h.a.below hb h.a.lt, h.r.below hb h.r.lt, h.t.below hb h.t.lt, h.k.below hb h.k.lt, h.ge, h.ne⟩
theorem C0.alloc (h : C0 w A R T L l wr) (o : Obj) : C0 w A R T L l (wr.alloc o) := h.below ((Below.refl _ _).alloc (Nat.le_refl _) o)
theorem C0.set (h : C0 w A R T L l wr) (V i : Nat) (hV : w.heap.size ≤ V) (ne : V ≠ A ∧ V ≠ R ∧ V ≠ T ∧ V ≠ L) (v : Value) : C0 w A R T L l (wr.setCell ⟨V, i, none⟩ v) :=
  ⟨below_set h.b _ hV _, h.a.other (p := ⟨V, i, none⟩) ne.1 _, h.r.other (p := ⟨V, i, none⟩) ne.2.1 _, h.t.other (p := ⟨V, i, none⟩) ne.2.2.1 _, h.k.other (p := ⟨V, i, none⟩) ne.2.2.2 _, h.ge, h.ne⟩
theorem C0.setA (h : C0 w A R T L l wr) (i : Nat) (x : Int) : C0 w A R T L (l.set i x) (wr.setCell ⟨A, i, none⟩ (.int .u64 x)) :=
  ⟨below_set h.b _ h.ge.1 _, h.a.set i x, h.r.other (p := ⟨A, i, none⟩) h.ne.1 _, h.t.other (p := ⟨A, i, none⟩) h.ne.2.1 _, h.k.other (p := ⟨A, i, none⟩) h.ne.2.2 _, h.ge, h.ne⟩
theorem C0.cast (h : C0 w A R T L l wr) {l2 : List Int} (e : l = l2) : C0 w A R T L l2 wr := e ▸ h
theorem CB.drewN (h : CB w A R T L C B l cs bs wr) (n : Nat) : CB w A R T L C B l cs bs (wr.drewN n) := ⟨h.z.drewN n, h.c.drewN n, h.d.drewN n, h.ge, h.ne⟩
theorem CB.setB (h : CB w A R T L C B l cs bs wr) (i : Nat) (x : Int) : CB w A R T L C B l cs (bs.set i x) (wr.setCell ⟨B, i, none⟩ (.int .u64 x)) :=
  ⟨h.z.set B i h.ge.2 ⟨h.ne.2.2.2.2.1, h.ne.2.2.2.2.2.1, h.ne.2.2.2.2.2.2.1, h.ne.2.2.2.2.2.2.2.1⟩ _, h.c.other (p := ⟨B, i, none⟩) h.ne.2.2.2.2.2.2.2.2 _, h.d.set i x, h.ge, h.ne⟩
theorem CB.setA (h : CB w A R T L C B l cs bs wr) (i : Nat) (x : Int) : CB w A R T L C B (l.set i x) cs bs (wr.setCell ⟨A, i, none⟩ (.int .u64 x)) :=
  ⟨h.z.setA i x, h.c.other (p := ⟨A, i, none⟩) h.ne.1.symm _, h.d.other (p := ⟨A, i, none⟩) h.ne.2.2.2.2.1.symm _, h.ge, h.ne⟩
theorem CB.castA (h : CB w A R T L C B l cs bs wr) {l2 : List Int} (e : l = l2) : CB w A R T L C B l2 cs bs wr := e ▸ h
theorem CB.castB (h : CB w A R T L C B l cs bs wr) {b2 : List Int} (e : bs = b2) : CB w A R T L C B l cs b2 wr := e ▸ h
end
theorem TT_nat : ∀ i : Fin 25, TT.getD i.val 0 = ((TT.getD i.val 0).toNat : Int) ∧ (TT.getD i.val 0).toNat < 64 := by decide +kernel
theorem rturn64_any (x m : Int) (h0 : 0 ≤ m) (h1 : m < 64) (w : World) : Calls Tryd.prog 65 #[.int .u64 x, .int .i64 m] w (RetQ w (.int .u64 (rotl64 x m.toNat))) := by
  obtain ⟨n, rfl⟩ : ∃ n : Nat, m = n := ⟨m.toNat, by omega⟩
  exact rturn64_calls x n w (by omega)

set_option maxRecDepth 100000 in
set_option maxHeartbeats 4000000 in
theorem rchange_calls (w : World) (l : List Int) (hl : l.length = 25) : Calls Tryd.prog 60 #[.agg (ints .u64 l).toArray] w fun e w' => e = .returned (.agg (ints .u64 (changeR l 24)).toArray) ∧ Below w.heap.size w w' := by
  have HL := Lib.hid hl
  clear hl
  go_enter Tryd.func60, Tryd.ntmps60
  go_wp2_with (go_at_call 63; refine stop ?_)
  refine with_worldC (fun w1 => Below w.heap.size w w1 ∧ w1.heap.size = w.heap.size + 2 ∧ Arr w1 w.heap.size 84 .u64 l ∧ Arr w1 (w.heap.size + 1) 84 .u64 (List.replicate 25 0))
    ⟨((Below.refl _ _).alloc (Nat.le_refl _) _).alloc (by simp) _, by simp, (Arr.lit rfl rfl).alloc _, Arr.lit rfl (by simp)⟩ ?_
  rintro w1 ⟨hb1, hs1, ha1, hr1⟩
  have HB1 := Lib.hid hb1
  have HS1 := Lib.hid hs1
  have HA1 := Lib.hid ha1
  have HR1 := Lib.hid hr1
  clear hb1 hs1 ha1 hr1
  refine Stop.call (rturns_calls w1) ?_
  rintro e w2 ⟨rfl, hb2⟩
  have HB2 := Lib.hid hb2
  clear hb2
  go_wp2_with ((with_reducible refine gate_none rfl ?_); refine stop ?_)
  refine Stop.go ?_
  refine wpList_store_row rfl 89 (.tmp 3) (.tmp 14) rfl _ (ints .i64 TT).toArray rfl rfl 89 _ (heap_alloc_new _ _) info_t55 rfl (ints_all _ _) ?_
  refine stop ?_
  refine with_worldL (fun w3 => Below w2.heap.size w2 w3 ∧ w3.heap.size = w2.heap.size + 1 ∧ Arr w3 w2.heap.size 89 .i64 TT) ⟨below_row ((Below.refl _ _).alloc (Nat.le_refl _) _) _ (Nat.le_refl _) _, by simp, (Arr.lit (l := List.replicate 25 0) (by kernel_rfl) rfl).row _⟩ ?_
  rintro w3 ⟨hb3, hs3, ht3⟩
  have HB3 := Lib.hid hb3
  have HS3 := Lib.hid hs3
  have HT3 := Lib.hid ht3
  clear hb3 hs3 ht3
  go_wp2_with (go_at_call 64; refine stop ?_)
  refine Stop.call (rconst64_calls w3) ?_
  rintro e w4 ⟨rfl, hb4⟩
  have HB4 := Lib.hid hb4
  clear hb4
  have hi24 : (Tryd.prog.info? 91).map (·.size) = some (ints .u64 KC).toArray.size := by rw [info_w24]; rfl
  have HI24 := Lib.hid hi24
  clear hi24
  go_wp2_with ((with_reducible refine gate_none rfl ?_); refine stop ?_)
  refine Stop.go ?_
  refine wpList_store_row rfl 91 (.tmp 4) (.tmp 15) rfl _ (ints .u64 KC).toArray rfl rfl 91 _ (heap_alloc_new _ _) HI24.out rfl (ints_all _ _) ?_
  refine stop ?_
  refine with_worldL (fun w5 => Below w4.heap.size w4 w5 ∧ w5.heap.size = w4.heap.size + 1 ∧ Arr w5 w4.heap.size 91 .u64 KC) ⟨below_row ((Below.refl _ _).alloc (Nat.le_refl _) _) _ (Nat.le_refl _) _, by simp, (Arr.lit (l := List.replicate 24 0) (by kernel_rfl) rfl).row _⟩ ?_
  rintro w5 ⟨hb5, hs5, hk5⟩
  obtain ⟨T, hT⟩ : ∃ T, T = w2.heap.size := ⟨_, rfl⟩
  obtain ⟨L, hLk⟩ : ∃ L, L = w4.heap.size := ⟨_, rfl⟩
  obtain ⟨A, hA⟩ : ∃ A, A = w.heap.size := ⟨_, rfl⟩
  rw [← hT, ← hLk, ← hA]
  have hz : C0 w A (A + 1) T L (changeR l 0) w5 := by
    have h1 := HS1.out
    have h3 := HS3.out
    have h12 := HB2.out.size
    have h34 := HB4.out.size
    have b13 : Below w1.heap.size w1 w3 := HB2.out.trans (HB3.out.mono HB2.out.size)
    have b35 : Below w3.heap.size w3 w5 := HB4.out.trans (hb5.mono HB4.out.size)
    have b15 := b13.trans (b35.mono b13.size)
    subst hT hLk hA
    exact ⟨HB1.out.trans (b15.mono HB1.out.size), HA1.out.below b15 (by omega), HR1.out.below b15 (by omega), HT3.out.below b35 (by omega), hk5, by omega, by omega⟩
  have HZ := Lib.hid hz
  clear hb5 hs5 hk5 hT hLk hA hz
  go_wp2_with fail
  go_loopw [5] (fun s wr => ∃ i : Nat, i ≤ 24 ∧ s = .int .i64 (i : Nat) ∧ C0 w A (A + 1) T L (changeR l i) wr) (fun s _ => 24 - (intOf s).toNat)
  case atStart => exact ⟨0, by decide, rfl, HZ.out⟩
  case round =>
    clear HZ
    obtain ⟨i, hi, rfl, hz⟩ := hrel
    by_cases h24 : i < 24
    · obtain ⟨R, hR⟩ : ∃ R, R = changeR l i := ⟨_, rfl⟩
      have hRl : R.length = 25 := by rw [hR, changeR_length]; exact HL.out
      rw [← hR] at hz
      have HZ := Lib.hid hz
      have HR := Lib.hid hR
      have HRL := Lib.hid hRl
      have H24 := Lib.hid h24
      clear hz hR hRl
      go_wp2_with fail
      obtain ⟨C, hC⟩ : ∃ C, C = wr.heap.size := ⟨_, rfl⟩
      rw [← hC]
      generalize (decide ((i : Int) < 24)) = q17
      clear h24
      refine with_world (fun w2 => C0 w A (A + 1) T L R w2 ∧ Arr w2 C 83 .u64 (cR R 0) ∧ w.heap.size ≤ C ∧ C ≠ A ∧ C ≠ A + 1 ∧ C ≠ T ∧ C ≠ L) ?_ ?_
      · have h1 := HZ.out.a.lt
        have h2 := HZ.out.r.lt
        have h3 := HZ.out.t.lt
        have h4 := HZ.out.k.lt
        have h5 := HZ.out.b.size
        exact ⟨HZ.out.alloc _, Arr.lit rfl hC, by omega, by omega, by omega, by omega, by omega⟩
      rintro w2 ⟨hz, hc, hCg⟩
      have HZ2 := Lib.hid hz
      have HC2 := Lib.hid hc
      have HCG := Lib.hid hCg
      clear hz hc hCg hC HZ
      go_loopw [7] (fun s wr => ∃ x : Nat, x ≤ 5 ∧ s = .int .i64 (x : Nat) ∧ C0 w A (A + 1) T L R wr ∧ Arr wr C 83 .u64 (cR R x)) (fun s _ => 5 - (intOf s).toNat)
      case atStart => exact ⟨0, by decide, rfl, HZ2.out, HC2.out⟩
      case round =>
        clear HZ2 HC2
        obtain ⟨x, hx, rfl, hz, hc⟩ := hrel
        by_cases hx5 : x < 5
        · have c0 := hz.a.cell (x * 5) (by rw [HRL.out]; omega)
          have c1 := hz.a.cell (x * 5 + 1) (by rw [HRL.out]; omega)
          have c2 := hz.a.cell (x * 5 + 2) (by rw [HRL.out]; omega)
          have c3 := hz.a.cell (x * 5 + 3) (by rw [HRL.out]; omega)
          have c4 := hz.a.cell (x * 5 + 4) (by rw [HRL.out]; omega)
          have d0 := hc.cell x (by rw [cR_length]; exact hx5)
          have f0 := hc.free x
          have HZ := Lib.hid hz
          have HC := Lib.hid hc
          clear hz hc
          go_wp2_with fail
          refine wp_region_quiet_tail 26 (by kernel_rfl) (by kernel_rfl) ?_
          simp only [List.take_succ_cons, List.take_zero, List.drop_succ_cons, List.drop_zero]
          repeat (go_big_quiet_step (fail))
          refine wpQuiet_nil ?_
          intro _ hw'
          obtain ⟨nq, hw''⟩ := hw'
          subst hw''
          go_wp2_with fail
          go_roundw
          case rel =>
            refine ⟨x + 1, by omega, by go_num, (HZ.out.drewN nq).set C x HCG.out.1 HCG.out.2 _, Arr.cast ((HC.out.drewN nq).set x _) ?_⟩
            rw [cR]
            simp only [List.getD_eq_getElem?_getD]
          case measure => simp [intOf]; omega
        · obtain rfl : x = 5 := by omega
          have HZ := Lib.hid hz
          have HC := Lib.hid hc
          clear hz hc
          go_wp2_with fail
          obtain ⟨cs, hcs⟩ : ∃ cs, cs = cR R 5 := ⟨_, rfl⟩
          have hc := HC.out
          rw [← hcs] at hc
          have HCS := Lib.hid hcs
          have hcl : cs.length = 5 := by rw [hcs, cR_length]
          have HCL := Lib.hid hcl
          clear HC
          obtain ⟨B, hB⟩ : ∃ B, B = wr.heap.size := ⟨_, rfl⟩
          rw [← hB]
          refine with_world (fun w2 => CB w A (A + 1) T L C B R cs (bR R cs 0) w2) ?_ ?_
          · have h1 := HZ.out.a.lt
            have h2 := HZ.out.r.lt
            have h3 := HZ.out.t.lt
            have h4 := HZ.out.k.lt
            have h5 := HZ.out.b.size
            have h6 := hc.lt
            exact ⟨HZ.out.alloc _, hc.alloc _, Arr.lit rfl hB, ⟨HCG.out.1, by omega⟩, HCG.out.2.1, HCG.out.2.2.1, HCG.out.2.2.2.1, HCG.out.2.2.2.2, by omega, by omega, by omega, by omega, by omega⟩
          rintro w3 hcb
          have HCB := Lib.hid hcb
          clear hcb hB hc hcs hcl HZ
          go_loopw [9] (fun s wr => ∃ x : Nat, x ≤ 5 ∧ s = .int .i64 (x : Nat) ∧ CB w A (A + 1) T L C B R cs (bR R cs (x * 5)) wr) (fun s _ => 5 - (intOf s).toNat)
          case atStart => exact ⟨0, by decide, rfl, HCB.out⟩
          case round =>
            clear HCB
            obtain ⟨x, hx, rfl, hcb⟩ := hrel
            by_cases hx5 : x < 5
            · have c4 := hcb.c.cell ((x + 4) % 5) (by rw [HCL.out]; omega)
              have c1 := hcb.c.cell ((x + 1) % 5) (by rw [HCL.out]; omega)
              obtain ⟨s4, hs4⟩ : ∃ s4, s4 = cs.getD ((x + 4) % 5) 0 := ⟨_, rfl⟩
              obtain ⟨s1, hs1⟩ : ∃ s1, s1 = cs.getD ((x + 1) % 5) 0 := ⟨_, rfl⟩
              rw [← hs4] at c4
              rw [← hs1] at c1
              have hd : dR cs x = bits .xor .u64 s4 (rotl64 s1 1) := by rw [dR, hs4, hs1]
              have HD := Lib.hid hd
              have HCB := Lib.hid hcb
              clear hcb hs4 hs1 hd
              go_wp2_with fail
              go_quiet ((exact calls_drew (rturn64_any _ _ (by omega) (by omega) _) (fun k => by first | exact drewN_more _ _ k | exact drewN_more2 _ _ _ k)))
              go_wp2_with fail
              clear c4 c1
              generalize (decide ((x : Int) < 5)) = q51
              have HX5 := Lib.hid hx5
              clear hx5
              go_loopw [11] (fun s w2 => ∃ y : Nat, y ≤ 5 ∧ s = .int .i64 (y : Nat) ∧ CB w A (A + 1) T L C B R cs (bR R cs (x * 5 + y)) w2) (fun s _ => 5 - (intOf s).toNat)
              case atStart => exact ⟨0, by decide, rfl, HCB.out.drewN _⟩
              case round =>
                clear HCB
                obtain ⟨y, hy, rfl, hcb⟩ := hrel
                have hx5 := HX5.out
                by_cases hy5 : y < 5
                · obtain ⟨htu, htu64⟩ := TT_nat ⟨x * 5 + y, by omega⟩
                  simp only at htu htu64
                  obtain ⟨tu, htu2⟩ : ∃ tu, tu = (TT.getD (x * 5 + y) 0).toNat := ⟨_, rfl⟩
                  rw [← htu2] at htu htu64
                  have c0 := hcb.z.a.cell (x * 5 + y) (by rw [HRL.out]; omega)
                  have c1 := hcb.z.t.cell (x * 5 + y) (by have : TT.length = 25 := rfl; omega)
                  rw [htu] at c1
                  have d0 := hcb.d.cell (y * 5 + (2 * x + 3 * y) % 5) (by rw [bR_length]; omega)
                  have f0 := hcb.d.free (y * 5 + (2 * x + 3 * y) % 5)
                  have HTU := Lib.hid htu2
                  have HCB := Lib.hid hcb
                  clear hcb htu htu2
                  go_wp2_with fail
                  refine wp_region_quiet_tail 22 (by kernel_rfl) (by kernel_rfl) ?_
                  simp only [List.take_succ_cons, List.take_zero, List.drop_succ_cons, List.drop_zero]
                  repeat (go_big_quiet_step (exact calls_drew (rturn64_any _ _ (by omega) (by omega) _) (fun k => by first | exact drewN_more _ _ k | exact drewN_more2 _ _ _ k)))
                  refine wpQuiet_nil ?_
                  intro _ hw'
                  obtain ⟨nq, hw''⟩ := hw'
                  subst hw''
                  go_wp2_with fail
                  go_roundw
                  case rel =>
                    refine ⟨y + 1, by omega, by go_num, ((HCB.out.drewN nq).setB (y * 5 + (2 * x + 3 * y) % 5) _).castB ?_⟩
                    rw [← Nat.add_assoc, bR, show (x * 5 + y) / 5 = x by omega, show (x * 5 + y) % 5 = y by omega, HD.out, ← HTU.out]
                    simp only [List.getD_eq_getElem?_getD, Int.toNat_natCast]
                  case measure => simp [intOf]; omega
                · obtain rfl : y = 5 := by omega
                  have HCB := Lib.hid hcb
                  clear hcb
                  go_wp2_with fail
                  go_roundw
                  case rel => exact ⟨x + 1, by omega, by go_num, by rw [show (x + 1) * 5 = x * 5 + 5 by omega]; exact HCB.out⟩
                  case measure => simp [intOf]; omega
            · obtain rfl : x = 5 := by omega
              have HCB := Lib.hid hcb
              clear hcb
              go_wp2_with fail
              obtain ⟨bs, hbs⟩ : ∃ bs, bs = bR R cs 25 := ⟨_, rfl⟩
              have hcb := HCB.out
              rw [show 5 * 5 = 25 from rfl, ← hbs] at hcb
              have hbl : bs.length = 25 := by rw [hbs, bR_length]
              have HBL := Lib.hid hbl
              have HBS := Lib.hid hbs
              clear HCB hbl hbs
              have HCB := Lib.hid hcb
              clear hcb
              go_loopw [12] (fun s wr => ∃ x : Nat, x ≤ 5 ∧ s = .int .i64 (x : Nat) ∧ CB w A (A + 1) T L C B (wR R bs (x * 5)) cs bs wr) (fun s _ => 5 - (intOf s).toNat)
              case atStart => exact ⟨0, by decide, rfl, HCB.out⟩
              case round =>
                clear HCB
                obtain ⟨x, hx, rfl, hcb⟩ := hrel
                by_cases hx5 : x < 5
                · have HCB := Lib.hid hcb
                  clear hcb
                  go_wp2_with fail
                  generalize (decide ((x : Int) < 5)) = q93
                  have HX5 := Lib.hid hx5
                  clear hx5
                  go_loopw [13] (fun s wr => ∃ y : Nat, y ≤ 5 ∧ s = .int .i64 (y : Nat) ∧ CB w A (A + 1) T L C B (wR R bs (x * 5 + y)) cs bs wr) (fun s _ => 5 - (intOf s).toNat)
                  case atStart => exact ⟨0, by decide, rfl, HCB.out⟩
                  case round =>
                    clear HCB
                    obtain ⟨y, hy, rfl, hcb⟩ := hrel
                    have hx5 := HX5.out
                    by_cases hy5 : y < 5
                    · have c0 := hcb.d.cell (x * 5 + y) (by rw [HBL.out]; omega)
                      have c1 := hcb.d.cell ((x + 1) % 5 * 5 + y) (by rw [HBL.out]; omega)
                      have c2 := hcb.d.cell ((x + 2) % 5 * 5 + y) (by rw [HBL.out]; omega)
                      have d0 := hcb.z.a.cell (x * 5 + y) (by rw [wR_length, HRL.out]; omega)
                      have f0 := hcb.z.a.free (x * 5 + y)
                      have HCB := Lib.hid hcb
                      clear hcb
                      go_wp2_with fail
                      refine wp_region_quiet_tail 26 (by kernel_rfl) (by kernel_rfl) ?_
                      simp only [List.take_succ_cons, List.take_zero, List.drop_succ_cons, List.drop_zero]
                      repeat (go_big_quiet_step (fail))
                      refine wpQuiet_nil ?_
                      intro _ hw'
                      obtain ⟨nq, hw''⟩ := hw'
                      subst hw''
                      go_wp2_with fail
                      go_roundw
                      case rel =>
                        refine ⟨y + 1, by omega, by go_num, ((HCB.out.drewN nq).setA (x * 5 + y) _).castA ?_⟩
                        rw [← Nat.add_assoc, wR, show (x * 5 + y) / 5 = x by omega, show (x * 5 + y) % 5 = y by omega]
                        simp only [List.getD_eq_getElem?_getD]
                        rfl
                      case measure => simp [intOf]; omega
                    · obtain rfl : y = 5 := by omega
                      have HCB := Lib.hid hcb
                      clear hcb
                      go_wp2_with fail
                      go_roundw
                      case rel => exact ⟨x + 1, by omega, by go_num, by rw [show (x + 1) * 5 = x * 5 + 5 by omega]; exact HCB.out⟩
                      case measure => simp [intOf]; omega
                · obtain rfl : x = 5 := by omega
                  rw [show 5 * 5 = 25 from rfl] at hcb
                  have hi24 := H24.out
                  have c0 := hcb.z.a.cell 0 (by rw [wR_length, HRL.out]; omega)
                  have c1 := hcb.z.k.cell i (by have : KC.length = 24 := rfl; omega)
                  have f0 := hcb.z.a.free 0
                  have HCB := Lib.hid hcb
                  clear hcb hi24
                  go_wp2_with fail
                  refine wp_region_quiet_tail 9 (by kernel_rfl) (by kernel_rfl) ?_
                  simp only [List.take_succ_cons, List.take_zero, List.drop_succ_cons, List.drop_zero]
                  repeat (go_big_quiet_step (fail))
                  refine wpQuiet_nil ?_
                  intro _ hw'
                  obtain ⟨nq, hw''⟩ := hw'
                  subst hw''
                  go_wp2_with fail
                  go_roundw
                  case rel =>
                    refine ⟨i + 1, by have := H24.out; omega, by go_num, ((HCB.out.z.drewN nq).setA 0 _).cast ?_⟩
                    rw [changeR, ← HR.out, roundR, ← HCS.out, ← HBS.out]
                    simp only [List.getD_eq_getElem?_getD]
                  case measure => have := H24.out; simp [intOf]; omega
    · obtain rfl : i = 24 := by omega
      have hcl : (changeR l 24).length = 25 := by rw [changeR_length]; exact HL.out
      have hi25 : (Tryd.prog.info? 84).map (·.size) = some (ints .u64 (changeR l 24)).toArray.size := by rw [List.size_toArray, ints_length, hcl]; exact info_w55
      have ho25 : (ints .u64 (List.replicate 25 0)).toArray.size = (ints .u64 (changeR l 24)).toArray.size := by rw [List.size_toArray, List.size_toArray, ints_length, ints_length, hcl]; rfl
      have HI := Lib.hid hi25
      have HO := Lib.hid ho25
      have HZ := Lib.hid hz
      clear hcl hi25 ho25 hz
      go_wp2_with (first
        | ((with_reducible refine gate_dst (N := 135) rfl ?_); refine wpList_load_row rfl 84 (.tmp 1) rfl _ rfl 84 (ints .u64 (changeR l 24)).toArray (0, 0) _ HZ.out.a.block Tryd.underlying84 rfl HI.out ?_)
        | ((with_reducible refine gate_none rfl ?_); refine wpList_store_row rfl 84 (.tmp 2) (.tmp 135) rfl _ (ints .u64 (changeR l 24)).toArray rfl rfl 84 _ HZ.out.r.block HI.out HO.out (ints_all _ _) ?_))
      exact bodyPost_ret (results_cell_row Tryd.results60 _ _ _ 84 (ints .u64 (changeR l 24)).toArray (0, 0) _ rfl (HZ.out.r.row _).block Tryd.underlying84 rfl HI.out) rfl ⟨rfl, below_row HZ.out.b _ HZ.out.ge.2 _⟩
end Go.Proofs.YtlmcpnicjdcmdaaDoor
