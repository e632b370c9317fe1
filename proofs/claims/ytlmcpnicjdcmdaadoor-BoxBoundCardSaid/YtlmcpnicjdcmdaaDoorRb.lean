/- The document's SHA-256: block. -/
import Derived.Test.YtlmcpnicjdcmdaaDoorRa
set_option linter.unusedVariables false
set_option linter.unusedSimpArgs false
namespace Go.Proofs.YtlmcpnicjdcmdaaDoor
open Go Go.RowKit Go.BigFrame

/-- What is known while the document's block goes. -/
structure RB (w : World) (A R K W : Nat) (st wl : List Int) (wr : World) : Prop where
  b : Below w.heap.size w wr
  a : Arr wr A 62 .u32 st
  r : Arr wr R 62 .u32 (List.replicate 8 0)
  k : Arr wr K 79 .u32 K256
  wd : Arr wr W 79 .u32 wl
  ge : w.heap.size ≤ A ∧ w.heap.size ≤ R ∧ w.heap.size ≤ K ∧ w.heap.size ≤ W
  ne : A ≠ R ∧ A ≠ K ∧ A ≠ W ∧ R ≠ K ∧ R ≠ W ∧ K ≠ W
section
variable {w wr w' : World} {A R K W : Nat} {st wl : List Int}
theorem RB.drewN (h : RB w A R K W st wl wr) (n : Nat) : RB w A R K W st wl (wr.drewN n) := ⟨below_drewN h.b n, h.a.drewN n, h.r.drewN n, h.k.drewN n, h.wd.drewN n, h.ge, h.ne⟩
theorem RB.below (h : RB w A R K W st wl wr) (hb : Below wr.heap.size wr w') : RB w A R K W st wl w' := ⟨h.b.trans (hb.mono h.b.size), h.a.below hb h.a.lt, h.r.below hb h.r.lt, h.k.below hb h.k.lt, h.wd.below hb h.wd.lt, h.ge, h.ne⟩
theorem RB.setW (h : RB w A R K W st wl wr) (i : Nat) (x : Int) : RB w A R K W st (wl.set i x) (wr.setCell ⟨W, i, none⟩ (.int .u32 x)) :=
  ⟨below_set h.b _ h.ge.2.2.2 _, h.a.other (p := ⟨W, i, none⟩) h.ne.2.2.1.symm _, h.r.other (p := ⟨W, i, none⟩) h.ne.2.2.2.2.1.symm _, h.k.other (p := ⟨W, i, none⟩) h.ne.2.2.2.2.2.symm _, h.wd.set i x, h.ge, h.ne⟩
theorem RB.setA (h : RB w A R K W st wl wr) (i : Nat) (x : Int) : RB w A R K W (st.set i x) wl (wr.setCell ⟨A, i, none⟩ (.int .u32 x)) :=
  ⟨below_set h.b _ h.ge.1 _, h.a.set i x, h.r.other (p := ⟨A, i, none⟩) h.ne.1 _, h.k.other (p := ⟨A, i, none⟩) h.ne.2.1 _, h.wd.other (p := ⟨A, i, none⟩) h.ne.2.2.1 _, h.ge, h.ne⟩
theorem RB.cast (h : RB w A R K W st wl wr) {wl2 : List Int} (e : wl = wl2) : RB w A R K W st wl2 wr := e ▸ h
theorem RB.castA (h : RB w A R K W st wl wr) {st2 : List Int} (e : st = st2) : RB w A R K W st2 wl wr := e ▸ h
/-- A row of another block turns. -/
theorem RB.row (h : RB w A R K W st wl wr) (V : Nat) (hV : w.heap.size ≤ V) (ne : V ≠ A ∧ V ≠ R ∧ V ≠ K ∧ V ≠ W) (cs : Array Value) : RB w A R K W st wl (wr.setRow V cs) :=
  ⟨below_row h.b V hV cs, ⟨by rw [setRow_other wr V A cs ne.1.symm]; exact h.a.block⟩, ⟨by rw [setRow_other wr V R cs ne.2.1.symm]; exact h.r.block⟩, ⟨by rw [setRow_other wr V K cs ne.2.2.1.symm]; exact h.k.block⟩, ⟨by rw [setRow_other wr V W cs ne.2.2.2.symm]; exact h.wd.block⟩, h.ge, h.ne⟩
end
theorem nextWord_ref (a b c d : Int) : (a + sg0 c + b + sg1 d) % 4294967296 = nextWord a b c d := by unfold nextWord; congr 1; omega
theorem rturned_any (x m : Int) (h0 : 0 < m) (h1 : m < 32) (w : World) : Calls Tryd.prog 58 #[.int .u32 x, .int .i64 m] w (RetQ w (.int .u32 (rotr32 x m.toNat))) := by
  obtain ⟨n, rfl⟩ : ∃ n : Nat, m = n := ⟨m.toNat, by omega⟩
  exact rturned_calls x n (by omega) (by omega) w

theorem u32_max : IntKind.u32.max = 4294967295 := by decide
theorem rnd_ref (v : V8) (k w : Int) :
    [(v.h + bits .xor .u32 (bits .xor .u32 (rotr32 v.e 6) (rotr32 v.e 11)) (rotr32 v.e 25) + bits .xor .u32 (bits .and .u32 v.e v.f) (bits .and .u32 (bits .xor .u32 IntKind.u32.max v.e) v.g) + k + w +
      (bits .xor .u32 (bits .xor .u32 (rotr32 v.a 2) (rotr32 v.a 13)) (rotr32 v.a 22) + bits .xor .u32 (bits .xor .u32 (bits .and .u32 v.a v.b) (bits .and .u32 v.a v.c)) (bits .and .u32 v.b v.c))) % 4294967296,
      v.a, v.b, v.c,
      (v.d + (v.h + bits .xor .u32 (bits .xor .u32 (rotr32 v.e 6) (rotr32 v.e 11)) (rotr32 v.e 25) + bits .xor .u32 (bits .and .u32 v.e v.f) (bits .and .u32 (bits .xor .u32 IntKind.u32.max v.e) v.g) + k + w)) % 4294967296,
      v.e, v.f, v.g] = (rnd v k w).list := by
  rw [u32_max, chF_ref, majF_ref]
  have h1 : bits .xor .u32 (bits .xor .u32 (rotr32 v.e 6) (rotr32 v.e 11)) (rotr32 v.e 25) = bsig1 v.e := rfl
  have h2 : bits .xor .u32 (bits .xor .u32 (rotr32 v.a 2) (rotr32 v.a 13)) (rotr32 v.a 22) = bsig0 v.a := rfl
  rw [h1, h2]
  unfold rnd V8.list tF uF
  congr 1
  · simp only; omega
  · congr 4
    simp only; omega
theorem v8_list (st : List Int) (h : st.length = 8) : st = (v8 st).list := by
  match st, h with
  | [a, b, c, d, e, f, g, i], _ => rfl

set_option maxRecDepth 100000 in
set_option maxHeartbeats 4000000 in
theorem rblock_calls (w : World) (st : List Int) (hst : st.length = 8) (b off n cap : Nat) (l : List Int) (hn : n = l.length) (hl : 64 ≤ l.length) (hm : l.length ≤ 9223372036854775807) (hR : Rd .u8 w (some ⟨b, off, none⟩) l) :
    Calls Tryd.prog 46 #[.agg (ints .u32 st).toArray, .slice (some ⟨b, off, none⟩) n cap] w fun e w' => e = .returned (.agg (ints .u32 (blockF st l)).toArray) ∧ Below w.heap.size w w' := by
  obtain ⟨b', off', he, hlt', hc⟩ := hR.at_ (by omega)
  obtain ⟨rfl, rfl⟩ : b = b' ∧ off = off' := by simpa using he
  have HC := Lib.hid hc
  have HN := Lib.hid hn
  have HST := Lib.hid hst
  have hn2 : 64 ≤ n := by omega
  have hn3 : n ≤ 9223372036854775807 := by omega
  clear hc hn hR he hl hm hst
  go_enter Tryd.func46, Tryd.ntmps46
  go_wp2_with (go_at_call 57; refine stop ?_)
  refine with_worldC (fun w1 => Below w.heap.size w w1 ∧ w1.heap.size = w.heap.size + 2 ∧ Arr w1 w.heap.size 62 .u32 st ∧ Arr w1 (w.heap.size + 1) 62 .u32 (List.replicate 8 0))
    ⟨((Below.refl _ _).alloc (Nat.le_refl _) _).alloc (by simp) _, by simp, (Arr.lit rfl rfl).alloc _, Arr.lit rfl (by simp)⟩ ?_
  rintro w1 ⟨hb1, hs1, ha1, hr1⟩
  have HB1 := Lib.hid hb1
  have HS1 := Lib.hid hs1
  have HA1 := Lib.hid ha1
  have HR1 := Lib.hid hr1
  clear hb1 hs1 ha1 hr1
  refine Stop.call (rconst_calls w1) ?_
  rintro e w2 ⟨rfl, hb2⟩
  have HB2 := Lib.hid hb2
  clear hb2
  go_wp2_with ((with_reducible refine gate_none rfl ?_); refine stop ?_)
  refine Stop.go ?_
  refine wpList_store_row rfl 79 (.tmp 5) (.tmp 18) rfl _ (ints .u32 K256).toArray rfl rfl 79 _ (heap_alloc_new _ _) info_w64 rfl (ints_all _ _) ?_
  refine stop ?_
  refine with_worldL (fun w3 => Below w2.heap.size w2 w3 ∧ w3.heap.size = w2.heap.size + 1 ∧ Arr w3 w2.heap.size 79 .u32 K256) ⟨below_row ((Below.refl _ _).alloc (Nat.le_refl _) _) _ (Nat.le_refl _) _, by simp, (Arr.lit (l := List.replicate 64 0) (by kernel_rfl) rfl).row _⟩ ?_
  rintro w3 ⟨hb3, hs3, hk3⟩
  have HB3 := Lib.hid hb3
  have HS3 := Lib.hid hs3
  have HK3 := Lib.hid hk3
  clear hb3 hs3 hk3
  go_wp2_with fail
  obtain ⟨K, hK⟩ : ∃ K, K = w2.heap.size := ⟨_, rfl⟩
  obtain ⟨W, hW⟩ : ∃ W, W = w3.heap.size := ⟨_, rfl⟩
  obtain ⟨A, hA⟩ : ∃ A, A = w.heap.size := ⟨_, rfl⟩
  rw [← hK, ← hW, ← hA]
  refine with_world (fun w4 => RB w A (A + 1) K W st (lay16 l 0) w4) ?_ ?_
  · have h12 := HB2.out.size
    have hbb : Below w1.heap.size w1 w3 := HB2.out.trans (HB3.out.mono HB2.out.size)
    have h1 := HS1.out
    have h3 := HS3.out
    subst hK hW hA
    refine ⟨((HB1.out.trans (hbb.mono (by omega))).alloc (by omega) _), ((HA1.out.below hbb (by omega)).alloc _), ((HR1.out.below hbb (by omega)).alloc _), (HK3.out.alloc _), Arr.lit (by kernel_rfl) rfl, by omega, by omega⟩
  rintro w4 hRB
  have HRB := Lib.hid hRB
  clear hRB hK hW hA
  go_loopw [7] (fun s wr => ∃ i : Nat, i ≤ 16 ∧ s = .int .i64 i ∧ RB w A (A + 1) K W st (lay16 l i) wr) (fun s _ => 16 - (intOf s).toNat)
  case atStart => exact ⟨0, by omega, rfl, HRB.out⟩
  case round =>
    clear HRB
    obtain ⟨i, hi, rfl, hrb⟩ := hrel
    by_cases hlt : i < 16
    · have c0 := cell_below hrb.b hlt' (HC.out (4 * i) (by have := HN.out; omega))
      have c1 := cell_below hrb.b hlt' (HC.out (4 * i + 1) (by have := HN.out; omega))
      have c2 := cell_below hrb.b hlt' (HC.out (4 * i + 2) (by have := HN.out; omega))
      have c3 := cell_below hrb.b hlt' (HC.out (4 * i + 3) (by have := HN.out; omega))
      have d0 := hrb.wd.cell i (by rw [lay16_length]; omega)
      have d1 := hrb.wd.free i
      have HRB := Lib.hid hrb
      clear hrb
      go_wp2_with fail
      refine wp_region_quiet_tail 35 (by kernel_rfl) (by kernel_rfl) ?_
      simp only [List.take_succ_cons, List.take_zero, List.drop_succ_cons, List.drop_zero]
      repeat (go_big_quiet_step (fail))
      refine wpQuiet_nil ?_
      intro _ hw'
      obtain ⟨nq, hw''⟩ := hw'
      subst hw''
      go_wp2_with fail
      go_roundw
      case rel => exact ⟨i + 1, by omega, by go_num, (HRB.out.drewN nq).setW i _⟩
      case measure => simp [intOf]; omega
    · obtain rfl : i = 16 := by omega
      have HRB := Lib.hid hrb
      clear hrb
      go_wp2_with fail
      go_loopw [8] (fun s wr => ∃ i : Nat, i ≤ 48 ∧ s = .int .i64 (16 + i : Nat) ∧ RB w A (A + 1) K W st (lay64 l i) wr) (fun s _ => 64 - (intOf s).toNat)
      case atStart => exact ⟨0, by omega, by go_num, HRB.out⟩
      case round =>
        clear HRB
        obtain ⟨i, hi, rfl, hrb⟩ := hrel
        by_cases hlt : i < 48
        · have c0 := hrb.wd.cell (16 + i - 15) (by rw [lay64_length]; omega)
          have c1 := hrb.wd.cell (16 + i - 2) (by rw [lay64_length]; omega)
          have c2 := hrb.wd.cell i (by rw [lay64_length]; omega)
          have c3 := hrb.wd.cell (16 + i - 7) (by rw [lay64_length]; omega)
          have d0 := hrb.wd.cell (16 + i) (by rw [lay64_length]; omega)
          have d1 := hrb.wd.free (16 + i)
          have HRB := Lib.hid hrb
          clear hrb
          go_wp2_with fail
          refine wp_region_quiet_tail 29 (by kernel_rfl) (by kernel_rfl) ?_
          simp only [List.take_succ_cons, List.take_zero, List.drop_succ_cons, List.drop_zero]
          repeat (go_big_quiet_step (exact calls_drew (rturned_any _ _ (by omega) (by omega) _) (fun k => drewN_more _ _ k)))
          refine wpQuiet_nil ?_
          intro _ hw'
          obtain ⟨nq, hw''⟩ := hw'
          subst hw''
          go_wp2_with fail
          go_roundw
          case rel => 
            refine ⟨i + 1, by omega, by go_num, ((HRB.out.drewN nq).setW (16 + i) _).cast ?_⟩
            rw [lay64, ← nextWord_ref]
            unfold sg0 sg1
            simp only [List.getD_eq_getElem?_getD]
          case measure => simp [intOf]; omega
        · obtain rfl : i = 48 := by omega
          have HRB := Lib.hid hrb
          clear hrb
          go_wp2_with ((with_reducible refine gate_dst (N := 99) rfl ?_); refine stop ?_)
          refine Stop.go ?_
          have hi8 : (Tryd.prog.info? 62).map (·.size) = some (ints .u32 st).toArray.size := by rw [List.size_toArray, ints_length, HST.out]; kernel_rfl
          have HI8 := Lib.hid hi8
          clear hi8
          refine wpList_load_row rfl 62 (.tmp 2) rfl _ rfl 62 (ints .u32 st).toArray (0, 0) _ HRB.out.a.block Tryd.underlying62 rfl HI8.out ?_
          go_wp2_with ((with_reducible refine gate_none rfl ?_); refine stop ?_)
          refine Stop.go ?_
          refine wpList_store_row rfl 62 (.tmp 11) (.tmp 99) rfl _ (ints .u32 st).toArray rfl rfl 62 _ (heap_alloc_new _ _) HI8.out (by rw [List.size_toArray, List.size_toArray, ints_length, HST.out]; rfl) (ints_all _ _) ?_
          obtain ⟨V, hV⟩ : ∃ V, V = wr.heap.size := ⟨_, rfl⟩
          rw [← hV]
          refine stop ?_
          refine with_worldL (fun w5 => RB w A (A + 1) K W st (wordsOf l) w5 ∧ Arr w5 V 62 .u32 (rnds (v8 st) (wordsOf l) 0).list ∧ w.heap.size ≤ V ∧ V ≠ A ∧ V ≠ A + 1 ∧ V ≠ K ∧ V ≠ W) ?_ ?_
          · have h1 := HRB.out.a.lt
            have h2 := HRB.out.r.lt
            have h3 := HRB.out.k.lt
            have h4 := HRB.out.wd.lt
            have h5 := HRB.out.b.size
            subst hV
            have hal := HRB.out.below ((Below.refl _ _).alloc (Nat.le_refl _) (.cells (ints .u32 (List.replicate 8 0)).toArray 62))
            refine ⟨hal.row _ h5 ⟨by omega, by omega, by omega, by omega⟩ _, ?_, h5, by omega, by omega, by omega, by omega⟩
            exact ((Arr.lit (l := List.replicate 8 0) rfl rfl).row st).cast (v8_list st HST.out)
          rintro w5 ⟨hrb, hv, hVge⟩
          have HRB5 := Lib.hid hrb
          have HV5 := Lib.hid hv
          have HVG := Lib.hid hVge
          clear hrb hv hVge hV HRB
          go_wp2_with fail
          go_loopw [12] (fun s wr => ∃ i : Nat, i ≤ 64 ∧ s = .int .i64 i ∧ RB w A (A + 1) K W st (wordsOf l) wr ∧ Arr wr V 62 .u32 (rnds (v8 st) (wordsOf l) i).list) (fun s _ => 64 - (intOf s).toNat)
          case atStart => exact ⟨0, by omega, rfl, HRB5.out, HV5.out⟩
          case round =>
            clear HRB5 HV5
            obtain ⟨i, hi, rfl, hrb, hv⟩ := hrel
            by_cases hlt : i < 64
            · obtain ⟨v, hv0⟩ : ∃ v, v = rnds (v8 st) (wordsOf l) i := ⟨_, rfl⟩
              rw [← hv0] at hv
              have kc := hrb.k.cell i (by have : K256.length = 64 := rfl; omega)
              have wc := hrb.wd.cell i (by rw [wordsOf_length]; exact hlt)
              obtain ⟨kv, hkv⟩ : ∃ kv, kv = K256.getD i 0 := ⟨_, rfl⟩
              obtain ⟨wv, hwv⟩ : ∃ wv, wv = (wordsOf l).getD i 0 := ⟨_, rfl⟩
              rw [← hkv] at kc
              rw [← hwv] at wc
              have c0 : wr.cell? ⟨V, 0, none⟩ = some (.int .u32 v.a) := hv.cell 0 (by show 0 < 8; decide)
              have c1 : wr.cell? ⟨V, 1, none⟩ = some (.int .u32 v.b) := hv.cell 1 (by show 1 < 8; decide)
              have c2 : wr.cell? ⟨V, 2, none⟩ = some (.int .u32 v.c) := hv.cell 2 (by show 2 < 8; decide)
              have c3 : wr.cell? ⟨V, 3, none⟩ = some (.int .u32 v.d) := hv.cell 3 (by show 3 < 8; decide)
              have c4 : wr.cell? ⟨V, 4, none⟩ = some (.int .u32 v.e) := hv.cell 4 (by show 4 < 8; decide)
              have c5 : wr.cell? ⟨V, 5, none⟩ = some (.int .u32 v.f) := hv.cell 5 (by show 5 < 8; decide)
              have c6 : wr.cell? ⟨V, 6, none⟩ = some (.int .u32 v.g) := hv.cell 6 (by show 6 < 8; decide)
              have c7 : wr.cell? ⟨V, 7, none⟩ = some (.int .u32 v.h) := hv.cell 7 (by show 7 < 8; decide)
              have HRB := Lib.hid hrb
              have HV := Lib.hid hv
              have HV0 := Lib.hid hv0
              have HKV := Lib.hid hkv
              have HWV := Lib.hid hwv
              clear hrb hv hv0 hkv hwv
              go_wp2_with fail
              go_quiet ((exact calls_drew (rturned_any _ _ (by omega) (by omega) _) (fun k => by first | exact drewN_more _ _ k | exact drewN_more2 _ _ _ k)))
              go_wp2_with fail
              go_quiet ((exact calls_drew (rturned_any _ _ (by omega) (by omega) _) (fun k => by first | exact drewN_more _ _ k | exact drewN_more2 _ _ _ k)))
              go_wp2_with ((with_reducible refine gate_none rfl ?_); refine stop ?_)
              refine Stop.go ?_
              refine wpList_store_row rfl 62 (.tmp 11) (.tmp 181) rfl _ _ rfl rfl 62 _ HV.out.block (by kernel_rfl) (by kernel_rfl) (by simp [Value.oneCell']) ?_
              go_wp2_with fail
              go_roundw
              case rel =>
                refine ⟨i + 1, by omega, by go_num, (HRB.out.drewN _).row V HVG.out.1 HVG.out.2 _, Arr.rowOf (HV.out.drewN _) ?_⟩
                rw [rnds, ← HV0.out, ← HKV.out, ← HWV.out, ← rnd_ref]
                rfl
              case measure => simp [intOf]; omega
            · obtain rfl : i = 64 := by omega
              have HRB := Lib.hid hrb
              have HV := Lib.hid hv
              clear hrb hv
              go_wp2_with fail
              obtain ⟨L, hL⟩ : ∃ L, L = (rnds (v8 st) (wordsOf l) 64).list := ⟨_, rfl⟩
              have hv := HV.out
              rw [← hL] at hv
              have hl8 : L.length = 8 := by rw [hL]; rfl
              have HL8 := Lib.hid hl8
              have HVV := Lib.hid hv
              have HLL := Lib.hid hL
              clear hL hv HV hl8
              go_loopw [17] (fun s wr => ∃ k : Nat, k ≤ 8 ∧ s = .int .i64 k ∧ RB w A (A + 1) K W (addTo st L k) (wordsOf l) wr ∧ Arr wr V 62 .u32 L) (fun s _ => 8 - (intOf s).toNat)
              case atStart => exact ⟨0, by omega, rfl, HRB.out, HVV.out⟩
              case round =>
                clear HRB HVV
                obtain ⟨k, hk, rfl, hrb, hv⟩ := hrel
                by_cases hlt : k < 8
                · have c0 := hrb.a.cell k (by rw [addTo_length, HST.out]; exact hlt)
                  have f0 := hrb.a.free k
                  have c1 := hv.cell k (by rw [HL8.out]; exact hlt)
                  have HRB := Lib.hid hrb
                  have HV := Lib.hid hv
                  clear hrb hv
                  go_wp2_with fail
                  refine wp_region_quiet_tail 9 (by kernel_rfl) (by kernel_rfl) ?_
                  simp only [List.take_succ_cons, List.take_zero, List.drop_succ_cons, List.drop_zero]
                  repeat (go_big_quiet_step (fail))
                  refine wpQuiet_nil ?_
                  intro _ hw'
                  obtain ⟨nq, hw''⟩ := hw'
                  subst hw''
                  go_wp2_with fail
                  go_roundw
                  case rel =>
                    refine ⟨k + 1, by omega, by go_num, ((HRB.out.drewN _).setA k _).castA ?_, (HV.out.drewN _).other (p := ⟨A, k, none⟩) HVG.out.2.1.symm _⟩
                    rw [addTo]
                    simp only [List.getD_eq_getElem?_getD]
                  case measure => simp [intOf]; omega
                · obtain rfl : k = 8 := by omega
                  have hb8 : addTo st L 8 = blockF st l := by rw [HLL.out]; rfl
                  rw [hb8] at hrb
                  have hi8 : (Tryd.prog.info? 62).map (·.size) = some (ints .u32 (blockF st l)).toArray.size := by rw [List.size_toArray, ints_length, blockF_length, HST.out]; kernel_rfl
                  have HI8 := Lib.hid hi8
                  have ho8 : (ints .u32 (List.replicate 8 0)).toArray.size = (ints .u32 (blockF st l)).toArray.size := by rw [List.size_toArray, List.size_toArray, ints_length, ints_length, blockF_length, HST.out]; rfl
                  have HO8 := Lib.hid ho8
                  have HRB := Lib.hid hrb
                  clear hrb hv hi8 ho8 hb8
                  go_wp2_with (first
                    | ((with_reducible refine gate_dst (N := 195) rfl ?_); refine wpList_load_row rfl 62 (.tmp 2) rfl _ rfl 62 (ints .u32 (blockF st l)).toArray (0, 0) _ HRB.out.a.block Tryd.underlying62 rfl HI8.out ?_)
                    | ((with_reducible refine gate_none rfl ?_); refine wpList_store_row rfl 62 (.tmp 4) (.tmp 195) rfl _ (ints .u32 (blockF st l)).toArray rfl rfl 62 _ HRB.out.r.block HI8.out HO8.out (ints_all _ _) ?_))
                  exact bodyPost_ret (results_cell_row Tryd.results46 _ _ _ 62 (ints .u32 (blockF st l)).toArray (0, 0) _ rfl (HRB.out.r.row _).block Tryd.underlying62 rfl HI8.out) rfl ⟨rfl, below_row HRB.out.b _ HRB.out.ge.2.1 _⟩
end Go.Proofs.YtlmcpnicjdcmdaaDoor
