/- SHA-256: one block, walked. -/
import Derived.Test.YtlmcpnicjdcmdaaDoorSb
set_option linter.unusedVariables false
set_option linter.unusedSimpArgs false
namespace Go.Proofs.YtlmcpnicjdcmdaaDoor
open Go Go.RowKit Go.BigFrame

/-- An array's value, asked at a place. -/
theorem run_index_ints {P : Program} {xT eT n : Nat} {k : IntKind} {l : List Int} {kk : IntKind} {i : Nat} (w : World) (hu : P.underlying xT = some (.array n eT)) (he : P.underlying eT = some (.int kk))
    (hs : (P.info? eT).map (·.size) = some 1) (hn : l.length = n) (hi : i < n) :
    (Instr.index xT (.agg (ints k l).toArray) (.int .i64 i)).run P w = .ok (.int k (l.getD i 0)) w := by
  obtain ⟨ti, hti⟩ : ∃ ti, P.info? eT = some ti := by
    cases h : P.info? eT with
    | none => simp [h] at hs
    | some t => exact ⟨t, rfl⟩
  have hsz : ti.size = 1 := by simpa [hti] using hs
  have hg := ints_get k l i (by omega)
  have hget : (ints k l)[i]'(by rw [ints_length]; omega) = .int k (l.getD i 0) := by
    have := List.getElem?_eq_getElem (l := ints k l) (i := i) (by rw [ints_length]; omega)
    rw [this] at hg
    exact Option.some.inj hg
  have h2 : (i : Int) < (n : Int) := by omega
  simp [Instr.index, asIntOf, run_underlying hu, part, isAgg, run_underlying he, sizeOf, typeInfo, hti, hsz, h2, hg]
  intro h
  omega

theorem St.cast {w : World} {B T : Nat} {st st2 : List Int} {tl : List Value} (h : St w B T st tl) (e : st = st2) : St w B T st2 tl := e ▸ h
theorem step_mod (l : List Int) (A : Int) (L1 L2 : List Int) (k : Nat) (hp : k < L1.length) (hk : k < 8) (h : ∀ j, j < 8 → L1.getD j 0 % 4294967296 = L2.getD j 0 % 4294967296) :
    l.set k ((A + L1[k]'hp) % 4294967296) = l.set k ((A + L2.getD k 0) % 4294967296) := by
  have := h k hk
  have e : L1[k]'hp = L1.getD k 0 := by simp [hp]
  rw [e]
  rw [show (A + L1.getD k 0) % 4294967296 = (A + L2.getD k 0) % 4294967296 by omega]

/-- What holds at the label. -/
def atLabel (w : World) (B T : Nat) (st : List Int) (tl : List Value) (sl : Value) (l : List Int) (a : Act) (w' : World) : Prop :=
  ∃ (f : Nat → Value) (i WB : Nat), a = { tmps := List.toArray ((.pointer (some ⟨B, 0, none⟩)) :: (sl) :: f 2 :: f 3 :: (.pointer (some ⟨WB, 0, none⟩)) :: (.int .u32 (rnds (v8 st) (wordsOf l) i).a) :: (.int .u32 (rnds (v8 st) (wordsOf l) i).b) :: (.int .u32 (rnds (v8 st) (wordsOf l) i).c) :: (.int .u32 (rnds (v8 st) (wordsOf l) i).d) :: (.int .u32 (rnds (v8 st) (wordsOf l) i).e) :: (.int .u32 (rnds (v8 st) (wordsOf l) i).f) :: (.int .u32 (rnds (v8 st) (wordsOf l) i).g) :: (.int .u32 (rnds (v8 st) (wordsOf l) i).h) :: (.int .i64 i) :: f 14 :: f 15 :: f 16 :: f 17 :: f 18 :: f 19 :: f 20 :: f 21 :: f 22 :: f 23 :: f 24 :: f 25 :: f 26 :: f 27 :: f 28 :: f 29 :: f 30 :: f 31 :: f 32 :: f 33 :: f 34 :: f 35 :: f 36 :: f 37 :: f 38 :: f 39 :: f 40 :: f 41 :: f 42 :: f 43 :: f 44 :: f 45 :: f 46 :: f 47 :: f 48 :: f 49 :: f 50 :: f 51 :: f 52 :: f 53 :: f 54 :: f 55 :: f 56 :: f 57 :: f 58 :: f 59 :: f 60 :: f 61 :: f 62 :: f 63 :: f 64 :: f 65 :: f 66 :: f 67 :: f 68 :: f 69 :: f 70 :: f 71 :: f 72 :: f 73 :: f 74 :: f 75 :: f 76 :: f 77 :: f 78 :: f 79 :: f 80 :: f 81 :: f 82 :: f 83 :: f 84 :: f 85 :: f 86 :: f 87 :: f 88 :: f 89 :: f 90 :: f 91 :: f 92 :: f 93 :: f 94 :: f 95 :: f 96 :: f 97 :: f 98 :: f 99 :: f 100 :: f 101 :: f 102 :: f 103 :: f 104 :: f 105 :: f 106 :: f 107 :: f 108 :: f 109 :: f 110 :: f 111 :: f 112 :: f 113 :: f 114 :: f 115 :: f 116 :: f 117 :: f 118 :: f 119 :: f 120 :: f 121 :: f 122 :: f 123 :: f 124 :: f 125 :: f 126 :: f 127 :: f 128 :: f 129 :: f 130 :: f 131 :: f 132 :: f 133 :: f 134 :: []), defers := [] } ∧
    i < 64 ∧ w.grownBy w' (some B) ∧ St w' B T st tl ∧ Arr w' WB 79 .u32 (wordsOf l) ∧ Ksha w'

set_option maxRecDepth 100000 in
theorem atLabel_mk {w : World} {B T : Nat} {st : List Int} {tl : List Value} {sl : Value} {WB : Nat} {l : List Int} {a : Act} {w' : World} (i : Nat) (hd : a.defers = [])
    (ha : a.tmps = List.toArray ((.pointer (some ⟨B, 0, none⟩)) :: (sl) :: a.tmps.getD 2 undef :: a.tmps.getD 3 undef :: (.pointer (some ⟨WB, 0, none⟩)) :: (.int .u32 (rnds (v8 st) (wordsOf l) i).a) :: (.int .u32 (rnds (v8 st) (wordsOf l) i).b) :: (.int .u32 (rnds (v8 st) (wordsOf l) i).c) :: (.int .u32 (rnds (v8 st) (wordsOf l) i).d) :: (.int .u32 (rnds (v8 st) (wordsOf l) i).e) :: (.int .u32 (rnds (v8 st) (wordsOf l) i).f) :: (.int .u32 (rnds (v8 st) (wordsOf l) i).g) :: (.int .u32 (rnds (v8 st) (wordsOf l) i).h) :: (.int .i64 i) :: a.tmps.getD 14 undef :: a.tmps.getD 15 undef :: a.tmps.getD 16 undef :: a.tmps.getD 17 undef :: a.tmps.getD 18 undef :: a.tmps.getD 19 undef :: a.tmps.getD 20 undef :: a.tmps.getD 21 undef :: a.tmps.getD 22 undef :: a.tmps.getD 23 undef :: a.tmps.getD 24 undef :: a.tmps.getD 25 undef :: a.tmps.getD 26 undef :: a.tmps.getD 27 undef :: a.tmps.getD 28 undef :: a.tmps.getD 29 undef :: a.tmps.getD 30 undef :: a.tmps.getD 31 undef :: a.tmps.getD 32 undef :: a.tmps.getD 33 undef :: a.tmps.getD 34 undef :: a.tmps.getD 35 undef :: a.tmps.getD 36 undef :: a.tmps.getD 37 undef :: a.tmps.getD 38 undef :: a.tmps.getD 39 undef :: a.tmps.getD 40 undef :: a.tmps.getD 41 undef :: a.tmps.getD 42 undef :: a.tmps.getD 43 undef :: a.tmps.getD 44 undef :: a.tmps.getD 45 undef :: a.tmps.getD 46 undef :: a.tmps.getD 47 undef :: a.tmps.getD 48 undef :: a.tmps.getD 49 undef :: a.tmps.getD 50 undef :: a.tmps.getD 51 undef :: a.tmps.getD 52 undef :: a.tmps.getD 53 undef :: a.tmps.getD 54 undef :: a.tmps.getD 55 undef :: a.tmps.getD 56 undef :: a.tmps.getD 57 undef :: a.tmps.getD 58 undef :: a.tmps.getD 59 undef :: a.tmps.getD 60 undef :: a.tmps.getD 61 undef :: a.tmps.getD 62 undef :: a.tmps.getD 63 undef :: a.tmps.getD 64 undef :: a.tmps.getD 65 undef :: a.tmps.getD 66 undef :: a.tmps.getD 67 undef :: a.tmps.getD 68 undef :: a.tmps.getD 69 undef :: a.tmps.getD 70 undef :: a.tmps.getD 71 undef :: a.tmps.getD 72 undef :: a.tmps.getD 73 undef :: a.tmps.getD 74 undef :: a.tmps.getD 75 undef :: a.tmps.getD 76 undef :: a.tmps.getD 77 undef :: a.tmps.getD 78 undef :: a.tmps.getD 79 undef :: a.tmps.getD 80 undef :: a.tmps.getD 81 undef :: a.tmps.getD 82 undef :: a.tmps.getD 83 undef :: a.tmps.getD 84 undef :: a.tmps.getD 85 undef :: a.tmps.getD 86 undef :: a.tmps.getD 87 undef :: a.tmps.getD 88 undef :: a.tmps.getD 89 undef :: a.tmps.getD 90 undef :: a.tmps.getD 91 undef :: a.tmps.getD 92 undef :: a.tmps.getD 93 undef :: a.tmps.getD 94 undef :: a.tmps.getD 95 undef :: a.tmps.getD 96 undef :: a.tmps.getD 97 undef :: a.tmps.getD 98 undef :: a.tmps.getD 99 undef :: a.tmps.getD 100 undef :: a.tmps.getD 101 undef :: a.tmps.getD 102 undef :: a.tmps.getD 103 undef :: a.tmps.getD 104 undef :: a.tmps.getD 105 undef :: a.tmps.getD 106 undef :: a.tmps.getD 107 undef :: a.tmps.getD 108 undef :: a.tmps.getD 109 undef :: a.tmps.getD 110 undef :: a.tmps.getD 111 undef :: a.tmps.getD 112 undef :: a.tmps.getD 113 undef :: a.tmps.getD 114 undef :: a.tmps.getD 115 undef :: a.tmps.getD 116 undef :: a.tmps.getD 117 undef :: a.tmps.getD 118 undef :: a.tmps.getD 119 undef :: a.tmps.getD 120 undef :: a.tmps.getD 121 undef :: a.tmps.getD 122 undef :: a.tmps.getD 123 undef :: a.tmps.getD 124 undef :: a.tmps.getD 125 undef :: a.tmps.getD 126 undef :: a.tmps.getD 127 undef :: a.tmps.getD 128 undef :: a.tmps.getD 129 undef :: a.tmps.getD 130 undef :: a.tmps.getD 131 undef :: a.tmps.getD 132 undef :: a.tmps.getD 133 undef :: a.tmps.getD 134 undef :: [])) (hi : i < 64) (hg : w.grownBy w' (some B)) (hS : St w' B T st tl) (hA : Arr w' WB 79 .u32 (wordsOf l)) (hK : Ksha w') : atLabel w B T st tl sl l a w' :=
  ⟨fun k => a.tmps.getD k undef, i, WB, by obtain ⟨t, d⟩ := a; subst hd; exact congrArg (fun t => ({ tmps := t, defers := [] } : Act)) ha, hi, hg, hS, hA, hK⟩

theorem run_index_eight (x0 x1 x2 x3 x4 x5 x6 x7 : Int) (k : Nat) (hk : k < 8) (w : World) :
    (Instr.index 62 (.agg #[.int .u32 x0, .int .u32 x1, .int .u32 x2, .int .u32 x3, .int .u32 x4, .int .u32 x5, .int .u32 x6, .int .u32 x7]) (.int .i64 k)).run Tryd.prog w = .ok (.int .u32 ([x0, x1, x2, x3, x4, x5, x6, x7].getD k 0)) w :=
  run_index_ints (l := [x0, x1, x2, x3, x4, x5, x6, x7]) (n := 8) w Tryd.underlying62 Tryd.underlying61 (by kernel_rfl) rfl hk

set_option maxRecDepth 100000 in
set_option maxHeartbeats 4000000 in
theorem block_pass (w : World) (B T : Nat) (st : List Int) (tl : List Value) (sl : Value) (l : List Int) (rest : Code)
    (hrest : (findLabel ((Tryd.f45.body.bind fun c => match c with | .scope c => some c | _ => none).getD .skip) 0).bind (fun c => match c with | .seq .skip x => some x | _ => none) = some rest) (a : Act) (w' : World) (hJ : atLabel w B T st tl sl l a w') :
    rest.wp Tryd.prog (Exit.jump 0 (fun a2 w2 => atLabel w B T st tl sl l a2 w2 ∧ 64 - (intOf (a2.tmps.getD 13 undef)).toNat < 64 - (intOf (a.tmps.getD 13 undef)).toNat)
      (bodyPost Tryd.prog Tryd.f45 fun e w2 => e = .returned (.tuple #[]) ∧ St w2 B T (blockF st l) tl ∧ w.grownBy w2 (some B))) a w' := by
  obtain ⟨f, i, WB, rfl, hi, hg, hS, hA, hK⟩ := hJ
  obtain rfl : _ = rest := Option.some.inj hrest
  obtain ⟨bk, ok, hk1, hk2, hk3⟩ := hK.at_ (by decide)
  obtain ⟨rfl, rfl⟩ : gK = bk ∧ 0 = ok := by simpa using hk1
  have ck := hk3 i (by have : K256.length = 64 := rfl; omega)
  rw [Nat.zero_add] at ck
  have cw := hA.cell i (by rw [wordsOf_length]; exact hi)
  have HG := Lib.hid hg
  have HS := Lib.hid hS
  have HA := Lib.hid hA
  have HK := Lib.hid hK
  clear hg hS hA hK hk1 hk3 hk2 hrest
  go_wp2_with fail
  go_quiet ((exact calls_same (right_calls _ _ (by omega) (by omega) _) ⟨_, rfl⟩))
  by_cases hlt : i + 1 < 64
  · go_wp2_with ((refine (right_calls _ _ (by omega) (by omega) _).mono ?_); rintro e w' ⟨rfl, rfl⟩)
    go_step3
    refine ⟨rfl, atLabel_mk (i + 1) rfl rfl hlt (grown_trans HG.out (grown_drewN _ nq _)) (HS.out.drewN nq) (HA.out.drewN nq) (HK.out.drewN nq), ?_⟩
    simp [intOf]
    omega
  · obtain rfl : i = 63 := by omega
    go_wp2_with ((refine (right_calls _ _ (by omega) (by omega) _).mono ?_); rintro e w' ⟨rfl, rfl⟩)
    go_loopw [121] (fun c wr => ∃ k : Nat, k ≤ 8 ∧ c = .int .i64 k ∧ w.grownBy wr (some B) ∧ St wr B T (addTo st (rnds (v8 st) (wordsOf l) 64).list k) tl) (fun c _ => 8 - (intOf c).toNat)
    case atStart => exact ⟨0, by omega, rfl, grown_trans HG.out (grown_drewN _ nq _), HS.out.drewN nq⟩
    case round =>
      clear HG HS HA HK
      obtain ⟨k, hk, rfl, hg, hS⟩ := hrel
      by_cases hlt : k < 8
      · have c0 := hS.cell k hlt
        have c1 := hS.free k
        have hix := fun x0 x1 x2 x3 x4 x5 x6 x7 w => run_index_eight x0 x1 x2 x3 x4 x5 x6 x7 k hlt w
        have HG := Lib.hid hg
        have HS := Lib.hid hS
        clear hg hS
        go_wp2_with fail
        refine wp_region_quiet_tail 9 (by kernel_rfl) (by kernel_rfl) ?_
        simp only [List.take_succ_cons, List.take_zero, List.drop_succ_cons, List.drop_zero]
        repeat (go_big_quiet_step (fail))
        refine wpQuiet_nil ?_
        intro _ hw'
        obtain ⟨nq2, hw''⟩ := hw'
        subst hw''
        go_wp2
        go_roundw
        case rel =>
          refine ⟨k + 1, by omega, by go_num, ?_, ?_⟩
          · exact grown_trans (grown_trans HG.out (grown_drewN _ nq2 _)) (grown_set _ _ _)
          · refine St.cast ((HS.out.drewN nq2).set k hlt _) ?_
            simp only [addTo]
            refine step_mod _ _ _ _ k _ hlt ?_
            intro j hj
            have h8 : j = 0 ∨ j = 1 ∨ j = 2 ∨ j = 3 ∨ j = 4 ∨ j = 5 ∨ j = 6 ∨ j = 7 := by omega
            rcases h8 with rfl | rfl | rfl | rfl | rfl | rfl | rfl | rfl <;> simp [rnds, rnd, tF, uF, V8.list, bsig1, bsig0, chF, majF]
        case measure => simp [intOf]; omega
      · obtain rfl : k = 8 := by omega
        have HG := Lib.hid hg
        have HS := Lib.hid hS
        clear hg hS
        go_wp2
        simp only [Exit.jump]
        go_end0
        exact ⟨rfl, HS.out, HG.out⟩

end Go.Proofs.YtlmcpnicjdcmdaaDoor
