/- SHA-256: the sum of a hash. -/
import Derived.Test.YtlmcpnicjdcmdaaDoorSe
import Derived.Test.YtlmcpnicjdcmdaaDoorLb
set_option linter.unusedVariables false
set_option linter.unusedSimpArgs false
namespace Go.Proofs.YtlmcpnicjdcmdaaDoor
open Go Go.RowKit Go.BigFrame

/-- How many zeros are laid behind so many bytes. -/
def zerosOf (n : Nat) : Nat := (120 - n % 64) % 64
/-- The eight bytes of a length. -/
def be8 (m : Int) (i : Nat) : Int := m / 2 ^ (56 - 8 * i) % 256
def lens (m : Int) (i : Nat) : List Int := (List.range i).map (be8 m)
def padOf (rest : List Int) (many : Int) : List Int := rest ++ [128] ++ List.replicate (zerosOf (rest.length + 1)) 0 ++ lens (many * 8 % 18446744073709551616) 8
/-- A state's bytes. -/
def outOf (st : List Int) (i : Nat) : List Int := (List.range i).flatMap fun j => [st.getD j 0 / 16777216 % 256, st.getD j 0 / 65536 % 256, st.getD j 0 / 256 % 256, st.getD j 0 % 256]
def sumF (st rest : List Int) (many : Int) : List Int := outOf (feedN st (padOf rest many) ((padOf rest many).length / 64)) 8

theorem outOf_length (st : List Int) (i : Nat) : (outOf st i).length = 4 * i := by
  induction i with
  | zero => rfl
  | succ i ih =>
    rw [outOf, List.range_succ, List.flatMap_append, List.length_append]
    rw [outOf] at ih
    rw [ih]
    simp
    omega
theorem outOf_succ (st : List Int) (i : Nat) : outOf st (i + 1) = outOf st i ++ [st.getD i 0 / 16777216 % 256, st.getD i 0 / 65536 % 256, st.getD i 0 / 256 % 256, st.getD i 0 % 256] := by
  rw [outOf, outOf, List.range_succ, List.flatMap_append]
  simp
theorem rfl_slice {A : Option Addr} {n m c : Nat} (h : n = m) : Value.slice A n c = .slice A m c := by rw [h]
theorem eight_cells {st : List Int} (h : st.length = 8) : #[Value.int .u32 (st[0]?.getD 0), .int .u32 (st[1]?.getD 0), .int .u32 (st[2]?.getD 0), .int .u32 (st[3]?.getD 0), .int .u32 (st[4]?.getD 0), .int .u32 (st[5]?.getD 0), .int .u32 (st[6]?.getD 0), .int .u32 (st[7]?.getD 0)] = (ints .u32 st ++ []).toArray := by
  match st, h with
  | [a, b, c, d, e, f, g, i], _ => rfl

theorem run_index_state (x0 x1 x2 x3 x4 x5 x6 x7 : Int) (k : Nat) (hk : k < 8) (w : World) :
    (Instr.index 63 (.agg #[.int .u32 x0, .int .u32 x1, .int .u32 x2, .int .u32 x3, .int .u32 x4, .int .u32 x5, .int .u32 x6, .int .u32 x7]) (.int .i64 k)).run Tryd.prog w = .ok (.int .u32 ([x0, x1, x2, x3, x4, x5, x6, x7].getD k 0)) w :=
  run_index_ints (l := [x0, x1, x2, x3, x4, x5, x6, x7]) (n := 8) w Tryd.underlying63 Tryd.underlying61 (by kernel_rfl) rfl hk

set_option maxRecDepth 100000 in
set_option maxHeartbeats 400000 in
theorem hsum_calls (w : World) (B : Nat) (st : List Int) (A : Option Addr) (rest : List Int) (cap : Nat) (many : Int) (hH : Hash w B st A rest cap many) (hK : Ksha w) (hr : rest.length < 64) :
    Calls Tryd.prog 32 #[.pointer (some ⟨B, 0, none⟩)] w (RetB w (sumF st rest many)) := by
  have hS := hH.st
  have d0 := hS.cell 0 (by decide)
  have d1 := hS.cell 1 (by decide)
  have d2 := hS.cell 2 (by decide)
  have d3 := hS.cell 3 (by decide)
  have d4 := hS.cell 4 (by decide)
  have d5 := hS.cell 5 (by decide)
  have d6 := hS.cell 6 (by decide)
  have d7 := hS.cell 7 (by decide)
  have e0 := hS.tail 0
  have e1 := hS.tail 1
  simp only [Nat.add_zero, List.getElem?_cons_zero, List.getElem?_cons_succ, Nat.reduceAdd] at e0 e1
  have hBlt := hS.lt
  have HH := Lib.hid hH
  have hKne : w.heap.size ≠ gK := by
    obtain ⟨b, off, e, hlt, _⟩ := Rd.at_ hK (by decide)
    injection e with e
    injection e with e
    omega
  have HK := Lib.hid hK
  clear hS hH hK
  go_enter Tryd.func32, Tryd.ntmps32
  go_wp2_with ((with_reducible refine gate_dst (N := 13) rfl ?_); refine stop ?_)
  refine with_worldL (fun w2 => St w2 w.heap.size 63 st [] ∧ Rd .u8 w2 A rest ∧ Below w.heap.size w w2 ∧ w2.heap.size = w.heap.size + 1) ⟨St.lit HH.out.st.len (eight_cells HH.out.st.len) rfl, HH.out.rd.alloc _, (Below.refl _ _).alloc (Nat.le_refl _) _, by simp⟩ ?_
  rintro wS ⟨hS, hR, hB, hsz⟩
  have c8 := cell_below hB hBlt e0
  have c9 := cell_below hB hBlt e1
  have hBlt2 : B < wS.heap.size := by omega
  have HS := Lib.hid hS
  have HR := Lib.hid hR
  have HB := Lib.hid hB
  have HSZ := Lib.hid hsz
  clear hS hR hB hsz e0 e1 d0 d1 d2 d3 d4 d5 d6 d7
  go_wp2_with ((with_reducible refine gate_dst (N := 18) rfl ?_); refine stop ?_)
  refine Stop.go ?_
  refine wpList_append_new bytesE wS (.tmp 13) (.tmp 17) _ [] A cap rest.length rest (Own.lit (Nat.le_refl _) rfl rfl (by decide) rfl rfl) ((Below.refl _ _).alloc (Nat.le_refl _) _) (HR.out.alloc _) rfl rfl rfl rfl rfl (by simp; omega) (by simp [maxLen]; omega) ?_
  intro v1 w1 ho1 hb1
  have HO1 := Lib.hid ho1
  have HB1 := Lib.hid hb1
  clear ho1 hb1
  go_wp2_with ((with_reducible refine gate_dst (N := 20) rfl ?_); refine stop ?_)
  refine Stop.go ?_
  refine wpList_append_new bytesE wS (.tmp 18) (.tmp 19) _ ([] ++ rest) _ _ _ [128] (HO1.out.alloc _) (HB1.out.alloc HB1.out.size _) (Rd.lit rfl rfl (by decide)) rfl rfl rfl rfl rfl (by simp; omega) (by simp [maxLen]; omega) ?_
  intro v2 w2 ho2 hb2
  have HO2 := Lib.hid ho2
  have HB2 := Lib.hid hb2
  clear ho2 hb2
  go_wp2_with fail
  go_loopw [4] (fun v wr => ∃ j, j ≤ zerosOf (rest.length + 1) ∧ Own .u8 5 wr wS.heap.size v (rest ++ [128] ++ List.replicate j 0) ∧ Below wS.heap.size wS wr) (fun v _ => 200 - lenV v)
  case atStart => exact ⟨0, Nat.zero_le _, by simpa using HO2.out, HB2.out⟩
  case round =>
    obtain ⟨j, hj, ho, hb⟩ := hrel
    obtain ⟨A1, n1, c1, rfl, hn1, hle1, hm1, ho1⟩ := ho.form2
    have hn2 : n1 = rest.length + 1 + j := by rw [hn1]; simp; omega
    have HO3 := Lib.hid ho1
    have HB3 := Lib.hid hb
    have HN1 := Lib.hid hn1
    have HN2 := Lib.hid hn2
    clear ho ho1 hb hn1 hn2
    have hz : zerosOf (rest.length + 1) < 64 := Nat.mod_lt _ (by decide)
    by_cases h56 : n1 % 64 = 56
    · go_wp2_with fail
      have hjz : j = zerosOf (rest.length + 1) := by
        have := HN2.out
        have : zerosOf (rest.length + 1) = (120 - (rest.length + 1) % 64) % 64 := rfl
        omega
      subst hjz
      have hBw : Below w.heap.size w wr := HB.out.trans (HB3.out.mono HB.out.size)
      clear hBw h56
      generalize ((n1 : Int) % 64 != 56) = q24
      go_loopw [4, 5] (fun v s wr => ∃ i, i ≤ 8 ∧ s = .int .i64 (56 - 8 * (i : Nat)) ∧ Own .u8 5 wr wS.heap.size v (rest ++ [128] ++ List.replicate (zerosOf (rest.length + 1)) 0 ++ lens (many * 8 % 18446744073709551616) i) ∧ Below wS.heap.size wS wr) (fun _ s _ => (intOf s + 8).toNat)
      case atStart => exact ⟨0, by decide, by go_num, by simpa [lens] using HO3.out, HB3.out⟩
      case round =>
        obtain ⟨i, hi, rfl, ho, hb⟩ := hrel
        have hBw : Below w.heap.size w wr := HB.out.trans (hb.mono HB.out.size)
        have c9 := cell_below hBw hBlt (by simpa using HH.out.st.tail 1 : w.cell? ⟨B, 9, none⟩ = some (.int .u64 many))
        clear hBw
        obtain ⟨A7, n7, c7, rfl, hn7, hle7, hm7, ho7⟩ := ho.form2
        have hn72 : n7 = n1 + i := by rw [hn7, HN1.out]; simp [lens]; omega
        have HO7 := Lib.hid ho7
        have HB7 := Lib.hid hb
        have HN7 := Lib.hid hn7
        have HN72 := Lib.hid hn72
        clear ho ho7 hb hn7 hn72
        by_cases hi8 : i < 8
        · go_wp2_with ((with_reducible refine gate_dst (N := 42) rfl ?_); refine stop ?_)
          refine Stop.go ?_
          refine wpList_append_new bytesE wS (.tmp 32) (.tmp 41) _ _ _ _ _ [be8 (many * 8 % 18446744073709551616) i] (HO7.out.alloc _) (HB7.out.alloc HB7.out.size _) (Rd.lit (by rw [IntKind.wrap_u64]; rfl) rfl (by simp)) rfl rfl rfl rfl rfl (by simp [lens]; omega) (by simp [lens, maxLen]; omega) ?_
          intro v8 w8 ho8 hb8
          have HO8 := Lib.hid ho8
          have HB8 := Lib.hid hb8
          clear ho8 hb8
          go_wp2_with fail
          go_roundw
          case rel =>
            refine ⟨i + 1, by omega, ?_, ?_, HB8.out⟩
            · congr 1
              omega
            · have := HO8.out
              rw [List.append_assoc] at this
              rw [lens, List.range_succ, List.map_append]
              exact this
          case measure =>
            simp only [intOf]
            omega
        · obtain rfl : i = 8 := by omega
          go_wp2_with fail
          rw [show (56 - 8 * ((8 : Nat) : Int)) = -8 from rfl]
          have hpl : (padOf rest many).length = n7 := HN7.out.symm
          have hp64 : n7 % 64 = 0 := by
            have := HN72.out
            have := HN2.out
            have : zerosOf (rest.length + 1) = (120 - (rest.length + 1) % 64) % 64 := rfl
            omega
          have hn7 : n7 ≤ 1000 := by
            have := HN72.out
            have := HN2.out
            omega
          obtain ⟨pad, hpad⟩ : ∃ pad, pad = padOf rest many := ⟨_, rfl⟩
          have HPAD := Lib.hid hpad
          refine with_world (fun w9 => St w9 w.heap.size 63 st [] ∧ Rd .u8 w9 A7 pad ∧ (∀ b off, A7 = some ⟨b, off, none⟩ → b ≠ w.heap.size) ∧ Ksha w9 ∧ Below w.heap.size w w9) ?_ ?_
          · have hbw := HB.out.trans (HB7.out.mono HB.out.size)
            exact ⟨HS.out.below HB7.out (by have := HSZ.out; omega), hpad ▸ HO7.out.rd, fun b off h => by
              have := HO7.out.ge b off h
              have := HSZ.out
              omega, HK.out.below hbw, hbw⟩
          · rintro w9 ⟨hS9, hR9, hA9, hK9, hB9⟩
            have HS9 := Lib.hid hS9
            have HR9 := Lib.hid hR9
            have HA9 := Lib.hid hA9
            have HK9 := Lib.hid hK9
            have HB9 := Lib.hid hB9
            rw [← hpad] at hpl
            clear hS9 hR9 hA9 hK9 hB9 hpad
            have hW9 := HB9.out.size
            go_loopw [4] (fun v wr => ∃ k A c, 64 * k ≤ n7 ∧ v = .slice A (n7 - 64 * k) c ∧ n7 - 64 * k ≤ c ∧ St wr w.heap.size 63 (feedN st pad k) [] ∧ Rd .u8 wr A (pad.drop (64 * k)) ∧ (∀ b off, A = some ⟨b, off, none⟩ → b ≠ w.heap.size) ∧ Ksha wr ∧ Below w.heap.size w wr) (fun v _ => lenV v)
            case atStart => exact ⟨0, A7, c7, by omega, rfl, by omega, HS9.out, HR9.out, HA9.out, HK9.out, HB9.out⟩
            case round =>
              obtain ⟨k, A, c, hk, rfl, hc, hS, hR, hA, hK, hB⟩ := hrel
              by_cases hlt : 0 < n7 - 64 * k
              · obtain ⟨b, off, rfl, hb, hcs⟩ := hR.at_ (by rw [List.length_drop]; omega)
                have HS := Lib.hid hS
                have HR := Lib.hid hR
                have HA := Lib.hid hA
                have HK := Lib.hid hK
                have HB := Lib.hid hB
                clear hS hR hA hK hB hcs
                have h64 : 64 ≤ n7 - 64 * k := by omega
                by_cases hc64 : c = 64
                · go_wp2_with ((refine (block_calls _ w.heap.size 63 _ _ b off _ _ (pad.drop (64 * k)) HS.out HK.out hKne (by rw [List.length_drop, hpl]) (by rw [List.length_drop]; omega) (by rw [List.length_drop]; omega) HR.out).mono ?_); rintro e w5 ⟨rfl, hS5, hg5⟩; (have HS5 := Lib.hid hS5); (have HG5 := Lib.hid hg5); clear hS5 hg5)
                  go_roundw
                  case rel => exact ⟨k + 1, _, _, by omega, rfl_slice (by omega), by omega, HS5.out, by rw [List.drop_eq_nil_of_le (by omega)]; exact Rd.nil _ _ _, HA.out, HK.out.grown HG5.out hKne, HB.out.trans (below_of_grown HG5.out HB.out.size (Nat.le_refl _))⟩
                  case measure => simp only [lenV]; omega
                · go_wp2_with ((refine (block_calls _ w.heap.size 63 _ _ b off _ _ (pad.drop (64 * k)) HS.out HK.out hKne (by rw [List.length_drop, hpl]) (by rw [List.length_drop]; omega) (by rw [List.length_drop]; omega) HR.out).mono ?_); rintro e w5 ⟨rfl, hS5, hg5⟩; (have HS5 := Lib.hid hS5); (have HG5 := Lib.hid hg5); clear hS5 hg5)
                  go_roundw
                  case rel =>
                    refine ⟨k + 1, _, _, by omega, rfl_slice (by omega), by omega, HS5.out, ?_, ?_, HK.out.grown HG5.out hKne, HB.out.trans (below_of_grown HG5.out HB.out.size (Nat.le_refl _))⟩
                    · have h1 := (HR.out.grown HG5.out (fun b1 off1 h => fun e => HA.out b1 off1 h (by injection e))).drop 64
                      rw [List.drop_drop, ← Nat.mul_succ] at h1
                      exact h1
                    · intro b1 off1 h
                      injection h with h
                      injection h with h1 h2
                      exact HA.out b1 off (by rw [h1])
                  case measure => simp only [lenV]; omega
              · have hk' : k = n7 / 64 := by omega
                obtain ⟨x, hx⟩ : ∃ x, x = feedN st pad k := ⟨_, rfl⟩
                rw [← hx] at hS
                match x, hS.len with
                | [x0, x1, x2, x3, x4, x5, x6, x7], _ =>
                  have d0 := hS.cell 0 (by decide)
                  have d1 := hS.cell 1 (by decide)
                  have d2 := hS.cell 2 (by decide)
                  have d3 := hS.cell 3 (by decide)
                  have d4 := hS.cell 4 (by decide)
                  have d5 := hS.cell 5 (by decide)
                  have d6 := hS.cell 6 (by decide)
                  have d7 := hS.cell 7 (by decide)
                  have HX := Lib.hid hx
                  have HKK := Lib.hid hk'
                  clear hk'
                  have HB := Lib.hid hB
                  clear hS hR hA hK hB hx
                  go_wp2_with fail
                  clear d0 d1 d2 d3 d4 d5 d6 d7
                  clear hlt
                  generalize n7 - 64 * k = q44
                  generalize (decide (0 < q44)) = q45
                  go_loopw [6, 8, 51] (fun v _ s wr => ∃ i, i ≤ 8 ∧ s = .int .i64 (i : Nat) ∧ Own .u8 5 wr w.heap.size v (outOf [x0, x1, x2, x3, x4, x5, x6, x7] i) ∧ Below w.heap.size w wr) (fun _ _ s _ => 8 - (intOf s).toNat)
                  case atStart => exact ⟨0, by decide, rfl, Own.nil _ _ _ _, HB.out⟩
                  case round =>
                    obtain ⟨i, hi, rfl, ho, hb⟩ := hrel
                    have HO := Lib.hid ho
                    have HBB := Lib.hid hb
                    clear ho hb
                    by_cases hi8 : i < 8
                    · have hix := fun w => run_index_state x0 x1 x2 x3 x4 x5 x6 x7 i hi8 w
                      go_wp2_with ((with_reducible refine gate_dst (N := 67) rfl ?_); refine stop ?_)
                      refine Stop.go ?_
                      have hgd : [x0, x1, x2, x3, x4, x5, x6, x7].getD i 0 = [x0, x1, x2, x3, x4, x5, x6, x7][i] := by rw [List.getD_eq_getElem?_getD, List.getElem?_eq_getElem hi8]; rfl
                      refine wpList_append_new bytesE w (.tmp 54) (.tmp 66) _ _ _ _ _ [[x0, x1, x2, x3, x4, x5, x6, x7].getD i 0 / 16777216 % 256, [x0, x1, x2, x3, x4, x5, x6, x7].getD i 0 / 65536 % 256, [x0, x1, x2, x3, x4, x5, x6, x7].getD i 0 / 256 % 256, [x0, x1, x2, x3, x4, x5, x6, x7].getD i 0 % 256] (HO.out.alloc _) (HBB.out.alloc HBB.out.size _) (Rd.lit (by rw [hgd]; rfl) rfl (by simp)) rfl rfl rfl rfl rfl (by rw [outOf_length]; simp; omega) (by rw [outOf_length]; simp [maxLen]; omega) ?_
                      intro v8 w8 ho8 hb8
                      have HO8 := Lib.hid ho8
                      have HB8 := Lib.hid hb8
                      clear ho8 hb8 hgd
                      go_wp2_with fail
                      go_roundw
                      case rel =>
                        refine ⟨i + 1, by omega, by go_num, ?_, HB8.out⟩
                        rw [outOf_succ]
                        exact HO8.out
                      case measure => simp [intOf]; omega
                    · obtain rfl : i = 8 := by omega
                      obtain ⟨A1, n1, c1, rfl, hn1, _, _, ho1⟩ := HO.out.form2
                      go_wp2_with fail
                      go_ret
                      have hsum : outOf [x0, x1, x2, x3, x4, x5, x6, x7] 8 = sumF st rest many := by rw [HX.out, HPAD.out, HKK.out]; unfold sumF; rw [HN7.out]; rfl
                      exact ⟨A1, c1, by rw [hn1, hsum]; rfl, by rw [← hsum, ← hn1]; exact ho1, HBB.out⟩
    · go_wp2_with ((with_reducible refine gate_dst (N := 27) rfl ?_); refine stop ?_)
      refine Stop.go ?_
      refine wpList_append_new bytesE wS (.tmp 25) (.tmp 26) _ _ _ _ _ [0] (HO3.out.alloc _) (HB3.out.alloc HB3.out.size _) (Rd.lit rfl rfl (by decide)) rfl rfl rfl rfl rfl (by simp; omega) (by simp [maxLen]; omega) ?_
      intro v4 w4 ho4 hb4
      have HO4 := Lib.hid ho4
      have HB4 := Lib.hid hb4
      clear ho4 hb4
      go_wp2_with fail
      go_roundw
      case rel =>
        refine ⟨j + 1, ?_, ?_, HB4.out⟩
        · have := HN2.out
          have : zerosOf (rest.length + 1) = (120 - (rest.length + 1) % 64) % 64 := rfl
          omega
        · have := HO4.out
          rw [List.replicate_succ', ← List.append_assoc]
          exact this
      case measure =>
        obtain ⟨A5, n5, c5, rfl, hn5, _⟩ := HO4.out.form2
        have h5 : n5 = n1 + 1 := by rw [hn5, HN1.out]; simp; omega
        have := HN2.out
        simp only [lenV, h5]
        omega
end Go.Proofs.YtlmcpnicjdcmdaaDoor
