/- SHAKE256 of bytes. -/
import Derived.Test.YtlmcpnicjdcmdaaDoorKc
set_option linter.unusedVariables false
set_option linter.unusedSimpArgs false
namespace Go.Proofs.YtlmcpnicjdcmdaaDoor
open Go Go.RowKit Go.BigFrame

/-- The state where reading begins. -/
def finS (rate : Nat) (en : Int) (s : List Int × Nat) : List Int × Nat := (changeF (layF (layF s.1 s.2 en) (rate - 1) 128), 0)
theorem finS_1 (rate : Nat) (en : Int) (L : List Int) (a : Nat) : (finS rate en (L, a)).1 = changeF (layF (layF L a en) (rate - 1) 128) := by simp only [finS]
theorem finS_2 (rate : Nat) (en : Int) (s : List Int × Nat) : (finS rate en s).2 = 0 := by simp only [finS]
/-- Ahead of a byte. -/
def preS (rate : Nat) (s : List Int × Nat) : List Int × Nat := if s.2 = rate then (changeF s.1, 0) else s
def byteS (s : List Int × Nat) : Int := s.1.getD (s.2 / 8) 0 / 2 ^ (s.2 % 8 * 8) % 256
def readS (rate : Nat) (s : List Int × Nat) : Nat → List Int × Nat
  | 0 => s
  | k + 1 => ((preS rate (readS rate s k)).1, (preS rate (readS rate s k)).2 + 1)
def outK (rate : Nat) (s : List Int × Nat) (n : Nat) : Nat → List Int
  | 0 => List.replicate n 0
  | k + 1 => (outK rate s n k).set k (byteS (preS rate (readS rate s k)))
theorem outK_length (rate : Nat) (s : List Int × Nat) (n k : Nat) : (outK rate s n k).length = n := by
  induction k with
  | zero => exact List.length_replicate
  | succ k ih => rw [outK, List.length_set, ih]
theorem readS_le (rate : Nat) (s : List Int × Nat) (k : Nat) (h0 : 0 < rate) (h : s.2 ≤ rate) : (readS rate s k).2 ≤ rate := by
  induction k with
  | zero => exact h
  | succ k ih =>
    rw [readS]
    show (preS rate (readS rate s k)).2 + 1 ≤ rate
    unfold preS
    split
    · show 0 + 1 ≤ rate; omega
    · omega
theorem preS_lt (rate : Nat) (s : List Int × Nat) (h0 : 0 < rate) (h : s.2 ≤ rate) : (preS rate s).2 < rate := by
  unfold preS
  split
  · exact h0
  · omega
theorem preS_sp {w w4 : World} {B rate at1 : Nat} {en : Int} {L1 : List Int} {gv : Bool} (hs : SP w B rate en (if ((at1 : Int) == (rate : Int)) = true then changeF L1 else L1) (if ((at1 : Int) == (rate : Int)) = true then 0 else at1) gv w4) :
    SP w B rate en (preS rate (L1, at1)).1 (preS rate (L1, at1)).2 gv w4 := by
  unfold preS
  by_cases hr : at1 = rate
  · have hb : ((at1 : Int) == (rate : Int)) = true := by simp; omega
    simp only [hb, if_true] at hs
    simp only [hr, if_true]
    exact hs
  · have hb : ((at1 : Int) == (rate : Int)) = false := by simp; omega
    simp only [hb, Bool.false_eq_true, if_false] at hs
    simp only [hr, if_false]
    exact hs

theorem Kkec.ne_new {w : World} (h : Kkec w) : w.heap.size ≠ 2 ∧ w.heap.size ≠ 4 ∧ w.heap.size ≠ 3 := by
  obtain ⟨⟨_, hc⟩, ⟨_, ht⟩, ⟨_, hp⟩⟩ := h
  exact ⟨Nat.ne_of_gt hc.lt, Nat.ne_of_gt ht.lt, Nat.ne_of_gt hp.lt⟩
theorem grown_setNew {w w1 : World} {row : Option Nat} (h : w.grownBy w1 row) {R : Nat} (hR : w.heap.size ≤ R) (i : Nat) (v : Value) : w.grownBy (w1.setCell ⟨R, i, none⟩ v) row :=
  ⟨h.os, h.tape, h.output, by simpa [World.setCell] using h.size, fun j hj hne => (Below.heap_setCell _ _ _ _ (by show j ≠ R; omega)).trans (h.block j hj hne)⟩
theorem SP.setNew {w wr : World} {B rate at_ : Nat} {en : Int} {L : List Int} {gives : Bool} (h : SP w B rate en L at_ gives wr) {R : Nat} (hRB : R ≠ B) (hw : w.heap.size ≤ R) (hne : R ≠ 2 ∧ R ≠ 4 ∧ R ≠ 3) (i : Nat) (v : Value) : SP w B rate en L at_ gives (wr.setCell ⟨R, i, none⟩ v) :=
  ⟨h.m.other hRB v, h.len, h.k.grown (grown_set _ ⟨R, i, none⟩ _) hne.1 hne.2.1 hne.2.2, grown_setNew h.g hw i v, h.h1, h.h2, h.h3⟩

set_option maxRecDepth 100000 in
set_option maxHeartbeats 1000000 in
theorem kread_calls {w wr : World} {B rate at_ : Nat} {en : Int} {L : List Int} (h : SP w B rate en L at_ false wr) (hat : at_ < rate) (hrate : rate ≤ 192) (n : Nat) (hn : n ≤ 65536) :
    Calls Tryd.prog 42 #[.pointer (some ⟨B, 0, none⟩), .int .i64 n] wr fun e w' => ∃ A c, e = .returned (.slice A n c) ∧ Own .u8 5 w' wr.heap.size (.slice A n c) (outK rate (finS rate en (L, at_)) n n) ∧ wr.grownBy w' (some B) := by
  have c28 := h.cGives
  have c27 := h.cAt
  have c1 := h.cEn
  have H := Lib.hid h
  clear h
  go_enter Tryd.func42, Tryd.ntmps42
  go_wp2_with (with_reducible refine stop_region 4 ?_)
  refine Stop.go ?_
  refine wp_region_quiet_tail 9 (by kernel_rfl) (by kernel_rfl) ?_
  simp only [List.take_succ_cons, List.take_zero, List.drop_succ_cons, List.drop_zero]
  repeat (go_big_quiet_step (fail))
  refine wpQuiet_nil ?_
  intro _ hw'
  obtain ⟨nq, hw''⟩ := hw'
  subst hw''
  go_wp2_with (go_at_call 52; refine stop ?_)
  refine Stop.call (lay_calls (H.out.drewN nq) at_ (by omega) en) ?_
  rintro e w2 ⟨rfl, hs2, hg2⟩
  have c0 := hs2.cRate
  have HS2 := Lib.hid hs2
  have HG2 := Lib.hid (grown_trans (grown_drewN wr nq (some B)) hg2)
  clear hs2 hg2 c28 c27 c1
  go_wp2_with (go_at_call 52; refine stop ?_)
  have hcast : ((rate : Int) - 1) = ((rate - 1 : Nat) : Int) := by omega
  rw [hcast]
  refine Stop.call (lay_calls HS2.out (rate - 1) (by omega) 128) ?_
  rintro e w3 ⟨rfl, hs3, hg3⟩
  have HS3 := Lib.hid hs3
  have HG3 := Lib.hid (grown_trans HG2.out hg3)
  clear hs3 hg3 c0 hcast
  go_wp2_with (go_at_call 53; refine stop ?_)
  refine Stop.call (turn_calls HS3.out true) ?_
  rintro e w4 ⟨rfl, hs4, hg4⟩
  simp only [if_true] at hs4
  have c28 := hs4.cGives
  have f28 := hs4.free 28
  have HS4 := Lib.hid hs4
  have HG4 := Lib.hid (grown_trans HG3.out hg4)
  clear hs4 hg4
  go_wp2_with ((with_reducible refine gate_dst (N := 41) rfl ?_); refine stop ?_)
  refine Stop.go ?_
  refine wpList_make_new bytesE (.tmp 40) (.tmp 40) n n .i64 .i64 rfl rfl rfl rfl (Nat.le_refl _) (by omega) (by omega) ?_
  go_wp2_with fail
  obtain ⟨R, hR⟩ : ∃ R, R = w4.heap.size := ⟨_, rfl⟩
  rw [← hR]
  have hRw : wr.heap.size ≤ R := by rw [hR]; exact HG4.out.size
  have hRB : R ≠ B := by rw [hR]; exact Nat.ne_of_gt HS4.out.m.lt
  have hne := HS4.out.k.ne_new
  rw [← hR] at hne
  obtain ⟨s0, hs0⟩ : ∃ s0, s0 = finS rate en (L, at_) := ⟨_, rfl⟩
  refine with_world (fun w5 => SP w B rate en s0.1 s0.2 true w5 ∧ Arr w5 R 5 .u8 (List.replicate n 0) ∧ wr.grownBy w5 (some B)) ?_ ?_
  · refine ⟨?_, ?_, ?_⟩
    · rw [hs0, finS_1, finS_2]
      exact (HS4.out.setGives true).below ((Below.refl _ _).alloc (Nat.le_refl _) _)
    · have e : R = (w4.setCell ⟨B, 28, none⟩ (.bool true)).heap.size := by rw [hR]; simp [World.setCell]
      rw [e]
      exact Arr.new _ _ _ _
    · exact grown_trans (grown_trans HG4.out (grown_set _ ⟨B, 28, none⟩ _)) (grown_new _ _ _)
  · rintro w5 ⟨hs5, hA5, hg5⟩
    have hs02 : s0.2 ≤ rate := by rw [hs0, finS_2]; exact Nat.zero_le _
    have HS5 := Lib.hid hs5
    have HA5 := Lib.hid hA5
    have HG5 := Lib.hid hg5
    have HS0 := Lib.hid hs0
    clear hs5 hA5 hg5 hs0 c28 f28 HS4 HG4 HS3 HG3 HS2 HG2 hR
    generalize (decide ((n : Int) < 0)) = q8
    generalize (decide ((65536 : Int) < n)) = q11
    go_loopw [6, 44] (fun _ s wr2 => ∃ k, k ≤ n ∧ s = .int .i64 (k : Nat) ∧ SP w B rate en (readS rate s0 k).1 (readS rate s0 k).2 true wr2 ∧ Arr wr2 R 5 .u8 (outK rate s0 n k) ∧ wr.grownBy wr2 (some B)) (fun _ s _ => n - (intOf s).toNat)
    case atStart => exact ⟨0, Nat.zero_le _, rfl, HS5.out, HA5.out, HG5.out⟩
    case round =>
      obtain ⟨k, hk, rfl, hs, hA, hg⟩ := hrel
      clear HS5 HA5 HG5
      by_cases hkn : k < n
      · have hle := readS_le rate s0 k (by omega) hs02
        obtain ⟨s, hsd⟩ : ∃ s, s = readS rate s0 k := ⟨_, rfl⟩
        rw [← hsd] at hs hle
        obtain ⟨L1, at1⟩ := s
        simp only at hs hle
        have c27 := hs.cAt
        have c0 := hs.cRate
        have HS := Lib.hid hs
        have HA := Lib.hid hA
        have HG := Lib.hid hg
        have HSD := Lib.hid hsd
        clear hs hA hg hsd
        go_wp2_with (with_reducible refine stop_region 12 ?_)
        refine Stop.go ?_
        refine wp_region_quiet_tail 10 (by kernel_rfl) (by kernel_rfl) ?_
        simp only [List.take_succ_cons, List.take_zero, List.drop_succ_cons, List.drop_zero]
        repeat (go_big_quiet_step (fail))
        refine wpQuiet_nil ?_
        intro _ hw'
        obtain ⟨nq2, hw''⟩ := hw'
        subst hw''
        go_wp2_with (go_at_call 53; refine stop ?_)
        refine Stop.call (turn_calls (HS.out.drewN nq2) _) ?_
        rintro e w6 ⟨rfl, hs6, hg6⟩
        have hs7 := preS_sp hs6
        have hlt2 := preS_lt rate (L1, at1) (by omega) hle
        have hA6 := (HA.out.drewN nq2).grown hg6 (fun e => hRB (by injection e))
        have HPR := Lib.hid (rfl : preS rate (L1, at1) = preS rate (L1, at1))
        obtain ⟨p, hp⟩ : ∃ p, p = preS rate (L1, at1) := ⟨_, rfl⟩
        rw [← hp] at hs7 hlt2
        obtain ⟨L2, at2⟩ := p
        simp only at hs7 hlt2
        have c27 := hs7.cAt
        have c1 := hs7.word (at2 / 8) (by omega)
        have f27 := hs7.free 27
        have d0 := hA6.cell k (by rw [outK_length]; exact hkn)
        have f0 := hA6.free k
        have HS7 := Lib.hid hs7
        have HA7 := Lib.hid hA6
        have HG7 := Lib.hid (grown_trans HG.out (grown_trans (grown_drewN _ nq2 (some B)) hg6))
        have HP := Lib.hid hp
        clear hs6 hs7 hg6 hA6 hp c0 HPR
        go_wp2_with (with_reducible refine stop_region 13 ?_)
        refine Stop.go ?_
        refine wp_region_quiet_tail 21 (by kernel_rfl) (by kernel_rfl) ?_
        simp only [List.take_succ_cons, List.take_zero, List.drop_succ_cons, List.drop_zero]
        repeat (go_big_quiet_step (fail))
        refine wpQuiet_nil ?_
        intro _ hw'
        obtain ⟨nq3, hw''⟩ := hw'
        subst hw''
        go_wp2_with fail
        have hcast : ((at2 : Int) + 1) = ((at2 + 1 : Nat) : Int) := by omega
        rw [hcast]
        go_roundw
        case rel =>
          have e1 : (readS rate s0 (k + 1)).1 = L2 := by rw [readS, ← HSD.out, ← HP.out]
          have e2 : (readS rate s0 (k + 1)).2 = at2 + 1 := by rw [readS, ← HSD.out, ← HP.out]
          have e3 : outK rate s0 n (k + 1) = (outK rate s0 n k).set k (L2.getD (at2 / 8) 0 / 2 ^ (at2 % 8 * 8) % 256) := by rw [outK, ← HSD.out, ← HP.out, byteS]
          refine ⟨k + 1, hkn, by go_num, ?_, ?_, ?_⟩
          · rw [e1, e2]
            exact ((HS7.out.drewN nq3).setNew hRB (Nat.le_trans H.out.g.size hRw) hne k _).setAt (at2 + 1)
          · rw [e3]
            exact ((HA7.out.drewN nq3).set k _).other (p := ⟨B, 27, none⟩) (fun e => hRB e.symm) _
          · exact grown_trans (grown_setNew (grown_trans HG7.out (grown_drewN _ nq3 (some B))) hRw k _) (grown_set _ ⟨B, 27, none⟩ _)
        case measure => simp [intOf]; omega
      · obtain rfl : k = n := by omega
        have HS := Lib.hid hs
        have HA := Lib.hid hA
        have HG := Lib.hid hg
        clear hs hA hg
        go_wp2_with fail
        go_ret
        have hl : (outK rate (finS rate en (L, at_)) k k).length = k := outK_length _ _ _ _
        rw [HS0.out] at *
        exact ⟨_, k, rfl, HA.out.own hRw hl.symm hl.symm (by rw [hl]; unfold maxLen; omega), HG.out⟩
end Go.Proofs.YtlmcpnicjdcmdaaDoor

namespace Go.Proofs.YtlmcpnicjdcmdaaDoor
open Go Go.RowKit Go.BigFrame

def shakeF (l : List Int) (n : Nat) : List Int := outK 136 (finS 136 31 (absN 136 (List.replicate 25 0, 0) l l.length)) n n
theorem shakeF_length (l : List Int) (n : Nat) : (shakeF l n).length = n := outK_length _ _ _ _

set_option maxRecDepth 100000 in
set_option maxHeartbeats 1000000 in
theorem kof_calls (w : World) (A : Option Addr) (m c : Nat) (l : List Int) (n : Nat) (hm : m = l.length) (hR : Rd .u8 w A l) (hn : n ≤ 65536) (hK : Kkec w) :
    Calls Tryd.prog 26 #[.int .i64 136, .int .u8 31, .slice A m c, .int .i64 n] w (RetB w (shakeF l n)) := by
  have HK := Lib.hid hK
  have HR := Lib.hid hR
  have HM := Lib.hid hm
  clear hK hR hm
  go_enter Tryd.func26, Tryd.ntmps26
  go_wp2_with (go_at_call 40; refine stop ?_)
  refine Stop.call (knew_calls w 136 31 (by decide) (by decide) (by decide +kernel) HK.out) ?_
  rintro e w1 ⟨rfl, hs, hb⟩
  have HS := Lib.hid hs
  have HB := Lib.hid hb
  clear hs hb
  go_wp2_with (go_at_call 41; refine stop ?_)
  refine Stop.call (kwrite_calls HS.out (by decide) (by decide) A m c l HM.out (HR.out.below HB.out) (fun h0 b off h => by
    obtain ⟨b', off', e, hlt, _⟩ := HR.out.at_ h0
    rw [h] at e
    injection e with e
    injection e with e
    omega)) ?_
  rintro e w2 ⟨rfl, hs, hg⟩
  have HS2 := Lib.hid hs
  have HG2 := Lib.hid hg
  clear hs hg
  obtain ⟨s, hs⟩ : ∃ s, s = absN 136 (List.replicate 25 0, 0) l l.length := ⟨_, rfl⟩
  have hlt := absN_lt 136 (List.replicate 25 0, 0) l l.length (by decide)
  have hs2 := HS2.out
  rw [← hs] at hlt hs2
  clear HS2
  obtain ⟨L, a⟩ := s
  have HS2 := Lib.hid hs2
  have HSS := Lib.hid hs
  clear hs hs2
  go_wp2_with (go_at_call 42; refine stop ?_)
  refine Stop.call (kread_calls HS2.out hlt (by decide) n hn) ?_
  rintro e w3 ⟨A3, c3, rfl, ho, hg⟩
  have HO := Lib.hid ho
  have HG3 := Lib.hid hg
  clear ho hg
  go_wp2_with fail
  go_ret
  have e : outK 136 (finS 136 31 (L, a)) n n = shakeF l n := by rw [shakeF, ← HSS.out]
  have ho := HO.out
  rw [e] at ho
  exact ⟨A3, c3, by rw [shakeF_length]; rfl, by rw [shakeF_length]; exact ho.mono (Nat.le_trans HB.out.size HG2.out.size), (HB.out.trans (below_of_grown HG2.out HB.out.size (Nat.le_refl _))).trans (below_of_grown HG3.out (Nat.le_trans HB.out.size HG2.out.size) (Nat.le_refl _))⟩

set_option maxRecDepth 100000 in
theorem shake_calls (w : World) (A : Option Addr) (m c : Nat) (l : List Int) (n : Nat) (hm : m = l.length) (hR : Rd .u8 w A l) (hn : n ≤ 65536) (hK : Kkec w) :
    Calls Tryd.prog 16 #[.slice A m c, .int .i64 n] w (RetB w (shakeF l n)) := by
  have HC := Lib.hid (kof_calls w A m c l n hm hR hn hK)
  clear hm hR hn hK
  go_enter Tryd.func16, Tryd.ntmps16
  go_wp2_with (go_at_call 26; refine stop ?_)
  refine Stop.call HC.out ?_
  intro e w1 h1
  obtain ⟨A1, n1, c1, rfl, hn1, _, ho, hb⟩ := h1.form
  have HO := Lib.hid ho
  have HB := Lib.hid hb
  have HN1 := Lib.hid hn1
  clear h1 ho hb hn1
  go_wp2_with fail
  go_ret
  have h := HN1.out
  subst h
  exact ⟨A1, c1, rfl, HO.out, HB.out⟩
end Go.Proofs.YtlmcpnicjdcmdaaDoor
