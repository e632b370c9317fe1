/- Keccak: a sponge. -/
import Derived.Test.YtlmcpnicjdcmdaaDoorKb
import Derived.Test.YtlmcpnicjdcmdaaDoorHd
set_option linter.unusedVariables false
set_option linter.unusedSimpArgs false
namespace Go.Proofs.YtlmcpnicjdcmdaaDoor
open Go Go.RowKit Go.BigFrame

/-- A sponge in memory (block B), as the worlds from w on know it. -/
structure SP (w : World) (B : Nat) (rate : Nat) (en : Int) (L : List Int) (at_ : Nat) (gives : Bool) (wr : World) : Prop where
  m : Mid wr B 74 .u64 [.int .i64 rate, .int .u8 en] L [.int .i64 at_, .bool gives]
  len : L.length = 25
  k : Kkec wr
  g : w.grownBy wr (some B)
  h1 : B ≠ 2
  h2 : B ≠ 4
  h3 : B ≠ 3
section
variable {w wr w' : World} {B rate at_ : Nat} {en : Int} {L : List Int} {gives : Bool}
theorem SP.word (h : SP w B rate en L at_ gives wr) (i : Nat) (hi : i < 25) : wr.cell? ⟨B, 2 + i, none⟩ = some (.int .u64 (L.getD i 0)) := h.m.cell i (by rw [h.len]; exact hi)
theorem SP.free (h : SP w B rate en L at_ gives wr) (i : Nat) : wr.frozen? ⟨B, i, none⟩ = false := h.m.free i
theorem SP.cRate (h : SP w B rate en L at_ gives wr) : wr.cell? ⟨B, 0, none⟩ = some (.int .i64 rate) := h.m.preCell 0 (by simp)
theorem SP.cEn (h : SP w B rate en L at_ gives wr) : wr.cell? ⟨B, 1, none⟩ = some (.int .u8 en) := h.m.preCell 1 (by simp)
theorem SP.cAt (h : SP w B rate en L at_ gives wr) : wr.cell? ⟨B, 27, none⟩ = some (.int .i64 at_) := by
  have := h.m.postCell 0
  rw [h.len] at this
  exact this
theorem SP.cGives (h : SP w B rate en L at_ gives wr) : wr.cell? ⟨B, 28, none⟩ = some (.bool gives) := by
  have := h.m.postCell 1
  rw [h.len] at this
  exact this
theorem SP.setWord (h : SP w B rate en L at_ gives wr) (i : Nat) (hi : i < 25) (x : Int) : SP w B rate en (L.set i x) at_ gives (wr.setCell ⟨B, 2 + i, none⟩ (.int .u64 x)) :=
  ⟨h.m.set i (by rw [h.len]; exact hi) x, by rw [List.length_set]; exact h.len, h.k.grown (grown_set _ _ _) h.h1 h.h2 h.h3, grown_trans h.g (grown_set _ _ _), h.h1, h.h2, h.h3⟩
theorem SP.setAt (h : SP w B rate en L at_ gives wr) (a : Nat) : SP w B rate en L a gives (wr.setCell ⟨B, 27, none⟩ (.int .i64 a)) := by
  have hm := h.m.setPost 0 (.int .i64 a)
  rw [h.len] at hm
  exact ⟨hm, h.len, h.k.grown (grown_set _ ⟨B, 27, none⟩ _) h.h1 h.h2 h.h3, grown_trans h.g (grown_set _ ⟨B, 27, none⟩ _), h.h1, h.h2, h.h3⟩
theorem SP.setGives (h : SP w B rate en L at_ gives wr) (b : Bool) : SP w B rate en L at_ b (wr.setCell ⟨B, 28, none⟩ (.bool b)) := by
  have hm := h.m.setPost 1 (.bool b)
  rw [h.len] at hm
  exact ⟨hm, h.len, h.k.grown (grown_set _ ⟨B, 28, none⟩ _) h.h1 h.h2 h.h3, grown_trans h.g (grown_set _ ⟨B, 28, none⟩ _), h.h1, h.h2, h.h3⟩
theorem SP.drewN (h : SP w B rate en L at_ gives wr) (n : Nat) : SP w B rate en L at_ gives (wr.drewN n) := ⟨h.m.drewN n, h.len, ⟨h.k.c.imp fun _ h => h.drewN n, h.k.t.imp fun _ h => h.drewN n, h.k.p.imp fun _ h => h.drewN n⟩, grown_trans h.g (grown_drewN _ _ _), h.h1, h.h2, h.h3⟩
theorem SP.below (h : SP w B rate en L at_ gives wr) (hb : Below wr.heap.size wr w') : SP w B rate en L at_ gives w' :=
  ⟨h.m.below hb h.m.lt, h.len, ⟨h.k.c.imp fun _ h => h.below hb h.lt, h.k.t.imp fun _ h => h.below hb h.lt, h.k.p.imp fun _ h => h.below hb h.lt⟩, grown_trans h.g (grown_below hb (Nat.le_refl _) _), h.h1, h.h2, h.h3⟩
end

def layF (L : List Int) (a : Nat) (c : Int) : List Int := L.set (a / 8) (bits .xor .u64 (L.getD (a / 8) 0) (c % 18446744073709551616 * 2 ^ (a % 8 * 8) % 18446744073709551616))
theorem layF_length (L : List Int) (a : Nat) (c : Int) : (layF L a c).length = L.length := by simp [layF]

set_option maxRecDepth 100000 in
set_option maxHeartbeats 400000 in
theorem lay_calls {w wr : World} {B rate at_ : Nat} {en : Int} {L : List Int} {gives : Bool} (h : SP w B rate en L at_ gives wr) (a : Nat) (ha : a < 200) (c : Int) :
    Calls Tryd.prog 52 #[.pointer (some ⟨B, 0, none⟩), .int .i64 a, .int .u8 c] wr fun e w' => e = .returned (.tuple #[]) ∧ SP w B rate en (layF L a c) at_ gives w' ∧ wr.grownBy w' (some B) := by
  have c0 := h.word (a / 8) (by omega)
  have f0 := h.free (2 + a / 8)
  have H := Lib.hid h
  clear h
  go_enter Tryd.func52, Tryd.ntmps52
  go_wp2_with fail
  refine wp_region_quiet_tail 17 (by kernel_rfl) (by kernel_rfl) ?_
  simp only [List.take_succ_cons, List.take_zero, List.drop_succ_cons, List.drop_zero]
  repeat (go_big_quiet_step (fail))
  refine wpQuiet_nil ?_
  intro _ hw'
  obtain ⟨nq, hw''⟩ := hw'
  subst hw''
  go_wp2_with fail
  go_end0
  have e : IntKind.u64.wrap (IntKind.u64.wrap c * 2 ^ (a % 8 * 8)) = c % 18446744073709551616 * 2 ^ (a % 8 * 8) % 18446744073709551616 := by rw [IntKind.wrap_u64, IntKind.wrap_u64]
  rw [e]
  exact ⟨rfl, (H.out.drewN nq).setWord (a / 8) (by omega) _, grown_trans (grown_drewN wr nq (some B)) (grown_set _ _ _)⟩

set_option maxRecDepth 100000 in
set_option maxHeartbeats 400000 in
theorem turn_calls {w wr : World} {B rate at_ : Nat} {en : Int} {L : List Int} {gives : Bool} (h : SP w B rate en L at_ gives wr) (is : Bool) :
    Calls Tryd.prog 53 #[.pointer (some ⟨B, 0, none⟩), .bool is] wr fun e w' => e = .returned (.tuple #[]) ∧ SP w B rate en (if is then changeF L else L) (if is then 0 else at_) gives w' ∧ wr.grownBy w' (some B) := by
  have H := Lib.hid h
  clear h
  go_enter Tryd.func53, Tryd.ntmps53
  cases is
  · go_wp2_with fail
    go_end0
    exact ⟨rfl, H.out, grown_refl _ _⟩
  · go_wp2_with (go_at_call 61; refine stop ?_)
    refine Stop.call (change_calls wr B 74 _ _ L _ H.out.m H.out.len H.out.k H.out.h1 H.out.h2 H.out.h3) ?_
    rintro e w2 ⟨rfl, hm, hg⟩
    have h2 : SP w B rate en (changeF L) at_ gives w2 := ⟨hm, by rw [changeF, changeN_length]; exact H.out.len, H.out.k.grown hg H.out.h1 H.out.h2 H.out.h3, grown_trans H.out.g hg, H.out.h1, H.out.h2, H.out.h3⟩
    have c27 := h2.cAt
    have f27 := h2.free 27
    have H2 := Lib.hid h2
    have HG2 := Lib.hid hg
    clear h2 hm hg
    go_wp2_with fail
    go_end0
    exact ⟨rfl, H2.out.setAt 0, grown_trans HG2.out (grown_set _ ⟨B, 27, none⟩ _)⟩

/-- One byte is taken in. -/
def absS (rate : Nat) (s : List Int × Nat) (c : Int) : List Int × Nat := if s.2 + 1 = rate then (changeF (layF s.1 s.2 c), 0) else (layF s.1 s.2 c, s.2 + 1)
def absN (rate : Nat) (s : List Int × Nat) (l : List Int) : Nat → List Int × Nat
  | 0 => s
  | k + 1 => absS rate (absN rate s l k) (l.getD k 0)
theorem absN_lt (rate : Nat) (s : List Int × Nat) (l : List Int) (k : Nat) (h : s.2 < rate) : (absN rate s l k).2 < rate := by
  induction k with
  | zero => exact h
  | succ k ih =>
    rw [absN, absS]
    split
    · show 0 < rate; omega
    · show (absN rate s l k).2 + 1 < rate; omega

theorem absS_sp {w w4 : World} {B rate at1 : Nat} {en x : Int} {L1 : List Int} (hs : SP w B rate en (if (((at1 : Int) + 1) == (rate : Int)) = true then changeF (layF L1 at1 x) else layF L1 at1 x) (if (((at1 : Int) + 1) == (rate : Int)) = true then 0 else at1 + 1) false w4) :
    SP w B rate en (absS rate (L1, at1) x).1 (absS rate (L1, at1) x).2 false w4 := by
  unfold absS
  by_cases hr : at1 + 1 = rate
  · have hb : (((at1 : Int) + 1) == (rate : Int)) = true := by simp; omega
    simp only [hb, if_true] at hs
    simp only [hr, if_true]
    exact hs
  · have hb : (((at1 : Int) + 1) == (rate : Int)) = false := by simp; omega
    simp only [hb, Bool.false_eq_true, if_false] at hs
    simp only [hr, if_false]
    exact hs

set_option maxRecDepth 100000 in
set_option maxHeartbeats 1000000 in
theorem kwrite_calls {w wr : World} {B rate at_ : Nat} {en : Int} {L : List Int} (h : SP w B rate en L at_ false wr) (hat : at_ < rate) (hrate : rate ≤ 192) (A : Option Addr) (n c : Nat) (l : List Int) (hn : n = l.length) (hR : Rd .u8 wr A l) (hap : 0 < l.length → ∀ b off, A = some ⟨b, off, none⟩ → b ≠ B) :
    Calls Tryd.prog 41 #[.pointer (some ⟨B, 0, none⟩), .slice A n c] wr fun e w' => e = .returned (.tuple #[]) ∧ SP w B rate en (absN rate (L, at_) l l.length).1 (absN rate (L, at_) l l.length).2 false w' ∧ wr.grownBy w' (some B) := by
  have c28 := h.cGives
  have hn63 : n ≤ 9223372036854775807 := by rw [hn]; exact hR.le
  have H := Lib.hid h
  have HR := Lib.hid hR
  have HN := Lib.hid hn
  have HAP := Lib.hid hap
  obtain ⟨W, hW⟩ : ∃ W, W = wr := ⟨_, rfl⟩
  have HW := Lib.hid hW
  clear h hR hn hap hW
  go_enter Tryd.func41, Tryd.ntmps41
  go_wp2_with fail
  go_loopw [5, 12] (fun _ s wr => ∃ k, k ≤ n ∧ s = .int .i64 (k : Nat) ∧ SP w B rate en (absN rate (L, at_) l k).1 (absN rate (L, at_) l k).2 false wr ∧ W.grownBy wr (some B)) (fun _ s _ => n - (intOf s).toNat)
  case atStart => exact ⟨0, Nat.zero_le _, rfl, H.out, by rw [HW.out]; exact grown_refl _ _⟩
  case round =>
    obtain ⟨k, hk, rfl, hs, hg⟩ := hrel
    by_cases hkn : k < n
    · have hkl : k < l.length := by rw [← HN.out]; exact hkn
      have hlt := absN_lt rate (L, at_) l k hat
      obtain ⟨s, hsd⟩ : ∃ s, s = absN rate (L, at_) l k := ⟨_, rfl⟩
      rw [← hsd] at hs hlt
      obtain ⟨L1, at1⟩ := s
      simp only at hs hlt
      have hRw : Rd .u8 wr A l := by
        have := HR.out
        rw [← HW.out] at this
        exact this.grown' hg (fun h0 b off h => fun e => HAP.out h0 b off h (by injection e))
      obtain ⟨b, off, hA, hb, hcs⟩ := hRw.at_ (by omega)
      subst hA
      have c0 := hcs k hkl
      have c27 := hs.cAt
      have HS := Lib.hid hs
      have HG := Lib.hid hg
      have HSD := Lib.hid hsd
      clear hs hg hRw hcs hsd
      obtain ⟨x, hx⟩ : ∃ x, x = l.getD k 0 := ⟨_, rfl⟩
      rw [← hx] at c0
      have HX := Lib.hid hx
      clear hx
      go_wp2_with (go_at_call 52; refine stop ?_)
      refine Stop.call (lay_calls HS.out at1 (by omega) x) ?_
      rintro e w2 ⟨rfl, hs2, hg2⟩
      have c27b := hs2.cAt
      have f27b := hs2.free 27
      have HS2 := Lib.hid hs2
      have HG2 := Lib.hid (grown_trans HG.out hg2)
      have hat63 : at1 + 1 ≤ 192 := by omega
      clear hs2 hg2 c27 c0 HG
      go_wp2_with (with_reducible refine stop_region 6 ?_)
      refine Stop.go ?_
      have hcast : ((at1 : Int) + 1) = ((at1 + 1 : Nat) : Int) := by omega
      refine with_world (fun w3 => SP w B rate en (layF L1 at1 x) (at1 + 1) false w3 ∧ W.grownBy w3 (some B)) ⟨by rw [hcast]; exact HS2.out.setAt (at1 + 1), grown_trans HG2.out (grown_set _ ⟨B, 27, none⟩ _)⟩ ?_
      clear HS2 HG2 c27b f27b hcast
      rintro w3 ⟨hs3, hg3⟩
      have c27 := hs3.cAt
      have c0 := hs3.cRate
      have HS3 := Lib.hid hs3
      have HG3 := Lib.hid hg3
      clear hs3 hg3
      refine wp_region_quiet_tail 10 (by kernel_rfl) (by kernel_rfl) ?_
      simp only [List.take_succ_cons, List.take_zero, List.drop_succ_cons, List.drop_zero]
      repeat (go_big_quiet_step (fail))
      refine wpQuiet_nil ?_
      intro _ hw'
      obtain ⟨nq, hw''⟩ := hw'
      subst hw''
      go_wp2_with (go_at_call 53; refine stop ?_)
      refine Stop.call (turn_calls (HS3.out.drewN nq) _) ?_
      rintro e w4 ⟨rfl, hs4, hg4⟩
      have HS4 := Lib.hid hs4
      have HG4 := Lib.hid (grown_trans HG3.out (grown_trans (grown_drewN _ nq (some B)) hg4))
      clear hs4 hg4 c27 c0
      go_wp2_with fail
      go_roundw
      case rel =>
        have hs := HS4.out
        have e : absN rate (L, at_) l (k + 1) = absS rate (L1, at1) x := by rw [absN, ← HSD.out, HX.out]
        refine ⟨k + 1, hkn, by go_num, ?_, HG4.out⟩
        rw [e]
        exact absS_sp hs
      case measure => simp [intOf]; omega
    · obtain rfl : k = n := by omega
      have HS := Lib.hid hs
      have HG := Lib.hid hg
      clear hs hg
      go_wp2_with fail
      go_end0
      rw [← HN.out]
      exact ⟨rfl, HS.out, by rw [← HW.out]; exact HG.out⟩

set_option maxRecDepth 100000 in
set_option maxHeartbeats 400000 in
theorem knew_calls (w : World) (rate : Nat) (en : Int) (h0 : 8 ≤ rate) (h1 : rate ≤ 192) (h2 : bits .and .i64 (rate : Int) 7 = 0) (hK : Kkec w) :
    Calls Tryd.prog 40 #[.int .i64 rate, .int .u8 en] w fun e w' => e = .returned (.pointer (some ⟨w.heap.size, 0, none⟩)) ∧ SP w w.heap.size rate en (List.replicate 25 0) 0 false w' ∧ Below w.heap.size w w' := by
  have HK := Lib.hid hK
  clear hK
  go_enter Tryd.func40, Tryd.ntmps40
  go_wp2_with fail
  go_ret
  obtain ⟨⟨Tc, hc⟩, ⟨Tt, ht⟩, ⟨Tp, hp⟩⟩ := HK.out
  exact ⟨rfl, ⟨⟨heap_alloc_new _ _⟩, by simp, ⟨⟨Tc, hc.alloc _⟩, ⟨Tt, ht.alloc _⟩, ⟨Tp, hp.alloc _⟩⟩, grown_new _ _ _, Nat.ne_of_gt hc.lt, Nat.ne_of_gt ht.lt, Nat.ne_of_gt hp.lt⟩, (Below.refl _ _).alloc (Nat.le_refl _) _⟩
end Go.Proofs.YtlmcpnicjdcmdaaDoor
