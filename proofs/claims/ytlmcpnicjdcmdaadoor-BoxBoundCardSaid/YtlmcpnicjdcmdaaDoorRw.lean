/- The document's SHAKE256 of bytes is the program's. -/
import Derived.Test.YtlmcpnicjdcmdaaDoorRv
set_option linter.unusedVariables false
set_option linter.unusedSimpArgs false
namespace Go.Proofs.YtlmcpnicjdcmdaaDoor
open Go Go.RowKit Go.BigFrame PrintLast

set_option maxRecDepth 100000 in
set_option maxHeartbeats 1000000 in
theorem rnew_calls (w : World) : Calls Tryd.prog 48 #[.int .i64 136, .int .u8 31] w fun e w' => e = .returned (.pointer (some ⟨w.heap.size, 0, none⟩)) ∧ SQ w w.heap.size 136 (List.replicate 25 0) 0 false w' := by
  go_enter Tryd.func48, Tryd.ntmps48
  go_wp2_with fail
  go_ret
  refine ⟨rfl, ⟨⟨?_⟩, by simp, (Below.refl _ _).alloc (Nat.le_refl _) _, Nat.le_refl _⟩⟩
  rw [heap_alloc_new]
  rfl

set_option maxRecDepth 100000 in
set_option maxHeartbeats 1000000 in
theorem rkof_calls (w : World) (A : Option Addr) (m c : Nat) (l : List Int) (n : Nat) (hm : m = l.length) (hR : Rd .u8 w A l) (hn : n ≤ 65536) :
    Calls Tryd.prog 37 #[.int .i64 136, .int .u8 31, .slice A m c, .int .i64 n] w (RetB w (shakeF l n)) := by
  have HM := Lib.hid hm
  have HR := Lib.hid hR
  clear hm hR
  go_enter Tryd.func37, Tryd.ntmps37
  go_wp2_with (go_at_call 48; refine stop ?_)
  refine Stop.call (rnew_calls w) ?_
  rintro e w1 ⟨rfl, hs1⟩
  have HS1 := Lib.hid hs1
  clear hs1
  go_wp2_with (go_at_call 49; refine stop ?_)
  refine Stop.call (rwrite_calls HS1.out (by decide) (by decide) A m c l HM.out HR.out) ?_
  rintro e w2 ⟨rfl, hs2⟩
  obtain ⟨s, hsd⟩ : ∃ s, s = absN 136 (List.replicate 25 0, 0) l l.length := ⟨_, rfl⟩
  have hlt := absN_lt 136 (List.replicate 25 0, 0) l l.length (by decide)
  rw [← hsd] at hs2 hlt
  have HS2 := Lib.hid hs2
  have HSD := Lib.hid hsd
  have HLT := Lib.hid hlt
  clear hs2 hsd hlt
  go_wp2_with (go_at_call 50; refine stop ?_)
  refine Stop.call (rread_calls HS2.out HLT.out (by decide) n hn) ?_
  rintro e w3 ⟨A3, c3, rfl, ho, hb⟩
  have HO := Lib.hid ho
  have HB := Lib.hid hb
  clear ho hb
  go_wp2_with fail
  go_ret
  have e : shakeF l n = outK 136 (finS 136 31 (s.1, s.2)) n n := by unfold shakeF; rw [HSD.out]
  rw [e]
  exact RetB.mk2 (by rw [outK_length]) HO.out HB.out

set_option maxRecDepth 100000 in
theorem rshake_calls (w : World) (A : Option Addr) (m c : Nat) (l : List Int) (n : Nat) (hm : m = l.length) (hR : Rd .u8 w A l) (hn : n ≤ 65536) :
    Calls Tryd.prog 22 #[.slice A m c, .int .i64 n] w (RetB w (shakeF l n)) := by
  have HM := Lib.hid hm
  have HR := Lib.hid hR
  clear hm hR
  go_enter Tryd.func22, Tryd.ntmps22
  go_wp2_with (go_at_call 37; refine stop ?_)
  refine Stop.call (rkof_calls w A m c l n HM.out HR.out hn) ?_
  intro e w1 h
  obtain ⟨A1, n1, c1, rfl, hn1, _, ho, hb⟩ := h.form
  have HO := Lib.hid ho
  have HB := Lib.hid hb
  have HN := Lib.hid hn1
  clear ho hb hn1 h
  go_wp2_with fail
  go_ret
  exact RetB.mk2 HN.out HO.out HB.out
end Go.Proofs.YtlmcpnicjdcmdaaDoor
