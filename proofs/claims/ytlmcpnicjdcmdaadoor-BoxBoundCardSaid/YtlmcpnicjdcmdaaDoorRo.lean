/- The document's keys with a name: Expand, Label at 32 bytes. -/
import Derived.Test.YtlmcpnicjdcmdaaDoorRn
set_option linter.unusedVariables false
set_option linter.unusedSimpArgs false
namespace Go.Proofs.YtlmcpnicjdcmdaaDoor
open Go Go.RowKit Go.BigFrame PrintLast

set_option maxRecDepth 100000 in
set_option maxHeartbeats 1000000 in
theorem rexpand_calls (w : World) (A1 : Option Addr) (n1 c1 : Nat) (key : List Int) (A2 : Option Addr) (n2 c2 : Nat) (info : List Int)
    (hn1 : n1 = key.length) (hR1 : Rd .u8 w A1 key) (hn2 : n2 = info.length) (hR2 : Rd .u8 w A2 info) (hl1 : key.length ≤ 140737488200000) (hl2 : info.length ≤ 140737488100000) :
    Calls Tryd.prog 36 #[.slice A1 n1 c1, .slice A2 n2 c2, .int .i64 32] w (RetB w (firstF key info)) := by
  have HR1 := Lib.hid hR1
  have HR2 := Lib.hid hR2
  have HN1 := Lib.hid hn1
  have HN2 := Lib.hid hn2
  have HL1 := Lib.hid hl1
  have HL2 := Lib.hid hl2
  clear hR1 hR2 hn1 hn2 hl1 hl2
  go_enter Tryd.func36, Tryd.ntmps36
  go_wp2_with fail
  go_loopw [7, 8, 9] (fun u v s wr => ∃ k : Nat, k ≤ 1 ∧ s = .int .i64 (1 + (k : Int)) ∧ Below w.heap.size w wr ∧ (k = 0 → u = .slice none 0 0 ∧ v = .slice none 0 0) ∧ (k = 1 → ∃ A c, u = .slice A 32 c ∧ Own .u8 5 wr w.heap.size (.slice A 32 c) (firstF key info) ∧ 32 ≤ c)) (fun _ _ s _ => 2 - (intOf s).toNat)
  case atStart => exact ⟨0, by decide, by simp, Below.refl _ _, fun _ => ⟨rfl, rfl⟩, fun h => by omega⟩
  case round =>
    obtain ⟨k, hk, rfl, hb, h0, h1⟩ := hrel
    obtain rfl | rfl : k = 0 ∨ k = 1 := by omega
    · obtain ⟨rfl, rfl⟩ := h0 rfl
      have HB := Lib.hid hb
      clear h0 h1 hb
      go_wp2_with ((with_reducible refine gate_dst (N := 25) rfl ?_); refine stop ?_)
      refine Stop.go ?_
      refine wpList_append_new bytesE wr (.tmp 23) (.tmp 24) _ [] none 0 0 [] (Own.lit (Nat.le_refl _) rfl rfl (by decide) rfl rfl) ((Below.refl _ _).alloc (Nat.le_refl _) _) (Rd.nil _ _ _) rfl rfl rfl rfl rfl (by simp) (by simp [maxLen]) ?_
      intro v2 w2 ho2 hb2
      rw [List.nil_append] at ho2
      have HO2 := Lib.hid ho2
      have HB2 := Lib.hid hb2
      clear ho2 hb2
      go_wp2_with ((with_reducible refine gate_dst (N := 27) rfl ?_); refine stop ?_)
      refine Stop.go ?_
      refine wpList_append_new bytesE wr (.tmp 25) (.tmp 26) v2 [] A2 c2 n2 info HO2.out HB2.out (HR2.out.below (HB.out.trans (HB2.out.mono HB.out.size))) HN2.out rfl rfl rfl rfl (by have := HL2.out; simp; omega) (by have := HL2.out; simp [maxLen]; omega) ?_
      intro v3 w3 ho3 hb3
      rw [List.nil_append] at ho3
      have HO3 := Lib.hid ho3
      have HB3 := Lib.hid hb3
      clear ho3 hb3
      go_wp2_with ((with_reducible refine gate_dst (N := 31) rfl ?_); refine stop ?_)
      refine Stop.go ?_
      refine wpList_append_new bytesE wr (.tmp 27) (.tmp 30) v3 info _ _ _ [1] (HO3.out.alloc _) (HB3.out.alloc HB3.out.size _) (Rd.lit rfl rfl (by decide)) rfl rfl rfl rfl rfl (by have := HL2.out; simp; omega) (by have := HL2.out; simp [maxLen]; omega) ?_
      intro v4 w4 ho4 hb4
      obtain ⟨A4, n4, c4, rfl, hn4, _, _, ho4⟩ := ho4.form2
      have HO4 := Lib.hid ho4
      have HN4 := Lib.hid hn4
      have hBw := HB.out.trans (hb4.mono HB.out.size)
      have HB4 := Lib.hid hBw
      clear ho4 hn4 hb4 hBw
      go_wp2_with (go_at_call 20; refine stop ?_)
      refine Stop.call (rmac_calls w4 A1 n1 c1 key A4 n4 c4 (info ++ [1]) HN1.out (HR1.out.below HB4.out) HN4.out HO4.out.rd HL1.out (by have := HL2.out; simp; omega)) ?_
      intro e w5 h5
      obtain ⟨A5, n5, c5, rfl, hn5, _, ho5, hb5⟩ := h5.form
      have h32 : n5 = 32 := by rw [hn5, macF_length]
      have HO5 := Lib.hid ho5
      have HN5 := Lib.hid hn5
      have HB5 := Lib.hid (HB4.out.trans (hb5.mono HB4.out.size))
      clear h5 hn5 ho5 hb5
      subst h32
      go_wp2_with ((with_reducible refine gate_dst (N := 35) rfl ?_); refine stop ?_)
      refine Stop.go ?_
      refine wpList_append_new bytesE w (.tmp 33) (.tmp 34) (.slice none 0 0) [] A5 c5 32 (macF key (info ++ [1])) (Own.nil _ _ _ _) HB5.out HO5.out.rd HN5.out rfl rfl rfl rfl (by rw [macF_length]; simp) (by rw [macF_length]; simp [maxLen]) ?_
      intro v6 w6 ho6 hb6
      rw [List.nil_append] at ho6
      obtain ⟨A6, n6, c6, rfl, hn6, hc6, _, ho6⟩ := ho6.form2
      have h32 : n6 = 32 := by rw [hn6, macF_length]
      have HO6 := Lib.hid ho6
      have HB6 := Lib.hid hb6
      clear hn6 ho6 hb6
      subst h32
      go_wp2_with fail
      go_roundw
      case rel => exact ⟨1, by decide, by simp, HB6.out, fun h => by omega, fun _ => ⟨A6, c6, rfl, HO6.out, hc6⟩⟩
      case measure => simp [intOf]
    · obtain ⟨A6, c6, rfl, ho6, hc6⟩ := h1 rfl
      have HO6 := Lib.hid ho6
      have HB := Lib.hid hb
      clear h0 h1 hb ho6
      go_wp2_with ((with_reducible refine gate_dst (N := 40) rfl ?_); refine stop ?_)
      refine Stop.go ?_
      refine wpList_append_new bytesE wr (.tmp 36) (.tmp 39) _ [] A6 c6 32 (firstF key info) (Own.lit (Nat.le_refl _) rfl rfl (by decide) rfl rfl) ((Below.refl _ _).alloc (Nat.le_refl _) _) (HO6.out.rd.alloc _) (macF_length _ _).symm rfl rfl rfl (by rfl) (by unfold firstF; rw [macF_length]; simp) (by unfold firstF; rw [macF_length]; simp [maxLen]) ?_
      intro v7 w7 ho7 hb7
      rw [List.nil_append] at ho7
      obtain ⟨A7, n7, c7, rfl, hn7, _, _, ho7⟩ := ho7.form2
      have HO7 := Lib.hid ho7
      have HN7 := Lib.hid hn7
      have HB7 := Lib.hid hb7
      clear hn7 ho7 hb7
      go_wp2_with fail
      go_ret
      exact RetB.mk2 HN7.out (HO7.out.mono HB.out.size) (HB.out.trans (HB7.out.mono HB.out.size))

set_option maxRecDepth 100000 in
set_option maxHeartbeats 1000000 in
theorem rlabel_calls (w : World) (A1 : Option Addr) (n1 c1 : Nat) (key : List Int) (s : ByteArray) (name : List Int) (A2 : Option Addr) (n2 c2 : Nat) (ctx : List Int)
    (hn1 : n1 = key.length) (hR1 : Rd .u8 w A1 key) (hs : s.size ≤ 40) (hname : name = strL s) (hn2 : n2 = ctx.length) (hR2 : Rd .u8 w A2 ctx) (hl1 : key.length ≤ 140737488200000) (hl2 : ctx.length ≤ 16000) :
    Calls Tryd.prog 21 #[.slice A1 n1 c1, .string s, .slice A2 n2 c2, .int .i64 32] w (RetB w (labelF key name ctx)) := by
  have HR1 := Lib.hid hR1
  have HR2 := Lib.hid hR2
  have HN1 := Lib.hid hn1
  have HN2 := Lib.hid hn2
  have HS := Lib.hid hs
  have HNM := Lib.hid hname
  clear hR1 hR2 hn1 hn2 hs hname
  go_enter Tryd.func21, Tryd.ntmps21
  go_wp2_with (go_at_call 35; refine stop ?_)
  refine Stop.call (rinfo_calls w s name A2 n2 c2 ctx HS.out HNM.out HN2.out HR2.out hl2) ?_
  intro e w2 h2
  obtain ⟨A3, n3, c3, rfl, hn3, _, ho3, hb3⟩ := h2.form
  have hil : (infoF name ctx).length ≤ 20000 := by
    unfold infoF
    have h1 := longF_length (nameF name)
    have h2 := longF_length ctx
    have h3 : (nameF name).length = 8 + s.size := by rw [nameF, HNM.out, List.length_append, strL_length]; rfl
    have h4 := HS.out
    simp only [List.length_append, List.length_cons, List.length_nil]
    omega
  have hi0 : 0 < (infoF name ctx).length := by unfold infoF; simp only [List.length_append, List.length_cons, List.length_nil]; omega
  have hn30 : 0 < n3 := by omega
  have hb0 : ((n3 : Int) == 0) = false := by simp; omega
  have HO3 := Lib.hid ho3
  have HN3 := Lib.hid hn3
  have HB3 := Lib.hid hb3
  have HIL := Lib.hid hil
  clear h2 ho3 hn3 hb3 hil hi0
  go_wp2_with (go_at_call 36; refine stop ?_)
  refine Stop.call (rexpand_calls w2 A1 n1 c1 key A3 n3 c3 (infoF name ctx) HN1.out (HR1.out.below HB3.out) HN3.out HO3.out.rd hl1 (by have := HIL.out; omega)) ?_
  intro e w4 h4
  obtain ⟨A4, n4, c4, rfl, hn4, _, ho4, hb4⟩ := h4.form
  have HO4 := Lib.hid (ho4.mono HB3.out.size)
  have HN4 := Lib.hid hn4
  have HB4 := Lib.hid (HB3.out.trans (hb4.mono HB3.out.size))
  clear h4 hn4 ho4 hb4
  go_wp2_with fail
  go_ret
  exact RetB.mk2 HN4.out HO4.out HB4.out
end Go.Proofs.YtlmcpnicjdcmdaaDoor
