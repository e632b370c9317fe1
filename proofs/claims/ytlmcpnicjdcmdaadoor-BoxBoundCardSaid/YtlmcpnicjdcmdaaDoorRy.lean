/- The document's stream and tag are the program's. -/
import Derived.Test.YtlmcpnicjdcmdaaDoorRw
import Derived.Test.YtlmcpnicjdcmdaaDoorRo
import Derived.Test.YtlmcpnicjdcmdaaDoorRp
import Derived.Test.YtlmcpnicjdcmdaaDoorXf
set_option linter.unusedVariables false
set_option linter.unusedSimpArgs false
namespace Go.Proofs.YtlmcpnicjdcmdaaDoor
open Go Go.RowKit Go.BigFrame PrintLast

set_option maxRecDepth 100000 in
set_option maxHeartbeats 1000000 in
theorem rtag_calls (w : World) (A1 : Option Addr) (c1 : Nat) (key : List Int) (h1 : key.length = 32) (hR1 : Rd .u8 w A1 key) (A2 : Option Addr) (n2 c2 : Nat) (ah : List Int) (hn2 : n2 = ah.length) (hR2 : Rd .u8 w A2 ah) (hl2 : ah.length ≤ 65536)
    (A3 : Option Addr) (n3 c3 : Nat) (bs : List Int) (hn3 : n3 = bs.length) (hR3 : Rd .u8 w A3 bs) (hl3 : bs.length ≤ 1048576) :
    Calls Tryd.prog 13 #[.slice A1 32 c1, .slice A2 n2 c2, .slice A3 n3 c3] w (RetB w (markF (tagK key) ah bs)) := by
  have H1 := Lib.hid h1
  have HR1 := Lib.hid hR1
  have HN2 := Lib.hid hn2
  have HR2 := Lib.hid hR2
  have HL2 := Lib.hid hl2
  have HN3 := Lib.hid hn3
  have HR3 := Lib.hid hR3
  have HL3 := Lib.hid hl3
  clear h1 hR1 hn2 hR2 hl2 hn3 hR3 hl3
  go_enter Tryd.func13, Tryd.ntmps13
  go_wp2_with (go_at_call 19; refine stop ?_)
  refine Stop.call (rtext_calls w A2 n2 c2 ah HN2.out HR2.out (by have := HL2.out; omega)) ?_
  intro e w2 h2
  obtain ⟨At, nt, ct, rfl, hnt, _, hot, hb2⟩ := h2.form
  have hntb : nt ≤ 65540 := by have := textF_length ah; have := HL2.out; omega
  have HOT := Lib.hid hot
  have HNT := Lib.hid hnt
  have HB2 := Lib.hid hb2
  clear h2 hot hnt hb2
  go_wp2_with (go_at_call 21; refine stop ?_)
  refine Stop.call (rlabel_calls w2 A1 32 c1 key { data := #[116, 97, 103] } tagName none 0 0 [] H1.out.symm (HR1.out.below HB2.out) (by decide) rfl rfl (Rd.nil _ _ _) (by have := H1.out; omega) (by decide)) ?_
  intro e w3 h3
  obtain ⟨A4, n4, c4, rfl, hn4, _, ho4, hb3⟩ := h3.form
  have h32 : n4 = 32 := by rw [hn4]; exact tagK_length _
  have HO4 := Lib.hid (show Own .u8 5 w3 w2.heap.size (.slice A4 n4 c4) (tagK key) from ho4)
  have HOT3 := Lib.hid (HOT.out.below hb3)
  have HB3 := Lib.hid (HB2.out.trans (hb3.mono HB2.out.size))
  clear h3 hn4 ho4 hb3
  subst h32
  go_wp2_with ((with_reducible refine gate_dst (N := 18) rfl ?_); refine stop ?_)
  refine Stop.go ?_
  refine wpList_append_beside bytesE w (.tmp 16) (.tmp 17) (.slice At nt ct) (textF ah) A3 c3 n3 bs HOT3.out HB3.out (HR3.out.below HB3.out) HN3.out HO4.out (fun b h1 h2 => by
    have e1 := (HOT.out.blk b h1).2
    have e2 := (HO4.out.blk b h2).1
    omega) rfl rfl rfl rfl (by have := HNT.out; have := HL3.out; omega) (by have := HNT.out; have := HL3.out; unfold maxLen; omega) ?_
  intro v5 w5 ho5 hb5 ho45 _
  obtain ⟨A5, n5, c5, rfl, hn5, _, _, ho5⟩ := ho5.form2
  have HO5 := Lib.hid ho5
  have HN5 := Lib.hid hn5
  have HO45 := Lib.hid ho45
  have HB5 := Lib.hid hb5
  clear ho5 hn5 ho45 hb5
  go_wp2_with (go_at_call 20; refine stop ?_)
  refine Stop.call (rmac_calls w5 A4 32 c4 (tagK key) A5 n5 c5 (textF ah ++ bs) (tagK_length _).symm HO45.out.rd HN5.out HO5.out.rd (by rw [tagK_length]; omega) (by rw [List.length_append]; have := HNT.out; have := HL3.out; omega)) ?_
  intro e w6 h6
  obtain ⟨A6, n6, c6, rfl, hn6, _, ho6, hb6⟩ := h6.form
  have HO6 := Lib.hid (ho6.mono HB5.out.size)
  have HN6 := Lib.hid hn6
  have HB6 := Lib.hid (HB5.out.trans (hb6.mono HB5.out.size))
  clear h6 ho6 hn6 hb6
  go_wp2_with fail
  go_ret
  exact RetB.mk2 HN6.out HO6.out HB6.out

set_option maxRecDepth 100000 in
set_option maxHeartbeats 1000000 in
theorem rstream_calls (w : World) (A1 : Option Addr) (c1 : Nat) (key : List Int) (h1 : key.length = 32) (hR1 : Rd .u8 w A1 key) (A : Option Addr) (n c : Nat) (l : List Int) (hn : n = l.length) (hR : Rd .u8 w A l) (hl : l.length ≤ 65536) :
    Calls Tryd.prog 14 #[.slice A1 32 c1, .slice A n c] w (RetB w (turnedF (streamK key) l)) := by
  have H1 := Lib.hid h1
  have HR1 := Lib.hid hR1
  have HN := Lib.hid hn
  have HR := Lib.hid hR
  have hnl : n ≤ 65536 := by omega
  clear h1 hR1 hn hR hl
  go_enter Tryd.func14, Tryd.ntmps14
  go_wp2_with (go_at_call 21; refine stop ?_)
  refine Stop.call (rlabel_calls w A1 32 c1 key { data := #[115, 116, 114, 101, 97, 109] } streamName none 0 0 [] H1.out.symm HR1.out (by decide) rfl rfl (Rd.nil _ _ _) (by have := H1.out; omega) (by decide)) ?_
  intro e w1 h1
  obtain ⟨A4, n4, c4, rfl, hn4, _, ho4, hb1⟩ := h1.form
  have h32 : n4 = 32 := by rw [hn4]; exact streamK_length _
  have HO4 := Lib.hid (show Own .u8 5 w1 w.heap.size (.slice A4 n4 c4) (streamK key) from ho4)
  have HB1 := Lib.hid hb1
  clear h1 hn4 ho4 hb1
  subst h32
  go_wp2_with (go_at_call 22; refine stop ?_)
  refine Stop.call (rshake_calls w1 A4 32 c4 (streamK key) n (streamK_length _).symm HO4.out.rd hnl) ?_
  intro e w2 h2
  obtain ⟨A2, n2, c2, rfl, hn2, _, ho2, hb2⟩ := h2.form
  have h32 : n2 = n := by rw [hn2]; exact shakeF_length _ _
  have HO2 := Lib.hid (ho2.mono HB1.out.size)
  have HB2 := Lib.hid (HB1.out.trans (hb2.mono HB1.out.size))
  clear h2 hn2 ho2 hb2
  subst h32
  go_wp2_with fail
  go_loopw [6] (fun s wr => ∃ k, k ≤ n2 ∧ s = .int .i64 (k : Nat) ∧ Own .u8 5 wr w.heap.size (.slice A2 n2 c2) (xorK (shakeF (streamK key) n2) l k) ∧ Below w.heap.size w wr) (fun s _ => n2 - (intOf s).toNat)
  case atStart => exact ⟨0, Nat.zero_le _, rfl, HO2.out, HB2.out⟩
  case round =>
    clear HO2 HB2
    obtain ⟨k, hk, rfl, ho, hb⟩ := hrel
    by_cases hkn : k < n2
    · obtain ⟨b, off, eA, _, hcs⟩ := (HR.out.below hb).at_ (by have := HN.out; omega)
      subst eA
      obtain ⟨g, eG, _, _⟩ := ho.addr (by rw [xorK_length, shakeF_length]; omega)
      subst eG
      have c0 := hcs k (by have := HN.out; omega)
      have c1 := ho.cellAt k (by rw [xorK_length, shakeF_length]; omega)
      rw [xorK_get _ _ _ _ (Nat.le_refl _)] at c1
      have f1 := ho.freeAt k
      have HO := Lib.hid ho
      have HB := Lib.hid hb
      clear hcs ho hb
      go_wp2_with fail
      refine wp_region_quiet_tail 12 (by kernel_rfl) (by kernel_rfl) ?_
      simp only [List.take_succ_cons, List.take_zero, List.drop_succ_cons, List.drop_zero]
      repeat (go_big_quiet_step (fail))
      refine wpQuiet_nil ?_
      intro _ hw'
      obtain ⟨nq, hw''⟩ := hw'
      subst hw''
      go_wp2_with fail
      go_roundw
      case rel =>
        have hs := (HO.out.drewN nq).stored k (bits .xor .u8 ((shakeF (streamK key) n2).getD k 0) (l.getD k 0))
        have hg := (HO.out.blk g rfl).1
        exact ⟨k + 1, hkn, by go_num, hs, below_set (below_drewN HB.out nq) _ hg _⟩
      case measure => simp [intOf]; omega
    · obtain rfl : k = n2 := by omega
      have HO := Lib.hid ho
      have HB := Lib.hid hb
      clear ho hb
      go_wp2_with fail
      go_ret
      have hf : turnedF (streamK key) l = xorK (shakeF (streamK key) k) l k := by unfold turnedF; rw [HN.out]
      rw [hf]
      exact RetB.mk2 (by rw [xorK_length, shakeF_length]) HO.out HB.out
end Go.Proofs.YtlmcpnicjdcmdaaDoor
