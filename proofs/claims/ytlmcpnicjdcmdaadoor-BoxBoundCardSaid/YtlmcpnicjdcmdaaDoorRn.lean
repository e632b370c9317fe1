/- The document's keys with a name are the program's. -/
import Derived.Test.YtlmcpnicjdcmdaaDoorRm
import Derived.Test.YtlmcpnicjdcmdaaDoorHf
set_option linter.unusedVariables false
set_option linter.unusedSimpArgs false
namespace Go.Proofs.YtlmcpnicjdcmdaaDoor
open Go Go.RowKit Go.BigFrame PrintLast

theorem or64 (n : Nat) (h : n < 16384) : bits .or .u8 ((n : Int) / 256 % 256) 64 = ((n : Int) + 16384) / 256 := by
  have h1 : bits .or .u8 64 ((n : Int) / 256 % 256) = 64 + (n : Int) / 256 % 256 := bits_join .u8 8 (by decide) wraps_u8 6 64 _ (by decide) (by decide) (by decide) (by omega) (by omega) (by omega)
  rw [bits_or_comm, h1]
  omega
theorem longF_lt (l : List Int) (h : l.length < 64) : longF l = [(l.length : Int)] ++ l := by unfold longF; rw [if_pos h]
theorem longF_ge (l : List Int) (h : ¬ l.length < 64) (h2 : l.length < 16384) : longF l = [((l.length : Int) + 16384) / 256, ((l.length : Int) + 16384) % 256] ++ l := by
  unfold longF
  rw [if_neg h, or64 _ h2, show ((l.length : Int) + 16384) % 256 = (l.length : Int) % 256 by omega]

set_option maxRecDepth 100000 in
set_option maxHeartbeats 400000 in
theorem rlong_calls (w : World) (A : Option Addr) (n c : Nat) (l : List Int) (hn : n = l.length) (hR : Rd .u8 w A l) (hl : l.length < 16384) :
    Calls Tryd.prog 47 #[.slice A n c] w (RetB w (longF l)) := by
  have HR := Lib.hid hR
  have HN := Lib.hid hn
  have hn2 : n < 16384 := by omega
  clear hR hn
  go_enter Tryd.func47, Tryd.ntmps47
  by_cases h64 : n < 64
  · go_wp2_with ((with_reducible refine gate_dst (N := 12) rfl ?_); refine stop ?_)
    refine Stop.go ?_
    refine wpList_append_new bytesE w (.tmp 10) (.tmp 11) _ [(n : Int)] A c n l (Own.lit (Nat.le_refl _) rfl rfl (by simp [maxLen]) rfl rfl) ((Below.refl _ _).alloc (Nat.le_refl _) _) (HR.out.alloc _) HN.out rfl rfl rfl rfl (by have := HN.out; simp; omega) (by have := HN.out; simp [maxLen]; omega) ?_
    intro v2 w2 ho hb
    obtain ⟨A2, n2, c2, rfl, hn2, _, _, ho⟩ := ho.form2
    have e : [(n : Int)] ++ l = longF l := by rw [longF_lt l (by rw [← HN.out]; exact h64), HN.out]
    rw [e] at ho hn2
    have HO := Lib.hid ho
    have HB := Lib.hid hb
    have HN2 := Lib.hid hn2
    clear ho hb e hn2
    go_wp2
    go_ret
    exact RetB.mk2 HN2.out HO.out HB.out
  · go_wp2_with ((with_reducible refine gate_dst (N := 23) rfl ?_); refine stop ?_)
    refine Stop.go ?_
    refine wpList_append_new bytesE w (.tmp 21) (.tmp 22) _ [((n : Int) + 16384) / 256, ((n : Int) + 16384) % 256] A c n l (Own.lit (Nat.le_refl _) rfl rfl (by simp [maxLen]) rfl rfl) ((Below.refl _ _).alloc (Nat.le_refl _) _) (HR.out.alloc _) HN.out rfl rfl rfl rfl (by have := HN.out; simp; omega) (by have := HN.out; simp [maxLen]; omega) ?_
    intro v2 w2 ho hb
    obtain ⟨A2, n2, c2, rfl, hn2, _, _, ho⟩ := ho.form2
    have e : [((n : Int) + 16384) / 256, ((n : Int) + 16384) % 256] ++ l = longF l := by rw [longF_ge l (by rw [← HN.out]; exact h64) hl, HN.out]
    rw [e] at ho hn2
    have HO := Lib.hid ho
    have HB := Lib.hid hb
    have HN2 := Lib.hid hn2
    clear ho hb e hn2
    go_wp2
    go_ret
    exact RetB.mk2 HN2.out HO.out HB.out

set_option maxRecDepth 100000 in
set_option maxHeartbeats 1000000 in
theorem rinfo_calls (w : World) (s : ByteArray) (name : List Int) (A2 : Option Addr) (n2 c2 : Nat) (ctx : List Int) (hs : s.size ≤ 40) (hname : name = strL s) (hn2 : n2 = ctx.length) (hR2 : Rd .u8 w A2 ctx) (hl2 : ctx.length ≤ 16000) :
    Calls Tryd.prog 35 #[.string s, .slice A2 n2 c2, .int .i64 32] w (RetB w (infoF name ctx)) := by
  have HR2 := Lib.hid hR2
  have HN2 := Lib.hid hn2
  have hn2b : n2 ≤ 16000 := by omega
  clear hR2 hn2
  go_enter Tryd.func35, Tryd.ntmps35
  go_wp2_with ((with_reducible refine gate_dst (N := 33) rfl ?_); refine stop ?_)
  refine Stop.go ?_
  have hsz : (({ data := #[71, 75, 65, 32, 49, 46, 48, 32] } : ByteArray) ++ s).size = 8 + s.size := by rw [ByteArray.size_append]; rfl
  have hst : strL (({ data := #[71, 75, 65, 32, 49, 46, 48, 32] } : ByteArray) ++ s) = nameF name := by rw [strL_append, hname]; rfl
  refine wpList_bytes_of_string 9 22 5 Tryd.underlying9 Tryd.underlying22 Tryd.underlying5 (.tmp 32) _ (by omega) rfl rfl rfl ?_
  intro c3 w3 hc3 hc3b hr3 hb3
  rw [hst] at hr3
  rw [hsz]
  simp only [World.size_alloc] at hr3 ⊢
  have HR3 := Lib.hid hr3
  have hb1 : Below w.heap.size w w3 := ((Below.refl _ _).alloc (Nat.le_refl _) _).trans (hb3.mono (by simp))
  have ho0 : Own .u8 5 w3 w.heap.size (.slice (some ⟨w.heap.size, 0, none⟩) 2 2) [0, 32] := (Own.lit (k := .u8) (T := 5) (w := w) (cs := #[Value.int .u8 0, Value.int .u8 32]) (l := [0, 32]) (Nat.le_refl _) rfl rfl (by decide) rfl rfl).below hb3
  have HB3 := Lib.hid hb1
  have HO0 := Lib.hid ho0
  have hnl : (nameF name).length = 8 + s.size := by rw [← hst, strL_length, hsz]
  have HNL := Lib.hid hnl
  clear hr3 hb3 hsz hst ho0 hb1 hnl
  refine goesL_ (some 34) rfl rfl Tryd.func47 (by kernel_rfl) rfl #[.slice (some ⟨w.heap.size + 1, 0, none⟩) (8 + s.size) c3] rfl (by simp only [List.map_toArray, List.map_cons, List.map_nil]; rfl) ?_
  refine (rlong_calls w3 _ _ _ (nameF name) HNL.out.symm HR3.out (by rw [HNL.out]; omega)).mono ?_
  intro e w4 h4
  obtain ⟨A4, n4, c4, rfl, hn4, _, ho4, hb4⟩ := h4.form
  refine ⟨_, rfl, ?_⟩
  have HO4 := Lib.hid ho4
  have HB4 := Lib.hid (HB3.out.trans (hb4.mono HB3.out.size))
  have HO04 := Lib.hid (HO0.out.below hb4)
  have HN4 := Lib.hid hn4
  have hn4b : n4 ≤ 100 := by
    have := longF_length (nameF name)
    rw [HNL.out] at this
    omega
  clear h4 ho4 hb4 hn4
  refine wpList_append_new bytesE w (.tmp 30) (.tmp 34) (.slice (some ⟨w.heap.size, 0, none⟩) 2 2) [0, 32] A4 c4 n4 (longF (nameF name)) HO04.out HB4.out HO4.out.rd HN4.out rfl rfl rfl rfl (by have := HN4.out; simp only [List.length_cons, List.length_nil]; omega) (by have := HN4.out; simp only [List.length_cons, List.length_nil]; unfold maxLen; omega) ?_
  intro v5 w5 ho5 hb5
  obtain ⟨A5, n5, c5, rfl, hn5, _, _, ho5⟩ := ho5.form2
  have hn5b : n5 ≤ 102 := by have := HN4.out; rw [hn5]; simp only [List.length_append, List.length_cons, List.length_nil]; omega
  have HO5 := Lib.hid ho5
  have HB5 := Lib.hid hb5
  have HN5 := Lib.hid hn5
  clear ho5 hb5 hn5
  go_wp2_with (go_at_call 47; refine stop ?_)
  refine Stop.call (rlong_calls w5 A2 n2 c2 ctx HN2.out (HR2.out.below HB5.out) (by omega)) ?_
  intro e w6 h6
  obtain ⟨A6, n6, c6, rfl, hn6, _, ho6, hb6⟩ := h6.form
  have hl6 := longF_length ctx
  have hn6b : n6 ≤ 16002 := by omega
  have HO56 := Lib.hid (HO5.out.below hb6)
  have HO6 := Lib.hid ho6
  have HN6 := Lib.hid hn6
  have HB6 := Lib.hid (HB5.out.trans (hb6.mono HB5.out.size))
  clear h6 hl6 ho6 hn6 hb6
  go_wp2_with ((with_reducible refine gate_dst (N := 39) rfl ?_); refine stop ?_)
  refine Stop.go ?_
  refine wpList_append_new bytesE w (.tmp 36) (.tmp 38) (.slice A5 n5 c5) ([0, 32] ++ longF (nameF name)) A6 c6 n6 (longF ctx) HO56.out HB6.out HO6.out.rd HN6.out rfl rfl rfl rfl (by have := HN5.out; have := HN6.out; omega) (by have := HN5.out; have := HN6.out; unfold maxLen; omega) ?_
  intro v7 w7 ho7 hb7
  obtain ⟨A7, n7, c7, rfl, hn7, _, _, ho7⟩ := ho7.form2
  have HO7 := Lib.hid ho7
  have HN7 := Lib.hid hn7
  have HB7 := Lib.hid hb7
  clear ho7 hn7 hb7
  go_wp2_with fail
  go_ret
  exact RetB.mk2 HN7.out HO7.out HB7.out
end Go.Proofs.YtlmcpnicjdcmdaaDoor
