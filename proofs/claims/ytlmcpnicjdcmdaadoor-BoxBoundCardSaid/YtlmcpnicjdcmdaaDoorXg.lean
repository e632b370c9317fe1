/- The laws' head: a live question. -/
import Derived.Test.YtlmcpnicjdcmdaaDoorXf
import Derived.Lib.SmallJoins
set_option linter.unusedVariables false
set_option linter.unusedSimpArgs false
namespace Go.Proofs.YtlmcpnicjdcmdaaDoor
open Go Go.RowKit Go.BigFrame

theorem ab_bytes : Bytes [97, 98] := by
  intro j h
  match j, h with
  | 0, _ => decide
  | 1, _ => decide

theorem Rd.litm {k : IntKind} {T : Nat} {w : World} {cs : Array Value} {fr : Nat × Nat} {n : Nat} {l : List Int} (h : cs = (ints k l).toArray) (hn : n = w.heap.size) (hm : l.length ≤ 9223372036854775807) : Rd k (w.alloc (.cells cs T fr)) (some ⟨n, 0, none⟩) l := by
  subst h hn
  refine ⟨hm, fun _ => ⟨w.heap.size, 0, rfl, by simp, fun j hj => ?_⟩⟩
  rw [Nat.zero_add, World.cell?_alloc_mark]
  simpa using ints_get k l j hj

set_option maxRecDepth 100000 in
set_option maxHeartbeats 1000000 in
theorem head_calls (w : World) (hK : Kbox w) :
    Calls Tryd.prog 5 #[] w fun e w' => e = .returned (.bool true) ∧ Below w.heap.size w w' := by
  have HK := Lib.hid hK
  clear hK
  go_enter Tryd.func5, Tryd.ntmps5
  go_wp2_with ((with_reducible refine gate_dst (N := 8) rfl ?_); refine stop ?_)
  refine Stop.go ?_
  refine wpList_make_new bytesE (.const (.int .i64 32)) (.const (.int .i64 32)) 32 32 .i64 .i64 rfl rfl rfl rfl (Nat.le_refl _) (by omega) (by omega) ?_
  refine stop ?_
  refine with_worldL (fun w0 => Below w.heap.size w w0 ∧ w0.heap.size = w.heap.size + 1 ∧ Rd .u8 w0 (some ⟨w.heap.size, 0, none⟩) (List.replicate 32 0)) ⟨(Below.refl _ _).alloc (Nat.le_refl _) _, by simp, Rd.lit rfl rfl (by simp)⟩ ?_
  rintro w0 ⟨hb0, hs0, hr0⟩
  have HB0 := Lib.hid hb0
  have HS0 := Lib.hid hs0
  have HR0 := Lib.hid hr0
  clear hb0 hs0 hr0
  have kc := Lib.run_convert_bytes_const (P := Tryd.prog) w0 22 5 #[.int .u8 97, .int .u8 98] 2 2 Tryd.underlying22 Tryd.underlying5
  go_wp2_with (go_at_call 6; refine stop ?_)
  clear kc
  refine with_worldC (fun w1 => Below w.heap.size w w1 ∧ Rd .u8 w1 (some ⟨w.heap.size, 0, none⟩) (List.replicate 32 0) ∧ Rd .u8 w1 (some ⟨w0.heap.size, 0, none⟩) [97, 98]) ⟨?_, ?_, ?_⟩ ?_
  · exact HB0.out.alloc HB0.out.size _
  · exact HR0.out.alloc _
  · exact Rd.litm rfl rfl (by decide)
  rintro w1 ⟨hb1, hr1, hr2⟩
  have HB1 := Lib.hid hb1
  have HR1 := Lib.hid hr1
  have HR2 := Lib.hid hr2
  clear hb1 hr1 hr2
  refine Stop.call (close_calls w1 _ 32 (List.replicate 32 0) (by simp) HR1.out none 0 0 [] rfl (Rd.nil _ _ _) (by decide) _ 2 2 [97, 98] rfl HR2.out (by decide) (HK.out.below HB1.out)) ?_
  intro e w2 h2
  obtain ⟨A2, n2, c2, rfl, hn2, _, ho2, hb2⟩ := h2.form
  have h34 : n2 = 34 := by rw [hn2, closeF_length]; rfl
  have HO2 := Lib.hid ho2
  have HBW2 := Lib.hid (HB1.out.trans (hb2.mono HB1.out.size))
  have HR12 := Lib.hid (HR1.out.below hb2)
  clear h2 hn2 ho2 hb2
  subst h34
  go_wp2_with (go_at_call 8; refine stop ?_)
  have hc2 : 34 ≤ c2 := by have := HO2.out.le; rw [closeF_length] at this; simpa using this
  refine Stop.call (open_calls w2 _ 32 (List.replicate 32 0) (by simp) HR12.out none 0 0 [] rfl (Rd.nil _ _ _) (by decide) A2 34 c2 (turnedF (streamK (List.replicate 32 0)) [97, 98]) (markF (tagK (List.replicate 32 0)) [] (turnedF (streamK (List.replicate 32 0)) [97, 98]))
    (by rw [turnedF_length]; rfl) (markF_length _ _ _) hc2 HO2.out.rd (by rw [turnedF_length]; decide) (HK.out.below HBW2.out)) ?_
  intro e w3 h3
  have h3' : RetBE w2 [97, 98] 0 e w3 := by
    rcases h3 with ⟨_, h⟩ | ⟨h, _⟩
    · rwa [turned_back _ _ ab_bytes] at h
    · exact absurd rfl h
  clear h3
  obtain ⟨A3, n3, c3, rfl, hn3, _, ho3, hb3⟩ := h3'.form
  obtain rfl : n3 = 2 := hn3
  have HO3 := Lib.hid ho3
  have HBW3 := Lib.hid (HBW2.out.trans (hb3.mono HBW2.out.size))
  clear h3' ho3 hb3 hc2
  go_wp2_with (go_at_call 8; refine stop ?_)
  refine Stop.call (open_short w3 _ 32 none 0 0 none 0 0 (by decide) (by decide)) ?_
  rintro e w4 ⟨rfl, rfl⟩
  have hst := fun w' (hr : Rd .u8 w' A3 [97, 98]) => run_string_rd (P := Tryd.prog) w' 22 9 5 Tryd.underlying22 Tryd.underlying5 Tryd.underlying9 A3 2 c3 [97, 98] rfl hr
  have hst3 := hst w3 HO3.out.rd
  have hab : strB [97, 98] = { data := #[97, 98] } := by decide
  rw [hab] at hst3
  clear hst hab
  go_wp2_with fail
  go_ret
  exact ⟨rfl, HBW3.out⟩
end Go.Proofs.YtlmcpnicjdcmdaaDoor
