/- box: a text is closed. -/
import Derived.Test.YtlmcpnicjdcmdaaDoorXc
set_option linter.unusedVariables false
set_option linter.unusedSimpArgs false
namespace Go.Proofs.YtlmcpnicjdcmdaaDoor
open Go Go.RowKit Go.BigFrame

/-- What is closed. -/
def closeF (key ah text : List Int) : List Int := turnedF (streamK key) text ++ markF (tagK key) ah (turnedF (streamK key) text)
theorem closeF_length (key ah text : List Int) : (closeF key ah text).length = text.length + 32 := by unfold closeF; rw [List.length_append, turnedF_length, markF_length]
/-- Nothing, and an error. -/
def RetE (w : World) (x : Int) (e : Ending) (w' : World) : Prop := e = .returned (.tuple #[.slice none 0 0, .int .i64 x]) ∧ w = w'

set_option maxRecDepth 100000 in
set_option maxHeartbeats 400000 in
theorem close_arg (w : World) (A1 : Option Addr) (n1 c1 : Nat) (h1 : n1 ≠ 32) (A2 : Option Addr) (n2 c2 : Nat) (A3 : Option Addr) (n3 c3 : Nat) :
    Calls Tryd.prog 6 #[.slice A1 n1 c1, .slice A2 n2 c2, .slice A3 n3 c3] w (RetE w 1) := by
  have hb : ((n1 : Int) == 32) = false := by simp; omega
  have hb' : ((n1 : Int) != 32) = true := by simp; omega
  clear h1
  go_enter Tryd.func6, Tryd.ntmps6
  go_wp2_with fail
  go_ret2
  exact ⟨rfl, rfl⟩

set_option maxRecDepth 100000 in
set_option maxHeartbeats 400000 in
theorem close_many (w : World) (A1 : Option Addr) (c1 : Nat) (A2 : Option Addr) (n2 c2 : Nat) (A3 : Option Addr) (n3 c3 : Nat) (h : 32768 < n2 ∨ 32768 < n3) :
    Calls Tryd.prog 6 #[.slice A1 32 c1, .slice A2 n2 c2, .slice A3 n3 c3] w (RetE w 2) := by
  go_enter Tryd.func6, Tryd.ntmps6
  go_wp2_with fail
  all_goals
    go_ret2
    exact ⟨rfl, rfl⟩

set_option maxRecDepth 100000 in
set_option maxHeartbeats 1000000 in
theorem close_calls (w : World) (A1 : Option Addr) (c1 : Nat) (key : List Int) (h1 : key.length = 32) (hR1 : Rd .u8 w A1 key) (A2 : Option Addr) (n2 c2 : Nat) (ah : List Int) (hn2 : n2 = ah.length) (hR2 : Rd .u8 w A2 ah) (hl2 : ah.length ≤ 32768)
    (A3 : Option Addr) (n3 c3 : Nat) (text : List Int) (hn3 : n3 = text.length) (hR3 : Rd .u8 w A3 text) (hl3 : text.length ≤ 32768) (hK : Kbox w) :
    Calls Tryd.prog 6 #[.slice A1 32 c1, .slice A2 n2 c2, .slice A3 n3 c3] w (RetBE w (closeF key ah text) 0) := by
  have b2 : n2 ≤ 32768 := by omega
  have b3 : n3 ≤ 32768 := by omega
  have H1 := Lib.hid h1
  have HR1 := Lib.hid hR1
  have HN2 := Lib.hid hn2
  have HR2 := Lib.hid hR2
  have HL2 := Lib.hid hl2
  have HN3 := Lib.hid hn3
  have HR3 := Lib.hid hR3
  have HL3 := Lib.hid hl3
  have HK := Lib.hid hK
  clear h1 hR1 hn2 hR2 hl2 hn3 hR3 hl3 hK
  go_enter Tryd.func6, Tryd.ntmps6
  go_wp2_with (go_at_call 10; refine stop ?_)
  all_goals
    refine Stop.call (of_calls w A1 32 c1 key H1.out.symm HR1.out (by have := H1.out; omega) HK.out) ?_
    rintro e w1 ⟨As, cs, At, ct, rfl, hrs, hrt, hb1⟩
    have HRS := Lib.hid hrs
    have HRT := Lib.hid hrt
    have HB1 := Lib.hid hb1
    clear hrs hrt hb1
    go_wp2_with (go_at_call 11; refine stop ?_)
    refine with_worldC (fun w2 => Below w1.heap.size w1 w2 ∧ w2.heap.size = w1.heap.size + 1 ∧ w2.heap[w1.heap.size]? = some (.cells #[.slice As 32 cs, .slice At 32 ct] 32 (0, 0))) ⟨(Below.refl _ _).alloc (Nat.le_refl _) _, by simp, heap_alloc_new _ _⟩ ?_
    rintro w2 ⟨hb2, hs2, hk2⟩
    have HBW2 := Lib.hid (HB1.out.trans (hb2.mono HB1.out.size))
    have HB2 := Lib.hid hb2
    have HS2 := Lib.hid hs2
    have HK2 := Lib.hid hk2
    clear hb2 hs2 hk2
    refine Stop.call (turned_calls w2 As cs (streamK key) (streamK_length _) (HRS.out.below HB2.out) At ct A3 n3 c3 text HN3.out (HR3.out.below HBW2.out) (by have := HL3.out; omega) (HK.out.below HBW2.out)) ?_
    intro e w3 h3
    obtain ⟨A4, n4, c4, rfl, hn4, _, ho4, hb3⟩ := h3.form
    have hk3 : w3.heap[w1.heap.size]? = some (.cells #[.slice As 32 cs, .slice At 32 ct] 32 (0, 0)) := (hb3.block _ (by have := HS2.out; omega)).trans HK2.out
    have k0 : w3.cell? ⟨w1.heap.size, 0, none⟩ = some (.slice As 32 cs) := by simp [World.cell?, hk3]
    have k1 : w3.cell? ⟨w1.heap.size, 1, none⟩ = some (.slice At 32 ct) := by simp [World.cell?, hk3]
    have h4b : n4 = text.length := by rw [hn4, turnedF_length]
    have HN4 := Lib.hid hn4
    have H4B := Lib.hid h4b
    have HO4 := Lib.hid ho4
    have HB3 := Lib.hid hb3
    have HBW3 := Lib.hid (HBW2.out.trans (hb3.mono HBW2.out.size))
    have HRT3 := Lib.hid ((HRT.out.below HB2.out).below hb3)
    clear h3 hn4 ho4 hb3 hk3 h4b
    go_wp2_with (go_at_call 12; refine stop ?_)
    refine Stop.call (mark_calls w3 As cs At ct (tagK key) (tagK_length _) HRT3.out A2 n2 c2 ah HN2.out (HR2.out.below HBW3.out) (by have := HL2.out; omega) A4 n4 c4 (turnedF (streamK key) text) HN4.out HO4.out.rd (by rw [turnedF_length]; have := HL3.out; omega) (HK.out.below HBW3.out)) ?_
    rintro e w4 ⟨rfl, hb4⟩
    have HB4 := Lib.hid hb4
    have HBW4 := Lib.hid (HBW3.out.trans (hb4.mono HBW3.out.size))
    clear hb4 k0 k1
    go_wp2_with ((with_reducible refine gate_none rfl ?_); refine stop ?_)
    refine Stop.go ?_
    refine wpList_store_row rfl 35 (.tmp 10) (.tmp 30) rfl _ (ints .u8 (markF (tagK key) ah (turnedF (streamK key) text))).toArray rfl rfl 35 _ (heap_alloc_new _ _) (by rw [List.size_toArray, ints_length, markF_length]; exact info_a32) (by rw [List.size_toArray, List.size_toArray, ints_length, markF_length]; rfl) (ints_all _ _) ?_
    refine stop ?_
    refine with_worldL (fun w5 => Below w4.heap.size w4 w5 ∧ Arr w5 w4.heap.size 35 .u8 (markF (tagK key) ah (turnedF (streamK key) text))) ⟨below_row ((Below.refl _ _).alloc (Nat.le_refl _) _) _ (Nat.le_refl _) _, (Arr.lit (l := List.replicate 32 0) rfl rfl).row _⟩ ?_
    rintro w5 ⟨hb5, ha5⟩
    have hO5 := (HO4.out.below HB4.out).below hb5
    have hB5 : Below w2.heap.size w2 w5 := HB3.out.trans ((HB4.out.trans (hb5.mono HB4.out.size)).mono HB3.out.size)
    have HO5 := Lib.hid hO5
    have HB5 := Lib.hid hB5
    have HR5 := Lib.hid (ha5.own (base := 0) (Nat.zero_le _) rfl rfl (by rw [markF_length]; unfold maxLen; omega)).rd
    clear hb5 ha5 hO5 hB5
    go_wp2_with ((with_reducible refine gate_dst (N := 33) rfl ?_); refine stop ?_)
    refine Stop.go ?_
    refine wpList_append_new bytesE w2 (.tmp 31) (.tmp 32) (.slice A4 n4 c4) (turnedF (streamK key) text) (some ⟨w4.heap.size, 0, none⟩) _ 32 (markF (tagK key) ah (turnedF (streamK key) text)) HO5.out HB5.out HR5.out (markF_length _ _ _).symm rfl rfl rfl rfl (by rw [turnedF_length, markF_length]; have := HL3.out; omega) (by rw [turnedF_length, markF_length]; have := HL3.out; unfold maxLen; omega) ?_
    intro v6 w6 ho6 hb6
    obtain ⟨A6, n6, c6, rfl, hn6, _, _, ho6⟩ := ho6.form2
    have HO6 := Lib.hid (ho6.mono HBW2.out.size)
    have HN6 := Lib.hid hn6
    have HB6 := Lib.hid (HBW2.out.trans (hb6.mono HBW2.out.size))
    clear ho6 hn6 hb6
    go_wp2_with fail
    go_ret2
    exact RetBE.mk2 HN6.out HO6.out HB6.out
end Go.Proofs.YtlmcpnicjdcmdaaDoor
