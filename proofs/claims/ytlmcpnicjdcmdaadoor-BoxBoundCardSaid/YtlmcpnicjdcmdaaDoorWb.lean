/- wire: a text with its length ahead. -/
import Derived.Test.YtlmcpnicjdcmdaaDoorWa
set_option linter.unusedVariables false
set_option linter.unusedSimpArgs false
namespace Go.Proofs.YtlmcpnicjdcmdaaDoor
open Go Go.RowKit Go.BigFrame

theorem numF_length (n : Int) (size : Nat) : (numF n size).length = size := numK_length _ _ _
theorem lengthF_length (n : Nat) : (lengthF n).length ≤ 4 := by
  unfold lengthF
  split
  · rw [numF_length]; omega
  · split <;> rw [numF_length] <;> omega
theorem Kwire.below {w w' : World} (h : Kwire w) (hb : Below w.heap.size w w') : Kwire w' := Rd.below h hb
def textF (l : List Int) : List Int := lengthF l.length ++ l
theorem textF_length (l : List Int) : (textF l).length ≤ l.length + 4 := by
  unfold textF
  have := lengthF_length l.length
  rw [List.length_append]
  omega
/-- What a call hands back that makes bytes, and says that all is well. -/
def RetBE (w : World) (r : List Int) (x : Int) (e : Ending) (w' : World) : Prop :=
  ∃ A c, e = .returned (.tuple #[.slice A r.length c, .int .i64 x]) ∧ Own .u8 5 w' w.heap.size (.slice A r.length c) r ∧ Below w.heap.size w w'
theorem RetBE.form {w w' : World} {r : List Int} {x : Int} {e : Ending} (h : RetBE w r x e w') : ∃ A n c, e = .returned (.tuple #[.slice A n c, .int .i64 x]) ∧ n = r.length ∧ n ≤ 9223372036854775807 ∧ Own .u8 5 w' w.heap.size (.slice A n c) r ∧ Below w.heap.size w w' := by
  obtain ⟨A, c, rfl, ho, hb⟩ := h
  exact ⟨A, _, c, rfl, rfl, ho.rd.le, ho, hb⟩
theorem RetBE.mk2 {w w' : World} {r : List Int} {x : Int} {A : Option Addr} {m c : Nat} (hm : m = r.length) (ho : Own .u8 5 w' w.heap.size (.slice A m c) r) (hb : Below w.heap.size w w') : RetBE w r x (.returned (.tuple #[.slice A m c, .int .i64 x])) w' := by
  subst hm
  exact ⟨A, c, rfl, ho, hb⟩

set_option maxRecDepth 100000 in
set_option maxHeartbeats 400000 in
theorem text_calls (w : World) (A : Option Addr) (n c : Nat) (l : List Int) (hn : n = l.length) (hR : Rd .u8 w A l) (hl : l.length ≤ 1048576) (hK : Kwire w) :
    Calls Tryd.prog 17 #[.slice A n c] w (RetBE w (textF l) 0) := by
  have hn2 : n ≤ 1048576 := by omega
  have hle : ¬ (n : Int) > 1048576 := by omega
  have HN := Lib.hid hn
  have HR := Lib.hid hR
  have HK := Lib.hid hK
  clear hn hR hl hK
  go_enter Tryd.func17, Tryd.ntmps17
  go_wp2_with (go_at_call 27; refine stop ?_)
  refine Stop.call (length_calls w n hn2 HK.out) ?_
  intro e w1 h
  obtain ⟨A1, n1, c1, rfl, hn1, h63, ho, hb⟩ := h.form
  have HO := Lib.hid ho
  have HB := Lib.hid hb
  have HN1 := Lib.hid hn1
  clear ho hb hn1
  go_wp2_with ((with_reducible refine gate_dst (N := 11) rfl ?_); refine stop ?_)
  refine Stop.go ?_
  refine wpList_append_new bytesE w (.tmp 9) (.tmp 10) (.slice A1 n1 c1) (lengthF n) A c n l HO.out HB.out (HR.out.below HB.out) HN.out rfl rfl rfl rfl (by have := HN.out; have := lengthF_length n; omega) (by have := HN.out; have := lengthF_length n; simp [maxLen]; omega) ?_
  intro v2 w2 ho2 hb2
  obtain ⟨A2, n2, c2, rfl, hn2, _, _, ho2⟩ := ho2.form2
  have HO2 := Lib.hid ho2
  have HB2 := Lib.hid hb2
  have HN2 := Lib.hid hn2
  clear ho2 hb2 hn2
  go_wp2_with fail
  go_ret2
  have hf : textF l = lengthF n ++ l := by unfold textF; rw [HN.out]
  rw [hf]
  exact RetBE.mk2 HN2.out HO2.out HB2.out
end Go.Proofs.YtlmcpnicjdcmdaaDoor
