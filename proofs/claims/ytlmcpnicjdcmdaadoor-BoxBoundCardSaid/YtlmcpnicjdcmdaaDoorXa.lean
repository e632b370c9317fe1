/- box: a key's keys. -/
import Derived.Test.YtlmcpnicjdcmdaaDoorWb
import Derived.Test.YtlmcpnicjdcmdaaDoorHf
import Derived.Test.YtlmcpnicjdcmdaaDoorKe
set_option linter.unusedVariables false
set_option linter.unusedSimpArgs false
namespace Go.Proofs.YtlmcpnicjdcmdaaDoor
open Go Go.RowKit Go.BigFrame

/-- What the tables of all packages hold. -/
structure Kbox (w : World) : Prop where
  sha : Ksha w
  kec : Kkec w
  wire : Kwire w
theorem Kbox.below {w w' : World} (h : Kbox w) (hb : Below w.heap.size w w') : Kbox w' :=
  ⟨Rd.below h.sha hb, ⟨h.kec.c.imp fun _ h => h.below hb h.lt, h.kec.t.imp fun _ h => h.below hb h.lt, h.kec.p.imp fun _ h => h.below hb h.lt⟩, h.wire.below hb⟩
def streamName : List Int := [115, 116, 114, 101, 97, 109]
def tagName : List Int := [116, 97, 103]
/-- The key of the stream; of the tag. -/
def streamK (key : List Int) : List Int := labelF key streamName []
def tagK (key : List Int) : List Int := labelF key tagName []
theorem streamK_length (key : List Int) : (streamK key).length = 32 := labelF_length _ _ _
theorem tagK_length (key : List Int) : (tagK key).length = 32 := labelF_length _ _ _
/-- A key's keys, handed back. -/
def RetKeys (w : World) (key : List Int) (e : Ending) (w' : World) : Prop :=
  ∃ A1 c1 A2 c2, e = .returned (.agg #[.slice A1 32 c1, .slice A2 32 c2]) ∧ Rd .u8 w' A1 (streamK key) ∧ Rd .u8 w' A2 (tagK key) ∧ Below w.heap.size w w'

set_option maxRecDepth 100000 in
set_option maxHeartbeats 400000 in
theorem of_calls (w : World) (A : Option Addr) (n c : Nat) (key : List Int) (hn : n = key.length) (hR : Rd .u8 w A key) (hl : key.length ≤ 140737488355328) (hK : Kbox w) :
    Calls Tryd.prog 10 #[.slice A n c] w (RetKeys w key) := by
  have HN := Lib.hid hn
  have HR := Lib.hid hR
  have HK := Lib.hid hK
  clear hn hR hK
  go_enter Tryd.func10, Tryd.ntmps10
  go_wp2_with (go_at_call 15; refine stop ?_)
  obtain ⟨w1, hw1⟩ : ∃ w1, w1 = w.alloc (Obj.cells #[Value.slice none 0 0, Value.slice none 0 0] 32) := ⟨_, rfl⟩
  rw [← hw1]
  have hb1 : Below w.heap.size w w1 := hw1 ▸ (Below.refl _ _).alloc (Nat.le_refl _) _
  have hs1 : w1.heap.size = w.heap.size + 1 := by rw [hw1]; simp
  have hk1 : w1.heap[w.heap.size]? = some (.cells #[Value.slice none 0 0, Value.slice none 0 0] 32 (0, 0)) := by rw [hw1]; exact heap_alloc_new w _
  have HS1 := Lib.hid hs1
  have HB1 := Lib.hid hb1
  have HK1 := Lib.hid hk1
  clear hb1 hs1 hk1 hw1
  refine Stop.call (label_calls _ A n c key { data := #[115, 116, 114, 101, 97, 109] } streamName none 0 0 [] HN.out (HR.out.below HB1.out) (by decide) rfl rfl (Rd.nil _ _ _) hl (by decide) (HK.out.below HB1.out).sha) ?_
  intro e w2 h2
  obtain ⟨A2, n2, c2, rfl, hn2, _, ho2, hb2⟩ := h2.form
  have h32 : n2 = 32 := by rw [hn2]; exact streamK_length _
  have HO2 := Lib.hid ho2
  have HB2 := Lib.hid (HB1.out.trans (hb2.mono HB1.out.size))
  have HBB := Lib.hid hb2
  clear h2 hn2 ho2 hb2
  subst h32
  go_wp2_with (go_at_call 15; refine stop ?_)
  refine Stop.call (label_calls _ A n c key { data := #[116, 97, 103] } tagName none 0 0 [] HN.out (HR.out.below HB2.out) (by decide) rfl rfl (Rd.nil _ _ _) hl (by decide) (HK.out.below HB2.out).sha) ?_
  intro e w3 h3
  obtain ⟨A3, n3, c3, rfl, hn3, _, ho3, hb3⟩ := h3.form
  have h32 : n3 = 32 := by rw [hn3]; exact tagK_length _
  have HR3 := Lib.hid (ho3.mono HBB.out.size)
  have HR2 := Lib.hid (HO2.out.below hb3)
  have HB3 := Lib.hid (HB2.out.trans (hb3.mono HB2.out.size))
  have hk3 : w3.heap[w.heap.size]? = some (.cells #[Value.slice none 0 0, Value.slice none 0 0] 32 (0, 0)) :=
    ((HBB.out.trans (hb3.mono HBB.out.size)).block _ (by have := HS1.out; omega)).trans HK1.out
  have c0 : w3.cell? ⟨w.heap.size, 0, none⟩ = some (Value.slice none 0 0) := by simp [World.cell?, hk3]
  have c1 : w3.cell? ⟨w.heap.size, 1, none⟩ = some (Value.slice none 0 0) := by simp [World.cell?, hk3]
  have f0 := free_of_one hk3 0
  have f1 := free_of_one hk3 1
  have HK3 := Lib.hid hk3
  clear h3 hn3 ho3 hb3 hk3
  subst h32
  go_wp2_with fail
  have hk4 := setCell_block (i := 0) (v := Value.slice A2 32 c2) HK3.out
  have hk5 := setCell_block (i := 1) (v := Value.slice A3 32 c3) hk4
  refine bodyPost_ret (results_cell_row Tryd.results10 _ _ _ 32 #[.slice A2 32 c2, .slice A3 32 c3] (0, 0) _ rfl hk5 Tryd.underlying32 rfl (by kernel_rfl)) rfl ?_
  have hbs := below_set HB3.out ⟨w.heap.size, 0, none⟩ (Nat.le_refl _) (.slice A2 32 c2)
  have hbs2 := below_set hbs ⟨w.heap.size, 1, none⟩ (Nat.le_refl _) (.slice A3 32 c3)
  have ne2 : ∀ b, (Value.slice A2 32 c2).ownBlock = some b → b ≠ w.heap.size := fun b hb => by have := (HR2.out.blk b hb).1; have := HS1.out; omega
  have ne3 : ∀ b, (Value.slice A3 32 c3).ownBlock = some b → b ≠ w.heap.size := fun b hb => by have := (HR3.out.blk b hb).1; have := HS1.out; omega
  exact ⟨A2, c2, A3, c3, rfl, ((HR2.out.other ne2 _).other ne2 _).rd, ((HR3.out.other ne3 _).other ne3 _).rd, hbs2⟩
end Go.Proofs.YtlmcpnicjdcmdaaDoor
