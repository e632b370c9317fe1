/- SHA-256: one block, whole. -/
import Derived.Test.YtlmcpnicjdcmdaaDoorSc
set_option linter.unusedVariables false
set_option linter.unusedSimpArgs false
namespace Go.Proofs.YtlmcpnicjdcmdaaDoor
open Go Go.RowKit Go.BigFrame

/-- What is known of the world is all that is kept of it. -/
theorem with_world {P : Program} {c : Code} {Q : Exit → Act → World → Prop} {a : Act} {W : World} (F : World → Prop) (hF : F W) (h : ∀ w2, F w2 → Code.wp P c Q a w2) : Code.wp P c Q a W := h W hF

set_option maxRecDepth 100000 in
set_option maxHeartbeats 400000 in
theorem block_calls (w : World) (B T : Nat) (st : List Int) (tl : List Value) (b off n cap : Nat) (l : List Int) (hS : St w B T st tl) (hK : Ksha w) (hBK : B ≠ gK) (hn : n = l.length) (hl : 64 ≤ l.length) (hm : l.length ≤ 9223372036854775807) (hR : Rd .u8 w (some ⟨b, off, none⟩) l) :
    Calls Tryd.prog 45 #[.pointer (some ⟨B, 0, none⟩), .slice (some ⟨b, off, none⟩) n cap] w fun e w2 => e = .returned (.tuple #[]) ∧ St w2 B T (blockF st l) tl ∧ w.grownBy w2 (some B) := by
  have HS := Lib.hid hS
  have HK := Lib.hid hK
  have HR := Lib.hid hR
  have HN := Lib.hid hn
  have hlt := hS.lt
  have hi64 : (Tryd.prog.info? 79).map (·.size) = some (ints .u32 (wordsOf l)).toArray.size := by rw [info_w64]; simp [ints, wordsOf_length]
  have HI := Lib.hid hi64
  clear hS hK hR hn hi64
  go_enter Tryd.func45, Tryd.ntmps45
  refine wp_scope_jumps 0 (atLabel w B T st tl (.slice (some ⟨b, off, none⟩) n cap) l) (fun a _ => 64 - (intOf (a.tmps.getD 13 undef)).toNat) rfl ?_ (fun a w' hJ => wp_seq (wp_skip (block_pass w B T st tl _ l _ rfl a w' hJ)))
  go_wp2_with (first
    | ((with_reducible refine gate_none rfl ?_); refine wpList_store_row rfl 79 (.tmp 4) (.tmp 19) rfl _ (ints .u32 (wordsOf l)).toArray rfl rfl 79 _ (heap_alloc_new _ _) HI.out (by simp [ints, wordsOf_length]) (ints_all _ _) ?_)
    | ((refine (words_calls b off n cap l _ HN.out hl hm HR.out).mono ?_); rintro e w1 ⟨rfl, hb⟩; (have HB := Lib.hid hb); clear hb))
  go_frame
  refine with_world (fun w2 => St w2 B T st tl ∧ Arr w2 w1.heap.size 79 .u32 (wordsOf l) ∧ Ksha w2 ∧ w.grownBy w2 (some B)) ?_ ?_
  · have hb := HB.out
    have hb2 : Below w.heap.size w (w1.alloc (.cells (ints .u32 (List.replicate 64 0)).toArray 79)) := hb.alloc hb.size _
    have hb3 := below_row hb2 w1.heap.size hb.size (ints .u32 (wordsOf l)).toArray
    exact ⟨HS.out.below hb3 hlt, (Arr.new w1 79 .u32 (List.replicate 64 0)).row (wordsOf l), HK.out.below hb3, grown_below hb3 (Nat.le_refl _) _⟩
  · rintro w2 ⟨hS, hA, hK, hg⟩
    have d0 := hS.cell 0 (by decide)
    have d1 := hS.cell 1 (by decide)
    have d2 := hS.cell 2 (by decide)
    have d3 := hS.cell 3 (by decide)
    have d4 := hS.cell 4 (by decide)
    have d5 := hS.cell 5 (by decide)
    have d6 := hS.cell 6 (by decide)
    have d7 := hS.cell 7 (by decide)
    have HS2 := Lib.hid hS
    have HA2 := Lib.hid hA
    have HK2 := Lib.hid hK
    have HG2 := Lib.hid hg
    clear hS hA hK hg
    go_wp2_with fail
    go_quiet (fail)
    go_wp2_with fail
    go_step3
    rename_i hk1
    refine hk1 _ _ (wp_mono (block_pass w B T st tl _ l _ rfl _ _ (atLabel_mk 0 rfl rfl (by decide) (grown_trans HG2.out (grown_drewN _ nq _)) (HS2.out.drewN nq) (HA2.out.drewN nq) (HK2.out.drewN nq))) ?_)
    intro e a w3 h
    cases e <;> first | exact h | exact ⟨h.1, h.2.1⟩
end Go.Proofs.YtlmcpnicjdcmdaaDoor
