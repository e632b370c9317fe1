/- box: the tag of what stands ahead, and of bytes. -/
import Derived.Test.YtlmcpnicjdcmdaaDoorXb
set_option linter.unusedVariables false
set_option linter.unusedSimpArgs false
namespace Go.Proofs.YtlmcpnicjdcmdaaDoor
open Go Go.RowKit Go.BigFrame PrintLast

/-- The tag of a key, of what stands ahead, and of bytes. -/
def markF (tk ahead b : List Int) : List Int := macF tk (textF ahead ++ b)
theorem markF_length (tk ahead b : List Int) : (markF tk ahead b).length = 32 := macF_length _ _
theorem info_a32 : (Tryd.prog.info? 35).map (·.size) = some 32 := by kernel_rfl

set_option maxRecDepth 100000 in
set_option maxHeartbeats 1000000 in
theorem mark_calls (w : World) (A1 : Option Addr) (c1 : Nat) (A2 : Option Addr) (c2 : Nat) (tk : List Int) (h32 : tk.length = 32) (hR2 : Rd .u8 w A2 tk) (A3 : Option Addr) (n3 c3 : Nat) (ah : List Int) (hn3 : n3 = ah.length) (hR3 : Rd .u8 w A3 ah) (hl3 : ah.length ≤ 65536)
    (A4 : Option Addr) (n4 c4 : Nat) (bs : List Int) (hn4 : n4 = bs.length) (hR4 : Rd .u8 w A4 bs) (hl4 : bs.length ≤ 1048576) (hK : Kbox w) :
    Calls Tryd.prog 12 #[.agg #[.slice A1 32 c1, .slice A2 32 c2], .slice A3 n3 c3, .slice A4 n4 c4] w fun e w' => e = .returned (.agg (ints .u8 (markF tk ah bs)).toArray) ∧ Below w.heap.size w w' := by
  have H32 := Lib.hid h32
  have HR2 := Lib.hid hR2
  have HN3 := Lib.hid hn3
  have HR3 := Lib.hid hR3
  have HN4 := Lib.hid hn4
  have HR4 := Lib.hid hR4
  have HL3 := Lib.hid hl3
  have HL4 := Lib.hid hl4
  have HK := Lib.hid hK
  clear h32 hR2 hn3 hR3 hn4 hR4 hl3 hl4 hK
  go_enter Tryd.func12, Tryd.ntmps12
  go_wp2_with (go_at_call 17; refine stop ?_)
  refine with_worldC (fun w1 => Below w.heap.size w w1 ∧ w1.heap.size = w.heap.size + 2 ∧ w1.heap[w.heap.size]? = some (.cells #[.slice A1 32 c1, .slice A2 32 c2] 32 (0, 0)) ∧ Arr w1 (w.heap.size + 1) 35 .u8 (List.replicate 32 0))
    ⟨((Below.refl _ _).alloc (Nat.le_refl _) _).alloc (by simp) _, by simp, heap_alloc2_old w _ _, Arr.lit rfl (by simp)⟩ ?_
  rintro w1 ⟨hb1, hs1, hk1, ha1⟩
  have HB1 := Lib.hid hb1
  have HS1 := Lib.hid hs1
  have HK1 := Lib.hid hk1
  have HA1 := Lib.hid ha1
  clear hb1 hs1 hk1 ha1
  refine Stop.call (text_calls w1 A3 n3 c3 ah HN3.out (HR3.out.below HB1.out) (by have := HL3.out; omega) (HK.out.below HB1.out).wire) ?_
  intro e w2 h2
  obtain ⟨At, nt, ct, rfl, hnt, _, hot, hb2⟩ := h2.form
  have HOT := Lib.hid hot
  have HNT := Lib.hid hnt
  have HB2 := Lib.hid hb2
  clear h2 hot hnt hb2
  have hbw2 := HB1.out.trans (HB2.out.mono HB1.out.size)
  have HBW := Lib.hid hbw2
  have hk2 : w2.heap[w.heap.size]? = some (.cells #[.slice A1 32 c1, .slice A2 32 c2] 32 (0, 0)) := (HB2.out.block _ (by have := HS1.out; omega)).trans HK1.out
  have ha2 := HA1.out.below HB2.out (by have := HS1.out; omega)
  have k1 : w2.cell? ⟨w.heap.size, 1, none⟩ = some (.slice A2 32 c2) := by simp [World.cell?, hk2]
  have HK2 := Lib.hid hk2
  have HA2 := Lib.hid ha2
  clear hbw2 hk2 ha2
  have k1b : w1.cell? ⟨w.heap.size, 1, none⟩ = some (.slice A2 32 c2) := by simp [World.cell?, HK1.out]
  have K1B := Lib.hid k1b
  clear k1b
  go_wp2_with (with_reducible refine stop_region 2 ?_)
  refine Stop.go ?_
  refine start_ (n := 9) (S := fun w' => w'.cell? ⟨w.heap.size, 1, none⟩ = some (.slice A2 32 c2)) (ds := [8]) #[false, false, false, false, false, false, false, false, false] (by kernel_rfl) rfl rfl (k1) (fun hHeld => ?_)
  refine pure_ (i := 0) (N := some 14) (v := ?_) (a' := ?_) #[true, false, false, false, false, false, false, false, false] rfl rfl (by kernel_rfl) (fun _ _ _ h => h) (Or.inl ⟨by rfl, ?_⟩) ?_ ?_
  rotate_left
  · intro w'
    go_simp
    with_reducible rfl
  rotate_left
  · simp only [Act.put, List.setIfInBounds_toArray, List.set_cons_zero, List.set_cons_succ, i64_w, i32_w]
    rfl
  refine pure_ (i := 2) (N := some 16) (v := ?_) (a' := ?_) #[true, false, true, false, false, false, false, false, false] rfl rfl (by kernel_rfl) (fun _ _ _ h => h) (Or.inl ⟨by rfl, ?_⟩) ?_ ?_
  rotate_left
  · intro w'
    go_simp
    with_reducible rfl
  rotate_left
  · simp only [Act.put, List.setIfInBounds_toArray, List.set_cons_zero, List.set_cons_succ, i64_w, i32_w]
    rfl
  refine pure_ (i := 3) (N := some 17) (v := ?_) (a' := ?_) #[true, false, true, true, false, false, false, false, false] rfl rfl (by kernel_rfl) (fun _ _ _ h => h) (Or.inl ⟨by rfl, ?_⟩) ?_ ?_
  rotate_left
  · intro w'
    go_simp
    with_reducible rfl
  rotate_left
  · simp only [Act.put, List.setIfInBounds_toArray, List.set_cons_zero, List.set_cons_succ, i64_w, i32_w]
    rfl
  refine take_ (i := 1) (N := some 15) (v := ?_) (a' := ?_) #[true, true, true, true, false, false, false, false, false] rfl rfl (by kernel_rfl) (fun _ _ _ h => h) (Or.inl ⟨by rfl, ?_⟩) hHeld ?_ ?_
  rotate_left
  · intro w' s0
    go_simp
    with_reducible rfl
  rotate_left
  · simp only [Act.put, List.setIfInBounds_toArray, List.set_cons_zero, List.set_cons_succ, i64_w, i32_w]
    rfl
  refine one_ (i := 4) (N := some 18) #[true, true, true, true, true, false, false, false, false] rfl rfl (by kernel_rfl) (by decide) (fun K hK => ?_)
  refine step_append_new bytesE w1 (.tmp 16) (.tmp 17) (.slice At nt ct) (textF ah) A4 c4 n4 bs HOT.out (below_drew HB2.out) (HR4.out.below (below_drew HBW.out)) HN4.out rfl rfl (by rfl) (by rfl) (by have := textF_length ah; have := HL3.out; have := HL4.out; omega) (by have := textF_length ah; have := HL3.out; have := HL4.out; unfold maxLen; omega) ?_
  intro v4 W4 ho4 hb4 hg4
  obtain ⟨A5, n5, c5, rfl, hn5, _, _, ho5⟩ := ho4.form2
  have HB4 := Lib.hid hb4
  have HO5 := Lib.hid ho5
  have HN5 := Lib.hid hn5
  have q1 := cell_below hb4 (cell_lt K1B.out) K1B.out
  clear ho4 hb4 hg4 ho5 hn5
  refine hK.out _ _ (q1) (fun hHeld => ?_)
  clear hK K
  refine norm_ (a' := ?_) ?_ ?_
  rotate_left
  · show Act.put _ (some 18) _ = _
    simp only [Act.put, List.setIfInBounds_toArray, List.set_cons_zero, List.set_cons_succ, i64_w, i32_w]
    rfl
  refine one_ (i := 5) (N := some 19) #[true, true, true, true, true, true, false, false, false] rfl rfl (by kernel_rfl) (by decide) (fun K hK => ?_)
  refine goes_ Tryd.func18 (by kernel_rfl) rfl #[.slice A2 32 c2, .slice A5 n5 c5] (by rfl) rfl rfl (by simp only [List.map_toArray, List.map_cons, List.map_nil]; rfl) ?_
  have hbW4 := HB1.out.trans (HB4.out.mono HB1.out.size)
  refine (mac_calls W4 A2 32 c2 tk A5 n5 c5 (textF ah ++ bs) H32.out.symm (HR2.out.below hbW4) HN5.out HO5.out.rd (by have := H32.out; omega) (by have := textF_length ah; have := HL3.out; have := HL4.out; rw [List.length_append]; omega) (HK.out.below hbW4).sha).mono ?_
  intro e w5 h5
  obtain ⟨A6, n6, c6, rfl, hn6, _, ho6, hb6⟩ := h5.form
  refine ⟨_, rfl, ?_⟩
  have h32 : n6 = 32 := by rw [hn6]; exact macF_length _ _
  obtain ⟨g6, eg6, hg6, _⟩ := ho6.addr (by rw [macF_length]; omega)
  subst eg6
  have q2 := cell_below hb6 (cell_lt hHeld) hHeld
  have HO6 := Lib.hid ho6.rd
  have HB5 := Lib.hid (hbW4.trans (hb6.mono hbW4.size))
  have HBL := Lib.hid (HB4.out.trans (hb6.mono HB4.out.size))
  clear h5 hn6 ho6 hb6 hg6 hbW4
  subst h32
  have har := run_arrayAt (P := Tryd.prog) (w := w5) 35 5 32 (some ⟨g6, 0, none⟩) 32 c6 Tryd.underlying35 (Nat.le_refl _)
  refine hK.out _ _ (q2) (fun hHeld => ?_)
  clear hK K
  refine norm_ (a' := ?_) ?_ ?_
  rotate_left
  · show Act.put _ (some 19) _ = _
    simp only [Act.put, List.setIfInBounds_toArray, List.set_cons_zero, List.set_cons_succ, i64_w, i32_w]
    rfl
  refine one_ (i := 6) (N := some 20) #[true, true, true, true, true, true, true, false, false] rfl rfl (by kernel_rfl) (by decide) (fun K hK => ?_)
  refine value_ (w1 := ?_) (v := ?_) (by rfl) rfl ?_ ?_
  rotate_left 2
  · go_simp
    constructor
    · rfl
    · rfl
  refine hK.out _ _ (hHeld) (fun hHeld => ?_)
  clear hK K
  refine norm_ (a' := ?_) ?_ ?_
  rotate_left
  · show Act.put _ (some 20) _ = _
    simp only [Act.put, List.setIfInBounds_toArray, List.set_cons_zero, List.set_cons_succ, i64_w, i32_w]
    rfl
  refine one_ (i := 7) (N := some 21) #[true, true, true, true, true, true, true, true, false] rfl rfl (by kernel_rfl) (by decide) (fun K hK => ?_)
  refine step_load_rd (by rfl) 35 (.tmp 20) (by rfl) g6 0 .u8 (macF tk (textF ah ++ bs)) (by rfl) HO6.out (by rw [macF_length]; omega) _ Tryd.underlying35 rfl (by rw [macF_length]; exact info_a32) ?_
  refine hK.out _ _ (hHeld) (fun hHeld => ?_)
  clear hK K
  refine norm_ (a' := ?_) ?_ ?_
  rotate_left
  · show Act.put _ (some 21) _ = _
    simp only [Act.put, List.setIfInBounds_toArray, List.set_cons_zero, List.set_cons_succ, i64_w, i32_w]
    rfl
  refine last_ (i := 8) (N := none) #[true, true, true, true, true, true, true, true, true] rfl rfl (by kernel_rfl) (by decide) (fun K hK => ?_)
  refine step_store_row (by rfl) 35 (.tmp 6) (.tmp 21) (by rfl) (w.heap.size + 1) (ints .u8 (macF tk (textF ah ++ bs))).toArray (by rfl) (by rfl) 35 _ (HA1.out.below HBL.out (by have := HS1.out; omega)).block (by rw [List.size_toArray, ints_length, macF_length]; exact info_a32) (by rw [List.size_toArray, List.size_toArray, ints_length, ints_length, macF_length, List.length_replicate]) (ints_all _ _) ?_
  refine hK.out _ _ ?_
  clear hK K
  refine done_ (by kernel_rfl) ?_
  go_wp2_with fail
  have har := (HA1.out.below HBL.out (by have := HS1.out; omega)).row (macF tk (textF ah ++ bs))
  exact bodyPost_ret (results_cell_row Tryd.results12 _ _ _ 35 (ints .u8 (macF tk (textF ah ++ bs))).toArray (0, 0) _ rfl har.block Tryd.underlying35 rfl (by rw [List.size_toArray, ints_length, macF_length]; exact info_a32)) rfl ⟨rfl, below_row HB5.out _ (by omega) _⟩
end Go.Proofs.YtlmcpnicjdcmdaaDoor
