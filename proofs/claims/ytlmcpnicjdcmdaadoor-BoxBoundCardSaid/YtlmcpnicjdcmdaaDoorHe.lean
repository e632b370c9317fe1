/- HKDF: Expand of thirty-two bytes. -/
import Derived.Test.YtlmcpnicjdcmdaaDoorHd
set_option linter.unusedVariables false
set_option linter.unusedSimpArgs false
namespace Go.Proofs.YtlmcpnicjdcmdaaDoor
open Go Go.RowKit Go.BigFrame PrintLast

set_option maxRecDepth 100000 in
set_option maxHeartbeats 400000 in
theorem pieces_calls (w : World) (A1 A2 : Option Addr) (n1 c1 n2 c2 : Nat) :
    Calls Tryd.prog 38 #[.slice A1 n1 c1, .slice A2 n2 c2] w fun e w' => e = .returned (.func (.func 51) #[] #[.pointer (some ⟨w.heap.size, 0, none⟩), .pointer (some ⟨w.heap.size + 1, 0, none⟩)]) ∧ w' = (w.alloc (.cells #[.slice A1 n1 c1] 22)).alloc (.cells #[.slice A2 n2 c2] 22) := by
  go_enter Tryd.func38, Tryd.ntmps38
  go_wp2
  go_ret
  exact ⟨rfl, rfl⟩

theorem heap5 (w : World) (a b c d e : Obj) : let U := ((((w.alloc a).alloc b).alloc c).alloc d).alloc e
    U.heap[w.heap.size]? = some a ∧ U.heap[w.heap.size + 1]? = some b ∧ U.heap[w.heap.size + 2]? = some c ∧ U.heap[w.heap.size + 3]? = some d ∧ U.heap[w.heap.size + 4]? = some e ∧ U.heap.size = w.heap.size + 5 ∧ Below w.heap.size w U := by
  have s1 : (w.alloc a).heap.size = w.heap.size + 1 := by simp
  have s2 : ((w.alloc a).alloc b).heap.size = w.heap.size + 2 := by simp
  have s3 : (((w.alloc a).alloc b).alloc c).heap.size = w.heap.size + 3 := by simp
  have s4 : ((((w.alloc a).alloc b).alloc c).alloc d).heap.size = w.heap.size + 4 := by simp
  have n0 := heap_alloc_new w a
  have n1 := heap_alloc_new (w.alloc a) b
  have n2 := heap_alloc_new ((w.alloc a).alloc b) c
  have n3 := heap_alloc_new (((w.alloc a).alloc b).alloc c) d
  have n4 := heap_alloc_new ((((w.alloc a).alloc b).alloc c).alloc d) e
  rw [s1] at n1
  rw [s2] at n2
  rw [s3] at n3
  rw [s4] at n4
  refine ⟨?_, ?_, ?_, ?_, n4, by simp, ?_⟩
  · exact (Below.heap_alloc _ _ _ (by omega)).trans ((Below.heap_alloc _ _ _ (by omega)).trans ((Below.heap_alloc _ _ _ (by omega)).trans ((Below.heap_alloc _ _ _ (by omega)).trans n0)))
  · exact (Below.heap_alloc _ _ _ (by omega)).trans ((Below.heap_alloc _ _ _ (by omega)).trans ((Below.heap_alloc _ _ _ (by omega)).trans n1))
  · exact (Below.heap_alloc _ _ _ (by omega)).trans ((Below.heap_alloc _ _ _ (by omega)).trans n2)
  · exact (Below.heap_alloc _ _ _ (by omega)).trans n3
  · exact (((((Below.refl _ _).alloc (by simp) _).alloc (by simp) _).alloc (by simp; omega) _).alloc (by simp; omega) _).alloc (by simp; omega) _

theorem Own.ne_block {k : IntKind} {T base : Nat} {w : World} {v : Value} {l : List Int} (h : Own k T w base v l) {B T' : Nat} {cs : Array Value} {fz : Nat × Nat} (hB : w.heap[B]? = some (.cells cs T' fz)) (hT : T' ≠ T) : ∀ b, v.ownBlock = some b → b ≠ B := by
  rintro b hb rfl
  rcases h.2 with ⟨rfl, _⟩ | ⟨g, cap, cur, rfl, _, hg, _⟩
  · simp [Value.ownBlock] at hb
  · simp only [Value.ownBlock, Option.some.injEq] at hb
    subst hb
    rw [hB] at hg
    simp at hg
    exact hT hg.2.1
theorem cell_of_one {w : World} {B T : Nat} {v : Value} (h : w.heap[B]? = some (.cells #[v] T (0, 0))) : w.cell? ⟨B, 0, none⟩ = some v := by simp [World.cell?, h]
theorem free_of_one {w : World} {B T : Nat} {cs : Array Value} (h : w.heap[B]? = some (.cells cs T (0, 0))) (i : Nat) : w.frozen? ⟨B, i, none⟩ = false := by simp [World.frozen?, h]
/-- What a round hands over. -/
def HandF (key info : List Int) (v : Value) (W : World) : Prop := ∃ A c, v = .slice A 32 c ∧ 32 ≤ c ∧ Rd .u8 W A (firstF key info)
/-- What a round leaves. -/
def LeftF (w : World) (key info : List Int) (W : World) : Prop := ∃ A c, W.heap[w.heap.size + 2]? = some (.cells #[.slice A 32 c] 22 (0, 0)) ∧ Own .u8 5 W w.heap.size (.slice A 32 c) (firstF key info) ∧ Below w.heap.size w W

set_option maxRecDepth 100000 in
set_option maxHeartbeats 400000 in
theorem expand_calls (w : World) (A1 : Option Addr) (n1 c1 : Nat) (key : List Int) (A2 : Option Addr) (n2 c2 : Nat) (info : List Int)
    (hn1 : n1 = key.length) (hR1 : Rd .u8 w A1 key) (hn2 : n2 = info.length) (hR2 : Rd .u8 w A2 info) (hl1 : key.length ≤ 140737488355328) (hl2 : info.length ≤ 140737488300000) (hK : Ksha w) :
    Calls Tryd.prog 23 #[.slice A1 n1 c1, .slice A2 n2 c2, .int .i64 32] w (RetB w (firstF key info)) := by
  have HR1 := Lib.hid hR1
  have HR2 := Lib.hid hR2
  have HN1 := Lib.hid hn1
  have HN2 := Lib.hid hn2
  have HK := Lib.hid hK
  clear hR1 hR2 hn1 hn2 hK
  refine (callsIn_wide (n := 4)).1 ?_
  refine callsIn_of_wp_marks Tryd.func23 rfl trivial ?_
  refine wpIn_wide.2 ?_
  simp only [Tryd.ntmps23, List.size_toArray, List.length_cons, List.length_nil, Nat.reduceAdd, Nat.reduceSub, Array.replicate_succ, Array.replicate_zero, List.push_toArray, List.append_toArray, List.nil_append, List.cons_append]
  go_wp2_with ((with_reducible refine gate_dst (N := 16) rfl ?_); refine stop ?_)
  refine Stop.go ?_
  refine wpList_make_new bytesE _ (.tmp 15) 0 32 .i64 .i64 rfl rfl rfl rfl (by decide) (by decide) (by decide) ?_
  go_wp2_with (go_at_call 38; refine stop ?_)
  refine Stop.call (pieces_calls _ A1 A2 n1 c1 n2 c2) ?_
  rintro e U ⟨rfl, hU⟩
  go_wp2_with (with_reducible refine stop_range ?_)
  refine Stop.go ?_
  have h5 := heap5 w (Obj.cells #[Value.int IntKind.i64 32] 3) (Obj.cells (ints IntKind.u8 (List.replicate 32 0)).toArray 5) (Obj.cells #[Value.slice (some ⟨w.heap.size + 1, 0, none⟩) 0 32] 22) (Obj.cells #[Value.slice A1 n1 c1] 22) (Obj.cells #[Value.slice A2 n2 c2] 22)
  refine with_world (fun U => U.heap[w.heap.size]? = some (Obj.cells #[Value.int IntKind.i64 32] 3) ∧ U.heap[w.heap.size + 1]? = some (Obj.cells (ints IntKind.u8 (List.replicate 32 0)).toArray 5) ∧ U.heap[w.heap.size + 2]? = some (Obj.cells #[Value.slice (some ⟨w.heap.size + 1, 0, none⟩) 0 32] 22) ∧ U.heap[w.heap.size + 3]? = some (Obj.cells #[Value.slice A1 n1 c1] 22) ∧ U.heap[w.heap.size + 4]? = some (Obj.cells #[Value.slice A2 n2 c2] 22) ∧ U.heap.size = w.heap.size + 5 ∧ Below w.heap.size w U) h5 ?_
  clear hU h5
  clear U
  rintro U ⟨h0, h1, h2, h3, h4, hsz, hB⟩
  simp only [Nat.add_assoc, Nat.reduceAdd]
  refine (wpIn_wide (n := 4)).1 ?_
  have hg3 := cell_of_one h3
  have hg4 := cell_of_one h4
  refine wpIn_rangeFunc_once (gf := 51) (lb := #[.pointer (some ⟨w.heap.size + 3, 0, none⟩), .pointer (some ⟨w.heap.size + 4, 0, none⟩)]) rfl (fun args W => enters_ Tryd.func51 (by kernel_rfl) rfl args W) rfl 0
    (HandF key info) ?hV ?hiter (LeftF w key info) ?hIx
    (fun v => { tmps := List.toArray ((Value.slice A1 n1 c1) :: (Value.slice A2 n2 c2) :: (Value.int .i64 32) :: undef :: undef :: (Value.pointer (some ⟨w.heap.size, 0, none⟩)) :: (Value.slice none 0 0) :: (Value.pointer (some ⟨w.heap.size + 2, 0, none⟩)) :: (v) :: (Value.int .i64 32) :: (Value.bool false) :: (Value.bool false) :: (Value.int .i64 32) :: (Value.bool false) :: (Value.bool false) :: (Value.int .i64 32) :: (Value.slice (some ⟨w.heap.size + 1, 0, none⟩) 0 32) :: (Value.int .i64 32) :: (Value.bool false) :: undef :: (Value.slice A1 n1 c1) :: (Value.slice A2 n2 c2) :: (Value.func (Fn.func 51) #[] #[Value.pointer (some ⟨w.heap.size + 3, 0, none⟩), Value.pointer (some ⟨w.heap.size + 4, 0, none⟩)]) :: (v) :: undef :: undef :: undef :: undef :: undef :: undef :: undef :: undef :: undef :: undef :: undef :: undef :: undef :: undef :: undef :: undef :: []), defers := [] })
    ?hassign ?hbody ?hstop
  case hV =>
    rintro v W l o o' ⟨A, c, rfl, hc, hr⟩ hl ho
    exact ⟨A, c, rfl, hc, hr.putObj o' hl ho⟩
  case hiter =>
    intro l W1 R hb1 hs1 hY
    refine (callsIn_wide).2 ?_
    exact pieces1_calls _ l W1 R (w.heap.size + 3) (w.heap.size + 4) A1 n1 c1 key A2 n2 c2 info (cell_below hb1 (by omega) hg3) (cell_below hb1 (by omega) hg4) HN1.out ((HR1.out.below hB).below hb1) HN2.out ((HR2.out.below hB).below hb1) hl1 hl2 (Rd.below (Rd.below HK.out hB) hb1)
      (fun A c W2 hr hc hb => hY _ W2 ⟨A, c, rfl, hc, hr⟩ hb)
  case hIx =>
    rintro W l o o' ⟨A, c, hc, ho, hb⟩ hl hlo hoc
    refine ⟨A, c, (World.putObj_heap_other (by omega)).trans hc, ho.putObj' o' hlo hoc, below_putObj hb (by omega) o'⟩
  case hassign =>
    intro l v W K hK
    refine region_round (by kernel_rfl) (fun ⟨_, _, h⟩ => h) ?_
    go_wp2
    exact hK
  case hbody =>
    rintro l v W ⟨A, c, rfl, hc32, hr⟩ hbU hlt
    have hc32' : (32 : Int) ≤ c := by omega
    have hw32 : wrap64 32 = 32 := by unfold wrap64; omega
    have k0 := cell_of_one ((hbU.block _ (by omega)).trans h0)
    have k2 := cell_of_one ((hbU.block _ (by omega)).trans h2)
    have f2 := free_of_one ((hbU.block _ (by omega)).trans h2) 0
    have hl : (firstF key info).length = 32 := macF_length _ _
    obtain ⟨b, off, rfl, _, _⟩ := hr.at_ (by omega)
    have hA1 : Arr W (w.heap.size + 1) 5 .u8 (List.replicate 32 0) := ⟨(hbU.block _ (by omega)).trans h1⟩
    have hown : Own .u8 5 W.drew w.heap.size (.slice (some ⟨w.heap.size + 1, 0, none⟩) 0 32) [] := ⟨by simp [ints], .inr ⟨w.heap.size + 1, 32, _, rfl, by omega, hA1.drew.block, by simp, by decide, by simp [ints], by simp [ints]⟩⟩
    have hbW : Below w.heap.size w W.drew := below_drewN (hB.trans (hbU.mono hB.size)) 1
    have hU5 := hbU.size
    have HW1 := Lib.hid ((hbU.block _ (by omega)).trans h1)
    have HW2 := Lib.hid ((hbU.block _ (by omega)).trans h2)
    have HOWN := Lib.hid hown
    have HBW := Lib.hid hbW
    have HRD := Lib.hid hr
    clear h0 h1 h2 h3 h4 hA1 hown hbW hr hbU hg3 hg4 hB
    refine wpIn_block ?_
    refine wpIn_seq ?_
    refine startIn_ (n := 12) (S := fun w' => w'.cell? ⟨w.heap.size + 2, 0, none⟩ = some (.slice (some ⟨w.heap.size + 1, 0, none⟩) 0 32) ∧ w'.cell? ⟨w.heap.size, 0, none⟩ = some (.int .i64 32)) (ds := [11]) #[false, false, false, false, false, false, false, false, false, false, false, false] (by kernel_rfl) (fun ⟨_, _, h⟩ => by cases h.1) (by kernel_rfl) rfl rfl ⟨k2, k0⟩ (fun hHeld => ?_)
    refine pure_ (i := 1) (N := some 25) (v := ?_) (a' := ?_) #[false, true, false, false, false, false, false, false, false, false, false, false] rfl rfl (by kernel_rfl) (fun _ _ _ h => h) (Or.inl ⟨by rfl, ?_⟩) ?_ ?_
    rotate_left
    · intro w'
      go_simp
      with_reducible rfl
    rotate_left
    · simp only [Act.put, List.setIfInBounds_toArray, List.set_cons_zero, List.set_cons_succ, i64_w, i32_w]
      rfl
    refine pure_ (i := 2) (N := some 26) (v := ?_) (a' := ?_) #[false, true, true, false, false, false, false, false, false, false, false, false] rfl rfl (by kernel_rfl) (fun _ _ _ h => h) (Or.inl ⟨by rfl, ?_⟩) ?_ ?_
    rotate_left
    · intro w'
      go_simp
      with_reducible rfl
    rotate_left
    · simp only [Act.put, List.setIfInBounds_toArray, List.set_cons_zero, List.set_cons_succ, i64_w, i32_w]
      rfl
    refine pure_ (i := 3) (N := some 27) (v := ?_) (a' := ?_) #[false, true, true, true, false, false, false, false, false, false, false, false] rfl rfl (by kernel_rfl) (fun _ _ _ h => h) (Or.inl ⟨by rfl, ?_⟩) ?_ ?_
    rotate_left
    · intro w'
      go_simp
      with_reducible rfl
    rotate_left
    · simp only [Act.put, List.setIfInBounds_toArray, List.set_cons_zero, List.set_cons_succ, i64_w, i32_w]
      rfl
    refine take_ (i := 0) (N := some 24) (v := ?_) (a' := ?_) #[true, true, true, true, false, false, false, false, false, false, false, false] rfl rfl (by kernel_rfl) (fun _ _ _ h => h) (Or.inl ⟨by rfl, ?_⟩) hHeld ?_ ?_
    rotate_left
    · rintro w' ⟨s0, s1⟩
      go_simp
      with_reducible rfl
    rotate_left
    · simp only [Act.put, List.setIfInBounds_toArray, List.set_cons_zero, List.set_cons_succ, i64_w, i32_w]
      rfl
    refine take_ (i := 4) (N := some 28) (v := ?_) (a' := ?_) #[true, true, true, true, true, false, false, false, false, false, false, false] rfl rfl (by kernel_rfl) (fun _ _ _ h => h) (Or.inl ⟨by rfl, ?_⟩) hHeld ?_ ?_
    rotate_left
    · rintro w' ⟨s0, s1⟩
      go_simp
      with_reducible rfl
    rotate_left
    · simp only [Act.put, List.setIfInBounds_toArray, List.set_cons_zero, List.set_cons_succ, i64_w, i32_w]
      rfl
    refine take_ (i := 5) (N := some 29) (v := ?_) (a' := ?_) #[true, true, true, true, true, true, false, false, false, false, false, false] rfl rfl (by kernel_rfl) (fun _ _ _ h => h) (Or.inl ⟨by rfl, ?_⟩) hHeld ?_ ?_
    rotate_left
    · rintro w' ⟨s0, s1⟩
      go_simp
      with_reducible rfl
    rotate_left
    · simp only [Act.put, List.setIfInBounds_toArray, List.set_cons_zero, List.set_cons_succ, i64_w, i32_w]
      rfl
    refine pure_ (i := 6) (N := some 30) (v := ?_) (a' := ?_) #[true, true, true, true, true, true, true, false, false, false, false, false] rfl rfl (by kernel_rfl) (fun _ _ _ h => h) (Or.inl ⟨by rfl, ?_⟩) ?_ ?_
    rotate_left
    · intro w'
      go_simp
      with_reducible rfl
    rotate_left
    · simp only [Act.put, List.setIfInBounds_toArray, List.set_cons_zero, List.set_cons_succ, i64_w, i32_w]
      rfl
    refine pure_ (i := 7) (N := some 31) (v := ?_) (a' := ?_) #[true, true, true, true, true, true, true, true, false, false, false, false] rfl rfl (by kernel_rfl) (fun _ _ _ h => h) (Or.inl ⟨by rfl, ?_⟩) ?_ ?_
    rotate_left
    · intro w'
      go_simp
      with_reducible rfl
    rotate_left
    · simp only [Act.put, List.setIfInBounds_toArray, List.set_cons_zero, List.set_cons_succ, i64_w, i32_w]
      rfl
    refine pure_ (i := 8) (N := some 32) (v := ?_) (a' := ?_) #[true, true, true, true, true, true, true, true, true, false, false, false] rfl rfl (by kernel_rfl) (fun _ _ _ h => h) (Or.inl ⟨by rfl, ?_⟩) ?_ ?_
    rotate_left
    · intro w'
      go_simp
      with_reducible rfl
    rotate_left
    · simp only [Act.put, List.setIfInBounds_toArray, List.set_cons_zero, List.set_cons_succ, i64_w, i32_w]
      rfl
    refine pure_ (i := 9) (N := some 33) (v := ?_) (a' := ?_) #[true, true, true, true, true, true, true, true, true, true, false, false] rfl rfl (by kernel_rfl) (fun _ _ _ h => h) (Or.inl ⟨by rfl, ?_⟩) ?_ ?_
    rotate_left
    · intro w'
      go_simp
      with_reducible rfl
    rotate_left
    · simp only [Act.put, List.setIfInBounds_toArray, List.set_cons_zero, List.set_cons_succ, i64_w, i32_w]
      rfl
    refine one_ (i := 10) (N := some 34) #[true, true, true, true, true, true, true, true, true, true, true, false] rfl rfl (by kernel_rfl) (by decide) (fun K hK => ?_)
    refine step_append_new bytesE w (.tmp 24) (.tmp 33) (.slice (some ⟨w.heap.size + 1, 0, none⟩) 0 32) [] (some ⟨b, off, none⟩) c 32 (firstF key info) HOWN.out HBW.out HRD.out.drew hl.symm rfl rfl (by rfl) (by rfl) (by simp [hl]) (by simp [hl, maxLen]) ?_
    intro v4 W4 ho4 hb4 hg4
    obtain ⟨A4, n4, c4, rfl, hn4, _, _, ho4⟩ := ho4.form2
    have hn5 : n4 = 32 := hn4.trans hl
    clear hn4
    subst hn5
    have HO4 := Lib.hid ho4
    have HB4 := Lib.hid hb4
    have HG4 := Lib.hid hg4
    have q2 := (World.cell?_of_block (a := ⟨w.heap.size + 2, 0, none⟩) (hg4.block (w.heap.size + 2) (by show _ < W.heap.size; omega) (by simp [Value.ownBlock]))).trans hHeld.1
    have q0 := (World.cell?_of_block (a := ⟨w.heap.size, 0, none⟩) (hg4.block w.heap.size (by show _ < W.heap.size; omega) (by simp [Value.ownBlock]))).trans hHeld.2
    have r2 := (World.frozen?_of_block (a := ⟨w.heap.size + 2, 0, none⟩) (hg4.block (w.heap.size + 2) (by show _ < W.heap.size; omega) (by simp [Value.ownBlock]))).trans f2
    clear ho4 hb4 hg4
    refine hK.out _ _ ⟨q2, q0⟩ (fun hHeld => ?_)
    clear hK K
    refine norm_ (a' := ?_) ?_ ?_
    rotate_left
    · show Act.put _ (some 34) _ = _
      simp only [Act.put, List.setIfInBounds_toArray, List.set_cons_zero, List.set_cons_succ, i64_w, i32_w]
      rfl
    refine last_ (i := 11) (N := none) #[true, true, true, true, true, true, true, true, true, true, true, true] rfl rfl (by kernel_rfl) (by decide) (fun K hK => ?_)
    refine skip_ (w1 := ?_) (by rfl) rfl ?_ ?_
    rotate_left
    · go_simp
      rfl
    refine hK.out _ _ ?_
    clear hK K
    refine done_ (by kernel_rfl) ?_
    simp only [Exit.then]
    refine wpIn_seq ?_
    refine region_round (by kernel_rfl) (fun ⟨_, _, h⟩ => by cases h.1) ?_
    go_wp2
    refine wpIn_cond_true rfl ?_
    refine wpIn_exit ?_
    show Exit.inBlock 1 _ (Exit.exit 0) _ _
    simp only [Exit.inBlock]
    have b4 := (HG4.out.block (w.heap.size + 2) (by show _ < W.heap.size; omega) (by simp [Value.ownBlock])).trans HW2.out
    refine ⟨trivial, ?_, A4, c4, setCell_block b4, ?_, below_set HB4.out _ (by simp) _⟩
    · refine KeepsOthers.trans (KeepsOthers.drew W) (KeepsOthers.trans (KeepsOthers.of_grownBy HG4.out ?_) (KeepsOthers.setCell _ _ _))
      intro j o e ho
      have e2 : j = w.heap.size + 1 := by simpa [Value.ownBlock] using e.symm
      subst e2
      have := HW1.out.symm.trans ho
      injection this with this
      rw [← this]
      rfl
    · have ho4 := HO4.out
      have := ho4.other (p := ⟨w.heap.size + 2, 0, none⟩) (ho4.ne_block b4 (by decide)) (Value.slice A4 32 c4)
      simpa using this
  case hstop =>
    rintro D W hD ⟨A, c, hc, ho, hb⟩ hd
    refine wpIn_wide.2 ?_
    have g := cell_of_one hc
    go_wp2_with fail
    refine ⟨by simp, .inl ⟨_, _, rfl, run_takeDeferred hd, ?_⟩⟩
    have hl : (firstF key info).length = 32 := macF_length _ _
    refine ⟨_, results_tmp rfl _ _ _, A, c, by rw [hl]; rfl, by rw [hl]; exact ho.putObj' _ hd rfl, below_putObj hb (by omega) _⟩
end Go.Proofs.YtlmcpnicjdcmdaaDoor
