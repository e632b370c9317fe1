/- The document opens what the program opens. -/
import Derived.Test.YtlmcpnicjdcmdaaDoorRy
import Derived.Test.YtlmcpnicjdcmdaaDoorXe
set_option linter.unusedVariables false
set_option linter.unusedSimpArgs false
namespace Go.Proofs.YtlmcpnicjdcmdaaDoor
open Go Go.RowKit Go.BigFrame PrintLast

theorem foldl_push (l : List Int) : ∀ (r : ByteArray), (l.foldl (fun r n => r.push (UInt8.ofNat n.toNat)) r).data.toList = r.data.toList ++ l.map fun n => UInt8.ofNat n.toNat := by
  induction l with
  | nil => intro r; simp
  | cons x l ih =>
    intro r
    rw [List.foldl_cons, ih]
    simp [ByteArray.push]
theorem strB_list (l : List Int) : (strB l).data.toList = l.map fun n => UInt8.ofNat n.toNat := by
  unfold strB
  rw [foldl_push]
  rfl
theorem strB_inj {l m : List Int} (hl : Bytes l) (hm : Bytes m) (h : (strB l).toList = (strB m).toList) : l = m := by
  have h2 : l.map (fun n => UInt8.ofNat n.toNat) = m.map fun n => UInt8.ofNat n.toNat := by rw [← strB_list, ← strB_list, ← ByteArray.toList_eq, ← ByteArray.toList_eq, h]
  have hlen : l.length = m.length := by simpa using congrArg List.length h2
  apply ext_getD hlen
  intro j hj
  obtain ⟨a0, a1⟩ := hl j hj
  obtain ⟨b0, b1⟩ := hm j (by omega)
  have h3 := congrArg (fun x : List UInt8 => x[j]?) h2
  simp only [List.getElem?_map] at h3
  rw [List.getElem?_eq_getElem hj, List.getElem?_eq_getElem (by omega : j < m.length)] at h3
  simp only [Option.map_some, Option.some.injEq] at h3
  have e1 : l.getD j 0 = l[j] := by simp [List.getD_eq_getElem?_getD, hj]
  have e2 : m.getD j 0 = m[j] := by simp [List.getD_eq_getElem?_getD, (by omega : j < m.length)]
  rw [e1] at a0 a1 ⊢
  rw [e2] at b0 b1 ⊢
  have h4 := congrArg UInt8.toNat h3
  rw [UInt8.toNat_ofNat', UInt8.toNat_ofNat'] at h4
  omega
theorem out_bytes (st : List Int) (n : Nat) : Bytes (outOf st n) := by
  induction n with
  | zero => intro j h; simp [outOf] at h
  | succ n ih =>
    intro j h
    rw [outOf_length] at h
    rw [outOf_succ]
    by_cases hj : j < (outOf st n).length
    · have := ih j hj
      simp only [List.getD_eq_getElem?_getD] at this ⊢
      rwa [List.getElem?_append_left hj]
    · rw [outOf_length] at hj
      simp only [List.getD_eq_getElem?_getD]
      rw [List.getElem?_append_right (by rw [outOf_length]; omega), outOf_length]
      have : j - 4 * n = 0 ∨ j - 4 * n = 1 ∨ j - 4 * n = 2 ∨ j - 4 * n = 3 := by omega
      rcases this with e | e | e | e <;> rw [e] <;> simp <;> omega
theorem mark_bytes (tk ah b : List Int) : Bytes (markF tk ah b) := out_bytes _ _
theorem exec_string_rd {P : Program} {o : Oper} {a : Act} (w : World) (src dst e : TypeId) (x : Operand) (ho : o.op = .convert src dst x) (hs : P.underlying src = some (.slice e)) (he : P.underlying e = some (.int .u8)) (hd : P.underlying dst = some .string)
    (A : Option Addr) (n c : Nat) (l : List Int) (hx : a.eval x = .slice A n c) (hn : n = l.length) (hR : Rd .u8 w A l) : (execOp a.eval o).run P w = .ok (.value (.string (strB l))) w := by
  have hr := run_string_rd (P := P) w src dst e hs he hd A n c l hn hR
  unfold execOp
  simp only [ho, hx, Sem.run_bind, hr, Result.andThen_ok, Sem.run_pure]

set_option maxRecDepth 100000 in
set_option maxHeartbeats 2000000 in
theorem ropen_calls (w : World) (A1 : Option Addr) (c1 : Nat) (key : List Int) (h1 : key.length = 32) (hR1 : Rd .u8 w A1 key) (A2 : Option Addr) (n2 c2 : Nat) (ah : List Int) (hn2 : n2 = ah.length) (hR2 : Rd .u8 w A2 ah) (hl2 : ah.length ≤ 32768)
    (A3 : Option Addr) (n3 c3 : Nat) (t m : List Int) (hn3 : n3 = t.length + 32) (hm : m.length = 32) (hmb : Bytes m) (hc3 : n3 ≤ c3) (hR3 : Rd .u8 w A3 (t ++ m)) (hl3 : t.length ≤ 32768) :
    Calls Tryd.prog 9 #[.slice A1 32 c1, .slice A2 n2 c2, .slice A3 n3 c3] w (RetOpen w key ah t m) := by
  obtain ⟨n, hn⟩ : ∃ n, n = t.length := ⟨_, rfl⟩
  rw [← hn] at hn3
  subst hn3
  have b2 : n2 ≤ 32768 := by omega
  have b3 : n ≤ 32768 := by omega
  obtain ⟨b, off, eA, hlt, hcs⟩ := hR3.at_ (by rw [List.length_append]; omega)
  subst eA
  have hRT : Rd .u8 w (some ⟨b, off, none⟩) t := by have := hR3.take t.length; simpa using this
  have hRM : Rd .u8 w (some ⟨b, off + n, none⟩) m := by have := hR3.drop t.length; rw [hn]; simpa using this
  have H1 := Lib.hid h1
  have HR1 := Lib.hid hR1
  have HN2 := Lib.hid hn2
  have HR2 := Lib.hid hR2
  have HL2 := Lib.hid hl2
  have HN := Lib.hid hn
  have HM := Lib.hid hm
  have HMB := Lib.hid hmb
  have HRT := Lib.hid hRT
  have HRM := Lib.hid hRM
  have HL3 := Lib.hid hl3
  clear h1 hR1 hn2 hR2 hl2 hn hm hRT hRM hl3 hcs hR3 hlt hmb
  have hz0 : (0 : Int) ≤ n := by omega
  have hz3 : (n : Int) ≤ c3 := by omega
  have hz4 : (n : Int) ≤ n + 32 := by omega
  have hz5 : ¬ c3 = n := by omega
  go_enter Tryd.func9, Tryd.ntmps9
  by_cases hq : markF (tagK key) ah t = m
  case' pos =>
    have hb1 : ((strB (markF (tagK key) ah t)).toList == (strB m).toList) = true := by rw [hq]; simp
  case' neg =>
    have hb1 : ((strB (markF (tagK key) ah t)).toList == (strB m).toList) = false := by
      rw [beq_eq_false_iff_ne]
      exact fun e => hq (strB_inj (mark_bytes _ _ _) HMB.out e)
  all_goals
    have HQ := Lib.hid hq
    clear hq
    go_wp2_with (with_reducible refine stop_region 6 ?_)
    refine Stop.go ?_
    have hz : ¬ ((n : Int) < 0) := by omega
    refine start_ (n := 18) (S := fun w' => Rd .u8 w' (some ⟨b, off + n, none⟩) m) (ds := []) #[false, false, false, false, false, false, false, false, false, false, false, false, false, false, false, false, false, false] (by kernel_rfl) rfl rfl (HRM.out.drew) (fun hHeld => ?_)
    refine pure_ (i := 0) (N := some 23) (v := ?_) (a' := ?_) #[true, false, false, false, false, false, false, false, false, false, false, false, false, false, false, false, false, false] rfl rfl (by kernel_rfl) (fun _ _ _ h => h) (Or.inl ⟨by rfl, ?_⟩) ?_ ?_
    rotate_left
    · intro w'
      go_simp
      with_reducible rfl
    rotate_left
    · simp only [Act.put, List.setIfInBounds_toArray, List.set_cons_zero, List.set_cons_succ, i64_w, i32_w]
      rfl
    refine pure_ (i := 1) (N := some 24) (v := ?_) (a' := ?_) #[true, true, false, false, false, false, false, false, false, false, false, false, false, false, false, false, false, false] rfl rfl (by kernel_rfl) (fun _ _ _ h => h) (Or.inl ⟨by rfl, ?_⟩) ?_ ?_
    rotate_left
    · intro w'
      go_simp
      with_reducible rfl
    rotate_left
    · simp only [Act.put, List.setIfInBounds_toArray, List.set_cons_zero, List.set_cons_succ, i64_w, i32_w]
      rfl
    refine pure_ (i := 2) (N := some 25) (v := ?_) (a' := ?_) #[true, true, true, false, false, false, false, false, false, false, false, false, false, false, false, false, false, false] rfl rfl (by kernel_rfl) (fun _ _ _ h => h) (Or.inl ⟨by rfl, ?_⟩) ?_ ?_
    rotate_left
    · intro w'
      go_simp
      with_reducible rfl
    rotate_left
    · simp only [Act.put, List.setIfInBounds_toArray, List.set_cons_zero, List.set_cons_succ, i64_w, i32_w]
      rfl
    refine pure_ (i := 3) (N := some 26) (v := ?_) (a' := ?_) #[true, true, true, true, false, false, false, false, false, false, false, false, false, false, false, false, false, false] rfl rfl (by kernel_rfl) (fun _ _ _ h => h) (Or.inl ⟨by rfl, ?_⟩) ?_ ?_
    rotate_left
    · intro w'
      go_simp
      with_reducible rfl
    rotate_left
    · simp only [Act.put, List.setIfInBounds_toArray, List.set_cons_zero, List.set_cons_succ, i64_w, i32_w]
      rfl
    refine pure_ (i := 4) (N := some 27) (v := ?_) (a' := ?_) #[true, true, true, true, true, false, false, false, false, false, false, false, false, false, false, false, false, false] rfl rfl (by kernel_rfl) (fun _ _ _ h => h) (Or.inl ⟨by rfl, ?_⟩) ?_ ?_
    rotate_left
    · intro w'
      go_simp
      with_reducible rfl
    rotate_left
    · simp only [Act.put, List.setIfInBounds_toArray, List.set_cons_zero, List.set_cons_succ, i64_w, i32_w]
      rfl
    refine pure_ (i := 5) (N := some 28) (v := ?_) (a' := ?_) #[true, true, true, true, true, true, false, false, false, false, false, false, false, false, false, false, false, false] rfl rfl (by kernel_rfl) (fun _ _ _ h => h) (Or.inl ⟨by rfl, ?_⟩) ?_ ?_
    rotate_left
    · intro w'
      go_simp
      with_reducible rfl
    rotate_left
    · simp only [Act.put, List.setIfInBounds_toArray, List.set_cons_zero, List.set_cons_succ, i64_w, i32_w]
      rfl
    refine pure_ (i := 6) (N := some 29) (v := ?_) (a' := ?_) #[true, true, true, true, true, true, true, false, false, false, false, false, false, false, false, false, false, false] rfl rfl (by kernel_rfl) (fun _ _ _ h => h) (Or.inl ⟨by rfl, ?_⟩) ?_ ?_
    rotate_left
    · intro w'
      go_simp
      with_reducible rfl
    rotate_left
    · simp only [Act.put, List.setIfInBounds_toArray, List.set_cons_zero, List.set_cons_succ, i64_w, i32_w]
      rfl
    refine pure_ (i := 7) (N := some 30) (v := ?_) (a' := ?_) #[true, true, true, true, true, true, true, true, false, false, false, false, false, false, false, false, false, false] rfl rfl (by kernel_rfl) (fun _ _ _ h => h) (Or.inl ⟨by rfl, ?_⟩) ?_ ?_
    rotate_left
    · intro w'
      go_simp
      with_reducible rfl
    rotate_left
    · simp only [Act.put, List.setIfInBounds_toArray, List.set_cons_zero, List.set_cons_succ, i64_w, i32_w]
      rfl
    refine pure_ (i := 8) (N := some 31) (v := ?_) (a' := ?_) #[true, true, true, true, true, true, true, true, true, false, false, false, false, false, false, false, false, false] rfl rfl (by kernel_rfl) (fun _ _ _ h => h) (Or.inl ⟨by rfl, ?_⟩) ?_ ?_
    rotate_left
    · intro w'
      go_simp
      with_reducible rfl
    rotate_left
    · simp only [Act.put, List.setIfInBounds_toArray, List.set_cons_zero, List.set_cons_succ, i64_w, i32_w]
      rfl
    refine pure_ (i := 11) (N := some 34) (v := ?_) (a' := ?_) #[true, true, true, true, true, true, true, true, true, false, false, true, false, false, false, false, false, false] rfl rfl (by kernel_rfl) (fun _ _ _ h => h) (Or.inl ⟨by rfl, ?_⟩) ?_ ?_
    rotate_left
    · intro w'
      go_simp
      with_reducible rfl
    rotate_left
    · simp only [Act.put, List.setIfInBounds_toArray, List.set_cons_zero, List.set_cons_succ, i64_w, i32_w]
      rfl
    refine pure_ (i := 12) (N := some 35) (v := ?_) (a' := ?_) #[true, true, true, true, true, true, true, true, true, false, false, true, true, false, false, false, false, false] rfl rfl (by kernel_rfl) (fun _ _ _ h => h) (Or.inl ⟨by rfl, ?_⟩) ?_ ?_
    rotate_left
    · intro w'
      go_simp
      with_reducible rfl
    rotate_left
    · simp only [Act.put, List.setIfInBounds_toArray, List.set_cons_zero, List.set_cons_succ, i64_w, i32_w]
      rfl
    refine pure_ (i := 13) (N := some 36) (v := ?_) (a' := ?_) #[true, true, true, true, true, true, true, true, true, false, false, true, true, true, false, false, false, false] rfl rfl (by kernel_rfl) (fun _ _ _ h => h) (Or.inl ⟨by rfl, ?_⟩) ?_ ?_
    rotate_left
    · intro w'
      go_simp
      with_reducible rfl
    rotate_left
    · simp only [Act.put, List.setIfInBounds_toArray, List.set_cons_zero, List.set_cons_succ, i64_w, i32_w]
      rfl
    refine pure_ (i := 14) (N := some 37) (v := ?_) (a' := ?_) #[true, true, true, true, true, true, true, true, true, false, false, true, true, true, true, false, false, false] rfl rfl (by kernel_rfl) (fun _ _ _ h => h) (Or.inl ⟨by rfl, ?_⟩) ?_ ?_
    rotate_left
    · intro w'
      go_simp
      with_reducible rfl
    rotate_left
    · simp only [Act.put, List.setIfInBounds_toArray, List.set_cons_zero, List.set_cons_succ, i64_w, i32_w]
      rfl
    refine take_ (i := 15) (N := some 38) (v := ?_) (a' := ?_) #[true, true, true, true, true, true, true, true, true, false, false, true, true, true, true, true, false, false] rfl rfl (by kernel_rfl) (fun _ _ _ h => h) (Or.inl ⟨by rfl, ?_⟩) hHeld ?_ ?_
    rotate_left
    · intro w' s0
      refine (exec_string_rd w' 22 9 5 (.tmp 37) ?_ Tryd.underlying22 Tryd.underlying5 Tryd.underlying9 (some ⟨b, off + n, none⟩) 32 (c3 - n) m ?_ HM.out.symm s0).trans ?_
      all_goals rfl
    rotate_left
    · simp only [Act.put, List.setIfInBounds_toArray, List.set_cons_zero, List.set_cons_succ, i64_w, i32_w]
      rfl
    refine one_ (i := 9) (N := some 32) #[true, true, true, true, true, true, true, true, true, true, false, true, true, true, true, true, false, false] rfl rfl (by kernel_rfl) (by decide) (fun K hK => ?_)
    refine goes_ Tryd.func13 (by kernel_rfl) rfl #[.slice A1 32 c1, .slice A2 n2 c2, .slice (some ⟨b, off, none⟩) n c3] (by rfl) rfl rfl (by simp only [List.map_toArray, List.map_cons, List.map_nil]; rfl) ?_
    refine (rtag_calls w.drew A1 c1 key H1.out HR1.out.drew A2 n2 c2 ah HN2.out HR2.out.drew (by have := HL2.out; omega) (some ⟨b, off, none⟩) n c3 t HN.out HRT.out.drew (by have := HL3.out; omega)).mono ?_
    intro e w4 h4
    obtain ⟨A4, n4, c4, rfl, hn4, _, ho4, hb4⟩ := h4.form
    refine ⟨_, rfl, ?_⟩
    have hst := run_string_rd (P := Tryd.prog) w4 22 9 5 Tryd.underlying22 Tryd.underlying5 Tryd.underlying9 A4 n4 c4 _ hn4 ho4.rd
    have q1 := hHeld.below hb4
    have HB4 := Lib.hid hb4
    clear h4 hn4 ho4 hb4
    refine hK.out _ _ (q1) (fun hHeld => ?_)
    clear hK K
    refine norm_ (a' := ?_) ?_ ?_
    rotate_left
    · show Act.put _ (some 32) _ = _
      simp only [Act.put, List.setIfInBounds_toArray, List.set_cons_zero, List.set_cons_succ, i64_w, i32_w]
      rfl
    refine one_ (i := 10) (N := some 33) #[true, true, true, true, true, true, true, true, true, true, true, true, true, true, true, true, false, false] rfl rfl (by kernel_rfl) (by decide) (fun K hK => ?_)
    refine value_ (w1 := ?_) (v := ?_) (by rfl) rfl ?_ ?_
    rotate_left 2
    · go_simp
      constructor
      · rfl
      · rfl
    refine hK.out _ _ (hHeld) (fun hHeld => ?_)
    clear hK K
    refine norm_ (a' := ?_) ?_ ?_
    rotate_left
    · show Act.put _ (some 33) _ = _
      simp only [Act.put, List.setIfInBounds_toArray, List.set_cons_zero, List.set_cons_succ, i64_w, i32_w]
      rfl
    refine pure_ (i := 16) (N := some 39) (v := ?_) (a' := ?_) #[true, true, true, true, true, true, true, true, true, true, true, true, true, true, true, true, true, false] rfl rfl (by kernel_rfl) (fun _ _ _ h => h) (Or.inl ⟨by rfl, ?_⟩) ?_ ?_
    rotate_left
    · intro w'
      go_simp
      with_reducible rfl
    rotate_left
    · simp only [Act.put, List.setIfInBounds_toArray, List.set_cons_zero, List.set_cons_succ, i64_w, i32_w]
      rfl
    refine pure_ (i := 17) (N := some 40) (v := ?_) (a' := ?_) #[true, true, true, true, true, true, true, true, true, true, true, true, true, true, true, true, true, true] rfl rfl (by kernel_rfl) (fun _ _ _ h => h) (Or.inl ⟨by rfl, ?_⟩) ?_ ?_
    rotate_left
    · intro w'
      go_simp
      with_reducible rfl
    rotate_left
    · simp only [Act.put, List.setIfInBounds_toArray, List.set_cons_zero, List.set_cons_succ, i64_w, i32_w]
      rfl
    refine done_ (by kernel_rfl) ?_
    clear hst
    have hbW4 := (below_drew (Below.refl w.heap.size w)).trans HB4.out
    have HBW4 := Lib.hid hbW4
    clear hbW4
    first
    | go_wp2_with fail
      go_ret2
      exact .inr ⟨HQ.out, rfl, HBW4.out⟩
    | go_wp2_with (go_at_call 14; refine stop ?_)
      refine Stop.call (rstream_calls w4 A1 c1 key H1.out (HR1.out.below HBW4.out) (some ⟨b, off, none⟩) n c3 t HN.out (HRT.out.below HBW4.out) (by have := HL3.out; omega)) ?_
      intro e w5 h5
      obtain ⟨A5, n5, c5, rfl, hn5, _, ho5, hb5⟩ := h5.form
      have HO5 := Lib.hid (ho5.mono HBW4.out.size)
      have HN5 := Lib.hid hn5
      have HB5 := Lib.hid (HBW4.out.trans (hb5.mono HBW4.out.size))
      clear ho5 hn5 hb5 h5
      go_wp2_with fail
      go_ret2
      exact .inl ⟨HQ.out, RetBE.mk2 HN5.out HO5.out HB5.out⟩
end Go.Proofs.YtlmcpnicjdcmdaaDoor
