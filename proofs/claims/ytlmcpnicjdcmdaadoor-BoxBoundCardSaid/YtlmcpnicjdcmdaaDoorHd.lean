/- HKDF: the first piece, handed to a loop that leaves; Expand of thirty-two bytes. -/
import Derived.Test.YtlmcpnicjdcmdaaDoorHb
import Derived.Test.YtlmcpnicjdcmdaaDoorHc
import Derived.Test.YtlmcpnicjdcmdaaDoorRf
import Derived.Test.YtlmcpnicjdcmdaaDoorWl
set_option linter.unusedVariables false
set_option linter.unusedSimpArgs false
namespace Go.Proofs.YtlmcpnicjdcmdaaDoor
open Go Go.RowKit Go.BigFrame PrintLast

theorem stop_region (id : Nat) {P : Program} {ops : Array Oper} {b : Bool} {Q : Exit → Act → World → Prop} {a : Act} {w : World} (h : Stop ((Code.region id ops b).wp P Q a w)) : (Code.region id ops b).wp P Q a w := h

theorem pcs3 {w : World} {b : Nat} {x y z : Pc} (h0 : PcOk w ⟨b, 0, none⟩ x) (h1 : PcOk w ⟨b, 1, none⟩ y) (h2 : PcOk w ⟨b, 2, none⟩ z) : ∀ i (h : i < [x, y, z].length), PcOk w ⟨b, 0 + i, none⟩ [x, y, z][i] := by
  intro i h
  match i, h with
  | 0, _ => exact h0
  | 1, _ => exact h1
  | 2, _ => exact h2
theorem catN3 (x y z : Pc) : catN [x, y, z] [x, y, z].length = x.l ++ y.l ++ z.l := by simp [catN]
/-- What lies in memory where three pieces are handed over. -/
theorem lay3 {W : World} {A1 A2 : Option Addr} {n1 c1 n2 c2 : Nat} {l1 info : List Int} {cs : Array Value} {l3 : List Int} {m3 : Nat} (hn1 : n1 = l1.length) (hR1 : Rd .u8 W A1 l1) (hn2 : n2 = info.length) (hR2 : Rd .u8 W A2 info) (hcs : cs = (ints .u8 l3).toArray) (hm3 : m3 = l3.length) (h63 : l3.length ≤ 9223372036854775807) :
    (∀ i (h : i < [Pc.mk A1 n1 c1 l1, Pc.mk A2 n2 c2 info, Pc.mk (some ⟨W.heap.size, 0, none⟩) m3 m3 l3].length), PcOk (((W.alloc (.cells cs 5)).alloc (.cells #[.slice A1 n1 c1, .slice A2 n2 c2, .slice (some ⟨W.heap.size, 0, none⟩) m3 m3] 22)).drew) ⟨W.heap.size + 1, 0 + i, none⟩ [Pc.mk A1 n1 c1 l1, Pc.mk A2 n2 c2 info, Pc.mk (some ⟨W.heap.size, 0, none⟩) m3 m3 l3][i]) ∧
    Below W.heap.size W (((W.alloc (.cells cs 5)).alloc (.cells #[.slice A1 n1 c1, .slice A2 n2 c2, .slice (some ⟨W.heap.size, 0, none⟩) m3 m3] 22)).drew) := by
  have hsz : (W.alloc (.cells cs 5)).heap.size = W.heap.size + 1 := by simp
  have cell : ∀ i v, #[Value.slice A1 n1 c1, .slice A2 n2 c2, .slice (some ⟨W.heap.size, 0, none⟩) m3 m3][i]? = some v →
      (((W.alloc (.cells cs 5)).alloc (.cells #[.slice A1 n1 c1, .slice A2 n2 c2, .slice (some ⟨W.heap.size, 0, none⟩) m3 m3] 22)).drew).cell? ⟨W.heap.size + 1, i, none⟩ = some v := by
    intro i v h
    show World.cell? ((W.alloc _).alloc _) _ = _
    rw [← hsz, World.cell?_alloc_new]
    exact h
  refine ⟨pcs3 ⟨cell 0 _ rfl, hn1, ((hR1.alloc _).alloc _).drew⟩ ⟨cell 1 _ rfl, hn2, ((hR2.alloc _).alloc _).drew⟩ ⟨cell 2 _ rfl, hm3, ((Rd.lit hcs rfl h63).alloc _).drew⟩, ?_⟩
  exact below_drewN (((Below.refl _ _).alloc (Nat.le_refl _) _).alloc (by simp) _) 1
theorem concat3_calls (w : World) (b c : Nat) (x y z : Pc) (hp : ∀ i (h : i < [x, y, z].length), PcOk w ⟨b, 0 + i, none⟩ [x, y, z][i]) (hl : (x.l ++ y.l ++ z.l).length ≤ 140737488355328) :
    Calls Tryd.prog 24 #[.slice (some ⟨b, 0, none⟩) 3 c] w (RetB w (x.l ++ y.l ++ z.l)) := by
  have := concat_calls w b 0 c [x, y, z] 3 rfl (by decide) hp (by rw [catN3]; exact hl)
  rwa [catN3] at this
def firstF (key info : List Int) : List Int := macF key (info ++ [1])

set_option maxRecDepth 100000 in
set_option maxHeartbeats 400000 in
theorem pieces1_calls (m l : Nat) (W : World) (R : World → Prop) (G1 G2 : Nat) (A1 : Option Addr) (n1 c1 : Nat) (key : List Int) (A2 : Option Addr) (n2 c2 : Nat) (info : List Int)
    (hc1 : W.cell? ⟨G1, 0, none⟩ = some (.slice A1 n1 c1)) (hc2 : W.cell? ⟨G2, 0, none⟩ = some (.slice A2 n2 c2)) (hn1 : n1 = key.length) (hR1 : Rd .u8 W A1 key) (hn2 : n2 = info.length) (hR2 : Rd .u8 W A2 info) (hl1 : key.length ≤ 140737488355328) (hl2 : info.length ≤ 140737488300000) (hK : Ksha W)
    (hY : ∀ A c W2, Rd .u8 W2 A (firstF key info) → 32 ≤ c → Below W.heap.size W W2 → YieldAt Fence.wide m Tryd.prog l #[.slice A 32 c] W2 (fun e W' => e = .returned (.bool false) ∧ R W')) :
    Calls Tryd.prog 51 #[.func (.yield l) #[] #[], .pointer (some ⟨G1, 0, none⟩), .pointer (some ⟨G2, 0, none⟩)] W (fun e W' => (∃ v, e = .returned v) ∧ R W') := by
  have HR1 := Lib.hid hR1
  have HR2 := Lib.hid hR2
  have HN1 := Lib.hid hn1
  have HN2 := Lib.hid hn2
  have HK := Lib.hid hK
  have HY := Lib.hid hY
  have hg1 := cell_lt hc1
  have hg2 := cell_lt hc2
  clear hR1 hR2 hn1 hn2 hK hY
  go_enter Tryd.func51, Tryd.ntmps51
  go_wp2_with fail
  go_loopw [4, 5] (fun s i wr => s = .slice none 0 0 ∧ i = .int .i64 1 ∧ W = wr) (fun _ _ _ => 0)
  case atStart => exact ⟨rfl, rfl, rfl⟩
  case round =>
    obtain ⟨rfl, rfl, rfl⟩ := hrel
    go_wp2_with (with_reducible refine stop_region 4 ?_)
    rename_i hK4
    refine Stop.go ?_
    refine start_ (n := 10) (S := fun w' => w'.cell? ⟨G1, 0, none⟩ = some (.slice A1 n1 c1) ∧ w'.cell? ⟨G2, 0, none⟩ = some (.slice A2 n2 c2)) (ds := []) #[false, false, false, false, false, false, false, false, false, false] (by kernel_rfl) rfl rfl ⟨hc1, hc2⟩ (fun hHeld => ?_)
    refine pure_ (i := 1) (N := some 11) (v := ?_) (a' := ?_) #[false, true, false, false, false, false, false, false, false, false] rfl rfl (by kernel_rfl) (fun _ _ _ h => h) (Or.inl ⟨by rfl, ?_⟩) ?_ ?_
    rotate_left
    · intro w'
      go_simp
      with_reducible rfl
    rotate_left
    · simp only [Act.put, List.setIfInBounds_toArray, List.set_cons_zero, List.set_cons_succ, i64_w, i32_w]
      rfl
    refine pure_ (i := 3) (N := some 13) (v := ?_) (a' := ?_) #[false, true, false, true, false, false, false, false, false, false] rfl rfl (by kernel_rfl) (fun _ _ _ h => h) (Or.inl ⟨by rfl, ?_⟩) ?_ ?_
    rotate_left
    · intro w'
      go_simp
      with_reducible rfl
    rotate_left
    · simp only [Act.put, List.setIfInBounds_toArray, List.set_cons_zero, List.set_cons_succ, i64_w, i32_w]
      rfl
    refine pure_ (i := 4) (N := some 14) (v := ?_) (a' := ?_) #[false, true, false, true, true, false, false, false, false, false] rfl rfl (by kernel_rfl) (fun _ _ _ h => h) (Or.inl ⟨by rfl, ?_⟩) ?_ ?_
    rotate_left
    · intro w'
      go_simp
      with_reducible rfl
    rotate_left
    · simp only [Act.put, List.setIfInBounds_toArray, List.set_cons_zero, List.set_cons_succ, i64_w, i32_w]
      rfl
    refine take_ (i := 0) (N := some 10) (v := ?_) (a' := ?_) #[true, true, false, true, true, false, false, false, false, false] rfl rfl (by kernel_rfl) (fun _ _ _ h => h) (Or.inl ⟨by rfl, ?_⟩) hHeld ?_ ?_
    rotate_left
    · rintro w' ⟨s0, s1⟩
      go_simp
      with_reducible rfl
    rotate_left
    · simp only [Act.put, List.setIfInBounds_toArray, List.set_cons_zero, List.set_cons_succ, i64_w, i32_w]
      rfl
    refine take_ (i := 2) (N := some 12) (v := ?_) (a' := ?_) #[true, true, true, true, true, false, false, false, false, false] rfl rfl (by kernel_rfl) (fun _ _ _ h => h) (Or.inl ⟨by rfl, ?_⟩) hHeld ?_ ?_
    rotate_left
    · rintro w' ⟨s0, s1⟩
      go_simp
      with_reducible rfl
    rotate_left
    · simp only [Act.put, List.setIfInBounds_toArray, List.set_cons_zero, List.set_cons_succ, i64_w, i32_w]
      rfl
    refine one_ (i := 5) (N := some 15) #[true, true, true, true, true, true, false, false, false, false] rfl rfl (by kernel_rfl) (by decide) (fun K hK => ?_)
    refine value_ (w1 := ?_) (v := ?_) (by rfl) rfl ?_ ?_
    rotate_left 2
    · go_simp
      constructor
      · rfl
      · rfl
    refine hK.out _ _ ⟨cell_below ((Below.refl _ _).alloc (Nat.le_refl _) _) (cell_lt hHeld.1) hHeld.1, cell_below ((Below.refl _ _).alloc (Nat.le_refl _) _) (cell_lt hHeld.2) hHeld.2⟩ (fun hHeld => ?_)
    clear hK K
    refine norm_ (a' := ?_) ?_ ?_
    rotate_left
    · show Act.put _ (some 15) _ = _
      simp only [Act.put, List.setIfInBounds_toArray, List.set_cons_zero, List.set_cons_succ, i64_w, i32_w]
      rfl
    refine one_ (i := 6) (N := some 16) #[true, true, true, true, true, true, true, false, false, false] rfl rfl (by kernel_rfl) (by decide) (fun K hK => ?_)
    refine value_ (w1 := ?_) (v := ?_) (by rfl) rfl ?_ ?_
    rotate_left 2
    · go_simp
      constructor
      · rfl
      · rfl
    refine hK.out _ _ ⟨cell_below ((Below.refl _ _).alloc (Nat.le_refl _) _) (cell_lt hHeld.1) hHeld.1, cell_below ((Below.refl _ _).alloc (Nat.le_refl _) _) (cell_lt hHeld.2) hHeld.2⟩ (fun hHeld => ?_)
    clear hK K
    refine norm_ (a' := ?_) ?_ ?_
    rotate_left
    · show Act.put _ (some 16) _ = _
      simp only [Act.put, List.setIfInBounds_toArray, List.set_cons_zero, List.set_cons_succ, i64_w, i32_w]
      rfl
    refine one_ (i := 7) (N := some 17) #[true, true, true, true, true, true, true, true, false, false] rfl rfl (by kernel_rfl) (by decide) (fun K hK => ?_)
    have hL := lay3 (W := W) (A1 := none) (n1 := 0) (c1 := 0) (l1 := []) (c2 := c2) (l3 := [1]) (cs := #[Value.int .u8 (IntKind.u8.wrap 1)]) (m3 := 1) rfl (Rd.nil _ _ _) HN2.out HR2.out rfl rfl (by decide)
    obtain ⟨U, hU⟩ : ∃ U, U = ((W.alloc (.cells #[Value.int .u8 (IntKind.u8.wrap 1)] 5)).alloc (.cells #[.slice none 0 0, .slice A2 n2 c2, .slice (some ⟨W.heap.size, 0, none⟩) 1 1] 22)).drew := ⟨_, rfl⟩
    rw [← hU] at hHeld hL ⊢
    refine goes_ Tryd.func24 (by kernel_rfl) rfl #[.slice (some ⟨W.heap.size + 1, 0, none⟩) 3 3] (by rfl) rfl rfl (by simp only [List.map_toArray, List.map_cons, List.map_nil]; rfl) ?_
    refine (concat3_calls U _ 3 _ _ _ hL.1 (by simp; omega)).mono ?_
    intro e w3 h3
    obtain ⟨A3, n3, c3, rfl, hn3, h63, ho3, hb3⟩ := h3.form
    refine ⟨_, rfl, ?_⟩
    have hq := cell_below hb3 (cell_lt hHeld.1) hHeld.1
    have hq2 := cell_below hb3 (cell_lt hHeld.2) hHeld.2
    have hB3 : Below W.heap.size W w3 := hL.2.trans (hb3.mono hL.2.size)
    clear hL hb3 h3
    refine hK.out _ _ ⟨hq, hq2⟩ (fun hHeld => ?_)
    clear hK K
    refine norm_ (a' := ?_) ?_ ?_
    rotate_left
    · show Act.put _ (some 17) _ = _
      simp only [Act.put, List.setIfInBounds_toArray, List.set_cons_zero, List.set_cons_succ, i64_w, i32_w]
      rfl
    refine one_ (i := 8) (N := some 18) #[true, true, true, true, true, true, true, true, true, false] rfl rfl (by kernel_rfl) (by decide) (fun K hK => ?_)
    refine goes_ Tryd.func18 (by kernel_rfl) rfl #[.slice A1 n1 c1, .slice A3 n3 c3] (by rfl) rfl rfl (by simp only [List.map_toArray, List.map_cons, List.map_nil]; rfl) ?_
    refine (mac_calls w3 A1 n1 c1 key A3 n3 c3 (info ++ [1]) HN1.out (HR1.out.below hB3) hn3 ho3.rd hl1 (by simp; omega) (Rd.below HK.out hB3)).mono ?_
    intro e w4 h4
    obtain ⟨A4, n4, c4, rfl, hn4, h64, ho4, hb4⟩ := h4.form
    refine ⟨_, rfl, ?_⟩
    have hq := cell_below hb4 (cell_lt hHeld.1) hHeld.1
    have hq2 := cell_below hb4 (cell_lt hHeld.2) hHeld.2
    have hB4 : Below W.heap.size W w4 := hB3.trans (hb4.mono hB3.size)
    refine hK.out _ _ ⟨hq, hq2⟩ (fun hHeld => ?_)
    clear hK K
    refine norm_ (a' := ?_) ?_ ?_
    rotate_left
    · show Act.put _ (some 18) _ = _
      simp only [Act.put, List.setIfInBounds_toArray, List.set_cons_zero, List.set_cons_succ, i64_w, i32_w]
      rfl
    refine pure_ (i := 9) (N := some 4) (v := ?_) (a' := ?_) #[true, true, true, true, true, true, true, true, true, true] rfl rfl (by kernel_rfl) (fun _ _ _ h => h) (Or.inl ⟨by rfl, ?_⟩) ?_ ?_
    rotate_left
    · intro w'
      go_simp
      with_reducible rfl
    rotate_left
    · simp only [Act.put, List.setIfInBounds_toArray, List.set_cons_zero, List.set_cons_succ, i64_w, i32_w]
      rfl
    refine done_ (by kernel_rfl) ?_
    have h32 : n4 = 32 := by rw [hn4, macF_length]
    have hle4 : 32 ≤ c4 := by have := ho4.le; rwa [macF_length] at this
    clear hn4
    subst h32
    simp only [macF_length]
    simp only [Exit.then]
    refine hK4 _ _ ?_
    refine wp_seq ?_
    refine wp_yield4 (v := .slice A4 32 c4) (.tmp 0) (.tmp 4) (.tmp 19) (.tmp 20) (.tmp 21) 4 #[22] ?_ ?_ ?_ ?_ ?_ ?_ ?_ ?_ ?_ ?_ ?_ ?_ ?_ (HY.out A4 c4 w4 ho4.rd hle4 hB4) ?_
    iterate 13 (· rfl)
    intro W' hW'
    have HW' := Lib.hid hW'
    clear hW'
    simp only [Act.put, List.setIfInBounds_toArray, List.set_cons_zero, List.set_cons_succ]
    go_wp2_with fail
    refine bodyPost_ret (results_none rfl _ _ _) rfl ?_
    exact ⟨⟨_, rfl⟩, HW'.out⟩
end Go.Proofs.YtlmcpnicjdcmdaaDoor
