/- The law BoxBound: her walk where all is right. -/
import Derived.Test.YtlmcpnicjdcmdaaDoorXh
import Derived.Test.YtlmcpnicjdcmdaaDoorRx
set_option linter.unusedVariables false
set_option linter.unusedSimpArgs false
namespace Go.Proofs.YtlmcpnicjdcmdaaDoor
open Go Go.RowKit Go.BigFrame

set_option maxRecDepth 100000 in
set_option maxHeartbeats 400000 in
theorem great_calls (w : World) (A : Option Addr) (n c : Nat) (hn : n ≤ 9223372036854775807) :
    Calls Tryd.prog 7 #[.slice A n c] w fun e w' => e = .returned (.bool (decide (40000 < (n : Int)))) ∧ w = w' := by
  go_enter Tryd.func7, Tryd.ntmps7
  go_wp2_with fail
  go_ret
  exact ⟨rfl, rfl⟩

/-- What Open answers. -/
def openQ (key ah t m : List Int) : Int := if markF (tagK key) ah t = m then 0 else 121
theorem RetOpen.form {w w' : World} {key ah t m : List Int} {e : Ending} (h : RetOpen w key ah t m e w') : ∃ A n c, e = .returned (.tuple #[.slice A n c, .int .i64 (openQ key ah t m)]) ∧ n = (openT key ah t m).length ∧ Rd .u8 w' A (openT key ah t m) ∧ Below w.heap.size w w' := by
  unfold openQ openT
  rcases h with ⟨hq, h⟩ | ⟨hq, rfl, hb⟩
  · obtain ⟨A, n, c, rfl, hn, _, ho, hb⟩ := h.form
    rw [if_pos hq, if_pos hq]
    exact ⟨A, n, c, rfl, hn, ho.rd, hb⟩
  · rw [if_neg hq, if_neg hq]
    exact ⟨none, 0, 0, rfl, rfl, Rd.nil _ _ _, hb⟩
theorem bound_same (key ah a : List Int) : openQ key ah (turnedF (streamK key) a) (markF (tagK key) ah (turnedF (streamK key) a)) = 0 := by unfold openQ; rw [if_pos rfl]
theorem set_self (l : List Int) (r : Nat) : l.set r (l.getD r 0) = l := by
  apply List.ext_getElem (by simp)
  intro j h1 h2
  rw [List.getElem_set]
  split
  · rename_i h
    subst h
    simp [List.getD_eq_getElem?_getD, h2]
  · rfl
theorem xor_none (x : Int) (h0 : 0 ≤ x) (h1 : x < 256) : bits .xor .u8 x 0 = x := by
  rw [xor_u8]
  have e : BitVec.ofInt 8 x ^^^ BitVec.ofInt 8 0 = BitVec.ofInt 8 x := by
    generalize BitVec.ofInt 8 x = p
    exact BitVec.xor_zero
  rw [e, BitVec.toNat_ofInt]
  omega
theorem bytes_set {l : List Int} (h : Bytes l) (r : Nat) (x : Int) (h0 : 0 ≤ x) (h1 : x < 256) : Bytes (l.set r x) := by
  intro j hj
  rw [List.length_set] at hj
  rw [List.getD_eq_getElem?_getD, List.getElem?_set]
  split
  · rename_i e
    subst e
    rw [if_pos hj]
    exact ⟨h0, h1⟩
  · have := h j hj
    rwa [List.getD_eq_getElem?_getD] at this
theorem bytes_drop {l : List Int} (h : Bytes l) (n : Nat) : Bytes (l.drop n) := by
  intro j hj
  rw [List.length_drop] at hj
  have := h (n + j) (by omega)
  rw [List.getD_eq_getElem?_getD] at this ⊢
  rwa [List.getElem?_drop]
theorem bytes_append {l m : List Int} (hl : Bytes l) (hm : Bytes m) : Bytes (l ++ m) := by
  intro j hj
  rw [List.length_append] at hj
  rw [List.getD_eq_getElem?_getD]
  by_cases h : j < l.length
  · rw [List.getElem?_append_left h, ← List.getD_eq_getElem?_getD]
    exact hl j h
  · rw [List.getElem?_append_right (by omega), ← List.getD_eq_getElem?_getD]
    exact hm _ (by omega)
theorem closeF_bytes (key ah a : List Int) : Bytes (closeF key ah a) := bytes_append (turned_bytes _ _) (mark_bytes _ _ _)
/-- The closed text, one byte changed. -/
def boundC (key ah a : List Int) (r : Nat) (v : Int) : List Int := (closeF key ah a).set r (bits .xor .u8 ((closeF key ah a).getD r 0) v)
theorem boundC_length (key ah a : List Int) (r : Nat) (v : Int) : (boundC key ah a r v).length = a.length + 32 := by unfold boundC; rw [List.length_set, closeF_length]
theorem boundC_bytes (key ah a : List Int) (r : Nat) (v : Int) : Bytes (boundC key ah a r v) := bytes_set (closeF_bytes _ _ _) _ _ (xor_range _ _).1 (xor_range _ _).2
theorem bound_law (key ah o a : List Int) (r : Nat) (hr : r < a.length + 32) (v : Int) (h : v = 0 ∧ o = ah) : openQ key o ((boundC key ah a r v).take a.length) ((boundC key ah a r v).drop a.length) = 0 := by
  obtain ⟨rfl, rfl⟩ := h
  have hb := closeF_bytes key o a r (by rw [closeF_length]; exact hr)
  have e : boundC key o a r 0 = closeF key o a := by
    unfold boundC
    rw [xor_none _ hb.1 hb.2, set_self]
  rw [e]
  unfold closeF
  have h1 : (turnedF (streamK key) a ++ markF (tagK key) o (turnedF (streamK key) a)).take a.length = turnedF (streamK key) a := by
    rw [List.take_append_of_le_length (by rw [turnedF_length]; exact Nat.le_refl _), List.take_of_length_le (by rw [turnedF_length]; exact Nat.le_refl _)]
  have h2 : (turnedF (streamK key) a ++ markF (tagK key) o (turnedF (streamK key) a)).drop a.length = markF (tagK key) o (turnedF (streamK key) a) := by
    rw [List.drop_append_of_le_length (by rw [turnedF_length]; exact Nat.le_refl _), List.drop_of_length_le (by rw [turnedF_length]; exact Nat.le_refl _), List.nil_append]
  rw [h1, h2]
  exact bound_same key o a

set_option maxRecDepth 100000 in
set_option maxHeartbeats 1000000 in
theorem bound_out (w : World) (A1 : Option Addr) (n1 c1 : Nat) (A2 : Option Addr) (n2 c2 : Nat) (A3 : Option Addr) (n3 c3 : Nat) (A4 : Option Addr) (n4 c4 : Nat) (at_ by_ : Int) (hK : Kbox w)
    (h : n1 ≠ 32 ∨ (n1 = 32 ∧ (32768 < n2 ∨ 32768 < n3))) :
    Calls Tryd.prog 3 #[.slice A1 n1 c1, .slice A2 n2 c2, .slice A3 n3 c3, .slice A4 n4 c4, .int .u16 at_, .int .u8 by_] w (True1 w) := by
  have HK := Lib.hid hK
  clear hK
  go_enter Tryd.func3, Tryd.ntmps3
  go_wp2_with (go_at_call 5; refine stop ?_)
  refine Stop.call (head_calls w HK.out) ?_
  rintro e w1 ⟨rfl, hb1⟩
  have HB1 := Lib.hid hb1
  clear hb1
  go_wp2_with (go_at_call 6; refine stop ?_)
  have hcl : Calls Tryd.prog 6 #[.slice A1 n1 c1, .slice A2 n2 c2, .slice A3 n3 c3] w1 fun e w' => ∃ x : Int, x ≠ 0 ∧ RetE w1 x e w' := by
    rcases h with h | ⟨rfl, h⟩
    · exact (close_arg w1 A1 n1 c1 h A2 n2 c2 A3 n3 c3).mono fun e w' h => ⟨1, by decide, h⟩
    · exact (close_many w1 A1 c1 A2 n2 c2 A3 n3 c3 h).mono fun e w' h => ⟨2, by decide, h⟩
  clear h
  refine Stop.call hcl ?_
  rintro e w2 ⟨x, hx, rfl, rfl⟩
  clear hcl
  have hx1 : (x == 0) = false := by simpa using hx
  have hx2 : (x != 0) = true := by simpa using hx
  go_wp2_with fail
  go_ret
  exact ⟨rfl, HB1.out⟩

set_option maxRecDepth 100000 in
set_option maxHeartbeats 1000000 in
theorem bound_wide (w : World) (A1 : Option Addr) (c1 : Nat) (key : List Int) (h1 : key.length = 32) (hR1 : Rd .u8 w A1 key) (A2 : Option Addr) (n2 c2 : Nat) (ah : List Int) (hn2 : n2 = ah.length) (hR2 : Rd .u8 w A2 ah) (hl2 : n2 ≤ 32768)
    (A3 : Option Addr) (n3 c3 : Nat) (a : List Int) (hn3 : n3 = a.length) (hR3 : Rd .u8 w A3 a) (hl3 : n3 ≤ 32768) (A4 : Option Addr) (n4 c4 : Nat) (hl4 : 32768 < n4) (hm4 : n4 ≤ 9223372036854775807) (at_ by_ : Int) (hK : Kbox w) :
    Calls Tryd.prog 3 #[.slice A1 32 c1, .slice A2 n2 c2, .slice A3 n3 c3, .slice A4 n4 c4, .int .u16 at_, .int .u8 by_] w (True1 w) := by
  have H1 := Lib.hid h1
  have HR1 := Lib.hid hR1
  have HN2 := Lib.hid hn2
  have HR2 := Lib.hid hR2
  have HN3 := Lib.hid hn3
  have HR3 := Lib.hid hR3
  have HK := Lib.hid hK
  clear h1 hR1 hn2 hR2 hn3 hR3 hK
  go_enter Tryd.func3, Tryd.ntmps3
  go_wp2_with (go_at_call 5; refine stop ?_)
  refine Stop.call (head_calls w HK.out) ?_
  rintro e w1 ⟨rfl, hb1⟩
  have HB1 := Lib.hid hb1
  clear hb1
  go_wp2_with (go_at_call 6; refine stop ?_)
  refine Stop.call (close_calls w1 A1 c1 key H1.out (HR1.out.below HB1.out) A2 n2 c2 ah HN2.out (HR2.out.below HB1.out) (by have := HN2.out; omega) A3 n3 c3 a HN3.out (HR3.out.below HB1.out) (by have := HN3.out; omega) (HK.out.below HB1.out)) ?_
  intro e w2 h2
  obtain ⟨X, nx, cx, rfl, hnx, _, hox, hb2⟩ := h2.form
  have HB2 := Lib.hid (HB1.out.trans (hb2.mono HB1.out.size))
  clear h2 hnx hox hb2
  go_wp2_with (go_at_call 7; refine stop ?_)
  refine Stop.call (great_calls w2 A4 n4 c4 hm4) ?_
  rintro e w3 ⟨rfl, rfl⟩
  have hb4 : decide (32768 < (n4 : Int)) = true := by simp; omega
  by_cases hg : 40000 < n4
  · have hg' : decide (40000 < (n4 : Int)) = true := by simp; omega
    rw [hg']
    go_wp2_with fail
    go_ret
    exact ⟨rfl, HB2.out⟩
  · have hg' : decide (40000 < (n4 : Int)) = false := by simp; omega
    rw [hg']
    go_wp2_with fail
    go_ret
    exact ⟨rfl, HB2.out⟩
end Go.Proofs.YtlmcpnicjdcmdaaDoor

namespace Go.Proofs.YtlmcpnicjdcmdaaDoor
open Go Go.RowKit Go.BigFrame

theorem tmod_nat (m n r : Nat) (h : r = m % (n + 32)) : Int.tmod (m : Int) ((n : Int) + 32) = (r : Int) := by
  subst h
  have : ((n : Int) + 32) = ((n + 32 : Nat) : Int) := by omega
  rw [this, ← Int.ofNat_tmod]

set_option maxRecDepth 100000 in
set_option maxHeartbeats 2000000 in
theorem bound_in (w : World) (A1 : Option Addr) (c1 : Nat) (key : List Int) (h1 : key.length = 32) (hR1 : Rd .u8 w A1 key) (A2 : Option Addr) (n2 c2 : Nat) (ah : List Int) (hn2 : n2 = ah.length) (hR2 : Rd .u8 w A2 ah) (hl2 : n2 ≤ 32768) (hy2 : Bytes ah)
    (A3 : Option Addr) (n c3 : Nat) (a : List Int) (hn3 : n = a.length) (hR3 : Rd .u8 w A3 a) (hl3 : n ≤ 32768) (A4 : Option Addr) (n4 c4 : Nat) (o : List Int) (hn4 : n4 = o.length) (hR4 : Rd .u8 w A4 o) (hl4 : n4 ≤ 32768) (hy4 : Bytes o) (m : Nat) (hm : m < 65536) (v : Int) (hK : Kbox w) :
    Calls Tryd.prog 3 #[.slice A1 32 c1, .slice A2 n2 c2, .slice A3 n c3, .slice A4 n4 c4, .int .u16 m, .int .u8 v] w (True1 w) := by
  have H1 := Lib.hid h1
  have HR1 := Lib.hid hR1
  have HN2 := Lib.hid hn2
  have HR2 := Lib.hid hR2
  have HN3 := Lib.hid hn3
  have HR3 := Lib.hid hR3
  have HN4 := Lib.hid hn4
  have HR4 := Lib.hid hR4
  have HK := Lib.hid hK
  have HY2 := Lib.hid hy2
  have HY4 := Lib.hid hy4
  clear h1 hR1 hn2 hR2 hn3 hR3 hn4 hR4 hK hy2 hy4
  go_enter Tryd.func3, Tryd.ntmps3
  go_wp2_with (go_at_call 5; refine stop ?_)
  refine Stop.call (head_calls w HK.out) ?_
  rintro e w1 ⟨rfl, hb1⟩
  have HB1 := Lib.hid hb1
  clear hb1
  go_wp2_with (go_at_call 6; refine stop ?_)
  refine Stop.call (close_calls w1 A1 c1 key H1.out (HR1.out.below HB1.out) A2 n2 c2 ah HN2.out (HR2.out.below HB1.out) (by have := HN2.out; omega) A3 n c3 a HN3.out (HR3.out.below HB1.out) (by have := HN3.out; omega) (HK.out.below HB1.out)) ?_
  intro e w2 h2
  obtain ⟨X, nx, cx, rfl, hnx, _, hox, hb2⟩ := h2.form
  have hlx : nx = n + 32 := by rw [hnx, closeF_length, ← HN3.out]
  obtain ⟨g, eG, hg0, _⟩ := hox.addr (by rw [closeF_length]; omega)
  have HOX := Lib.hid (hox.mono HB1.out.size)
  have HB2 := Lib.hid (HB1.out.trans (hb2.mono HB1.out.size))
  clear h2 hnx hox hb2 hg0
  subst hlx eG
  go_wp2_with (go_at_call 7; refine stop ?_)
  refine Stop.call (great_calls w2 A4 n4 c4 (by omega)) ?_
  rintro e w3 ⟨rfl, rfl⟩
  have hg' : decide (40000 < (n4 : Int)) = false := by simp; omega
  rw [hg']
  clear hg'
  go_wp2_with (with_reducible refine stop_region 5 ?_)
  refine Stop.go ?_
  obtain ⟨r, hr⟩ : ∃ r, r = m % (n + 32) := ⟨_, rfl⟩
  have hrl : r < n + 32 := by rw [hr]; exact Nat.mod_lt _ (by omega)
  have hrm := tmod_nat m n r hr
  have x0 := HOX.out.cellAt r (by rw [closeF_length, ← HN3.out]; exact hrl)
  have f0 := HOX.out.freeAt r
  obtain ⟨y, hy⟩ : ∃ y, y = (closeF key ah a).getD r 0 := ⟨_, rfl⟩
  rw [← hy] at x0
  have HR := Lib.hid hr
  have HY := Lib.hid hy
  clear hr hy
  refine wp_region_quiet_tail 17 (by kernel_rfl) (by kernel_rfl) ?_
  simp only [List.take_succ_cons, List.take_zero, List.drop_succ_cons, List.drop_zero]
  repeat (go_big_quiet_step (fail))
  refine wpQuiet_nil ?_
  intro _ hw'
  obtain ⟨nq, hw''⟩ := hw'
  subst hw''
  clear hrm
  go_wp2_with (go_at_call 8; refine stop ?_)
  have hrl' : r < a.length + 32 := by have := HN3.out; omega
  have hs := (HOX.out.drewN nq).stored r (bits .xor .u8 y v)
  have hg := (HOX.out.blk g rfl).1
  have hb4 := below_set (below_drewN HB2.out nq) (⟨g, r, none⟩) hg (.int .u8 (bits .xor .u8 y v))
  refine with_worldC (fun W => Below w.heap.size w W ∧ Rd .u8 W (some ⟨g, 0, none⟩) (boundC key ah a r v)) ⟨hb4, by unfold boundC; rw [← HY.out]; exact hs.rd⟩ ?_
  clear hs hb4 f0 x0
  rintro w4 ⟨hb4, hr4⟩
  have hcl := HOX.out.le
  rw [closeF_length, ← HN3.out] at hcl
  obtain ⟨t, ht⟩ : ∃ t, t = (boundC key ah a r v).take a.length := ⟨_, rfl⟩
  obtain ⟨mk, hmk⟩ : ∃ mk, mk = (boundC key ah a r v).drop a.length := ⟨_, rfl⟩
  have htl : t.length = n := by rw [ht, List.length_take, boundC_length, HN3.out]; omega
  have hml : mk.length = 32 := by rw [hmk, List.length_drop, boundC_length]; omega
  have hmb : Bytes mk := by rw [hmk]; exact bytes_drop (boundC_bytes _ _ _ _ _) _
  have htm : boundC key ah a r v = t ++ mk := by rw [ht, hmk, List.take_append_drop]
  have hlaw := bound_law key ah o a r hrl' v
  rw [← ht, ← hmk] at hlaw
  rw [htm] at hr4
  have HLAW := Lib.hid hlaw
  have HTL := Lib.hid htl
  have HML := Lib.hid hml
  have HMB := Lib.hid hmb
  have HB4 := Lib.hid hb4
  have HR4' := Lib.hid hr4
  have HCL := Lib.hid hcl
  clear hlaw htl hml hmb htm ht hmk hb4 hr4 hcl hrl' hg
  refine Stop.call (open_calls w4 A1 c1 key H1.out (HR1.out.below HB4.out) A4 n4 c4 o HN4.out (HR4.out.below HB4.out) (by have := HN4.out; omega) (some ⟨g, 0, none⟩) (n + 32) cx t mk (by have := HTL.out; omega) HML.out HCL.out HR4'.out (by have := HTL.out; omega) (HK.out.below HB4.out)) ?_
  intro e w5 h5
  obtain ⟨P, np, cp, rfl, hnp, hrp, hb5⟩ := h5.form
  have HB5 := Lib.hid (HB4.out.trans (hb5.mono HB4.out.size))
  have HR5 := Lib.hid (HR4'.out.below hb5)
  have HNP := Lib.hid hnp
  have HRP := Lib.hid hrp
  clear h5 hnp hrp hb5
  generalize hQ : openQ key o t mk = q
  have HQ := Lib.hid hQ
  clear hQ
  go_wp2_with (go_at_call 9; refine stop ?_)
  refine Stop.call (ropen_calls w5 A1 c1 key H1.out (HR1.out.below HB5.out) A4 n4 c4 o HN4.out (HR4.out.below HB5.out) (by have := HN4.out; omega) (some ⟨g, 0, none⟩) (n + 32) cx t mk (by have := HTL.out; omega) HML.out HMB.out HCL.out HR5.out (by have := HTL.out; omega)) ?_
  intro e w6 h6
  obtain ⟨R, nr, cr, rfl, hnr, hrr, hb6⟩ := h6.form
  have HB6 := Lib.hid (HB5.out.trans (hb6.mono HB5.out.size))
  have st1 := run_string_rd (P := Tryd.prog) w6 22 9 5 Tryd.underlying22 Tryd.underlying5 Tryd.underlying9 P np cp _ HNP.out (HRP.out.below hb6)
  have st2 := run_string_rd (P := Tryd.prog) w6 22 9 5 Tryd.underlying22 Tryd.underlying5 Tryd.underlying9 R nr cr _ hnr hrr
  have st3 := run_string_rd (P := Tryd.prog) w6 22 9 5 Tryd.underlying22 Tryd.underlying5 Tryd.underlying9 A4 n4 c4 _ HN4.out (HR4.out.below HB6.out)
  have st4 := run_string_rd (P := Tryd.prog) w6 22 9 5 Tryd.underlying22 Tryd.underlying5 Tryd.underlying9 A2 n2 c2 _ HN2.out (HR2.out.below HB6.out)
  clear h6 hnr hrr hb6
  rw [HQ.out]
  have hq1 : (q == q) = true := by simp
  have hq2 : (q != q) = false := by simp
  generalize strB (openT key o t mk) = S at st1 st2
  have hS : (S.toList == S.toList) = true := by simp
  have hc : ((v == 0) = false ∧ (v != 0) = true) ∨ (((v == 0) = true ∧ (v != 0) = false) ∧ ((strB o).toList == (strB ah).toList) = false) ∨ (((v == 0) = true ∧ (v != 0) = false) ∧ ((strB o).toList == (strB ah).toList) = true ∧ q = 0) := by
    by_cases hv : v = 0
    · by_cases ho : o = ah
      · exact .inr (.inr ⟨⟨by simpa using hv, by simpa using hv⟩, by rw [ho]; simp, HQ.out.symm.trans (HLAW.out ⟨hv, ho⟩)⟩)
      · exact .inr (.inl ⟨⟨by simpa using hv, by simpa using hv⟩, by rw [beq_eq_false_iff_ne]; exact fun e => ho (strB_inj HY4.out HY2.out e)⟩)
    · exact .inl ⟨by simpa using hv, by simpa using hv⟩
  rcases hc with ⟨hv1, hv2⟩ | ⟨⟨hv1, hv2⟩, hb1⟩ | ⟨⟨hv1, hv2⟩, hb1, hq0⟩
  case' inr.inr => rw [hq0]; clear hq0
  all_goals
    go_wp2_with fail
    go_ret
    exact ⟨rfl, HB6.out⟩
end Go.Proofs.YtlmcpnicjdcmdaaDoor
