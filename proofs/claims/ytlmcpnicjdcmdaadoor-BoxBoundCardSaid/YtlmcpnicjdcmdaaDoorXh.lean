/- The law BoxStreams: her walk. -/
import Derived.Test.YtlmcpnicjdcmdaaDoorXg
set_option linter.unusedVariables false
set_option linter.unusedSimpArgs false
namespace Go.Proofs.YtlmcpnicjdcmdaaDoor
open Go Go.RowKit Go.BigFrame

/-- A law's end: true, and but new memory has turned. -/
def True1 (w : World) (e : Ending) (w' : World) : Prop := e = .returned (.bool true) ∧ Below w.heap.size w w'
theorem neq_ii {a b : Nat} (h : a ≠ b) : (((a : Int) == (b : Int)) = false) ∧ (((a : Int) != (b : Int)) = true) := by
  constructor <;> simp <;> omega
theorem eq_ii {a b : Nat} (h : a = b) : (((a : Int) == (b : Int)) = true) ∧ (((a : Int) != (b : Int)) = false) := by
  subst h
  constructor <;> simp

set_option maxRecDepth 100000 in
set_option maxHeartbeats 1000000 in
theorem streams_out (w : World) (A1 : Option Addr) (n1 c1 : Nat) (A2 : Option Addr) (n2 c2 : Nat) (A3 : Option Addr) (n3 c3 : Nat) (A4 : Option Addr) (n4 c4 : Nat) (hK : Kbox w)
    (h : n1 ≠ 32 ∨ (n1 = 32 ∧ n2 ≠ n3) ∨ (n1 = 32 ∧ n2 = n3 ∧ 32768 < n2) ∨ (n1 = 32 ∧ n2 = n3 ∧ n2 ≤ 32768 ∧ 32768 < n4)) :
    Calls Tryd.prog 4 #[.slice A1 n1 c1, .slice A2 n2 c2, .slice A3 n3 c3, .slice A4 n4 c4] w (True1 w) := by
  have HK := Lib.hid hK
  clear hK
  rcases h with h | ⟨rfl, h⟩ | ⟨rfl, rfl, h⟩ | ⟨rfl, rfl, h0, h⟩
  · have hb : ((n1 : Int) == 32) = false := by simp; omega
    have hb' : ((n1 : Int) != 32) = true := by simp; omega
    clear h
    go_enter Tryd.func4, Tryd.ntmps4
    go_wp2_with (go_at_call 5; refine stop ?_)
    refine Stop.call (head_calls w HK.out) ?_
    rintro e w1 ⟨rfl, hb1⟩
    have HB1 := Lib.hid hb1
    clear hb1
    go_wp2_with fail
    go_ret
    exact ⟨rfl, HB1.out⟩
  · obtain ⟨hb, hb'⟩ := neq_ii h
    clear h
    go_enter Tryd.func4, Tryd.ntmps4
    go_wp2_with (go_at_call 5; refine stop ?_)
    refine Stop.call (head_calls w HK.out) ?_
    rintro e w1 ⟨rfl, hb1⟩
    have HB1 := Lib.hid hb1
    clear hb1
    go_wp2_with fail
    go_ret
    exact ⟨rfl, HB1.out⟩
  · go_enter Tryd.func4, Tryd.ntmps4
    go_wp2_with (go_at_call 5; refine stop ?_)
    refine Stop.call (head_calls w HK.out) ?_
    rintro e w1 ⟨rfl, hb1⟩
    have HB1 := Lib.hid hb1
    clear hb1
    go_wp2_with fail
    go_ret
    exact ⟨rfl, HB1.out⟩
  · go_enter Tryd.func4, Tryd.ntmps4
    go_wp2_with (go_at_call 5; refine stop ?_)
    refine Stop.call (head_calls w HK.out) ?_
    rintro e w1 ⟨rfl, hb1⟩
    have HB1 := Lib.hid hb1
    clear hb1
    go_wp2_with fail
    go_ret
    exact ⟨rfl, HB1.out⟩

theorem closeF_at (key ah l : List Int) (k : Nat) (h : k < l.length) : (closeF key ah l).getD k 0 = bits .xor .u8 ((shakeF (streamK key) l.length).getD k 0) (l.getD k 0) := by
  unfold closeF
  rw [← turned_at (streamK key) l k h]
  simp only [List.getD_eq_getElem?_getD]
  rw [List.getElem?_append_left (by rw [turnedF_length]; exact h)]
theorem streams_at (key ah a b : List Int) (k : Nat) (h : k < a.length) (hl : a.length = b.length) : bits .xor .u8 ((closeF key [] a).getD k 0) ((closeF key ah b).getD k 0) = bits .xor .u8 (a.getD k 0) (b.getD k 0) := by
  rw [closeF_at key [] a k h, closeF_at key ah b k (by omega), hl]
  exact xor_pair _ _ _

set_option maxRecDepth 100000 in
set_option maxHeartbeats 1000000 in
theorem streams_in (w : World) (A1 : Option Addr) (c1 : Nat) (key : List Int) (h1 : key.length = 32) (hR1 : Rd .u8 w A1 key) (A2 : Option Addr) (n c2 : Nat) (a : List Int) (hn2 : n = a.length) (hR2 : Rd .u8 w A2 a)
    (A3 : Option Addr) (c3 : Nat) (b : List Int) (hn3 : n = b.length) (hR3 : Rd .u8 w A3 b) (A4 : Option Addr) (n4 c4 : Nat) (ah : List Int) (hn4 : n4 = ah.length) (hR4 : Rd .u8 w A4 ah) (hl : n ≤ 32768) (hl4 : n4 ≤ 32768) (hK : Kbox w) :
    Calls Tryd.prog 4 #[.slice A1 32 c1, .slice A2 n c2, .slice A3 n c3, .slice A4 n4 c4] w (True1 w) := by
  have H1 := Lib.hid h1
  have HR1 := Lib.hid hR1
  have HN2 := Lib.hid hn2
  have HR2 := Lib.hid hR2
  have HN3 := Lib.hid hn3
  have HR3 := Lib.hid hR3
  have HN4 := Lib.hid hn4
  have HR4 := Lib.hid hR4
  have HK := Lib.hid hK
  clear h1 hR1 hn2 hR2 hn3 hR3 hn4 hR4 hK
  go_enter Tryd.func4, Tryd.ntmps4
  go_wp2_with (go_at_call 5; refine stop ?_)
  refine Stop.call (head_calls w HK.out) ?_
  rintro e w1 ⟨rfl, hb1⟩
  have HB1 := Lib.hid hb1
  clear hb1
  go_wp2_with (go_at_call 6; refine stop ?_)
  refine Stop.call (close_calls w1 A1 c1 key H1.out (HR1.out.below HB1.out) none 0 0 [] rfl (Rd.nil _ _ _) (by decide) A2 n c2 a HN2.out (HR2.out.below HB1.out) (by have := HN2.out; omega) (HK.out.below HB1.out)) ?_
  intro e w2 h2
  obtain ⟨X, nx, cx, rfl, hnx, _, hox, hb2⟩ := h2.form
  have hlx : nx = n + 32 := by rw [hnx, closeF_length, ← HN2.out]
  have HOX := Lib.hid hox
  have HB2 := Lib.hid (HB1.out.trans (hb2.mono HB1.out.size))
  clear h2 hnx hox hb2
  subst hlx
  go_wp2_with (go_at_call 6; refine stop ?_)
  refine Stop.call (close_calls w2 A1 c1 key H1.out (HR1.out.below HB2.out) A4 n4 c4 ah HN4.out (HR4.out.below HB2.out) (by have := HN4.out; omega) A3 n c3 b HN3.out (HR3.out.below HB2.out) (by have := HN3.out; omega) (HK.out.below HB2.out)) ?_
  intro e w3 h3
  obtain ⟨Y, ny, cy, rfl, hny, _, hoy, hb3⟩ := h3.form
  have hly : ny = n + 32 := by rw [hny, closeF_length, ← HN3.out]
  have HRX := Lib.hid (HOX.out.rd.below hb3)
  have HRY := Lib.hid hoy.rd
  have HB3 := Lib.hid (HB2.out.trans (hb3.mono HB2.out.size))
  clear h3 hny hoy hb3
  subst hly
  go_wp2_with fail
  generalize (decide (32768 < (n : Int)) || decide (32768 < (n4 : Int))) = q1
  generalize (decide (32768 < (n : Int))) = q2
  generalize (decide (32768 < (n4 : Int))) = q3
  go_loopw [14] (fun s wr => ∃ k, k ≤ n ∧ s = .int .i64 (k : Nat) ∧ Below w3.heap.size w3 wr) (fun s _ => n - (intOf s).toNat)
  case atStart => exact ⟨0, Nat.zero_le _, rfl, Below.refl _ _⟩
  case round =>
    obtain ⟨k, hk, rfl, hbr⟩ := hrel
    by_cases hkn : k < n
    · have hst := streams_at key ah a b k (by have := HN2.out; omega) (by have := HN2.out; have := HN3.out; omega)
      obtain ⟨bx, ox, ex, _, hcx⟩ := (HRX.out.below hbr).at_ (by rw [closeF_length]; omega)
      obtain ⟨by_, oy, ey, _, hcy⟩ := (HRY.out.below hbr).at_ (by rw [closeF_length]; omega)
      obtain ⟨ba, oa, ea, _, hca⟩ := ((HR2.out.below HB3.out).below hbr).at_ (by have := HN2.out; omega)
      obtain ⟨bb, ob, eb, _, hcb⟩ := ((HR3.out.below HB3.out).below hbr).at_ (by have := HN3.out; omega)
      subst ex ey ea eb
      have x0 := hcx k (by rw [closeF_length]; have := HN2.out; omega)
      have y0 := hcy k (by rw [closeF_length]; have := HN3.out; omega)
      have a0 := hca k (by have := HN2.out; omega)
      have b0 := hcb k (by have := HN3.out; omega)
      generalize (closeF key [] a).getD k 0 = xk at x0 hst
      generalize (closeF key ah b).getD k 0 = yk at y0 hst
      generalize a.getD k 0 = ak at a0 hst
      generalize b.getD k 0 = bk at b0 hst
      have HBR := Lib.hid hbr
      clear hcx hcy hca hcb hbr
      go_wp2_with fail
      go_quiet (fail)
      go_wp2_with fail
      go_roundw
      case rel => exact ⟨k + 1, hkn, by go_num, below_drewN HBR.out _⟩
      case measure => simp [intOf]; omega
    · obtain rfl : k = n := by omega
      go_wp2_with fail
      go_ret
      exact ⟨rfl, HB3.out.trans (hbr.mono HB3.out.size)⟩
end Go.Proofs.YtlmcpnicjdcmdaaDoor
