/- HKDF: a text's tag under a key. -/
import Derived.Test.YtlmcpnicjdcmdaaDoorHa
import Derived.Test.YtlmcpnicjdcmdaaDoorSg
set_option linter.unusedVariables false
set_option linter.unusedSimpArgs false
namespace Go.Proofs.YtlmcpnicjdcmdaaDoor
open Go Go.RowKit Go.BigFrame

def keyF (key : List Int) : List Int := if 64 < key.length then shaF key else key
theorem keyF_length (key : List Int) : (keyF key).length ≤ 64 := by
  unfold keyF
  split
  · rw [shaF_length]; decide
  · omega
/-- The inner sum, as the code takes it: the pad, then the text. -/
def innerP (p text : List Int) : List Int := sumF (feedN (feedN H0 p 1) text (text.length / 64)) (text.drop (64 * (text.length / 64))) ((64 + text.length : Nat) : Int)
def innerF (key text : List Int) : List Int := innerP (padX 54 (keyF key)) text
theorem innerF_length (key text : List Int) : (innerF key text).length = 32 := outOf_length _ 8
def macF (key text : List Int) : List Int := shaF (padX 92 (keyF key) ++ innerF key text)
theorem macF_length (key text : List Int) : (macF key text).length = 32 := shaF_length _

theorem Hash.below {w w' : World} {B : Nat} {st : List Int} {A : Option Addr} {rest : List Int} {cap : Nat} {many : Int} (h : Hash w B st A rest cap many) (hb : Below w.heap.size w w') : Hash w' B st A rest cap many :=
  ⟨h.st.below hb h.st.lt, h.rd.below hb, h.ap, h.le⟩
theorem hash_p {w : World} {B : Nat} {p : List Int} {A : Option Addr} {c : Nat} (hp : p.length = 64)
    (h : Hash w B (feedN H0 ([] ++ p) (([] ++ p).length / 64)) A (([] ++ p).drop (64 * (([] ++ p).length / 64))) c ((0 + p.length) % 18446744073709551616)) : Hash w B (feedN H0 p 1) A [] c 64 := by
  simp only [List.nil_append, hp] at h
  rw [show (64 / 64 : Nat) = 1 from rfl, List.drop_eq_nil_of_le (by omega)] at h
  exact h
/-- What is known where the code makes its closure. -/
def MacF (w : World) (key : List Int) (w2 : World) : Prop :=
  ∃ A3 n3 c3, w2.cell? ⟨w.heap.size, 0, none⟩ = some (.slice A3 n3 c3) ∧ n3 = (keyF key).length ∧ Rd .u8 w2 A3 (keyF key) ∧ Below w.heap.size w w2 ∧ w.heap.size < w2.heap.size

set_option maxRecDepth 100000 in
set_option maxHeartbeats 400000 in
theorem mac_calls (w : World) (A1 : Option Addr) (n1 c1 : Nat) (key : List Int) (A2 : Option Addr) (n2 c2 : Nat) (text : List Int) (hn1 : n1 = key.length) (hR1 : Rd .u8 w A1 key) (hn2 : n2 = text.length) (hR2 : Rd .u8 w A2 text)
    (hl1 : key.length ≤ 140737488355328) (hl2 : text.length ≤ 140737488355000) (hK : Ksha w) :
    Calls Tryd.prog 18 #[.slice A1 n1 c1, .slice A2 n2 c2] w (RetB w (macF key text)) := by
  have HK := Lib.hid hK
  have HR1 := Lib.hid hR1
  have HR2 := Lib.hid hR2
  have HN1 := Lib.hid hn1
  have HN2 := Lib.hid hn2
  have hn1b : n1 ≤ 140737488355328 := by omega
  clear hK hR1 hR2 hn1 hn2
  go_enter Tryd.func18, Tryd.ntmps18
  by_cases h64 : 64 < n1
  case' pos =>
    go_wp2_with (first
      | ((with_reducible refine gate_dst (N := 13) rfl ?_); refine stop ?_)
      | ((refine (sum_calls _ A1 n1 c1 key HN1.out (HR1.out.alloc _) hl1 (Rd.alloc HK.out _)).mono ?_); rintro e w1 ⟨A3, c3, rfl, ho, hb⟩; (have HO1 := Lib.hid ho); (have HB1 := Lib.hid hb); (have hcell := hb.cell (p := ⟨w.heap.size, 0, none⟩) (by simp)); (have hfz := hb.frozen (p := ⟨w.heap.size, 0, none⟩) (by simp)); clear ho hb))
    refine with_worldL (MacF w key) ?_ ?_
    · have hr := HO1.out.rd
      have hge := HO1.out.ge
      have e : (w.alloc (Obj.cells #[Value.slice A1 n1 c1] 22)).heap.size = w.heap.size + 1 := by simp
      have hc0 : w1.cell? ⟨w.heap.size, 0, none⟩ = some (.slice A1 n1 c1) := by rw [hcell]; simp
      refine ⟨A3, (shaF key).length, c3, ?_, ?_, ?_, ?_, ?_⟩
      · exact World.cell?_setCell_same _ _ _ hc0
      · unfold keyF; rw [if_pos (by have := HN1.out; omega)]
      · unfold keyF; rw [if_pos (by have := HN1.out; omega)]
        exact hr.grown (grown_set _ _ _) (fun b off h => fun e2 => by have := hge b off h; injection e2 with e2; simp at e2; omega)
      · exact below_set (((Below.refl _ _).alloc (Nat.le_refl _) _).trans (HB1.out.mono (by rw [e]; omega))) _ (Nat.le_refl _) _
      · have := HB1.out.size
        simp [World.setCell]
        omega
    rintro w2 hF
    clear hcell hfz
  case' neg =>
    go_wp2_with ((with_reducible refine gate_dst (N := 13) rfl ?_); refine stop ?_)
    refine with_worldL (MacF w key) ?_ ?_
    · refine ⟨A1, n1, c1, by simp, ?_, ?_, (Below.refl _ _).alloc (Nat.le_refl _) _, by simp⟩
      · unfold keyF; rw [if_neg (by have := HN1.out; omega)]; exact HN1.out
      · unfold keyF; rw [if_neg (by have := HN1.out; omega)]; exact HR1.out.alloc _
    rintro w2 hF
  all_goals
    obtain ⟨A3, n3, c3, hc3, hn3, hr3, hB, hsz⟩ := hF
    have HB := Lib.hid hB
    have HR3 := Lib.hid hr3
    have HN3 := Lib.hid hn3
    have HC3 := Lib.hid hc3
    have HSZ := Lib.hid hsz
    have hk3 : n3 ≤ 64 := by rw [hn3]; exact keyF_length key
    clear hB hr3 hn3 hc3 hsz h64
    have hp54 : (padX 54 (keyF key)).length = 64 := padX_length 54 _ (keyF_length key)
    have hp92 : (padX 92 (keyF key)).length = 64 := padX_length 92 _ (keyF_length key)
    obtain ⟨p, hp⟩ : ∃ p, p = padX 54 (keyF key) := ⟨_, rfl⟩
    obtain ⟨q, hq⟩ : ∃ q, q = padX 92 (keyF key) := ⟨_, rfl⟩
    have HP := Lib.hid hp
    have HQ := Lib.hid hq
    have hp64 : p.length = 64 := by rw [hp, hp54]
    have hq64 : q.length = 64 := by rw [hq, hp92]
    clear hp54 hp92 hp hq
    have hgk : gK < w.heap.size := by
      obtain ⟨b, off, e, hlt, _⟩ := Rd.at_ HK.out (by decide)
      injection e with e
      injection e with e
      omega
    go_wp2_with (go_at_call 30; refine stop ?_)
    refine Stop.call (new_calls _) ?_
    rintro e w4 ⟨B, rfl, hBS, hH, hb⟩
    have HH := Lib.hid hH
    have HB4 := Lib.hid hb
    have HBS := Lib.hid hBS
    clear hH hb hBS
    go_wp2_with (go_at_call 29; refine stop ?_)
    have hc4 : w4.cell? ⟨w.heap.size, 0, none⟩ = some (.slice A3 (keyF key).length c3) := by
      have := HN3.out
      subst this
      exact cell_below HB4.out HSZ.out HC3.out
    refine Stop.call (pad_calls _ 54 w.heap.size A3 c3 (keyF key) (HR3.out.below HB4.out) (keyF_length key) hc4) ?_
    rw [← HP.out]
    rintro e w5 ⟨Ap, cp, rfl, ho, hb⟩
    have HOP := Lib.hid ho
    have HB5 := Lib.hid (HB4.out.trans (hb.mono HB4.out.size))
    have HH5 := Lib.hid (HH.out.below hb)
    clear ho hb hc4
    go_wp2_with (go_at_call 31; refine stop ?_)
    have hBK : B ≠ gK := by
      have := HBS.out
      have := HSZ.out
      omega
    refine Stop.call (write_calls _ B H0 none [] 0 0 Ap cp 64 p HH5.out (Rd.below HK.out (HB.out.trans (HB5.out.mono HB.out.size))) hBK hp64.symm HOP.out.rd (fun h0 b off h => by
          have := HOP.out.ge b off h
          have := HH.out.st.lt
          omega) (by simp [hp64]) (by decide)) ?_
    rintro e w6 ⟨rfl, hg, A6, c6, hH6⟩
    have HH6 := Lib.hid (hash_p hp64 hH6)
    have HB6 := Lib.hid (HB5.out.trans (below_of_grown hg HB5.out.size HBS.out))
    clear hg hH6
    go_wp2_with (go_at_call 31; refine stop ?_)
    refine Stop.call (write_calls _ B (feedN H0 p 1) A6 [] c6 64 A2 c2 n2 text HH6.out (Rd.below HK.out (HB.out.trans (HB6.out.mono HB.out.size))) hBK HN2.out (HR2.out.below (HB.out.trans (HB6.out.mono HB.out.size))) (fun h0 b off h => by
          obtain ⟨b', off', e, hlt, _⟩ := HR2.out.at_ h0
          rw [h] at e
          injection e with e
          injection e with e
          have := HBS.out
          have := HSZ.out
          omega) (by simp; omega) (by decide)) ?_
    rintro e w7 ⟨rfl, hg, A7, c7, hH7⟩
    have HH7 := Lib.hid hH7
    have HB7 := Lib.hid (HB6.out.trans (below_of_grown hg HB6.out.size HBS.out))
    clear hg hH7
    go_wp2_with (go_at_call 32; refine stop ?_)
    refine Stop.call (hsum_calls _ B _ _ _ _ _ HH7.out (Rd.below HK.out (HB.out.trans (HB7.out.mono HB.out.size))) (by rw [List.length_drop]; omega)) ?_
    rintro e w8 ⟨A8, c8, rfl, ho, hb⟩
    have hin : sumF (feedN (feedN H0 p 1) ([] ++ text) (([] ++ text).length / 64)) (([] ++ text).drop (64 * (([] ++ text).length / 64))) ((64 + text.length) % 18446744073709551616) = innerF key text := by
      rw [show ((64 + (text.length : Int)) % 18446744073709551616) = ((64 + text.length : Nat) : Int) by omega, List.nil_append]
      unfold innerF innerP
      rw [← HP.out]
    rw [hin] at ho ⊢
    have HO8 := Lib.hid ho
    have HB8 := Lib.hid (HB7.out.trans (hb.mono HB7.out.size))
    clear ho hb hin
    go_wp2_with (go_at_call 29; refine stop ?_)
    have hc8 : w8.cell? ⟨w.heap.size, 0, none⟩ = some (.slice A3 (keyF key).length c3) := by
      have := HN3.out
      subst this
      exact cell_below HB8.out HSZ.out HC3.out
    refine Stop.call (pad_calls _ 92 w.heap.size A3 c3 (keyF key) (HR3.out.below HB8.out) (keyF_length key) hc8) ?_
    rw [← HQ.out]
    rintro e w9 ⟨Aq, cq, rfl, ho, hb⟩
    have HOQ := Lib.hid ho
    have HB9 := Lib.hid hb
    clear ho hb hc8
    go_wp2_with ((with_reducible refine gate_dst (N := 27) rfl ?_); refine stop ?_)
    refine Stop.go ?_
    have hoq := HOQ.out
    rw [hq64] at hoq
    refine wpList_append_new bytesE w8 (.tmp 25) (.tmp 26) (.slice Aq 64 cq) q A8 _ _ (innerF key text) hoq HB9.out (HO8.out.rd.below HB9.out) rfl rfl rfl rfl rfl (by rw [innerF_length]; omega) (by rw [innerF_length]; simp [maxLen]; omega) ?_
    intro v10 w10 ho10 hb10
    obtain ⟨A10, n10, c10, rfl, hn10, hc10, _, ho10⟩ := ho10.form2
    have HO10 := Lib.hid ho10
    have HB10 := Lib.hid (HB8.out.trans (hb10.mono HB8.out.size))
    have HN10 := Lib.hid hn10
    clear ho10 hb10 hn10 hoq
    go_wp2_with (go_at_call 28; refine stop ?_)
    refine Stop.call (sum_calls _ A10 n10 c10 (q ++ innerF key text) HN10.out HO10.out.rd (by rw [List.length_append, innerF_length]; omega) (Rd.below HK.out (HB.out.trans (HB10.out.mono HB.out.size)))) ?_
    rintro e w11 ⟨A11, c11, rfl, ho, hb⟩
    have HO11 := Lib.hid ho
    have HB11 := Lib.hid (HB.out.trans ((HB10.out.trans (hb.mono HB10.out.size)).mono HB.out.size))
    have hsz11 : w.heap.size ≤ w10.heap.size := Nat.le_trans HB.out.size HB10.out.size
    have hm : shaF (q ++ innerF key text) = macF key text := by rw [HQ.out]; rfl
    rw [hm] at ho ⊢
    clear HO11
    have HO11 := Lib.hid ho
    clear ho hb hm
    go_wp2_with fail
    go_ret
    exact ⟨A11, c11, rfl, HO11.out.mono hsz11, HB11.out⟩
end Go.Proofs.YtlmcpnicjdcmdaaDoor
