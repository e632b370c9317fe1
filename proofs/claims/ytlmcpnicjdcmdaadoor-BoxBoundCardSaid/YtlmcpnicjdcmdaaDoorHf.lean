/- HKDF: a text with its length ahead; Label of thirty-two bytes. -/
import Derived.Test.YtlmcpnicjdcmdaaDoorHe
import Derived.Test.YtlmcpnicjdcmdaaDoorLc
set_option linter.unusedVariables false
set_option linter.unusedSimpArgs false
namespace Go.Proofs.YtlmcpnicjdcmdaaDoor
open Go Go.RowKit Go.BigFrame PrintLast

def longF (l : List Int) : List Int :=
  if l.length < 64 then [(l.length : Int)] ++ l else [bits .or .u8 ((l.length : Int) / 256 % 256) 64, (l.length : Int) % 256] ++ l

set_option maxRecDepth 100000 in
set_option maxHeartbeats 400000 in
theorem long_calls (w : World) (A : Option Addr) (n c : Nat) (l : List Int) (hn : n = l.length) (hR : Rd .u8 w A l) (hl : l.length ≤ 140737488300000) :
    Calls Tryd.prog 25 #[.slice A n c] w (RetB w (longF l)) := by
  have HR := Lib.hid hR
  have HN := Lib.hid hn
  have hn2 : n ≤ 140737488300000 := by omega
  clear hR hn
  go_enter Tryd.func25, Tryd.ntmps25
  by_cases h64 : n < 64
  · go_wp2_with ((with_reducible refine gate_dst (N := 12) rfl ?_); refine stop ?_)
    refine Stop.go ?_
    refine wpList_append_new bytesE w (.tmp 10) (.tmp 11) _ [(n : Int)] A c n l (Own.lit (Nat.le_refl _) rfl rfl (by simp [maxLen]) rfl rfl) ((Below.refl _ _).alloc (Nat.le_refl _) _) (HR.out.alloc _) HN.out rfl rfl rfl rfl (by have := HN.out; simp; omega) (by have := HN.out; simp [maxLen]; omega) ?_
    intro v2 w2 ho hb
    obtain ⟨A2, n2, c2, rfl, hn2, _, _, ho⟩ := ho.form2
    have e : [(n : Int)] ++ l = longF l := by unfold longF; rw [if_pos (by rw [← HN.out]; exact h64), HN.out]
    rw [e] at ho hn2
    have HO := Lib.hid ho
    have HB := Lib.hid hb
    have HN2 := Lib.hid hn2
    clear ho hb e hn2
    go_wp2_with fail
    go_ret
    have hn3 := HN2.out
    subst hn3
    exact ⟨A2, c2, rfl, HO.out, HB.out⟩
  · go_wp2_with ((with_reducible refine gate_dst (N := 21) rfl ?_); refine stop ?_)
    refine Stop.go ?_
    refine wpList_append_new bytesE w (.tmp 19) (.tmp 20) _ [bits .or .u8 ((n : Int) / 256 % 256) 64, (n : Int) % 256] A c n l (Own.lit (Nat.le_refl _) rfl rfl (by simp [maxLen]) rfl rfl) ((Below.refl _ _).alloc (Nat.le_refl _) _) (HR.out.alloc _) HN.out rfl rfl rfl rfl (by have := HN.out; simp; omega) (by have := HN.out; simp [maxLen]; omega) ?_
    intro v2 w2 ho hb
    obtain ⟨A2, n2, c2, rfl, hn2, _, _, ho⟩ := ho.form2
    have e : [bits .or .u8 ((n : Int) / 256 % 256) 64, (n : Int) % 256] ++ l = longF l := by unfold longF; rw [if_neg (by rw [← HN.out]; exact h64), HN.out]
    rw [e] at ho hn2
    have HO := Lib.hid ho
    have HB := Lib.hid hb
    have HN2 := Lib.hid hn2
    clear ho hb e hn2
    go_wp2_with fail
    go_ret
    have hn3 := HN2.out
    subst hn3
    exact ⟨A2, c2, rfl, HO.out, HB.out⟩
theorem longF_length (l : List Int) : (longF l).length ≤ l.length + 2 := by
  unfold longF
  split <;> simp

theorem pcs_of_new {w : World} {x y z : Pc} {T : Nat} (h1 : x.n = x.l.length) (r1 : Rd .u8 w x.A x.l) (h2 : y.n = y.l.length) (r2 : Rd .u8 w y.A y.l) (h3 : z.n = z.l.length) (r3 : Rd .u8 w z.A z.l) :
    ∀ i (h : i < [x, y, z].length), PcOk (w.alloc (.cells #[.slice x.A x.n x.c, .slice y.A y.n y.c, .slice z.A z.n z.c] T)) ⟨w.heap.size, 0 + i, none⟩ [x, y, z][i] :=
  pcs3 ⟨by rw [World.cell?_alloc_new]; rfl, h1, r1.alloc _⟩ ⟨by rw [World.cell?_alloc_new]; rfl, h2, r2.alloc _⟩ ⟨by rw [World.cell?_alloc_new]; rfl, h3, r3.alloc _⟩

/-- The name of a label, as it stands in the text. -/
def nameF (name : List Int) : List Int := [71, 75, 65, 32, 49, 46, 48, 32] ++ name
def infoF (name ctx : List Int) : List Int := [0, 32] ++ longF (nameF name) ++ longF ctx
def labelF (key name ctx : List Int) : List Int := firstF key (infoF name ctx)
theorem labelF_length (key name ctx : List Int) : (labelF key name ctx).length = 32 := macF_length _ _

set_option maxRecDepth 100000 in
set_option maxHeartbeats 1000000 in
theorem label_calls (w : World) (A1 : Option Addr) (n1 c1 : Nat) (key : List Int) (s : ByteArray) (name : List Int) (A2 : Option Addr) (n2 c2 : Nat) (ctx : List Int)
    (hn1 : n1 = key.length) (hR1 : Rd .u8 w A1 key) (hs : s.size ≤ 40) (hname : name = strL s) (hn2 : n2 = ctx.length) (hR2 : Rd .u8 w A2 ctx) (hl1 : key.length ≤ 140737488355328) (hl2 : ctx.length ≤ 16000) (hK : Ksha w) :
    Calls Tryd.prog 15 #[.slice A1 n1 c1, .string s, .slice A2 n2 c2, .int .i64 32] w (RetB w (labelF key name ctx)) := by
  have HR1 := Lib.hid hR1
  have HR2 := Lib.hid hR2
  have HN1 := Lib.hid hn1
  have HN2 := Lib.hid hn2
  have hn2b : n2 ≤ 16000 := by omega
  have HK := Lib.hid hK
  clear hR1 hR2 hn1 hn2 hK
  go_enter Tryd.func15, Tryd.ntmps15
  go_wp2_with ((with_reducible refine gate_dst (N := 34) rfl ?_); refine stop ?_)
  refine Stop.go ?_
  have hsz : (({ data := #[71, 75, 65, 32, 49, 46, 48, 32] } : ByteArray) ++ s).size = 8 + s.size := by rw [ByteArray.size_append]; rfl
  have hst : strL (({ data := #[71, 75, 65, 32, 49, 46, 48, 32] } : ByteArray) ++ s) = nameF name := by rw [strL_append, hname]; rfl
  refine wpList_bytes_of_string 9 22 5 Tryd.underlying9 Tryd.underlying22 Tryd.underlying5 (.tmp 33) _ (by omega) rfl rfl rfl ?_
  intro c3 w3 hc3 hc3b hr3 hb3
  rw [hst] at hr3
  rw [hsz]
  simp only [World.size_alloc] at hr3 ⊢
  have HR3 := Lib.hid hr3
  have hb1 : Below w.heap.size w w3 := ((Below.refl _ _).alloc (Nat.le_refl _) _).trans (hb3.mono (by simp))
  have hl0 : Rd .u8 w3 (some ⟨w.heap.size, 0, none⟩) [0, 32] := (Rd.lit (k := .u8) (T := 5) (w := w) (cs := #[Value.int .u8 0, Value.int .u8 32]) (l := [0, 32]) rfl rfl (by decide)).below hb3
  have HB3 := Lib.hid hb1
  have HL0 := Lib.hid hl0
  have hnl : (nameF name).length = 8 + s.size := by rw [← hst, strL_length, hsz]
  have HNL := Lib.hid hnl
  clear hr3 hb3 hsz hst hl0 hb1 hnl
  refine goesL_ (some 35) rfl rfl Tryd.func25 (by kernel_rfl) rfl #[.slice (some ⟨w.heap.size + 1, 0, none⟩) (8 + s.size) c3] rfl (by simp only [List.map_toArray, List.map_cons, List.map_nil]; rfl) ?_
  refine (long_calls w3 _ _ _ (nameF name) HNL.out.symm HR3.out (by rw [HNL.out]; omega)).mono ?_
  intro e w4 h4
  obtain ⟨A4, n4, c4, rfl, hn4, _, ho4, hb4⟩ := h4.form
  refine ⟨_, rfl, ?_⟩
  have HO4 := Lib.hid ho4
  have HB4 := Lib.hid (HB3.out.trans (hb4.mono HB3.out.size))
  have HL4 := Lib.hid (HL0.out.below hb4)
  have HN4 := Lib.hid hn4
  have hn4b : n4 ≤ 100 := by
    have := longF_length (nameF name)
    rw [HNL.out] at this
    omega
  clear h4 ho4 hb4 hn4
  go_wp2_with (go_at_call 25; refine stop ?_)
  refine Stop.call (long_calls w4 A2 n2 c2 ctx HN2.out (HR2.out.below HB4.out) (by omega)) ?_
  intro e w5 h5
  obtain ⟨A5, n5, c5, rfl, hn5, _, ho5, hb5⟩ := h5.form
  have hb5w : Below w.heap.size w w5 := HB4.out.trans (hb5.mono HB4.out.size)
  have hl5 := longF_length ctx
  have HPS := Lib.hid (pcs_of_new (w := w5) (T := 22) (x := ⟨some ⟨w.heap.size, 0, none⟩, 2, 2, [0, 32]⟩) (y := ⟨A4, n4, c4, longF (nameF name)⟩) (z := ⟨A5, n5, c5, longF ctx⟩) rfl (HL4.out.below hb5) HN4.out (HO4.out.rd.below hb5) hn5 ho5.rd)
  have HB5 := Lib.hid hb5w
  have hn5b : n5 ≤ 16002 := by omega
  have HN5 := Lib.hid hn5
  clear h5 hb5 hb5w ho5 hn5 hl5
  go_wp2_with (go_at_call 24; refine stop ?_)
  refine Stop.call (concat3_calls _ _ 3 _ _ _ HPS.out (by have := HN4.out; have := HN5.out; simp only [List.length_append, List.length_cons, List.length_nil]; omega)) ?_
  intro e w6 h6
  obtain ⟨A6, n6, c6, rfl, hn6, _, ho6, hb6⟩ := h6.form
  have hin : [0, 32] ++ longF (nameF name) ++ longF ctx = infoF name ctx := rfl
  have HO6 := Lib.hid ho6
  have hal : Below w.heap.size w (w5.alloc (Obj.cells #[Value.slice (some ⟨w.heap.size, 0, none⟩) 2 2, Value.slice A4 n4 c4, Value.slice A5 n5 c5] 22)) := HB5.out.alloc HB5.out.size _
  have HB6 := Lib.hid (hal.trans (hb6.mono hal.size))
  have HN6 := Lib.hid hn6
  have hn6b : n6 ≤ 20000 := by
    have := HN4.out
    have := HN5.out
    rw [hn6]
    simp only [List.length_append, List.length_cons, List.length_nil]
    omega
  clear h6 ho6 hb6 hn6 hal
  go_wp2_with (go_at_call 23; refine stop ?_)
  refine Stop.call (expand_calls w6 A1 n1 c1 key A6 n6 c6 (infoF name ctx) HN1.out (HR1.out.below HB6.out) HN6.out HO6.out.rd hl1 (by rw [← hin]; rw [← HN6.out]; omega) (Rd.below HK.out HB6.out)) ?_
  intro e w7 h7
  obtain ⟨A7, n7, c7, rfl, hn7, _, ho7, hb7⟩ := h7.form
  have HO7 := Lib.hid ho7
  have HB7 := Lib.hid (HB6.out.trans (hb7.mono HB6.out.size))
  have h32 : n7 = 32 := by rw [hn7]; exact macF_length _ _
  clear h7 ho7 hb7 hn7
  subst h32
  go_wp2_with fail
  go_ret
  have hl : (labelF key name ctx).length = 32 := labelF_length _ _ _
  exact ⟨A7, c7, by rw [hl]; rfl, by rw [hl]; exact HO7.out.mono HB6.out.size, HB7.out⟩
end Go.Proofs.YtlmcpnicjdcmdaaDoor
