/- The document's tag of a text under a key is the program's. -/
import Derived.Test.YtlmcpnicjdcmdaaDoorRc
import Derived.Test.YtlmcpnicjdcmdaaDoorHb
set_option linter.unusedVariables false
set_option linter.unusedSimpArgs false
namespace Go.Proofs.YtlmcpnicjdcmdaaDoor
open Go Go.RowKit Go.BigFrame

theorem innerP_sha (p text : List Int) (h : p.length = 64) : innerP p text = shaF (p ++ text) := by
  unfold innerP shaF
  have hl : (p ++ text).length = 64 + text.length := by rw [List.length_append, h]
  have hq : (p ++ text).length / 64 = 1 + text.length / 64 := by rw [hl]; omega
  rw [hq, hl, ← feedN_add H0 (p ++ text) 1, feedN_app H0 p text 1 (by omega)]
  have hd : (p ++ text).drop (64 * 1) = text := by
    rw [List.drop_append_of_le_length (by omega), List.drop_eq_nil_of_le (by omega), List.nil_append]
  have hd2 : (p ++ text).drop (64 * (1 + text.length / 64)) = text.drop (64 * (text.length / 64)) := by
    rw [Nat.mul_add, ← List.drop_drop, hd]
  rw [hd, hd2]
/-- A key's bytes, and zeros, turned by x: i of them. -/
def ipad (x : Int) (k : List Int) (i : Nat) : List Int := (List.range i).map fun j => bits .xor .u8 (k.getD j 0) x
theorem ipad_length (x : Int) (k : List Int) (i : Nat) : (ipad x k i).length = i := by simp [ipad]
theorem ipad_succ (x : Int) (k : List Int) (i : Nat) : ipad x k (i + 1) = ipad x k i ++ [bits .xor .u8 (k.getD i 0) x] := by simp [ipad, List.range_succ]
theorem xorRow_at (x : Int) (l : List Int) : ∀ (n j : Nat), j < n → j < l.length → (xorRow x l n).getD j 0 = bits .xor .u8 (l.getD j 0) x
  | 0, j, h, _ => by omega
  | n + 1, j, h, hs => by
    rw [xorRow]
    simp only [List.getD_eq_getElem?_getD]
    by_cases e : n = j
    · subst e
      rw [List.getElem?_set_self (by rw [xorRow_length]; exact hs)]
      rfl
    · rw [List.getElem?_set_ne e]
      have := xorRow_at x l n j (by omega) hs
      simpa only [List.getD_eq_getElem?_getD] using this
theorem pad64_at (key : List Int) (h : key.length ≤ 64) (j : Nat) (hj : j < 64) : (pad64 key).getD j 0 = key.getD j 0 := by
  unfold pad64 splice
  simp only [List.getD_eq_getElem?_getD, List.take_zero, List.nil_append]
  by_cases hk : j < key.length
  · rw [List.getElem?_append_left hk]
  · rw [List.getElem?_append_right (by omega), List.getElem?_eq_none (by omega : key.length ≤ j)]
    rw [List.getElem?_drop]
    simp only [List.getElem?_replicate]
    split <;> rfl
theorem padX_ipad (x : Int) (key : List Int) (h : key.length ≤ 64) : padX x key = ipad x key 64 := by
  apply ext_getD (by rw [padX_length x key h, ipad_length])
  intro j hj
  rw [padX_length x key h] at hj
  unfold padX
  rw [xorRow_at x _ 64 j hj (by rw [pad64_length key h]; exact hj), pad64_at key h j hj]
  simp [ipad, List.getD_eq_getElem?_getD, hj]
theorem macF_ref (key text : List Int) : shaF (ipad 92 (keyF key) 64 ++ shaF (ipad 54 (keyF key) 64 ++ text)) = macF key text := by
  unfold macF innerF
  rw [padX_ipad 92 _ (keyF_length key), padX_ipad 54 _ (keyF_length key), innerP_sha _ _ (ipad_length _ _ _)]

/-- Two values own no block together. -/
def ApartV (v u : Value) : Prop := ∀ b, v.ownBlock = some b → u.ownBlock ≠ some b
/-- append to a row of the call's own, beside another row of its own. -/
theorem wpList_append_beside {P : Program} {t e : TypeId} {k : IntKind} {bytes : Nat} {ops : Array Oper} {rest : List Oper} {o : Oper} {a : Act} {Q : Exit → Act → World → Prop} {w : World} (E : ElemOf P t e k bytes) (w0 : World) (s x : Operand)
    (v : Value) (l : List Int) (A : Option Addr) (c n : Nat) (m : List Int) (hown : Own k e w w0.heap.size v l) (hb : Below w0.heap.size w0 w) (hr : Rd k w A m) (hn : n = m.length)
    {k2 : IntKind} {e2 base2 : Nat} {u : Value} {l2 : List Int} (h2 : Own k2 e2 w base2 u l2) (hd : ApartV v u)
    (hgd : o.guard = none) (ho : o.op = .call { callee := .builtin .append, args := #[s, x], argTypes := #[t, t] })
    (hs : a.eval s = v) (hx : a.eval x = .slice A n c)
    (hbytes : (l.length + m.length) * bytes ≤ 140737488355328) (h63 : l.length + m.length ≤ maxLen)
    (h : ∀ v' w', Own k e w' w0.heap.size v' (l ++ m) → Below w0.heap.size w0 w' → Own k2 e2 w' base2 u l2 → ApartV v' u → wpList P ops Q rest (a.put o.dst v') w') :
    wpList P ops Q (o :: rest) a w := by
  refine wpList_append_own_rd hgd s x ho E w0.heap.size v l hs hown A c n m hx hn hr hbytes h63 hb.size fun v' w' h1 hg hor => ?_
  refine h v' w' h1 (below_own (Nat.le_refl _) hb hown hg) (h2.kept hg ?_) ?_
  · cases hu : u.ownBlock with
    | none => exact .inl rfl
    | some b => exact .inr (fun e => hd b e.symm hu)
  · intro b hb' hu
    rcases hor with e | e
    · exact hd b (e ▸ hb') hu
    · rw [e] at hb'
      injection hb' with hb'
      have := (h2.blk b hu).2
      omega

set_option maxRecDepth 100000 in
set_option maxHeartbeats 1000000 in
theorem rmac_calls (w : World) (A1 : Option Addr) (n1 c1 : Nat) (key : List Int) (A2 : Option Addr) (n2 c2 : Nat) (text : List Int) (hn1 : n1 = key.length) (hR1 : Rd .u8 w A1 key) (hn2 : n2 = text.length) (hR2 : Rd .u8 w A2 text)
    (hl1 : key.length ≤ 140737488200000) (hl2 : text.length ≤ 140737488200000) :
    Calls Tryd.prog 20 #[.slice A1 n1 c1, .slice A2 n2 c2] w (RetB w (macF key text)) := by
  have HR1 := Lib.hid hR1
  have HR2 := Lib.hid hR2
  have HN1 := Lib.hid hn1
  have HN2 := Lib.hid hn2
  have HL1 := Lib.hid hl1
  have HL2 := Lib.hid hl2
  clear hR1 hR2 hn1 hn2 hl1 hl2
  go_enter Tryd.func20, Tryd.ntmps20
  go_wp2_with ((with_reducible refine gate_dst (N := 12) rfl ?_); refine stop ?_)
  refine Stop.go ?_
  refine wpList_append_new bytesE w (.tmp 10) (.tmp 11) _ [] A1 c1 n1 key (Own.lit (Nat.le_refl _) rfl rfl (by decide) rfl rfl) ((Below.refl _ _).alloc (Nat.le_refl _) _) (HR1.out.alloc _) HN1.out rfl rfl rfl rfl (by have := HL1.out; simp; omega) (by have := HL1.out; simp [maxLen]; omega) ?_
  intro v1 w1 ho1 hb1
  rw [List.nil_append] at ho1
  obtain ⟨A3, n3, c3, rfl, hn3, _, h63, ho3⟩ := ho1.form2
  have HO3 := Lib.hid ho3
  have HB1 := Lib.hid hb1
  have HN3 := Lib.hid hn3
  clear ho1 ho3 hb1 hn3
  by_cases h64 : 64 < n3
  case' pos =>
    go_wp2_with (go_at_call 34; refine stop ?_)
    refine Stop.call (rsum_calls w1 A3 n3 c3 key HN3.out HO3.out.rd (by have := HL1.out; omega)) ?_
    intro e w5 h2
    obtain ⟨A5, n5, c5, rfl, hn5, _, ho5, hb5⟩ := h2.form
    have hk : keyF key = shaF key := by unfold keyF; rw [if_pos (by rw [← HN3.out]; exact h64)]
    rw [← hk] at hn5 ho5
    have HN5 := Lib.hid hn5
    have HO5 := Lib.hid (ho5.mono HB1.out.size)
    have HB5 := Lib.hid (HB1.out.trans (hb5.mono HB1.out.size))
    clear h2 hn5 ho5 hb5 hk h64
  case' neg =>
    have hk : keyF key = key := by unfold keyF; rw [if_neg (by rw [← HN3.out]; exact h64)]
    obtain ⟨A5, hA⟩ : ∃ x, x = A3 := ⟨_, rfl⟩
    obtain ⟨n5, hn⟩ : ∃ x, x = n3 := ⟨_, rfl⟩
    obtain ⟨c5, hc⟩ : ∃ x, x = c3 := ⟨_, rfl⟩
    obtain ⟨w5, hw⟩ : ∃ x, x = w1 := ⟨_, rfl⟩
    subst hA hn hc hw
    have HN5 := Lib.hid (by rw [hk]; exact HN3.out : n5 = (keyF key).length)
    have HO5 := Lib.hid (by rw [hk]; exact HO3.out : Own .u8 5 w5 w.heap.size (.slice A5 n5 c5) (keyF key))
    have HB5 := Lib.hid HB1.out
    clear hk
  all_goals
    go_wp2_with fail
    have hkl := keyF_length key
    have hn5 : n5 ≤ 64 := by have := HN5.out; omega
    clear hkl
    try generalize (decide (64 < (n5 : Int))) = q15
    go_loopw [6, 7, 8] (fun u v s wr => ∃ i, i ≤ 64 ∧ s = .int .i64 (i : Nat) ∧ Own .u8 5 wr w5.heap.size u (ipad 54 (keyF key) i) ∧ Own .u8 5 wr w5.heap.size v (ipad 92 (keyF key) i) ∧ ApartV u v ∧ Below w5.heap.size w5 wr) (fun _ _ s _ => 64 - (intOf s).toNat)
    case atStart => exact ⟨0, by decide, rfl, Own.nil _ _ _ _, Own.nil _ _ _ _, fun b h => by simp [Value.ownBlock] at h, Below.refl _ _⟩
    case round =>
      obtain ⟨i, hi, rfl, hou, hov, hap, hb⟩ := hrel
      obtain ⟨Au, nu, cu, rfl, hnu, _, _, hou⟩ := hou.form2
      obtain ⟨Av, nv, cv, rfl, hnv, _, _, hov⟩ := hov.form2
      have hnu2 : nu = i := by rw [hnu, ipad_length]
      have hnv2 : nv = i := by rw [hnv, ipad_length]
      have HNU := Lib.hid hnu2
      have HNV := Lib.hid hnv2
      clear hnu hnv hnu2 hnv2
      have HOU := Lib.hid hou
      have HOV := Lib.hid hov
      have HAP := Lib.hid hap
      have HBR := Lib.hid hb
      clear hou hov hap hb
      by_cases hi64 : i < 64
      · by_cases hin : i < n5
        · have ho5 := HO5.out.below HBR.out
          obtain ⟨g, eg, _, _⟩ := ho5.addr (by have := HN5.out; omega)
          subst eg
          have c0 := ho5.cellAt i (by have := HN5.out; omega)
          obtain ⟨ki, hki⟩ : ∃ ki, ki = (keyF key).getD i 0 := ⟨_, rfl⟩
          rw [← hki] at c0
          have HKI := Lib.hid hki
          clear hki ho5
          go_wp2_with ((with_reducible refine gate_dst (N := 34) rfl ?_); refine stop ?_)
          refine Stop.go ?_
          refine wpList_append_beside bytesE w5 (.tmp 30) (.tmp 33) (.slice Au nu cu) (ipad 54 (keyF key) i) _ _ _ [bits .xor .u8 ki 54] (HOU.out.alloc _) (HBR.out.alloc HBR.out.size _) (Rd.lit rfl rfl (by simp)) rfl (HOV.out.alloc _) HAP.out rfl rfl rfl rfl (by rw [ipad_length]; simp; omega) (by rw [ipad_length]; simp [maxLen]; omega) ?_
          intro u2 w6 hou hb hov hap
          have HOU2 := Lib.hid hou
          have HOV2 := Lib.hid hov
          have HAP2 := Lib.hid hap
          have HB6 := Lib.hid hb
          clear hou hov hap hb
          go_wp2_with ((with_reducible refine gate_dst (N := 39) rfl ?_); refine stop ?_)
          refine Stop.go ?_
          refine wpList_append_beside bytesE w5 (.tmp 35) (.tmp 38) (.slice Av nv cv) (ipad 92 (keyF key) i) _ _ _ [bits .xor .u8 ki 92] (HOV2.out.alloc _) (HB6.out.alloc HB6.out.size _) (Rd.lit rfl rfl (by simp)) rfl (HOU2.out.alloc _) (fun b h1 h2 => HAP2.out b h2 h1) rfl rfl rfl rfl (by rw [ipad_length]; simp; omega) (by rw [ipad_length]; simp [maxLen]; omega) ?_
          intro v2 w7 hov hb hou hap
          have HOU3 := Lib.hid hou
          have HOV3 := Lib.hid hov
          have HAP3 := Lib.hid hap
          have HB7 := Lib.hid hb
          clear hou hov hap hb
          go_wp2_with fail
          go_roundw
          case rel =>
            refine ⟨i + 1, by omega, by go_num, ?_, ?_, fun b h1 h2 => HAP3.out b h2 h1, HB7.out⟩
            · rw [ipad_succ, ← HKI.out]
              exact HOU3.out
            · rw [ipad_succ, ← HKI.out]
              exact HOV3.out
          case measure => simp [intOf]; omega
        · obtain ⟨ki, hki⟩ : ∃ ki : Int, ki = 0 := ⟨_, rfl⟩
          have hk0 : ki = (keyF key).getD i 0 := by rw [hki, List.getD_eq_getElem?_getD, List.getElem?_eq_none (by have := HN5.out; omega)]; rfl
          have HKI := Lib.hid hk0
          clear hk0
          subst hki
          go_wp2_with ((with_reducible refine gate_dst (N := 34) rfl ?_); refine stop ?_)
          refine Stop.go ?_
          refine wpList_append_beside bytesE w5 (.tmp 30) (.tmp 33) (.slice Au nu cu) (ipad 54 (keyF key) i) _ _ _ [bits .xor .u8 0 54] (HOU.out.alloc _) (HBR.out.alloc HBR.out.size _) (Rd.lit rfl rfl (by simp)) rfl (HOV.out.alloc _) HAP.out rfl rfl rfl rfl (by rw [ipad_length]; simp; omega) (by rw [ipad_length]; simp [maxLen]; omega) ?_
          intro u2 w6 hou hb hov hap
          have HOU2 := Lib.hid hou
          have HOV2 := Lib.hid hov
          have HAP2 := Lib.hid hap
          have HB6 := Lib.hid hb
          clear hou hov hap hb
          go_wp2_with ((with_reducible refine gate_dst (N := 39) rfl ?_); refine stop ?_)
          refine Stop.go ?_
          refine wpList_append_beside bytesE w5 (.tmp 35) (.tmp 38) (.slice Av nv cv) (ipad 92 (keyF key) i) _ _ _ [bits .xor .u8 0 92] (HOV2.out.alloc _) (HB6.out.alloc HB6.out.size _) (Rd.lit rfl rfl (by simp)) rfl (HOU2.out.alloc _) (fun b h1 h2 => HAP2.out b h2 h1) rfl rfl rfl rfl (by rw [ipad_length]; simp; omega) (by rw [ipad_length]; simp [maxLen]; omega) ?_
          intro v2 w7 hov hb hou hap
          have HOU3 := Lib.hid hou
          have HOV3 := Lib.hid hov
          have HAP3 := Lib.hid hap
          have HB7 := Lib.hid hb
          clear hou hov hap hb
          go_wp2_with fail
          go_roundw
          case rel =>
            refine ⟨i + 1, by omega, by go_num, ?_, ?_, fun b h1 h2 => HAP3.out b h2 h1, HB7.out⟩
            · rw [ipad_succ, ← HKI.out]
              exact HOU3.out
            · rw [ipad_succ, ← HKI.out]
              exact HOV3.out
          case measure => simp [intOf]; omega
      · obtain rfl : i = 64 := by omega
        go_wp2_with ((with_reducible refine gate_dst (N := 43) rfl ?_); refine stop ?_)
        refine Stop.go ?_
        have hR2 := (HR2.out.below HB5.out).below HBR.out
        refine wpList_append_beside bytesE w5 (.tmp 41) (.tmp 42) (.slice Au nu cu) (ipad 54 (keyF key) 64) A2 c2 n2 text HOU.out HBR.out hR2 HN2.out HOV.out HAP.out rfl rfl rfl rfl (by rw [ipad_length]; have := HL2.out; omega) (by rw [ipad_length]; have := HL2.out; unfold maxLen; omega) ?_
        intro u2 w6 hou hb hov _
        obtain ⟨A6, n6, c6, rfl, hn6, _, _, hou⟩ := hou.form2
        have HOU2 := Lib.hid hou
        have HN6 := Lib.hid hn6
        have HOV2 := Lib.hid hov
        have HB6 := Lib.hid hb
        clear hou hn6 hov hb hR2
        go_wp2_with (go_at_call 34; refine stop ?_)
        refine Stop.call (rsum_calls w6 A6 n6 c6 (ipad 54 (keyF key) 64 ++ text) HN6.out HOU2.out.rd (by rw [List.length_append, ipad_length]; have := HL2.out; omega)) ?_
        intro e w7 h7
        obtain ⟨A7, n7, c7, rfl, hn7, _, ho7, hb7⟩ := h7.form
        have h32 : n7 = 32 := by rw [hn7, shaF_length]
        have HN7 := Lib.hid hn7
        have HO7 := Lib.hid ho7
        have HOV7 := Lib.hid (HOV2.out.below hb7)
        have HB7 := Lib.hid (HB6.out.trans (hb7.mono HB6.out.size))
        clear h7 hn7 ho7 hb7
        subst h32
        go_wp2_with ((with_reducible refine gate_dst (N := 45) rfl ?_); refine stop ?_)
        refine Stop.go ?_
        refine wpList_append_new bytesE w5 (.tmp 40) (.tmp 44) (.slice Av nv cv) (ipad 92 (keyF key) 64) A7 c7 32 (shaF (ipad 54 (keyF key) 64 ++ text)) HOV7.out HB7.out HO7.out.rd HN7.out rfl rfl rfl rfl (by rw [ipad_length, shaF_length]; omega) (by rw [ipad_length, shaF_length]; unfold maxLen; omega) ?_
        intro v8 w8 ho8 hb8
        obtain ⟨A8, n8, c8, rfl, hn8, _, _, ho8⟩ := ho8.form2
        have HO8 := Lib.hid ho8
        have HN8 := Lib.hid hn8
        have HB8 := Lib.hid hb8
        clear ho8 hn8 hb8
        go_wp2_with (go_at_call 34; refine stop ?_)
        refine Stop.call (rsum_calls w8 A8 n8 c8 _ HN8.out HO8.out.rd (by rw [List.length_append, ipad_length, shaF_length]; omega)) ?_
        intro e w9 h9
        rw [macF_ref] at h9
        obtain ⟨A9, n9, c9, rfl, hn9, _, ho9, hb9⟩ := h9.form
        have hB8 := HB5.out.trans (HB8.out.mono HB5.out.size)
        have HO9 := Lib.hid (ho9.mono hB8.size)
        have HN9 := Lib.hid hn9
        have HB9 := Lib.hid (hB8.trans (hb9.mono hB8.size))
        clear h9 hn9 ho9 hb9 hB8
        go_wp2_with fail
        go_ret
        exact RetB.mk2 HN9.out HO9.out HB9.out
end Go.Proofs.YtlmcpnicjdcmdaaDoor
