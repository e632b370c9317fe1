/- The document's sponge: bytes are taken in and given out as the program's does. -/
import Derived.Test.YtlmcpnicjdcmdaaDoorRs
import Derived.Test.YtlmcpnicjdcmdaaDoorKe
import Derived.Laws.CopyRow
set_option linter.unusedVariables false
set_option linter.unusedSimpArgs false
namespace Go.Proofs.YtlmcpnicjdcmdaaDoor
open Go Go.RowKit Go.BigFrame PrintLast

section
variable {P : Program}
theorem grown_setRow (w : World) (g : Nat) (cs : Array Value) : w.grownBy (w.setRow g cs) (some g) := ⟨rfl, rfl, rfl, by simp, fun i _ hne => setRow_other w g i cs (fun e => hne (by rw [e]))⟩
theorem Mid.rd {w : World} {B T : Nat} {k : IntKind} {pre post : List Value} {l : List Int} (h : Mid w B T k pre l post) (hm : l.length ≤ 9223372036854775807) : Rd k w (some ⟨B, pre.length, none⟩) l :=
  ⟨hm, fun _ => ⟨B, pre.length, rfl, h.lt, fun j hj => h.cell j hj⟩⟩
theorem wpList_load_rd {ops : Array Oper} {rest : List Oper} {o : Oper} {a : Act} {w : World} {Q : Exit → Act → World → Prop} (hgd : o.guard = none) (ty : TypeId) (x : Operand) (ho : o.op = .load ty x)
    (b off : Nat) (k : IntKind) (l : List Int) (hx : a.eval x = .pointer (some ⟨b, off, none⟩)) (h : Rd k w (some ⟨b, off, none⟩) l) (h0 : 0 < l.length) (d : TypeDesc) (hu : P.underlying ty = some d)
    (hd : (match d with | .struct _ | .array _ _ => true | _ => false) = true) (hi : (P.info? ty).map (·.size) = some l.length)
    (hK : wpList P ops Q rest (a.put o.dst (.agg (ints k l).toArray)) w) : wpList P ops Q (o :: rest) a w :=
  wpList_plain hgd fun _ hK' => by
    unfold Oper.wp execOp
    simp only [ho, hx, Instr.loadAt, Instr.sureAddr, Sem.run_bind, Sem.run_pure, Result.andThen_ok, run_loadVar_rd w b off k l h h0 ty d hu hd hi]
    exact hK' _ _ hK
theorem run_storeVar_mid {w : World} {B T : Nat} {k : IntKind} {pre post : List Value} {l l' : List Int} (h : Mid w B T k pre l post) (hl : l'.length = l.length) (ty : TypeId) (hi : (P.info? ty).map (·.size) = some l'.length) :
    (storeVar ty ⟨B, pre.length, none⟩ (.agg (ints k l').toArray)).run P w = .ok () (w.setRow B (pre ++ ints k l' ++ post).toArray) := by
  have := run_storeCells_at (P := P) B pre.length T (ints k l') 0 (pre ++ ints k l ++ post).toArray w h.block (by simp [ints_length, hl]) (fun v hv => ints_one k l' v hv)
  have e : ((pre ++ ints k l ++ post).toArray.toList.take (pre.length + 0) ++ ints k l' ++ (pre ++ ints k l ++ post).toArray.toList.drop (pre.length + 0 + (ints k l').length)) = pre ++ ints k l' ++ post := by
    simp only [Nat.add_zero, List.append_assoc, List.take_left', List.length_append]
    congr 2
    rw [ints_length, hl, ← List.drop_drop, List.drop_left' rfl, List.drop_left' (ints_length k l)]
  rw [e] at this
  cases hq : P.info? ty with
  | none => simp [hq] at hi
  | some i =>
    have hs : i.size = l'.length := by simpa [hq] using hi
    simp [storeVar, sizeOf, typeInfo, hq, Value.cells, hs, ints_length, this]
theorem wpList_store_mid {ops : Array Oper} {rest : List Oper} {o : Oper} {a : Act} {w : World} {Q : Exit → Act → World → Prop} (hgd : o.guard = none) (ty : TypeId) (x y : Operand) (ho : o.op = .store ty x y)
    {B T : Nat} {k : IntKind} {pre post : List Value} {l l' : List Int} (hM : Mid w B T k pre l post) (hl : l'.length = l.length) (hi : (P.info? ty).map (·.size) = some l'.length)
    (hx : a.eval x = .pointer (some ⟨B, pre.length, none⟩)) (hy : a.eval y = .agg (ints k l').toArray)
    (h : ∀ w', Mid w' B T k pre l' post → (∀ N w0, Below N w0 w → N ≤ B → Below N w0 w') → w.grownBy w' (some B) → wpList P ops Q rest (a.put o.dst undef) w') : wpList P ops Q (o :: rest) a w :=
  wpList_plain hgd fun _ hK' => by
    unfold Oper.wp execOp
    simp only [ho, hx, hy, Instr.storeAt, Instr.sureAddr, Sem.run_bind, Sem.run_pure, Result.andThen_ok, run_storeVar_mid hM hl ty hi]
    exact hK' _ _ (h _ ⟨setRow_heap w B _ _ T _ hM.block⟩ (fun N w0 hb hN => below_row hb B hN _) (grown_setRow w B _))
end

/-- The document's sponge in memory (block B), in the words of the program's state. -/
structure SQ (w : World) (B : Nat) (rate : Nat) (L : List Int) (at_ : Nat) (gives : Bool) (wr : World) : Prop where
  m : Mid wr B 86 .u64 [.int .i64 rate, .int .u8 31] (tr L) [.int .i64 at_, .bool gives]
  len : L.length = 25
  b : Below w.heap.size w wr
  ge : w.heap.size ≤ B
section
variable {w wr w' : World} {B rate at_ : Nat} {L : List Int} {gives : Bool}
theorem SQ.free (h : SQ w B rate L at_ gives wr) (i : Nat) : wr.frozen? ⟨B, i, none⟩ = false := h.m.free i
theorem SQ.cRate (h : SQ w B rate L at_ gives wr) : wr.cell? ⟨B, 0, none⟩ = some (.int .i64 rate) := h.m.preCell 0 (by simp)
theorem SQ.cEn (h : SQ w B rate L at_ gives wr) : wr.cell? ⟨B, 1, none⟩ = some (.int .u8 31) := h.m.preCell 1 (by simp)
theorem SQ.cAt (h : SQ w B rate L at_ gives wr) : wr.cell? ⟨B, 27, none⟩ = some (.int .i64 at_) := by
  have := h.m.postCell 0
  rw [tr_length] at this
  simpa using this
theorem SQ.cGives (h : SQ w B rate L at_ gives wr) : wr.cell? ⟨B, 28, none⟩ = some (.bool gives) := by
  have := h.m.postCell 1
  rw [tr_length] at this
  simpa using this
theorem tr_set (L : List Int) (hL : L.length = 25) (n : Nat) (hn : n < 25) (x : Int) : (tr L).set (n % 5 * 5 + n / 5) x = tr (L.set n x) := by
  apply ext_getD (by rw [List.length_set, tr_length, tr_length])
  intro j hj
  rw [List.length_set, tr_length] at hj
  rw [tr_at _ j hj]
  simp only [List.getD_eq_getElem?_getD]
  by_cases e : n % 5 * 5 + n / 5 = j
  · rw [e, List.getElem?_set_self (by rw [tr_length]; exact hj)]
    have e2 : j / 5 + 5 * (j % 5) = n := by omega
    rw [e2, List.getElem?_set_self (by omega)]
  · rw [List.getElem?_set_ne e]
    have e2 : n ≠ j / 5 + 5 * (j % 5) := by omega
    rw [List.getElem?_set_ne e2]
    have := tr_at L j hj
    simpa only [List.getD_eq_getElem?_getD] using this
theorem SQ.word (h : SQ w B rate L at_ gives wr) (n : Nat) (hn : n < 25) : wr.cell? ⟨B, 2 + (n % 5 * 5 + n / 5), none⟩ = some (.int .u64 (L.getD n 0)) := by
  have := h.m.cell (n % 5 * 5 + n / 5) (by rw [tr_length]; omega)
  rw [tr_at L _ (by omega), show (n % 5 * 5 + n / 5) / 5 + 5 * ((n % 5 * 5 + n / 5) % 5) = n by omega] at this
  exact this
theorem SQ.setWord (h : SQ w B rate L at_ gives wr) (n : Nat) (hn : n < 25) (x : Int) : SQ w B rate (L.set n x) at_ gives (wr.setCell ⟨B, 2 + (n % 5 * 5 + n / 5), none⟩ (.int .u64 x)) :=
  ⟨by rw [← tr_set L h.len n hn x]; exact h.m.set _ (by rw [tr_length]; omega) x, by rw [List.length_set]; exact h.len, below_set h.b _ h.ge _, h.ge⟩
theorem SQ.setAt (h : SQ w B rate L at_ gives wr) (a : Nat) : SQ w B rate L a gives (wr.setCell ⟨B, 27, none⟩ (.int .i64 a)) := by
  have := h.m.setPost 0 (.int .i64 a)
  rw [tr_length] at this
  exact ⟨this, h.len, below_set h.b _ h.ge _, h.ge⟩
theorem SQ.setGives (h : SQ w B rate L at_ gives wr) (g : Bool) : SQ w B rate L at_ g (wr.setCell ⟨B, 28, none⟩ (.bool g)) := by
  have := h.m.setPost 1 (.bool g)
  rw [tr_length] at this
  exact ⟨this, h.len, below_set h.b _ h.ge _, h.ge⟩
theorem SQ.drewN (h : SQ w B rate L at_ gives wr) (n : Nat) : SQ w B rate L at_ gives (wr.drewN n) := ⟨h.m.drewN n, h.len, below_drewN h.b n, h.ge⟩
theorem SQ.below (h : SQ w B rate L at_ gives wr) (hb : Below wr.heap.size wr w') : SQ w B rate L at_ gives w' := ⟨h.m.below hb h.m.lt, h.len, h.b.trans (hb.mono h.b.size), h.ge⟩
end

set_option maxRecDepth 100000 in
set_option maxHeartbeats 400000 in
theorem rlay_calls {w wr : World} {B rate at_ : Nat} {L : List Int} {gives : Bool} (h : SQ w B rate L at_ gives wr) (a : Nat) (ha : a < 200) (c : Int) :
    Calls Tryd.prog 59 #[.pointer (some ⟨B, 0, none⟩), .int .i64 a, .int .u8 c] wr fun e w' => e = .returned (.tuple #[]) ∧ SQ w B rate (layF L a c) at_ gives w' := by
  have hn : a / 8 < 25 := by omega
  have c0 := h.word (a / 8) hn
  have f0 := h.free (2 + (a / 8 % 5 * 5 + a / 8 / 5))
  rw [← Nat.add_assoc] at c0 f0
  have hq0 : a / 8 % 5 < 5 := Nat.mod_lt _ (by decide)
  have hq1 : a / 8 / 5 < 5 := by omega
  have H := Lib.hid h
  clear h
  go_enter Tryd.func59, Tryd.ntmps59
  go_wp2_with fail
  refine wp_region_quiet_tail 26 (by kernel_rfl) (by kernel_rfl) ?_
  simp only [List.take_succ_cons, List.take_zero, List.drop_succ_cons, List.drop_zero]
  repeat (go_big_quiet_step (fail))
  refine wpQuiet_nil ?_
  intro _ hw'
  obtain ⟨nq, hw''⟩ := hw'
  subst hw''
  go_wp2_with fail
  go_end0
  have e : IntKind.u64.wrap (IntKind.u64.wrap c * 2 ^ (8 * (a % 8))) = c % 18446744073709551616 * 2 ^ (a % 8 * 8) % 18446744073709551616 := by rw [IntKind.wrap_u64, IntKind.wrap_u64, Nat.mul_comm]
  rw [e, Nat.add_assoc]
  exact ⟨rfl, (H.out.drewN nq).setWord (a / 8) hn _⟩
theorem SQ.rdW {w wr : World} {B rate at_ : Nat} {L : List Int} {gives : Bool} (h : SQ w B rate L at_ gives wr) : Rd .u64 wr (some ⟨B, 2, none⟩) (tr L) := h.m.rd (by rw [tr_length]; omega)
theorem absN_len (rate : Nat) (s : List Int × Nat) (l : List Int) (k : Nat) : (absN rate s l k).1.length = s.1.length := by
  induction k with
  | zero => rfl
  | succ k ih =>
    rw [absN, absS]
    split
    · simp only [changeF]; rw [changeN_length, layF_length, ih]
    · simp only; rw [layF_length, ih]

theorem rchange2 (w : World) (L : List Int) (h : L.length = 25) : Calls Tryd.prog 60 #[.agg (ints .u64 (tr L)).toArray] w fun e w' => e = .returned (.agg (ints .u64 (tr (changeF L))).toArray) ∧ Below w.heap.size w w' := by
  have := rchange_calls w (tr L) (tr_length L)
  rwa [changeF_eq L h] at this
theorem changeF_length (L : List Int) : (changeF L).length = L.length := changeN_length L 24
theorem SQ.turned {w wr w' : World} {B rate at_ : Nat} {L : List Int} {gives : Bool} (h : SQ w B rate L at_ gives wr) (hM : Mid w' B 86 .u64 [.int .i64 rate, .int .u8 31] (tr (changeF L)) [.int .i64 at_, .bool gives]) (hb : ∀ N w0, Below N w0 wr → N ≤ B → Below N w0 w') : SQ w B rate (changeF L) at_ gives w' :=
  ⟨hM, by rw [changeF_length]; exact h.len, hb _ _ h.b h.ge, h.ge⟩

set_option maxRecDepth 100000 in
set_option maxHeartbeats 1000000 in
theorem rwrite_calls {w wr : World} {B rate at_ : Nat} {L : List Int} (h : SQ w B rate L at_ false wr) (hat : at_ < rate) (hrate : rate ≤ 192) (A : Option Addr) (n c : Nat) (l : List Int) (hn : n = l.length) (hR : Rd .u8 w A l) :
    Calls Tryd.prog 49 #[.pointer (some ⟨B, 0, none⟩), .slice A n c] wr fun e w' => e = .returned (.tuple #[]) ∧ SQ w B rate (absN rate (L, at_) l l.length).1 (absN rate (L, at_) l l.length).2 false w' := by
  have hn63 : n ≤ 9223372036854775807 := by rw [hn]; exact hR.le
  have H := Lib.hid h
  have HR := Lib.hid hR
  have HN := Lib.hid hn
  clear h hR hn
  go_enter Tryd.func49, Tryd.ntmps49
  go_wp2_with fail
  go_loopw [4] (fun s wr => ∃ k, k ≤ n ∧ s = .int .i64 (k : Nat) ∧ SQ w B rate (absN rate (L, at_) l k).1 (absN rate (L, at_) l k).2 false wr) (fun s _ => n - (intOf s).toNat)
  case atStart => exact ⟨0, Nat.zero_le _, rfl, H.out⟩
  case round =>
    clear H
    obtain ⟨k, hk, rfl, hs⟩ := hrel
    have c28 := hs.cGives
    by_cases hkn : k < n
    · have hkl : k < l.length := by rw [← HN.out]; exact hkn
      have hlt := absN_lt rate (L, at_) l k hat
      obtain ⟨s, hsd⟩ : ∃ s, s = absN rate (L, at_) l k := ⟨_, rfl⟩
      rw [← hsd] at hs hlt
      obtain ⟨L1, at1⟩ := s
      simp only at hs hlt
      obtain ⟨b, off, hA, hb, hcs⟩ := (HR.out.below hs.b).at_ (by omega)
      subst hA
      have c0 := hcs k hkl
      have c27 := hs.cAt
      have HS := Lib.hid hs
      have HSD := Lib.hid hsd
      clear hs hcs hsd
      obtain ⟨x, hx⟩ : ∃ x, x = l.getD k 0 := ⟨_, rfl⟩
      rw [← hx] at c0
      have HX := Lib.hid hx
      clear hx
      go_wp2_with (with_reducible refine stop_region 3 ?_)
      refine Stop.go ?_
      refine wp_region_quiet_tail 9 (by kernel_rfl) (by kernel_rfl) ?_
      simp only [List.take_succ_cons, List.take_zero, List.drop_succ_cons, List.drop_zero]
      repeat (go_big_quiet_step (fail))
      refine wpQuiet_nil ?_
      intro _ hw'
      obtain ⟨nq, hw''⟩ := hw'
      subst hw''
      go_wp2_with (go_at_call 59; refine stop ?_)
      refine Stop.call (rlay_calls (HS.out.drewN nq) at1 (by omega) x) ?_
      rintro e w2 ⟨rfl, hs2⟩
      have c27b := hs2.cAt
      have f27b := hs2.free 27
      have HS2 := Lib.hid hs2
      have hat63 : at1 + 1 ≤ 192 := by omega
      clear hs2 c27 c0 c28
      go_wp2_with (with_reducible refine stop_region 5 ?_)
      refine Stop.go ?_
      have hcast : ((at1 : Int) + 1) = ((at1 + 1 : Nat) : Int) := by omega
      refine with_world (fun w3 => SQ w B rate (layF L1 at1 x) (at1 + 1) false w3) (by rw [hcast]; exact HS2.out.setAt (at1 + 1)) ?_
      clear HS2 c27b f27b hcast
      intro w3 hs3
      have c27 := hs3.cAt
      have c0 := hs3.cRate
      have HS3 := Lib.hid hs3
      clear hs3
      by_cases he : at1 + 1 = rate
      · have hb1 : (((at1 : Int) + 1) == (rate : Int)) = true := by simp; omega
        have HE := Lib.hid he
        clear he
        go_quiet (fail)
        have HS4 := Lib.hid (HS3.out.drewN nq)
        go_wp2_with ((with_reducible refine gate_dst (N := 48) rfl ?_); refine stop ?_)
        refine Stop.go ?_
        refine wpList_load_rd rfl 84 (.tmp 47) rfl B 2 .u64 (tr (layF L1 at1 x)) rfl HS4.out.rdW (by rw [tr_length]; omega) _ Tryd.underlying84 rfl (by rw [tr_length]; exact info_w55) ?_
        refine goesL_ (some 49) rfl rfl Tryd.func60 (by kernel_rfl) rfl #[.agg (ints .u64 (tr (layF L1 at1 x))).toArray] rfl (by simp only [List.map_toArray, List.map_cons, List.map_nil]; rfl) ?_
        refine (rchange2 _ (layF L1 at1 x) HS4.out.len).mono ?_
        rintro e w5 ⟨rfl, hb5⟩
        refine ⟨_, rfl, ?_⟩
        have HS5 := Lib.hid (HS4.out.below hb5)
        clear hb5
        go_wp2_with ((with_reducible refine gate_none rfl ?_); refine stop ?_)
        refine Stop.go ?_
        refine wpList_store_mid rfl 84 (.tmp 51) (.tmp 49) rfl (l' := tr (changeF (layF L1 at1 x))) HS5.out.m (by rw [tr_length, tr_length]) (by rw [tr_length]; exact info_w55) rfl rfl ?_
        intro w6 hM hBel _
        have hs6 := HS5.out.turned hM hBel
        have c27c := hs6.cAt
        have f27c := hs6.free 27
        have HS6 := Lib.hid hs6
        clear hM hBel hs6 c27 c0
        go_wp2_with fail
        go_roundw
        case rel =>
          have e : absN rate (L, at_) l (k + 1) = (changeF (layF L1 at1 x), 0) := by rw [absN, ← HSD.out, ← HX.out]; unfold absS; simp only; rw [if_pos HE.out]
          have e1 : (absN rate (L, at_) l (k + 1)).1 = changeF (layF L1 at1 x) := by rw [e]
          have e2 : (absN rate (L, at_) l (k + 1)).2 = 0 := by rw [e]
          refine ⟨k + 1, hkn, by go_num, ?_⟩
          rw [e1, e2]
          exact HS6.out.setAt 0
        case measure => simp [intOf]; omega
      · have hb1 : (((at1 : Int) + 1) == (rate : Int)) = false := by simp; omega
        have HE := Lib.hid he
        clear he
        go_quiet (fail)
        go_wp2_with fail
        go_roundw
        case rel =>
          have e : absN rate (L, at_) l (k + 1) = (layF L1 at1 x, at1 + 1) := by rw [absN, ← HSD.out, ← HX.out]; unfold absS; simp only; rw [if_neg HE.out]
          refine ⟨k + 1, hkn, by go_num, ?_⟩
          rw [e]
          exact HS3.out.drewN _
        case measure => simp [intOf]; omega
    · obtain rfl : k = n := by omega
      have HS := Lib.hid hs
      clear hs
      go_wp2_with fail
      go_end0
      rw [← HN.out]
      exact ⟨rfl, HS.out⟩
end Go.Proofs.YtlmcpnicjdcmdaaDoor
