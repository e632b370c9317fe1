/- slices.Grow of nothing; slices.Concat. -/
import Derived.Test.YtlmcpnicjdcmdaaDoorLb
import Derived.Lib.AppendZerosOnto
import Derived.Deep.OwnRows
set_option linter.unusedVariables false
set_option linter.unusedSimpArgs false
namespace Go.Proofs.YtlmcpnicjdcmdaaDoor
open Go Go.RowKit Go.BigFrame

/-- append of so many zeros to nothing. -/
theorem run_append_zeros_nil {P : Program} {t e tn : TypeId} {k : IntKind} {bytes : Nat} (E : ElemOf P t e k bytes) (htn : P.underlying tn = some (.int .i64)) (w : World) (ty : TypeId) (n : Nat) (h0 : 0 < n) (hn : n * bytes ≤ 140737488355328) (h63 : n ≤ 9223372036854775807) :
    ∃ c w' cur, (Builtin.append_ #[t, tn] ty #[.slice none 0 0, .int .i64 n]).run P w = .ok (.slice (some ⟨w.heap.size, 0, none⟩) n c) w' ∧ n ≤ c ∧ c ≤ maxLen ∧ w'.heap[w.heap.size]? = some (.cells cur e (0, 0)) ∧ cur.size = c ∧ Below w.heap.size w w' := by
  obtain ⟨i, hi, hz0, hz1, hz2⟩ := info_parts E.hi
  have hold : (Builtin.firstCells i.size 0 (.slice none 0 0)).run P w.drew = .ok (([] : List Value).toArray) w.drew := run_firstCells_none w.drew i.size 0 0 0
  have h := Lib.run_append_grow_zeros (P := P) w t tn ty e i (.int k 0) .i64 .i64 E.ht htn hi hz0 none 0 0 [] hold n h0 (by omega) (by omega) (by omega) (by rw [hz2]; omega) (by rw [hz2]; exact growslice_fits (by omega) (by rw [Nat.zero_add]; omega))
  simp only [Nat.zero_add] at h
  have hle := grownCap_ge w n 0 e
  have hmax := grownCap_le_maxLen w n 0 e (by unfold maxLen; omega)
  have hb : Below w.heap.size w w.drew := ⟨rfl, rfl, rfl, Nat.le_refl _, fun _ _ => rfl⟩
  refine ⟨_, _, _, h, hle, hmax, heap_alloc_new w.drew _, ?_, hb.alloc (Nat.le_refl _) _⟩
  simp [Builtin.zeroCells, Value.cells]
  omega
theorem wpList_append_zeros {P : Program} {t e tn : TypeId} {k : IntKind} {bytes : Nat} {ops : Array Oper} {rest : List Oper} {o : Oper} {a : Act} {Q : Exit → Act → World → Prop} {w : World} (E : ElemOf P t e k bytes) (htn : P.underlying tn = some (.int .i64)) (s x : Operand) (n : Nat)
    (hgd : o.guard = none) (ho : o.op = .call { callee := .builtin .append, args := #[s, x], argTypes := #[t, tn] }) (hs : a.eval s = .slice none 0 0) (hx : a.eval x = .int .i64 n) (h0 : 0 < n) (hn : n * bytes ≤ 140737488355328) (h63 : n ≤ 9223372036854775807)
    (h : ∀ c w', n ≤ c → c ≤ 9223372036854775807 → Own k e w' w.heap.size (.slice (some ⟨w.heap.size, 0, none⟩) 0 c) [] → Below w.heap.size w w' → wpList P ops Q rest (a.put o.dst (.slice (some ⟨w.heap.size, 0, none⟩) n c)) w') : wpList P ops Q (o :: rest) a w := by
  refine wpList_plain hgd fun K hK => ?_
  obtain ⟨c, w', cur, hrun, hle, hmax, hcur, hsz, hb⟩ := run_append_zeros_nil E htn w o.type n h0 hn h63
  unfold Oper.wp execOp
  simp only [ho, resolve, invoke, builtin, Sem.run_bind, Sem.run_pure, Result.andThen_ok, List.map_toArray, List.map_cons, List.map_nil, hs, hx, hrun]
  exact hK _ _ (h c w' hle (by unfold maxLen at hmax; omega) ⟨by simp [ints], .inr ⟨w.heap.size, c, cur, rfl, Nat.le_refl _, hcur, Nat.zero_le _, hmax, by omega, by simp [ints]⟩⟩ hb)

set_option maxRecDepth 100000 in
set_option maxHeartbeats 400000 in
theorem grow_calls (w : World) (n : Nat) (hn : n ≤ 140737488355328) :
    Calls Tryd.prog 39 #[.slice none 0 0, .int .i64 n] w fun e w' => ∃ v, e = .returned v ∧ Own .u8 5 w' w.heap.size v [] ∧ Below w.heap.size w w' := by
  go_enter Tryd.func39, Tryd.ntmps39
  by_cases h0 : n = 0
  · subst h0
    go_wp2_with fail
    go_ret
    exact ⟨_, rfl, Own.nil _ _ _ _, Below.refl _ _⟩
  · go_wp2_with ((with_reducible refine gate_dst (N := 22) rfl ?_); refine stop ?_)
    refine Stop.go ?_
    refine wpList_append_zeros bytesE Tryd.underlying3 (.tmp 20) (.tmp 21) n rfl rfl rfl rfl (by omega) (by omega) (by omega) ?_
    intro c w2 hc hc63 ho hb
    have HO := Lib.hid ho
    have HB := Lib.hid hb
    clear ho hb
    by_cases hc0 : c = 0
    · omega
    go_wp2_with fail
    go_ret
    exact ⟨_, rfl, HO.out, HB.out⟩

/-- Slices of bytes, one behind the other. -/
structure Pc where
  A : Option Addr
  n : Nat
  c : Nat
  l : List Int
structure PcOk (w : World) (a : Addr) (p : Pc) : Prop where
  cell : w.cell? a = some (.slice p.A p.n p.c)
  len : p.n = p.l.length
  rd : Rd .u8 w p.A p.l
theorem PcOk.below {w w' : World} {b o : Nat} {p : Pc} (h : PcOk w ⟨b, o, none⟩ p) (hb : Below w.heap.size w w') : PcOk w' ⟨b, o, none⟩ p := ⟨cell_below hb (cell_lt h.cell) h.cell, h.len, h.rd.below hb⟩
def catN (ps : List Pc) (i : Nat) : List Int := ((ps.take i).map Pc.l).flatten
theorem catN_succ (ps : List Pc) (i : Nat) (h : i < ps.length) : catN ps (i + 1) = catN ps i ++ ps[i].l := by
  unfold catN
  rw [List.take_succ_eq_append_getElem h, List.map_append, List.flatten_append]
  simp
theorem catN_le (ps : List Pc) (i j : Nat) (h : i ≤ j) : (catN ps i).length ≤ (catN ps j).length := by
  unfold catN
  obtain ⟨d, rfl⟩ := Nat.exists_eq_add_of_le h
  rw [List.take_add]
  simp

set_option maxRecDepth 100000 in
set_option maxHeartbeats 400000 in
theorem concat_calls (w : World) (b off c : Nat) (ps : List Pc) (N : Nat) (hN : N = ps.length) (hN64 : N ≤ 9223372036854775807) (hp : ∀ i (h : i < ps.length), PcOk w ⟨b, off + i, none⟩ ps[i]) (hl : (catN ps ps.length).length ≤ 140737488355328) :
    Calls Tryd.prog 24 #[.slice (some ⟨b, off, none⟩) N c] w (RetB w (catN ps ps.length)) := by
  have HP := Lib.hid hp
  have HN := Lib.hid hN
  clear hp hN
  go_enter Tryd.func24, Tryd.ntmps24
  go_wp2_with fail
  go_loopw [3, 5, 11] (fun s _ i wr => ∃ k, k ≤ N ∧ i = .int .i64 (k : Nat) ∧ s = .int .i64 ((catN ps k).length : Nat) ∧ w = wr) (fun _ _ i _ => N - (intOf i).toNat)
  case atStart => exact ⟨0, Nat.zero_le _, rfl, rfl, rfl⟩
  case round =>
    obtain ⟨k, hk, rfl, rfl, rfl⟩ := hrel
    by_cases hltN : k < N
    · have hlt : k < ps.length := by rw [← HN.out]; exact hltN
      have hpk := HP.out k hlt
      have c0 := hpk.cell
      have hs := catN_succ ps k hlt
      have hle : (catN ps (k + 1)).length ≤ 140737488355328 := Nat.le_trans (catN_le ps (k + 1) ps.length hlt) hl
      have hlen : (catN ps (k + 1)).length = (catN ps k).length + ps[k].n := by rw [hs, List.length_append, hpk.len]
      obtain ⟨q, hq⟩ : ∃ q, q = ps[k] := ⟨_, rfl⟩
      rw [← hq] at c0 hlen hpk
      obtain ⟨m, hm⟩ : ∃ m, m = (catN ps k).length := ⟨_, rfl⟩
      rw [← hm] at hlen ⊢
      have HS := Lib.hid hs
      have HQ := Lib.hid hq
      have HPK := Lib.hid hpk
      have HM := Lib.hid hm
      have HLEN := Lib.hid hlen
      have hb1 : m + q.n ≤ 140737488355328 := by omega
      clear hs hq hpk hm hlen hle
      go_wp2_with fail
      go_roundw
      case rel => exact ⟨k + 1, hltN, by go_num, by rw [HLEN.out]; go_num, trivial⟩
      case measure => simp [intOf]; omega
    · obtain rfl : k = N := by omega
      have hl2 : (catN ps k).length ≤ 140737488355328 := by rw [HN.out]; exact hl
      go_wp2_with (go_at_call 39; refine stop ?_)
      refine Stop.call (grow_calls _ _ hl2) ?_
      rintro e w2 ⟨v, rfl, ho, hb⟩
      have HO := Lib.hid ho
      have HB := Lib.hid hb
      clear ho hb
      go_wp2_with fail
      go_loopw [6, 8, 27] (fun s _ i wr => ∃ j, j ≤ k ∧ i = .int .i64 (j : Nat) ∧ Own .u8 5 wr w.heap.size s (catN ps j) ∧ Below w.heap.size w wr) (fun _ _ i _ => k - (intOf i).toNat)
      case atStart => exact ⟨0, Nat.zero_le _, rfl, HO.out, HB.out⟩
      case round =>
        obtain ⟨j, hj, rfl, ho, hb⟩ := hrel
        by_cases hltN : j < k
        · have hlt : j < ps.length := by rw [← HN.out]; exact hltN
          have hpk := (HP.out j hlt).below hb
          have c0 := hpk.cell
          have hs := catN_succ ps j hlt
          have hle : (catN ps (j + 1)).length ≤ 140737488355328 := Nat.le_trans (catN_le ps (j + 1) ps.length hlt) hl
          have hlen : (catN ps (j + 1)).length = (catN ps j).length + ps[j].l.length := by rw [hs, List.length_append]
          obtain ⟨q, hq⟩ : ∃ q, q = ps[j] := ⟨_, rfl⟩
          rw [← hq] at c0 hlen hpk hs
          have HS := Lib.hid hs
          have HQ := Lib.hid hq
          have HPK := Lib.hid hpk
          have HLEN := Lib.hid hlen
          have HO := Lib.hid ho
          have HB := Lib.hid hb
          clear hs hq hpk hlen hb ho
          go_wp2_with ((with_reducible refine gate_dst (N := 33) rfl ?_); refine stop ?_)
          refine Stop.go ?_
          have hlen := HLEN.out
          refine wpList_append_new bytesE w (.tmp 31) (.tmp 32) _ (catN ps j) q.A q.c q.n q.l HO.out HB.out HPK.out.rd HPK.out.len rfl rfl rfl rfl (by omega) (by unfold maxLen; omega) ?_
          rw [← HS.out]
          intro v4 w4 ho4 hb4
          have HO4 := Lib.hid ho4
          have HB4 := Lib.hid hb4
          clear ho4 hb4 hlen hle
          go_wp2_with fail
          go_roundw
          case rel => exact ⟨j + 1, hltN, by go_num, HO4.out, HB4.out⟩
          case measure => simp [intOf]; omega
        · obtain rfl : j = k := by omega
          obtain ⟨A5, n5, c5, rfl, hn5, _, _, ho5⟩ := ho.form2
          have HO := Lib.hid ho5
          have HB := Lib.hid hb
          clear ho hb ho5
          go_wp2_with fail
          go_ret
          have e : catN ps j = catN ps ps.length := by rw [HN.out]
          exact ⟨A5, c5, by rw [hn5, e]; rfl, by rw [← e, ← hn5]; exact HO.out, HB.out⟩
end Go.Proofs.YtlmcpnicjdcmdaaDoor
