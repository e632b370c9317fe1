/- SHA-256: a new hash; what is written to it. -/
import Derived.Test.YtlmcpnicjdcmdaaDoorSd
import Derived.Test.YtlmcpnicjdcmdaaDoorLa
import Derived.Test.YtlmcpnicjdcmdaaDoorWl
import Derived.Deep.RegionHeld3
import Derived.Deep.AppendLies
set_option linter.unusedVariables false
set_option linter.unusedSimpArgs false
namespace Go.Proofs.YtlmcpnicjdcmdaaDoor
open Go Go.RowKit Go.BigFrame PrintLast

def H0 : List Int := [1779033703, 3144134277, 1013904242, 2773480762, 1359893119, 2600822924, 528734635, 1541459225]

set_option maxRecDepth 100000 in
set_option maxHeartbeats 400000 in
theorem begin_calls (w : World) : Calls Tryd.prog 44 #[] w fun e w' => e = .returned (.agg (ints .u32 H0).toArray) ∧ Below w.heap.size w w' := by
  go_enter Tryd.func44, Tryd.ntmps44
  go_wp2
  exact bodyPost_ret (results_cell_row Tryd.results44 _ _ _ 63 (ints .u32 H0).toArray (0, 0) _ rfl (heap_alloc_new _ _) Tryd.underlying63 rfl (by kernel_rfl)) rfl ⟨rfl, (Below.refl _ _).alloc (Nat.le_refl _) _⟩

/-- A hash in memory: its state, what is left (bytes that are read somewhere), how many came. -/
structure Hash (w : World) (B : Nat) (st : List Int) (A : Option Addr) (rest : List Int) (cap : Nat) (many : Int) : Prop where
  st : St w B 67 st [.slice A rest.length cap, .int .u64 many]
  rd : Rd .u8 w A rest
  ap : ∀ b off, A = some ⟨b, off, none⟩ → b ≠ B
  le : rest.length ≤ cap

set_option maxRecDepth 100000 in
set_option maxHeartbeats 400000 in
theorem new_calls (w : World) : Calls Tryd.prog 30 #[] w fun e w' => ∃ B, e = .returned (.pointer (some ⟨B, 0, none⟩)) ∧ w.heap.size ≤ B ∧ Hash w' B H0 none [] 0 0 ∧ Below w.heap.size w w' := by
  go_enter Tryd.func30, Tryd.ntmps30
  go_wp2_with ((refine (begin_calls _).mono ?_); rintro e w1 ⟨rfl, hb⟩)
  go_ret
  exact ⟨w1.heap.size, rfl, hb.size, ⟨St.lit rfl rfl rfl, Rd.nil _ _ _, by intro b off h; simp at h, Nat.le_refl _⟩, hb.alloc hb.size _⟩

/-- The states behind so many blocks of a text. -/
def feedN (st l : List Int) : Nat → List Int
  | 0 => st
  | k + 1 => blockF (feedN st l k) (l.drop (64 * k))
theorem feedN_length (st l : List Int) (k : Nat) : (feedN st l k).length = st.length := by
  induction k with
  | zero => rfl
  | succ k ih => rw [feedN, blockF_length, ih]

theorem Rd.grown' {k : IntKind} {w w' : World} {A : Option Addr} {l : List Int} (h : Rd k w A l) {row : Option Nat} (hg : w.grownBy w' row) (hne : 0 < l.length → ∀ b off, A = some ⟨b, off, none⟩ → some b ≠ row) : Rd k w' A l :=
  ⟨h.le, fun h0 => by
    obtain ⟨b, off, e, hlt, hc⟩ := h.at_ h0
    exact ⟨b, off, e, Nat.lt_of_lt_of_le hlt hg.size, fun j hj => (World.cell?_of_block (hg.block b hlt (hne h0 b off e))).trans (hc j hj)⟩⟩
theorem Ksha.grown {w w' : World} (h : Ksha w) {B : Nat} (hg : w.grownBy w' (some B)) (hB : B ≠ gK) : Ksha w' := Rd.grown h hg (fun b off h => fun e => by
  injection e with e
  injection h with h
  injection h with h1 h2
  exact hB (by rw [← e, h1]))
structure WriteInv (w : World) (B : Nat) (st rest : List Int) (many : Int) (l : List Int) (k : Nat) (wr : World) : Prop where
  sh : ∃ A c, St wr B 67 (feedN st (rest ++ l) k) [.slice A ((rest ++ l).length - 64 * k) c, .int .u64 ((many + l.length) % 18446744073709551616)] ∧ Rd .u8 wr A ((rest ++ l).drop (64 * k)) ∧ (∀ b off, A = some ⟨b, off, none⟩ → b ≠ B) ∧ (rest ++ l).length - 64 * k ≤ c
  hk : 64 * k ≤ (rest ++ l).length
  ks : Ksha wr
  gr : w.grownBy wr (some B)

def restLen (wr : World) (B : Nat) : Nat := match wr.cell? ⟨B, 8, none⟩ with | some (.slice _ n _) => n | _ => 0

def WriteRet (w : World) (B : Nat) (st rest : List Int) (many : Int) (l : List Int) (e : Ending) (w' : World) : Prop :=
  e = .returned (.tuple #[]) ∧ w.grownBy w' (some B) ∧ ∃ A c, Hash w' B (feedN st (rest ++ l) ((rest ++ l).length / 64)) A ((rest ++ l).drop (64 * ((rest ++ l).length / 64))) c ((many + l.length) % 18446744073709551616)

set_option maxRecDepth 100000 in
set_option maxHeartbeats 400000 in
theorem write_calls (w : World) (B : Nat) (st : List Int) (A : Option Addr) (rest : List Int) (cap : Nat) (many : Int) (A2 : Option Addr) (c2 n2 : Nat) (l : List Int) (hH : Hash w B st A rest cap many) (hK : Ksha w) (hBK : B ≠ gK)
    (hn : n2 = l.length) (hR : Rd .u8 w A2 l) (hap : 0 < l.length → ∀ b off, A2 = some ⟨b, off, none⟩ → b ≠ B) (hle : rest.length + l.length ≤ 140737488355328) (hm0 : 0 ≤ many) :
    Calls Tryd.prog 31 #[.pointer (some ⟨B, 0, none⟩), .slice A2 n2 c2] w (WriteRet w B st rest many l) := by
  have hS := hH.st
  have e0 := hS.tail 0
  have e1 := hS.tail 1
  have f0 := hS.free 8
  have f1 := hS.free 9
  simp only [Nat.add_zero, List.getElem?_cons_zero, List.getElem?_cons_succ, Nat.reduceAdd] at e0 e1
  have HH := Lib.hid hH
  have HK := Lib.hid hK
  have HR := Lib.hid hR
  have HAP := Lib.hid hap
  have HN := Lib.hid hn
  have HL := Lib.hid hle
  have hn2 : n2 ≤ 140737488355328 := by omega
  have hr2 : rest.length ≤ 140737488355328 := by omega
  clear hS hH hK hR hap hn hle
  go_enter Tryd.func31, Tryd.ntmps31
  go_wp2_with fail
  have hnone : A = none → rest = [] := by
    intro h
    have h1 := HH.out.rd
    by_cases h0 : 0 < rest.length
    · obtain ⟨b, off, h2, _⟩ := h1.at_ h0
      rw [h] at h2
      cases h2
    · exact List.eq_nil_of_length_eq_zero (by omega)
  have HNO := Lib.hid hnone
  clear hnone
  refine with_world (fun w2 => St w2 B 67 st [.slice A rest.length cap, .int .u64 ((many + l.length) % 18446744073709551616)] ∧ Rd .u8 w2 A rest ∧ Rd .u8 w2 A2 l ∧ Ksha w2 ∧ w.grownBy w2 (some B)) ?_ ?_
  · have hg := grown_set w ⟨B, 9, none⟩ (Value.int .u64 ((many + l.length) % 18446744073709551616))
    have hs := HH.out.st.setTail 1 (Value.int .u64 ((many + l.length) % 18446744073709551616))
    have e : IntKind.u64.wrap (many + (n2 : Int)) = (many + l.length) % 18446744073709551616 := by rw [HN.out, IntKind.wrap_u64]
    rw [e]
    exact ⟨hs, HH.out.rd.grown hg (fun b off h => fun e => HH.out.ap b off h (by injection e)), HR.out.grown' hg (fun h0 b off h => fun e => HAP.out h0 b off h (by injection e)), HK.out.grown hg hBK, hg⟩
  · rintro w2 ⟨hS, hA, hR, hK, hG⟩
    have c8 : w2.cell? ⟨B, 8, none⟩ = some (.slice A rest.length cap) := by simpa using hS.tail 0
    have f8 := hS.free 8
    have hBlt := hS.lt
    have HS := Lib.hid hS
    have HA := Lib.hid hA
    have HR2 := Lib.hid hR
    have HK2 := Lib.hid hK
    have HG := Lib.hid hG
    have hle2 := HH.out.le
    clear hS hA hR hK hG e0 e1 f0 f1
    refine start_ (n := 21) (S := fun w' => w'.cell? ⟨B, 8, none⟩ = some (.slice A rest.length cap)) (ds := [20]) #[false, false, false, false, false, false, false, false, false, false, false, false, false, false, false, false, false, false, false, false, false] (by kernel_rfl) rfl rfl (c8) (fun hHeld => ?_)
    refine pure_ (i := 0) (N := some 14) (v := ?_) (a' := ?_) #[true, false, false, false, false, false, false, false, false, false, false, false, false, false, false, false, false, false, false, false, false] rfl rfl (by kernel_rfl) (fun _ _ _ h => h) (Or.inl ⟨by rfl, ?_⟩) ?_ ?_
    rotate_left
    · intro w'
      go_simp
      with_reducible rfl
    rotate_left
    · simp only [Act.put, List.setIfInBounds_toArray, List.set_cons_zero, List.set_cons_succ, i64_w, i32_w]
      rfl
    refine pure_ (i := 1) (N := some 15) (v := ?_) (a' := ?_) #[true, true, false, false, false, false, false, false, false, false, false, false, false, false, false, false, false, false, false, false, false] rfl rfl (by kernel_rfl) (fun _ _ _ h => h) (Or.inl ⟨by rfl, ?_⟩) ?_ ?_
    rotate_left
    · intro w'
      go_simp
      with_reducible rfl
    rotate_left
    · simp only [Act.put, List.setIfInBounds_toArray, List.set_cons_zero, List.set_cons_succ, i64_w, i32_w]
      rfl
    refine pure_ (i := 2) (N := some 16) (v := ?_) (a' := ?_) #[true, true, true, false, false, false, false, false, false, false, false, false, false, false, false, false, false, false, false, false, false] rfl rfl (by kernel_rfl) (fun _ _ _ h => h) (Or.inl ⟨by rfl, ?_⟩) ?_ ?_
    rotate_left
    · intro w'
      go_simp
      with_reducible rfl
    rotate_left
    · simp only [Act.put, List.setIfInBounds_toArray, List.set_cons_zero, List.set_cons_succ, i64_w, i32_w]
      rfl
    refine pure_ (i := 3) (N := some 17) (v := ?_) (a' := ?_) #[true, true, true, true, false, false, false, false, false, false, false, false, false, false, false, false, false, false, false, false, false] rfl rfl (by kernel_rfl) (fun _ _ _ h => h) (Or.inl ⟨by rfl, ?_⟩) ?_ ?_
    rotate_left
    · intro w'
      go_simp
      with_reducible rfl
    rotate_left
    · simp only [Act.put, List.setIfInBounds_toArray, List.set_cons_zero, List.set_cons_succ, i64_w, i32_w]
      rfl
    refine pure_ (i := 5) (N := some 19) (v := ?_) (a' := ?_) #[true, true, true, true, false, true, false, false, false, false, false, false, false, false, false, false, false, false, false, false, false] rfl rfl (by kernel_rfl) (fun _ _ _ h => h) (Or.inl ⟨by rfl, ?_⟩) ?_ ?_
    rotate_left
    · intro w'
      go_simp
      with_reducible rfl
    rotate_left
    · simp only [Act.put, List.setIfInBounds_toArray, List.set_cons_zero, List.set_cons_succ, i64_w, i32_w]
      rfl
    refine pure_ (i := 6) (N := some 20) (v := ?_) (a' := ?_) #[true, true, true, true, false, true, true, false, false, false, false, false, false, false, false, false, false, false, false, false, false] rfl rfl (by kernel_rfl) (fun _ _ _ h => h) (Or.inl ⟨by rfl, ?_⟩) ?_ ?_
    rotate_left
    · intro w'
      go_simp
      with_reducible rfl
    rotate_left
    · simp only [Act.put, List.setIfInBounds_toArray, List.set_cons_zero, List.set_cons_succ, i64_w, i32_w]
      rfl
    refine pure_ (i := 7) (N := some 21) (v := ?_) (a' := ?_) #[true, true, true, true, false, true, true, true, false, false, false, false, false, false, false, false, false, false, false, false, false] rfl rfl (by kernel_rfl) (fun _ _ _ h => h) (Or.inl ⟨by rfl, ?_⟩) ?_ ?_
    rotate_left
    · intro w'
      go_simp
      with_reducible rfl
    rotate_left
    · simp only [Act.put, List.setIfInBounds_toArray, List.set_cons_zero, List.set_cons_succ, i64_w, i32_w]
      rfl
    refine pure_ (i := 10) (N := some 24) (v := ?_) (a' := ?_) #[true, true, true, true, false, true, true, true, false, false, true, false, false, false, false, false, false, false, false, false, false] rfl rfl (by kernel_rfl) (fun _ _ _ h => h) (Or.inl ⟨by rfl, ?_⟩) ?_ ?_
    rotate_left
    · intro w'
      go_simp
      with_reducible rfl
    rotate_left
    · simp only [Act.put, List.setIfInBounds_toArray, List.set_cons_zero, List.set_cons_succ, i64_w, i32_w]
      rfl
    refine pure_ (i := 11) (N := some 25) (v := ?_) (a' := ?_) #[true, true, true, true, false, true, true, true, false, false, true, true, false, false, false, false, false, false, false, false, false] rfl rfl (by kernel_rfl) (fun _ _ _ h => h) (Or.inl ⟨by rfl, ?_⟩) ?_ ?_
    rotate_left
    · intro w'
      go_simp
      with_reducible rfl
    rotate_left
    · simp only [Act.put, List.setIfInBounds_toArray, List.set_cons_zero, List.set_cons_succ, i64_w, i32_w]
      rfl
    refine pure_ (i := 12) (N := some 26) (v := ?_) (a' := ?_) #[true, true, true, true, false, true, true, true, false, false, true, true, true, false, false, false, false, false, false, false, false] rfl rfl (by kernel_rfl) (fun _ _ _ h => h) (Or.inl ⟨by rfl, ?_⟩) ?_ ?_
    rotate_left
    · intro w'
      go_simp
      with_reducible rfl
    rotate_left
    · simp only [Act.put, List.setIfInBounds_toArray, List.set_cons_zero, List.set_cons_succ, i64_w, i32_w]
      rfl
    refine pure_ (i := 16) (N := some 30) (v := ?_) (a' := ?_) #[true, true, true, true, false, true, true, true, false, false, true, true, true, false, false, false, true, false, false, false, false] rfl rfl (by kernel_rfl) (fun _ _ _ h => h) (Or.inl ⟨by rfl, ?_⟩) ?_ ?_
    rotate_left
    · intro w'
      go_simp
      with_reducible rfl
    rotate_left
    · simp only [Act.put, List.setIfInBounds_toArray, List.set_cons_zero, List.set_cons_succ, i64_w, i32_w]
      rfl
    refine take_ (i := 4) (N := some 18) (v := ?_) (a' := ?_) #[true, true, true, true, true, true, true, true, false, false, true, true, true, false, false, false, true, false, false, false, false] rfl rfl (by kernel_rfl) (fun _ _ _ h => h) (Or.inl ⟨by rfl, ?_⟩) hHeld ?_ ?_
    rotate_left
    · intro w' s0
      go_simp
      with_reducible rfl
    rotate_left
    · simp only [Act.put, List.setIfInBounds_toArray, List.set_cons_zero, List.set_cons_succ, i64_w, i32_w]
      rfl
    refine take_ (i := 8) (N := some 22) (v := ?_) (a' := ?_) #[true, true, true, true, true, true, true, true, true, false, true, true, true, false, false, false, true, false, false, false, false] rfl rfl (by kernel_rfl) (fun _ _ _ h => h) (Or.inl ⟨by rfl, ?_⟩) hHeld ?_ ?_
    rotate_left
    · intro w' s0
      go_simp
      with_reducible rfl
    rotate_left
    · simp only [Act.put, List.setIfInBounds_toArray, List.set_cons_zero, List.set_cons_succ, i64_w, i32_w]
      rfl
    refine pure_ (i := 9) (N := some 23) (v := ?_) (a' := ?_) #[true, true, true, true, true, true, true, true, true, true, true, true, true, false, false, false, true, false, false, false, false] rfl rfl (by kernel_rfl) (fun _ _ _ h => h) (Or.inl ⟨by rfl, ?_⟩) ?_ ?_
    rotate_left
    · intro w'
      go_simp
      with_reducible rfl
    rotate_left
    · simp only [Act.put, List.setIfInBounds_toArray, List.set_cons_zero, List.set_cons_succ, i64_w, i32_w]
      rfl
    refine take_ (i := 13) (N := some 27) (v := ?_) (a' := ?_) #[true, true, true, true, true, true, true, true, true, true, true, true, true, true, false, false, true, false, false, false, false] rfl rfl (by kernel_rfl) (fun _ _ _ h => h) (Or.inl ⟨by rfl, ?_⟩) hHeld ?_ ?_
    rotate_left
    · intro w' s0
      go_simp
      with_reducible rfl
    rotate_left
    · simp only [Act.put, List.setIfInBounds_toArray, List.set_cons_zero, List.set_cons_succ, i64_w, i32_w]
      rfl
    refine pure_ (i := 14) (N := some 28) (v := ?_) (a' := ?_) #[true, true, true, true, true, true, true, true, true, true, true, true, true, true, true, false, true, false, false, false, false] rfl rfl (by kernel_rfl) (fun _ _ _ h => h) (Or.inl ⟨by rfl, ?_⟩) ?_ ?_
    rotate_left
    · intro w'
      go_simp
      with_reducible rfl
    rotate_left
    · simp only [Act.put, List.setIfInBounds_toArray, List.set_cons_zero, List.set_cons_succ, i64_w, i32_w]
      rfl
    refine pure_ (i := 15) (N := some 29) (v := ?_) (a' := ?_) #[true, true, true, true, true, true, true, true, true, true, true, true, true, true, true, true, true, false, false, false, false] rfl rfl (by kernel_rfl) (fun _ _ _ h => h) (Or.inl ⟨by rfl, ?_⟩) ?_ ?_
    rotate_left
    · intro w'
      go_simp
      with_reducible rfl
    rotate_left
    · simp only [Act.put, List.setIfInBounds_toArray, List.set_cons_zero, List.set_cons_succ, i64_w, i32_w]
      rfl
    refine one_ (i := 17) (N := some 31) #[true, true, true, true, true, true, true, true, true, true, true, true, true, true, true, true, true, true, false, false, false] rfl rfl (by kernel_rfl) (by decide) (fun K hK => ?_)
    refine step_append_full_rd (by rfl) (.tmp 29) (.tmp 30) (by rfl) bytesE A rest rest.length (by rfl) rfl HA.out.drew HNO.out A2 c2 n2 l (by rfl) HN.out HR2.out.drew (by have := HL.out; omega) (by have := HL.out; unfold maxLen; omega) ?_
    intro A' c' w3 hrd hgr hc5 hor
    have c8' := (World.cell?_of_block (a := ⟨B, 8, none⟩) (hgr.block B hBlt (by simp))).trans hHeld
    have f8' := (World.frozen?_of_block (a := ⟨B, 8, none⟩) (hgr.block B hBlt (by simp))).trans f8
    refine hK.out _ _ (c8') (fun hHeld => ?_)
    clear hK K
    refine norm_ (a' := ?_) ?_ ?_
    rotate_left
    · show Act.put _ (some 31) _ = _
      simp only [Act.put, List.setIfInBounds_toArray, List.set_cons_zero, List.set_cons_succ, i64_w, i32_w]
      rfl
    refine pure_ (i := 18) (N := some 32) (v := ?_) (a' := ?_) #[true, true, true, true, true, true, true, true, true, true, true, true, true, true, true, true, true, true, true, false, false] rfl rfl (by kernel_rfl) (fun _ _ _ h => h) (Or.inl ⟨by rfl, ?_⟩) ?_ ?_
    rotate_left
    · intro w'
      go_simp
      with_reducible rfl
    rotate_left
    · simp only [Act.put, List.setIfInBounds_toArray, List.set_cons_zero, List.set_cons_succ, i64_w, i32_w]
      rfl
    refine pure_ (i := 19) (N := some 33) (v := ?_) (a' := ?_) #[true, true, true, true, true, true, true, true, true, true, true, true, true, true, true, true, true, true, true, true, false] rfl rfl (by kernel_rfl) (fun _ _ _ h => h) (Or.inl ⟨by rfl, ?_⟩) ?_ ?_
    rotate_left
    · intro w'
      go_simp
      with_reducible rfl
    rotate_left
    · simp only [Act.put, List.setIfInBounds_toArray, List.set_cons_zero, List.set_cons_succ, i64_w, i32_w]
      rfl
    refine last_ (i := 20) (N := none) #[true, true, true, true, true, true, true, true, true, true, true, true, true, true, true, true, true, true, true, true, true] rfl rfl (by kernel_rfl) (by decide) (fun K hK => ?_)
    refine skip_ (w1 := ?_) (by rfl) rfl ?_ ?_
    rotate_left
    · go_simp
      rfl
    refine hK.out _ _ ?_
    clear hK K
    refine done_ (by kernel_rfl) ?_
    go_wp2_with fail
    refine with_world (fun w3 => WriteInv w B st rest many l 0 w3) ?_ ?_
    · have hs := ((HS.out.drewN 1).grown hgr (by simp)).setTail 0 (Value.slice A' (rest.length + l.length) c')
      have hg2 := grown_set w3 ⟨B, 8, none⟩ (Value.slice A' (rest.length + l.length) c')
      have hg3 : w2.grownBy (w3.setCell ⟨B, 8, none⟩ (Value.slice A' (rest.length + l.length) c')) (some B) := grown_trans (grown_mono (grown_trans (grown_drewN w2 1 none) hgr)) hg2
      have hap' : ∀ b off, A' = some ⟨b, off, none⟩ → b ≠ B := by
        intro b off h
        rcases hor with ⟨_, h1, _⟩ | ⟨g, h1, h2, _⟩
        · exact HH.out.ap b off (h1 ▸ h)
        · rw [h1] at h
          injection h with h
          injection h with h
          have : w2.drew.heap.size = w2.heap.size := rfl
          omega
      exact ⟨⟨A', c', by simpa [feedN] using hs, by simpa using hrd.grown hg2 (fun b off h => fun e => hap' b off h (by injection e)), hap', by simpa using hc5⟩, by omega, HK2.out.grown hg3 hBK, grown_trans HG.out hg3⟩
    · rintro w4 hI
      go_loopw [34] (fun _ wr => ∃ k, WriteInv w B st rest many l k wr) (fun _ wr => restLen wr B)
      case atStart => exact ⟨0, hI⟩
      case round =>
        obtain ⟨k, hk⟩ := hrel
        obtain ⟨⟨A, c, hS, hR, hap, hc⟩, hkl, hks, hgr⟩ := hk
        have c8 : wr.cell? ⟨B, 8, none⟩ = some (.slice A ((rest ++ l).length - 64 * k) c) := by simpa using hS.tail 0
        have f8 := hS.free 8
        have hlen : (rest ++ l).length = rest.length + l.length := List.length_append
        have hlm := HL.out
        by_cases hlt : 64 ≤ (rest ++ l).length - 64 * k
        · obtain ⟨b, off, rfl, hb, hcs⟩ := hR.at_ (by rw [List.length_drop]; omega)
          have HS := Lib.hid hS
          have HR := Lib.hid hR
          have HAP := Lib.hid hap
          have HKS := Lib.hid hks
          have HG := Lib.hid hgr
          clear hS hR hap hks hgr hcs
          go_wp2_with fail
          refine wp_region_quiet_tail 7 (by kernel_rfl) (by kernel_rfl) ?_
          simp only [List.take_succ_cons, List.take_zero, List.drop_succ_cons, List.drop_zero]
          repeat (go_big_quiet_step (fail))
          refine wpQuiet_nil ?_
          intro _ hw'
          obtain ⟨nq, hw''⟩ := hw'
          subst hw''
          go_wp2_with ((refine (block_calls _ B 67 _ _ b off _ _ ((rest ++ l).drop (64 * k)) (HS.out.drewN nq) (HKS.out.drewN nq) hBK (by rw [List.length_drop, hlen]) (by rw [List.length_drop]; omega) (by rw [List.length_drop]; omega) (HR.out.drewN nq)).mono ?_); rintro e w5 ⟨rfl, hS5, hg5⟩; (have c8b : w5.cell? ⟨B, 8, none⟩ = some (.slice (some ⟨b, off, none⟩) ((rest ++ l).length - 64 * k) c) := by simpa using hS5.tail 0); (have f8b := hS5.free 8); (have HS5 := Lib.hid hS5); (have HG5 := Lib.hid hg5); clear hS5 hg5)
          go_roundw
          case rel =>
            have hcell := grown_set w5 ⟨B, 8, none⟩ (Value.slice (if c = 64 then some ⟨b, off, none⟩ else some ⟨b, off + 64, none⟩) (rest.length + l.length - 64 * k - 64) (c - 64))
            have hs := HS5.out.setTail 0 (Value.slice (if c = 64 then some ⟨b, off, none⟩ else some ⟨b, off + 64, none⟩) (rest.length + l.length - 64 * k - 64) (c - 64))
            have hg6 : wr.grownBy _ (some B) := grown_trans (grown_drewN wr nq (some B)) (grown_trans HG5.out hcell)
            refine ⟨k + 1, ⟨(if c = 64 then some ⟨b, off, none⟩ else some ⟨b, off + 64, none⟩), c - 64, ?_, ?_, ?_, by omega⟩, by omega, HKS.out.grown hg6 hBK, grown_trans HG.out hg6⟩
            · have e : (rest ++ l).length - 64 * (k + 1) = rest.length + l.length - 64 * k - 64 := by omega
              rw [e]
              exact hs
            · by_cases h64 : c = 64
              · have : (rest ++ l).drop (64 * (k + 1)) = [] := List.drop_eq_nil_of_le (by omega)
                rw [this]
                exact Rd.nil _ _ _
              · have h1 := (HR.out.grown hg6 (fun b1 off1 h => fun e => HAP.out b1 off1 h (by injection e))).drop 64
                rw [List.drop_drop, ← Nat.mul_succ] at h1
                simp only [if_neg h64] at h1 ⊢
                exact h1
            · intro b1 off1 h
              refine HAP.out b1 off ?_
              split at h <;> (injection h with h; injection h with h1 h2; rw [h1])
          case measure =>
            have h1 := (HS5.out.setTail 0 (Value.slice (if c = 64 then some ⟨b, off, none⟩ else some ⟨b, off + 64, none⟩) (rest.length + l.length - 64 * k - 64) (c - 64))).tail 0
            simp only [Nat.add_zero, List.set_cons_zero, List.getElem?_cons_zero] at h1
            simp only [restLen, h1, c8, hlen]
            omega
        · have HS := Lib.hid hS
          have HR := Lib.hid hR
          have HAP := Lib.hid hap
          have HKS := Lib.hid hks
          have HG := Lib.hid hgr
          clear hS hR hap hks hgr
          go_wp2_with fail
          have hk : k = (rest ++ l).length / 64 := by omega
          subst hk
          have hl64 : ((rest ++ l).drop (64 * ((rest ++ l).length / 64))).length = (rest ++ l).length - 64 * ((rest ++ l).length / 64) := List.length_drop
          go_end0
          refine ⟨rfl, HG.out, A, c, ?_, HR.out, HAP.out, by rw [hl64]; exact hc⟩
          rw [hl64]
          exact HS.out
end Go.Proofs.YtlmcpnicjdcmdaaDoor
