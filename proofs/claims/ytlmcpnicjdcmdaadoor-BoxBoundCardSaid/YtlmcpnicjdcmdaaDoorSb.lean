/- SHA-256: one block, at a state in memory. -/
import Derived.Test.YtlmcpnicjdcmdaaDoorSa
import Derived.ScopeJumps
import Derived.WalkMore
set_option linter.unusedVariables false
set_option linter.unusedSimpArgs false
namespace Go.Proofs.YtlmcpnicjdcmdaaDoor
open Go Go.RowKit Go.BigFrame

def K256 : List Int := [1116352408, 1899447441, 3049323471, 3921009573, 961987163, 1508970993, 2453635748, 2870763221, 3624381080, 310598401, 607225278, 1426881987, 1925078388, 2162078206, 2614888103, 3248222580, 3835390401, 4022224774, 264347078, 604807628, 770255983, 1249150122, 1555081692, 1996064986, 2554220882, 2821834349, 2952996808, 3210313671, 3336571891, 3584528711, 113926993, 338241895, 666307205, 773529912, 1294757372, 1396182291, 1695183700, 1986661051, 2177026350, 2456956037, 2730485921, 2820302411, 3259730800, 3345764771, 3516065817, 3600352804, 4094571909, 275423344, 430227734, 506948616, 659060556, 883997877, 958139571, 1322822218, 1537002063, 1747873779, 1955562222, 2024104815, 2227730452, 2361852424, 2428436474, 2756734187, 3204031479, 3329325298]

structure V8 where
  (a b c d e f g h : Int)
def bsig1 (e : Int) : Int := bits .xor .u32 (bits .xor .u32 (rotr32 e 6) (rotr32 e 11)) (rotr32 e 25)
def bsig0 (a : Int) : Int := bits .xor .u32 (bits .xor .u32 (rotr32 a 2) (rotr32 a 13)) (rotr32 a 22)
def chF (e f g : Int) : Int := bits .xor .u32 g (bits .and .u32 e (bits .xor .u32 f g))
def majF (a b c : Int) : Int := bits .or .u32 (bits .and .u32 a b) (bits .and .u32 c (bits .or .u32 a b))
def tF (v : V8) (k w : Int) : Int := (v.h + bsig1 v.e + chF v.e v.f v.g + k + w) % 4294967296
def uF (v : V8) : Int := (bsig0 v.a + majF v.a v.b v.c) % 4294967296
def rnd (v : V8) (k w : Int) : V8 := ⟨(tF v k w + uF v) % 4294967296, v.a, v.b, v.c, (v.d + tF v k w) % 4294967296, v.e, v.f, v.g⟩
def rnds (v : V8) (W : List Int) : Nat → V8
  | 0 => v
  | i + 1 => rnd (rnds v W i) (K256.getD i 0) (W.getD i 0)
def v8 (st : List Int) : V8 := ⟨st.getD 0 0, st.getD 1 0, st.getD 2 0, st.getD 3 0, st.getD 4 0, st.getD 5 0, st.getD 6 0, st.getD 7 0⟩
def V8.list (v : V8) : List Int := [v.a, v.b, v.c, v.d, v.e, v.f, v.g, v.h]
/-- The first i words of a state, a row of words added. -/
def addTo (st v : List Int) : Nat → List Int
  | 0 => st
  | i + 1 => (addTo st v i).set i (((addTo st v i).getD i 0 + v.getD i 0) % 4294967296)
def blockF (st l : List Int) : List Int := addTo st (rnds (v8 st) (wordsOf l) 64).list 8
theorem addTo_length (st v : List Int) (i : Nat) : (addTo st v i).length = st.length := by
  induction i with
  | zero => rfl
  | succ i ih => simp [addTo, ih]
theorem blockF_length (st l : List Int) : (blockF st l).length = st.length := addTo_length _ _ _

/-- A state at the head of a block, and what lies behind it. -/
structure St (w : World) (B T : Nat) (st : List Int) (tl : List Value) : Prop where
  len : st.length = 8
  block : w.heap[B]? = some (.cells (ints .u32 st ++ tl).toArray T (0, 0))
theorem St.lt {w : World} {B T : Nat} {st : List Int} {tl : List Value} (h : St w B T st tl) : B < w.heap.size := (Array.getElem?_eq_some_iff.1 h.block).1
theorem St.cell {w : World} {B T : Nat} {st : List Int} {tl : List Value} (h : St w B T st tl) (i : Nat) (hi : i < 8) : w.cell? ⟨B, i, none⟩ = some (.int .u32 (st.getD i 0)) := by
  rw [cell_of_row w B i _ T (0, 0) h.block]
  have hl : i < (ints .u32 st).length := by rw [ints_length, h.len]; exact hi
  rw [List.getElem?_toArray, List.getElem?_append_left hl]
  exact ints_get .u32 st i (by rw [h.len]; exact hi)
theorem St.tail {w : World} {B T : Nat} {st : List Int} {tl : List Value} (h : St w B T st tl) (i : Nat) : w.cell? ⟨B, 8 + i, none⟩ = tl[i]? := by
  rw [cell_of_row w B (8 + i) _ T (0, 0) h.block, List.getElem?_toArray, List.getElem?_append_right (by rw [ints_length, h.len]; omega), ints_length, h.len]
  congr 1
  omega
theorem St.free {w : World} {B T : Nat} {st : List Int} {tl : List Value} (h : St w B T st tl) (i : Nat) : w.frozen? ⟨B, i, none⟩ = false := by simp [World.frozen?, h.block]
theorem setCell_block {w : World} {B T i : Nat} {cs : Array Value} {v : Value} (h : w.heap[B]? = some (.cells cs T (0, 0))) : (w.setCell ⟨B, i, none⟩ v).heap[B]? = some (.cells (cs.setIfInBounds i v) T (0, 0)) := heap_setCell_same w B i cs T v h
theorem St.set {w : World} {B T : Nat} {st : List Int} {tl : List Value} (h : St w B T st tl) (i : Nat) (hi : i < 8) (x : Int) : St (w.setCell ⟨B, i, none⟩ (.int .u32 x)) B T (st.set i x) tl := by
  refine ⟨by simp [h.len], ?_⟩
  rw [setCell_block h.block]
  have hl : i < (ints .u32 st).length := by rw [ints_length, h.len]; exact hi
  simp only [List.setIfInBounds_toArray]
  rw [List.set_append_left _ _ hl, ints_set]
theorem St.setTail {w : World} {B T : Nat} {st : List Int} {tl : List Value} (h : St w B T st tl) (i : Nat) (v : Value) : St (w.setCell ⟨B, 8 + i, none⟩ v) B T st (tl.set i v) := by
  refine ⟨h.len, ?_⟩
  rw [setCell_block h.block]
  simp only [List.setIfInBounds_toArray]
  rw [List.set_append_right _ _ (by rw [ints_length, h.len]; omega), ints_length, h.len]
  congr 5
  omega
theorem St.grown {w w' : World} {B T : Nat} {st : List Int} {tl : List Value} (h : St w B T st tl) {row : Option Nat} (hg : w.grownBy w' row) (hne : some B ≠ row) : St w' B T st tl :=
  ⟨h.len, by rw [hg.block B h.lt hne]; exact h.block⟩
theorem St.below {w w' : World} {B T N : Nat} {st : List Int} {tl : List Value} (h : St w B T st tl) (hb : Below N w w') (hN : B < N) : St w' B T st tl :=
  ⟨h.len, by rw [hb.block B hN]; exact h.block⟩
theorem St.drewN {w : World} {B T : Nat} {st : List Int} {tl : List Value} (h : St w B T st tl) (n : Nat) : St (w.drewN n) B T st tl := ⟨h.len, h.block⟩
theorem St.alloc {w : World} {B T : Nat} {st : List Int} {tl : List Value} (h : St w B T st tl) (o : Obj) : St (w.alloc o) B T st tl := h.below ((Below.refl _ _).alloc (Nat.le_refl _) o) h.lt
theorem St.lit {w : World} {cs : Array Value} {n T : Nat} {st : List Int} {tl : List Value} (hl : st.length = 8) (h : cs = (ints .u32 st ++ tl).toArray) (hn : n = w.heap.size) : St (w.alloc (.cells cs T)) n T st tl := by
  subst h
  subst hn
  exact ⟨hl, heap_alloc_new w _⟩

/-- Nothing has turned but block B, and what is new. -/
theorem grown_refl (w : World) (row : Option Nat) : w.grownBy w row := ⟨rfl, rfl, rfl, Nat.le_refl _, fun _ _ _ => rfl⟩
theorem grown_trans {w w1 w2 : World} {row : Option Nat} (h : w.grownBy w1 row) (k : w1.grownBy w2 row) : w.grownBy w2 row :=
  ⟨k.os.trans h.os, k.tape.trans h.tape, k.output.trans h.output, Nat.le_trans h.size k.size, fun i hi hne => (k.block i (Nat.lt_of_lt_of_le hi h.size) hne).trans (h.block i hi hne)⟩
theorem grown_below {w w1 : World} {N : Nat} (h : Below N w w1) (hN : w.heap.size ≤ N) (row : Option Nat) : w.grownBy w1 row := ⟨h.os, h.tape, h.output, h.size, fun i hi _ => h.block i (Nat.lt_of_lt_of_le hi hN)⟩
theorem grown_mono {w w1 : World} {row : Option Nat} (h : w.grownBy w1 none) : w.grownBy w1 row := ⟨h.os, h.tape, h.output, h.size, fun i hi _ => h.block i hi (by simp)⟩
theorem grown_set (w : World) (p : Addr) (v : Value) : w.grownBy (w.setCell p v) (some p.block) :=
  ⟨rfl, rfl, rfl, by simp [World.setCell], fun k _ hne => Below.heap_setCell _ _ _ _ (fun e => hne (by rw [e]))⟩
theorem grown_drewN (w : World) (n : Nat) (row : Option Nat) : w.grownBy (w.drewN n) row := ⟨rfl, rfl, rfl, Nat.le_refl _, fun _ _ _ => rfl⟩
theorem grown_new (w : World) (o : Obj) (row : Option Nat) : w.grownBy (w.alloc o) row := World.grownBy_alloc w o row
theorem below_of_grown {w w1 : World} {N B : Nat} (h : w.grownBy w1 (some B)) (hN : N ≤ w.heap.size) (hB : N ≤ B) : Below N w w1 :=
  ⟨h.os, h.tape, h.output, h.size, fun k hk => h.block k (Nat.lt_of_lt_of_le hk hN) (fun e => by injection e with e; omega)⟩
theorem Rd.grown {k : IntKind} {w w' : World} {A : Option Addr} {l : List Int} (h : Rd k w A l) {row : Option Nat} (hg : w.grownBy w' row) (hne : ∀ b off, A = some ⟨b, off, none⟩ → some b ≠ row) : Rd k w' A l :=
  ⟨h.le, fun h0 => by
    obtain ⟨b, off, e, hlt, hc⟩ := h.at_ h0
    exact ⟨b, off, e, Nat.lt_of_lt_of_le hlt hg.size, fun j hj => (World.cell?_of_block (hg.block b hlt (hne b off e))).trans (hc j hj)⟩⟩
theorem Arr.grown {w w' : World} {B T : Nat} {k : IntKind} {l : List Int} (h : Arr w B T k l) {row : Option Nat} (hg : w.grownBy w' row) (hne : some B ≠ row) : Arr w' B T k l :=
  ⟨by rw [hg.block B h.lt hne]; exact h.block⟩

abbrev gK : Nat := 1
def Ksha (w : World) : Prop := Rd .u32 w (some ⟨gK, 0, none⟩) K256
end Go.Proofs.YtlmcpnicjdcmdaaDoor
