/- What the rows' condition gives the walks: the packages' tables. -/
import Derived.Test.YtlmcpnicjdcmdaaDoorXh
import Derived.Test.YtlmcpnicjdcmdaaDoorRows
import Derived.MakeChecks
import Derived.LaidMore
import Derived.Lib.LaidTab
import Derived.OpenShut
set_option linter.unusedVariables false
set_option linter.unusedSimpArgs false
namespace Go.Proofs.YtlmcpnicjdcmdaaDoor
open Go Go.RowKit Go.BigFrame

theorem laidVars_at {P : Program} {w : World} {name : String} {d : DataW Unit} : ∀ {laid : List (String × DataW Unit)} {ps : List MemPlace}, DataW.LaidVars P w laid ps → (name, d) ∈ laid →
    ∃ g t cs fuel p, P.globalNamed name = some g ∧ (P.globals[g]?).map (·.type) = some t ∧ w.var? P name = some cs ∧ DataW.trod (fun _ => ()) P w 0 (fun _ => true) false fuel t cs.toList = some (d, p) ∧ ∀ x ∈ MemPlace.row ⟨g, 0, none⟩ cs.size, x ∈ ps
  | [], ps, h, hm => by simp at hm
  | (n, e) :: r, ps, h, hm => by
    obtain ⟨g, t, cs, fuel, p, q, h1, h2, h3, h4, h5, rfl⟩ := h
    rcases List.mem_cons.1 hm with hm | hm
    · injection hm with e1 e2
      subst e1 e2
      exact ⟨g, t, cs, fuel, p, h1, h2, h3, h4, fun x hx => by simp [hx]⟩
    · obtain ⟨g', t', cs', fuel', p', h1', h2', h3', h4', h5'⟩ := laidVars_at h5 hm
      exact ⟨g', t', cs', fuel', p', h1', h2', h3', h4', fun x hx => by simp [h5' x hx]⟩
/-- A listed table of numbers lies in its variable's block. -/
theorem arr_of_laid {P : Program} {w : World} {laid : List (String × DataW Unit)} (h : laidMet P laid w) {name : String} {k : IntKind} {zs : List Int} (hm : (name, Lib.tabData k zs) ∈ laid) (h0 : 0 < zs.length) {g : Nat} {t e : TypeId} {n : Nat}
    (hg : P.globalNamed name = some g) (hty : (P.globals[g]?).map (·.type) = some t) (ht : P.underlying t = some (.array n e)) (he : P.underlying e = some (.int k)) (hce : P.cellsOf e = 1) (hct : P.cellsOf t = n) : ∃ T, Arr w g T k zs := by
  obtain ⟨ps, hv, _, hc⟩ := h
  obtain ⟨g', t', cs, fuel, p, h1, h2, h3, h4, h5⟩ := laidVars_at hv hm
  obtain rfl := Option.some.inj (hg.symm.trans h1)
  obtain rfl := Option.some.inj (hty.symm.trans h2)
  have hcs := Lib.cells_of_tab ht he hce hct h4
  have hcs2 : cs = (ints k zs).toArray := by
    apply Array.toList_inj.1
    rw [hcs]
    rfl
  have hsz : 0 < cs.size := by rw [hcs2, List.size_toArray, ints_length]; exact h0
  obtain ⟨⟨c, T, hb⟩, _⟩ := hc g 0 (h5 _ (by simp only [MemPlace.row, List.mem_map, List.mem_range]; exact ⟨0, hsz, rfl⟩))
  refine ⟨T, ⟨?_⟩⟩
  have : w.var? P name = some c := by simp [World.var?, hg, hb]
  rw [this] at h3
  rw [hb, Option.some.inj h3, hcs2]
theorem Arr.rd0 {w : World} {B T : Nat} {k : IntKind} {l : List Int} (h : Arr w B T k l) (hm : l.length ≤ 9223372036854775807) : Rd k w (some ⟨B, 0, none⟩) l :=
  ⟨hm, fun _ => ⟨B, 0, rfl, h.lt, fun j hj => by rw [Nat.zero_add]; exact h.cell j hj⟩⟩

theorem kbox_of_laid {w : World} {laid : List (String × DataW Unit)} (h : laidMet Tryd.prog laid w) (m1 : ("sodality/sha2.constants", Lib.tabData .u32 K256) ∈ laid) (m2 : ("sodality/keccak.constants", Lib.tabData .u64 KC) ∈ laid)
    (m3 : ("sodality/keccak.turns", Lib.tabData .i64 KT) ∈ laid) (m4 : ("sodality/keccak.places", Lib.tabData .i64 KP) ∈ laid) (m5 : ("sodality/wire.classes", Lib.tabData .i64 [6, 14, 30]) ∈ laid) : Kbox w := by
  obtain ⟨T1, a1⟩ := arr_of_laid h m1 (by decide) (g := 1) (by kernel_rfl) (t := 79) (by kernel_rfl) Tryd.underlying79 Tryd.underlying61 (by kernel_rfl) (by kernel_rfl)
  obtain ⟨T5, a5⟩ := arr_of_laid h m5 (by decide) (g := 0) (by kernel_rfl) (t := 59) (by kernel_rfl) Tryd.underlying59 Tryd.underlying3 (by kernel_rfl) (by kernel_rfl)
  exact ⟨a1.rd0 (by decide), ⟨arr_of_laid h m2 (by decide) (g := 2) (by kernel_rfl) (t := 91) (by kernel_rfl) Tryd.underlying91 Tryd.underlying65 (by kernel_rfl) (by kernel_rfl),
    arr_of_laid h m3 (by decide) (g := 4) (by kernel_rfl) (t := 95) (by kernel_rfl) Tryd.underlying95 Tryd.underlying3 (by kernel_rfl) (by kernel_rfl),
    arr_of_laid h m4 (by decide) (g := 3) (by kernel_rfl) (t := 95) (by kernel_rfl) Tryd.underlying95 Tryd.underlying3 (by kernel_rfl) (by kernel_rfl)⟩, a5.rd0 (by decide)⟩

/-- A slice of numbers that came in: what can be read of it. -/
def IsRow (k : IntKind) (w : World) (a : Option Addr) (len cap : Nat) (l : List Int) : Prop :=
  len = l.length ∧ len ≤ cap ∧ cap ≤ maxLen ∧ Rd k w a l ∧ ∀ x ∈ l, (Lit.int k x).wf = true
theorem isRow_nil (k : IntKind) (w : World) : IsRow k w none 0 0 [] := ⟨rfl, Nat.le_refl _, by unfold maxLen; omega, Rd.nil _ _ _, by simp⟩
theorem isRow_of {k : IntKind} {w : World} {x : Addr} {len cap : Nat} {zs : List Int} (hl : len ≤ cap) (hm : cap ≤ maxLen) (hz : zs.length = cap) (hc : ∀ i, i < zs.length → w.cell? (x.add i) = some (.int k (zs.getD i 0))) (hw : ∀ n ∈ zs, (Lit.int k n).wf = true) :
    IsRow k w (some x) len cap (zs.take len) := by
  refine ⟨by rw [List.length_take]; omega, hl, hm, ⟨by rw [List.length_take]; unfold maxLen at hm; omega, fun h0 => ?_⟩, fun n hn => hw n (List.mem_of_mem_take hn)⟩
  have hp : 0 < zs.length := by rw [List.length_take] at h0; omega
  obtain ⟨b, off, rfl, hc2⟩ := ints_at hc hp
  have hlt := cell_lt (hc2 0 hp)
  refine ⟨b, off, rfl, hlt, fun j hj => ?_⟩
  have hj' : j < len ∧ j < zs.length := by rw [List.length_take] at hj; omega
  rw [hc2 j hj'.2]
  simp [List.getD_eq_getElem?_getD, List.getElem?_take, hj'.1]
end Go.Proofs.YtlmcpnicjdcmdaaDoor
