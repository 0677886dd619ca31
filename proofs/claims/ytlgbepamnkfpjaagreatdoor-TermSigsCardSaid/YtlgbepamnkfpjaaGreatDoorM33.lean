/- Itoa for every number, over the listed table. -/
import Derived.Test.YtlgbepamnkfpjaaGreatDoorM30
import Derived.Lib.LaidTab
import Derived.Lib.AppendIntMem
set_option linter.unusedSimpArgs false
set_option linter.unusedVariables false
set_option linter.unusedVariables false
set_option linter.unusedSimpArgs false
namespace Go.Proofs.YtlgbepamnkfpjaaGreatDoor
open Go.RowKit

theorem gPow : Tryz.prog.globalNamed "internal/strconv.uint64pow10" = some 1 := by kernel_rfl
theorem tPow : (Tryz.prog.globals[1]?).map (·.type) = some 152 := by kernel_rfl
theorem cells152 : Tryz.prog.cellsOf 152 = 20 := by kernel_rfl
theorem cells131 : Tryz.prog.cellsOf 131 = 1 := by kernel_rfl
/-- The table, as the listed variables have it. -/
theorem pow_table {W : World} (h : laidMetH Tryz.prog laid3 W) : Lib.TabIs Tryz.prog W "internal/strconv.uint64pow10" .u64 Lib.pow10Tab := by
  have h1 : laidMet Tryz.prog laid3 W := h
  obtain ⟨ps, ⟨g0, t0, cs0, f0, p0, q0, hg0, ht0, hv0, hd0, ⟨g1, t1, cs1, f1, p1, q1, hg1, ht1, hv1, hd1, ⟨g2, t2, cs2, f2, p2, q2, hg2, ht2, hv2, hd2, _, _⟩, _⟩, _⟩, _, _⟩ := h1
  obtain rfl := Option.some.inj (gPow.symm.trans hg2)
  obtain rfl := Option.some.inj (tPow.symm.trans ht2)
  unfold Lib.TabIs
  rw [hv2, ← Lib.cells_of_tab (k := .u64) (zs := Lib.pow10Tab) Tryz.underlying152 Tryz.underlying131 cells131 cells152 hd2]
theorem pow_below {W W' : World} (h : Lib.TabIs Tryz.prog W "internal/strconv.uint64pow10" .u64 Lib.pow10Tab) (hb : Below W.heap.size W W') : Lib.TabIs Tryz.prog W' "internal/strconv.uint64pow10" .u64 Lib.pow10Tab := by
  unfold Lib.TabIs World.var? at h ⊢
  rw [gPow] at h ⊢
  simp only [Option.bind_some] at h ⊢
  cases hc : W.heap[1]? with
  | none => rw [hc] at h; cases h
  | some o =>
    have hlt := (Array.getElem?_eq_some_iff.1 hc).1
    rw [hb.block 1 hlt]
    exact h
theorem itoa_every {n : Int} (hn : i64 n) {w0 : World} (h : Lib.TabIs Tryz.prog w0 "internal/strconv.uint64pow10" .u64 Lib.pow10Tab) : ItoaOK w0 n := fun W hW => by
  refine (Tryz.strconv_Itoa n hn.1 hn.2 W (pow_below h hW)).mono ?_
  rintro e w' ⟨rfl, k, os, rfl⟩
  exact ⟨rfl, Lib.below_grow _ W (Nat.le_refl _) k os⟩
end Go.Proofs.YtlgbepamnkfpjaaGreatDoor
