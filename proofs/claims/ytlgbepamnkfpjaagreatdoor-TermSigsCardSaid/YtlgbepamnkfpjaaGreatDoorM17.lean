/- put's three parts, in whatever order they are made. -/
import Derived.Test.YtlgbepamnkfpjaaGreatDoorM15
import Derived.Test.YtlgbepamnkfpjaaGreatDoorM16
set_option linter.unusedSimpArgs false
set_option linter.unusedVariables false
set_option linter.unusedVariables false
set_option linter.unusedSimpArgs false
namespace Go.Proofs.YtlgbepamnkfpjaaGreatDoor
open Go.RowKit Go.Lib

def fromB (w : World) (B : Nat) : World := only w fun b => decide (B ≤ b)
theorem fromB_below {w w' : World} {B : Nat} (h : Below w.heap.size w w') : Inc (fromB w B) (fromB w' B) := only_below h
theorem fromB_less {w : World} {B C : Nat} (h : B ≤ C) : Inc (only w fun b => decide (C ≤ b)) (fromB w B) := only_inc fun a v hp hv => ⟨by simp only [decide_eq_true_eq] at hp ⊢; omega, hv⟩
def putSpec (B k3 : Nat) (vs : Bd) (ts ps : List Tm) (V A P : Option Addr) (lv cv la ca lp cp : Nat) (ip : IParts) : Nat → World → Value → Prop
  | 0, _, v => v = .pointer (some ⟨k3, 5, none⟩)
  | 1, _, v => v = .slice V lv cv
  | 2, w, v => ∃ A8 c8, v = .slice A8 vs.length c8 ∧ vs.length ≤ c8 ∧ RowCells (fromB w B) A8 2 vs.length (bval vs)
  | 3, _, v => v = .agg ip.arr
  | 4, _, v => v = .pointer (some ⟨k3, 4, none⟩)
  | 5, _, v => v = .slice A la ca
  | 6, w, v => ∃ A n c, v = .slice A n c ∧ TmsV (fromB w B) ts A n c
  | 7, _, v => v = .agg ip.arr
  | 8, _, v => v = .pointer (some ⟨k3, 6, none⟩)
  | 9, _, v => v = .slice P lp cp
  | 10, w, v => ∃ A n c, v = .slice A n c ∧ TmsV (fromB w B) ps A n c
  | 11, _, v => v = .pointer (some ⟨k3, 5, none⟩)
  | 13, _, v => v = .pointer (some ⟨k3, 4, none⟩)
  | 15, _, v => v = .pointer (some ⟨k3, 6, none⟩)
  | _, _, _ => True
theorem putSpec_keep (B k3 : Nat) (vs : Bd) (ts ps : List Tm) (V A P : Option Addr) (lv cv la ca lp cp : Nat) (ip : IParts) (i : Nat) (w w' : World) (v : Value) (h : putSpec B k3 vs ts ps V A P lv cv la ca lp cp ip i w v) (hb : Below w.heap.size w w') : putSpec B k3 vs ts ps V A P lv cv la ca lp cp ip i w' v := by
  match i, h with
  | 0, h => exact h
  | 1, h => exact h
  | 2, ⟨A8, c8, e, hc, hr⟩ => exact ⟨A8, c8, e, hc, hr.inc (fromB_below hb)⟩
  | 3, h => exact h
  | 4, h => exact h
  | 5, h => exact h
  | 6, ⟨A, n, c, e, h⟩ => exact ⟨A, n, c, e, h.inc (fromB_below hb)⟩
  | 7, h => exact h
  | 8, h => exact h
  | 9, h => exact h
  | 10, ⟨A, n, c, e, h⟩ => exact ⟨A, n, c, e, h.inc (fromB_below hb)⟩
  | 11, h => exact h
  | 12, h => trivial
  | 13, h => exact h
  | 14, h => trivial
  | 15, h => exact h
  | n + 16, h => trivial
theorem put_done {w wf : World} {op sort : Int} {name n : ByteArray} {vs : Bd} {ts ps : List Tm} {A8 A9 A10 : Option Addr} {c8 n9 c9 n10 c10 : Nat} {B : Nat} (hbd : Bds op sort name n ts.length vs ps.length)
    (hc8 : vs.length ≤ c8) (hr8 : RowCells (fromB w B) A8 2 vs.length (bval vs)) (h9 : TmsV (fromB w B) ts A9 n9 c9) (h10 : TmsV (fromB w B) ps A10 n10 c10) (hf : ∀ a v, B ≤ a.block → w.cell? a = some v → wf.cell? a = some v) :
    TmV (only wf fun b => decide (B ≤ b)) (.mk op name sort n ts vs ps) (.agg (Parts.arr ⟨op, name, sort, n, A9, n9, c9, A8, vs.length, c8, A10, n10, c10⟩)) := by
  have hi : Inc (fromB w B) (only wf fun b => decide (B ≤ b)) := only_inc fun a v hp hv => ⟨hp, hf a v (by simpa using hp) hv⟩
  obtain ⟨hl9, hc9, f, hf9, hL9⟩ := h9.inc hi
  obtain ⟨hl10, hc10, g, hg10, hP10⟩ := h10.inc hi
  subst hl9 hl10
  exact .mk f g hbd hc9 hf9 hL9 hc8 (hr8.inc hi) hc10 hg10 hP10
end Go.Proofs.YtlgbepamnkfpjaaGreatDoor
