/- Great and deep terms: plainly. -/
import Derived.Test.YtlgbepamnkfpjaaDoorM29
set_option linter.unusedSimpArgs false
set_option linter.unusedVariables false
namespace Go.Proofs.YtlgbepamnkfpjaaDoor
open Go.RowKit Go.Lib

def wideT (n : Nat) : Tm := .mk 12 ⟨#[]⟩ 0 ⟨#[]⟩ (List.replicate n (exNum 49)) [] []
def negT (t : Tm) : Tm := .mk 14 ⟨#[]⟩ 0 ⟨#[]⟩ [t] [] []
def deepT : Nat → Tm
  | 0 => exNum 49
  | n + 1 => negT (deepT n)
theorem ones_sizes (n : Nat) : tsizes (List.replicate n (exNum 49)) = n ∧ tws (List.replicate n (exNum 49)) = n ∧ shortTs (List.replicate n (exNum 49)) = true ∧ tdepths (List.replicate n (exNum 49)) ≤ 1 := by
  induction n with
  | zero => exact ⟨rfl, rfl, rfl, Nat.zero_le _⟩
  | succ n ih =>
    obtain ⟨h1, h2, h3, h4⟩ := ih
    have e1 : tsize (exNum 49) = 1 := rfl
    have e2 : tw (exNum 49) = 1 := rfl
    have e3 : shortT (exNum 49) = true := by kernel_rfl
    have e4 : tdepth (exNum 49) = 1 := rfl
    simp only [List.replicate_succ, tsizes, tws, shortTs, tdepths]
    rw [h1, h2, h3, e1, e2, e3, e4]
    exact ⟨by omega, by omega, rfl, by omega⟩
theorem ones_check (n : Nat) : checksS [] (List.replicate n (exNum 49)) [] = (List.replicate n 1, 0) := by
  induction n with
  | zero => rfl
  | succ n ih =>
    have e : checkS [] (exNum 49) [] = (1, 0) := by kernel_rfl
    simp only [List.replicate_succ, checksS]
    rw [e, ih]
    simp
theorem wide_facts (n : Nat) : tsize (wideT n) = n + 1 ∧ tw (wideT n) = n + 1 ∧ shortT (wideT n) = true ∧ tdepth (wideT n) ≤ 2 := by
  obtain ⟨h1, h2, h3, h4⟩ := ones_sizes n
  have e0 : decide ((⟨#[]⟩ : ByteArray).size ≤ 1000000) = true := by decide
  simp only [wideT, tsize, tw, shortT, tdepth, tws, shortTs]
  rw [h1, h2, h3, e0]
  exact ⟨by omega, by simp; omega, rfl, by omega⟩
theorem wide_check (n : Nat) : checkS [] (wideT n) [] = (1, 0) := by
  unfold wideT
  unfold checkS
  have hs : shapeB (.mk 12 ⟨#[]⟩ 0 ⟨#[]⟩ (List.replicate n (exNum 49)) [] []) = true := by simp [shapeB]
  have hn : nodeS [] 12 ⟨#[]⟩ 0 (List.replicate n 1) = (1, 0) := by simp [nodeS, fixedS]
  rw [hs]
  simp [ofE, ones_check, hn]
theorem wide_top (n : Nat) : checkTop [] (wideT n) = if 50000 < n + 1 then (0, 34) else (1, 0) := by
  obtain ⟨h1, _, _, h4⟩ := wide_facts n
  unfold checkTop
  rw [h1, wide_check, if_neg (by omega)]
theorem deep_facts (n : Nat) : tsize (deepT n) = n + 1 ∧ tw (deepT n) = n + 1 ∧ shortT (deepT n) = true ∧ tdepth (deepT n) = n + 1 ∧ checkS [] (deepT n) [] = (1, 0) := by
  induction n with
  | zero => exact ⟨rfl, rfl, by kernel_rfl, rfl, by kernel_rfl⟩
  | succ n ih =>
    obtain ⟨h1, h2, h3, h4, h5⟩ := ih
    have e0 : decide ((⟨#[]⟩ : ByteArray).size ≤ 1000000) = true := by decide
    refine ⟨by simp only [deepT, negT, tsize, tsizes, h1]; omega, by simp only [deepT, negT, tw, tws, h2]; simp; omega, by simp only [deepT, negT, shortT, shortTs, h3, e0]; rfl, by simp only [deepT, negT, tdepth, tdepths, h4]; omega, ?_⟩
    unfold deepT negT checkS
    have hs : shapeB (.mk 14 ⟨#[]⟩ 0 ⟨#[]⟩ [deepT n] [] []) = true := by simp [shapeB]
    have hn : nodeS [] 14 ⟨#[]⟩ 0 [1] = (1, 0) := by simp [nodeS, fixedS]
    rw [hs]
    simp [ofE, checksS, h5, hn]
theorem deep_top (n : Nat) (hn : n ≤ 1000) : checkTop [] (deepT n) = if 200 < n + 1 then (0, 33) else (1, 0) := by
  obtain ⟨h1, _, _, h4, h5⟩ := deep_facts n
  unfold checkTop
  rw [h1, h4, h5]
  by_cases h : 200 < n + 1
  · rw [if_pos h, if_pos h]
  · rw [if_neg h, if_neg h, if_neg (by omega)]
theorem neg_put (t : Tm) : tput [(⟨#[120]⟩, 1)] [t] (negT exX) = negT t := by kernel_rfl
theorem wide_inst (n : Nat) : (instTop [(⟨#[120]⟩, 1)] [wideT n] (negT exX)).2 = if 50000 < n + 2 then 34 else 0 := by
  obtain ⟨h1, _, _, h4⟩ := wide_facts n
  unfold instTop
  rw [neg_put]
  have e1 : tsize (negT (wideT n)) = n + 2 := by simp only [negT, tsize, tsizes, h1]; omega
  have e2 : tdepth (negT (wideT n)) ≤ 3 := by simp only [negT, tdepth, tdepths]; omega
  rw [e1]
  by_cases h : 50000 < n + 2
  · rw [if_pos h, if_pos h]
  · rw [if_neg h, if_neg h, if_neg (by omega)]
theorem deep_inst (n : Nat) (hn : n ≤ 1000) : (instTop [(⟨#[120]⟩, 1)] [deepT n] (negT exX)).2 = if 200 < n + 2 then 33 else 0 := by
  obtain ⟨h1, _, _, h4, _⟩ := deep_facts n
  unfold instTop
  rw [neg_put]
  have e1 : tsize (negT (deepT n)) = n + 2 := by simp only [negT, tsize, tsizes, h1]; omega
  have e2 : tdepth (negT (deepT n)) = n + 2 := by simp only [negT, tdepth, tdepths, h4]; omega
  rw [e1, e2, if_neg (by omega)]
  by_cases h : 200 < n + 2
  · rw [if_pos h, if_pos h]
  · rw [if_neg h, if_neg h]
def negAll : Tm := .mk 19 ⟨#[]⟩ 0 ⟨#[]⟩ [negT exX] [(⟨#[120]⟩, 1)] [exFx]
end Go.Proofs.YtlgbepamnkfpjaaDoor

/- Great terms in memory: a row that is filled place by place. -/
namespace Go.Proofs.YtlgbepamnkfpjaaDoor
open Go.RowKit Go.Lib

def oneP : Parts := numP ⟨#[49]⟩
/-- A block of n terms, the first k of them the number 1. -/
def WideAt (w : World) (g n k : Nat) : Prop := ∃ cur : Array Value, w.heap[g]? = some (.cells cur 27 (0, 0)) ∧ cur.size = n * 7 ∧ ∀ j c, j < k → c < 7 → cur[j * 7 + c]? = oneP.arr[c]?
theorem WideAt.kept {w w' : World} {g n k : Nat} (h : WideAt w g n k) (hb : w'.heap[g]? = w.heap[g]?) : WideAt w' g n k := by
  obtain ⟨cur, h1, h2, h3⟩ := h
  exact ⟨cur, hb.trans h1, h2, h3⟩
theorem WideAt.cell {w : World} {g n k j c : Nat} (h : WideAt w g n k) (hj : j < n) (hc : c < 7) : ∃ x, w.cell? ⟨g, j * 7 + c, none⟩ = some x := by
  obtain ⟨cur, h1, h2, _⟩ := h
  have hlt : j * 7 + c < cur.size := by rw [h2]; omega
  exact ⟨cur[j * 7 + c], by rw [cell_of_row _ g _ cur 27 (0, 0) h1]; exact Array.getElem?_eq_getElem hlt⟩
theorem WideAt.frozen {w : World} {g n k : Nat} (h : WideAt w g n k) (i : Nat) : w.frozen? ⟨g, i, none⟩ = false := by
  obtain ⟨cur, h1, _⟩ := h
  simp [World.frozen?, h1]
theorem WideAt.set {w : World} {g n k : Nat} (h : WideAt w g n k) (hk : k < n) : WideAt (setL w g (k * 7) oneP) g n (k + 1) := by
  obtain ⟨cur, h1, h2, h3⟩ := h
  refine ⟨((((((cur.setIfInBounds (k * 7) (.int .i64 oneP.op)).setIfInBounds (k * 7 + 1) (.string oneP.name)).setIfInBounds (k * 7 + 2) (.int .i64 oneP.sort)).setIfInBounds (k * 7 + 3) (.string oneP.n)).setIfInBounds (k * 7 + 4) (.slice oneP.A oneP.la oneP.ca)).setIfInBounds (k * 7 + 5) (.slice oneP.V oneP.lv oneP.cv)).setIfInBounds (k * 7 + 6) (.slice oneP.P oneP.lp oneP.cp), ?_, by simpa using h2, fun j c hj hc => ?_⟩
  · simp [setL, World.setCell, Array.getElem?_modify, h1]
  · have hlt : k * 7 + 6 < cur.size := by rw [h2]; omega
    by_cases hjk : j = k
    · subst hjk
      have e : c = 0 ∨ c = 1 ∨ c = 2 ∨ c = 3 ∨ c = 4 ∨ c = 5 ∨ c = 6 := by omega
      rcases e with rfl | rfl | rfl | rfl | rfl | rfl | rfl <;> simp [Array.getElem?_setIfInBounds, Parts.arr] <;> omega
    · have hlt2 : j * 7 + c < k * 7 := by omega
      rw [← h3 j c (by omega) hc]
      rw [Array.getElem?_setIfInBounds_ne (by omega), Array.getElem?_setIfInBounds_ne (by omega), Array.getElem?_setIfInBounds_ne (by omega), Array.getElem?_setIfInBounds_ne (by omega), Array.getElem?_setIfInBounds_ne (by omega), Array.getElem?_setIfInBounds_ne (by omega), Array.getElem?_setIfInBounds_ne (by omega)]
theorem oneP_tm (w : World) : TmV w (exNum 49) (.agg oneP.arr) := TmV.make ⟨⟨by decide, by decide⟩, ⟨by decide, by decide⟩, by decide, by decide, by decide, by decide, by decide, by simp⟩ (TsV.nil w) (BsV.nil w) (TsV.nil w)
theorem WideAt.done {w : World} {g n : Nat} (h : WideAt w g n n) (hn : n ≤ 1000000) : TmV w (wideT n) (.agg (Parts.arr ⟨12, ⟨#[]⟩, 0, ⟨#[]⟩, some ⟨g, 0, none⟩, n, n, none, 0, 0, none, 0, 0⟩)) := by
  obtain ⟨cur, h1, h2, h3⟩ := h
  have hl : (List.replicate n (exNum 49)).length = n := List.length_replicate
  refine TmV.make ⟨⟨by decide, by decide⟩, ⟨by decide, by decide⟩, by decide, by decide, by rw [hl]; omega, by decide, by decide, by simp⟩ ⟨_, _, by rw [hl], by rw [hl]; exact Nat.le_refl _, fun _ => .agg oneP.arr, .inr ⟨g, 0, rfl, fun j hj => ⟨rfl, fun i hi => ?_⟩⟩, fun j t ht => ?_⟩ (BsV.nil w) (TsV.nil w)
  · rw [hl] at hj
    rw [cell_of_row _ g _ cur 27 (0, 0) h1, Nat.zero_add, h3 j i hj hi]
    rfl
  · have : t = exNum 49 := by
      have := List.mem_of_getElem? ht
      exact (List.mem_replicate.1 this).2
    rw [this]
    exact oneP_tm w
/-- Terms that are negated again and again, beside the block that names them. -/
def DeepAt (w : World) (k d : Nat) (p : Parts) : Prop := w.heap[k]? = some (.cells p.arr 27 (0, 0)) ∧ TmV (only w fun b => !(b == k)) (deepT d) (.agg p.arr)
theorem DeepAt.tm {w : World} {k d : Nat} {p : Parts} (h : DeepAt w k d p) : TmV w (deepT d) (.agg p.arr) := h.2.inc (inc_only _ _)
def negP (w : World) : Parts := ⟨14, ⟨#[]⟩, 0, ⟨#[]⟩, some ⟨w.heap.size, 0, none⟩, 1, 1, none, 0, 0, none, 0, 0⟩
theorem DeepAt.next {w : World} {k d : Nat} {p : Parts} (h : DeepAt w k d p) : DeepAt ((setT w k (negP w)).alloc (.cells p.arr 27)) k (d + 1) (negP w) := by
  have hk : k < w.heap.size := (Array.getElem?_eq_some_iff.1 h.1).1
  have hsz : (setT w k (negP w)).heap.size = w.heap.size := setT_size _ _ _
  have hnew : ((setT w k (negP w)).alloc (.cells p.arr 27)).heap[w.heap.size]? = some (.cells p.arr 27 (0, 0)) := by
    have := heap_alloc_new (setT w k (negP w)) (.cells p.arr 27)
    rwa [hsz] at this
  refine ⟨(Below.heap_alloc (setT w k (negP w)) _ _ (by omega)).trans (setT_row h.1), ?_⟩
  have hinc : Inc (only w fun b => !(b == k)) (only ((setT w k (negP w)).alloc (.cells p.arr 27)) fun b => !(b == k)) := only_inc fun a v hp hv => ⟨hp, by
    have hne : a.block ≠ k := by simpa using hp
    have h2 : (setT w k (negP w)).cell? a = some v := (setT_cell_ne hne).trans hv
    exact cell_of_below ((Below.refl _ _).alloc (Nat.le_refl _) _) (Nat.le_refl _) h2⟩
  have ht := h.2.inc hinc
  refine TmV.make ⟨⟨by decide, by decide⟩, ⟨by decide, by decide⟩, by decide, by decide, by simp, by decide, by decide, by simp⟩ ⟨_, _, rfl, Nat.le_refl _, fun _ => .agg p.arr, .inr ⟨_, _, rfl, fun j hj => ⟨rfl, fun i hi => ?_⟩⟩, fun j t hj => ?_⟩ (BsV.nil _) (TsV.nil _)
  · have hj0 : j = 0 := by simp at hj; exact hj
    subst hj0
    rw [only_cell, if_pos (by simp; omega), cell_of_row _ w.heap.size _ p.arr 27 (0, 0) hnew]
    simp [Value.cells]
  · cases j with
    | zero => simp at hj; subst hj; exact ht
    | succ j => simp at hj
end Go.Proofs.YtlgbepamnkfpjaaDoor
