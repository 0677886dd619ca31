/- Clone; put. -/
import Derived.Test.YtlgbepamnkfpjaaGreatDoorM14
import Derived.Lib.SliceRun
set_option linter.unusedSimpArgs false
set_option linter.unusedVariables false
set_option linter.unusedVariables false
set_option linter.unusedSimpArgs false
namespace Go.Proofs.YtlgbepamnkfpjaaGreatDoor
open Go.RowKit Go.Lib

def CloneIs (w : World) (vars : Bd) (e : Ending) (w' : World) : Prop := ∃ A c, e = .returned (.slice A vars.length c) ∧ vars.length ≤ c ∧ RowCells (only w' fun b => decide (w.heap.size ≤ b)) A 2 vars.length (bval vars) ∧ Below w.heap.size w w'
theorem flat_cellsOf (vars : Bd) : flat vars = cellsOf (vars.map fun v => .agg #[.string v.1, .int .i64 v.2]) := by
  induction vars with
  | nil => rfl
  | cons v vars ih =>
    simp only [flat, cellsOf, List.flatMap_cons, List.map_cons] at ih ⊢
    rw [ih]
    rfl
theorem ownsRow_bval {w : World} {base : Nat} {A : Option Addr} {c : Nat} {vars : Bd} (h : w.ownsRow base 41 2 (.slice A vars.length c) vars.length (flat vars)) : RowCells w A 2 vars.length (bval vars) ∧ vars.length ≤ c ∧ (∀ b o, A = some ⟨b, o, none⟩ → base ≤ b) := by
  rw [flat_cellsOf] at h
  obtain ⟨h1, h2, h3⟩ := ownsRow_cells h (by
    intro u hu
    obtain ⟨v, _, rfl⟩ := List.mem_map.1 hu
    rfl) (by simp) (by decide)
  refine ⟨?_, h2, h3⟩
  rcases h1 with h1 | ⟨b, o, hA, h1⟩
  · exact .inl h1
  · refine .inr ⟨b, o, hA, fun j hj => ?_⟩
    have e : bval vars j = (vars.map fun v => Value.agg #[.string v.1, .int .i64 v.2]).getD j .nilFunc := by
      unfold bval
      simp [hj]
    rw [e]
    exact h1 j hj
theorem RowCells.only {w : World} {A : Option Addr} {k n : Nat} {f : Nat → Value} {p : Nat → Bool} (h : RowCells w A k n f) (hp : ∀ b o, A = some ⟨b, o, none⟩ → p b = true) : RowCells (only w p) A k n f := by
  rcases h with h | ⟨b, o, hA, h⟩
  · exact .inl h
  · refine .inr ⟨b, o, hA, fun j hj => ⟨(h j hj).1, fun i hi => ?_⟩⟩
    rw [only_cell, if_pos (hp b o hA)]
    exact (h j hj).2 i hi
theorem own_shape {w : World} {base : Nat} {e : TypeId} {s n : Nat} {v : Value} {xs : List Value} (h : w.ownsRow base e s v n xs) : ∃ A c, v = .slice A n c := by
  rcases h.2 with ⟨h1, h2⟩ | ⟨g, cap, cur, h1, _⟩
  · exact ⟨none, 0, by rw [h1, h2]⟩
  · exact ⟨_, _, h1⟩
set_option maxRecDepth 100000 in
set_option maxHeartbeats 1000000 in
theorem clone_any {w : World} {V : Option Addr} {c : Nat} {vars : Bd} (hv : RowCells w V 2 vars.length (bval vars)) (hlen : vars.length ≤ 1000000) : Calls Tryz.prog 61 #[.slice V vars.length c] w (CloneIs w vars) := by
  have qT : ∀ (w : World) (a : Option Addr) (n c n' c' : Nat), (binOp .eql 24 (.slice a n c) (.slice none n' c')).run Tryz.prog w = .ok (.bool a.isNone) w := fun w a n c n' c' => Lib.run_eql_slice_nil w _ _ a n c n' c' Tryz.underlying24
  cases V with
  | none =>
    have h0 : vars = [] := by
      rcases hv with h | ⟨b, o, h, _⟩
      · exact List.eq_nil_of_length_eq_zero h
      · cases h
    subst h0
    go_enter Tryz.func61, Tryz.ntmps61
    go_wp2_with fail
    go_ret
    exact ⟨none, 0, rfl, Nat.le_refl _, .inl rfl, Below.refl _ _⟩
  | some a =>
    obtain ⟨i33, hi33, hz0, hz1, hz2⟩ := info_parts info33
    have Hflat : Hid (∀ j u, (flat vars)[j]? = some u → (w.alloc (.cells #[] 41)).cell? (a.add j) = some u) := Lib.hid (fun j u hj => by
      rcases hv with h | ⟨b, o, hA, h⟩
      · have : vars = [] := List.eq_nil_of_length_eq_zero h
        subst this
        simp [flat] at hj
      · cases hA
        rw [Addr.add_lit]
        exact cell_of_below ((Below.refl _ _).alloc (Nat.le_refl _) _) (Nat.le_refl _) (RowCells.flat (.inr ⟨b, o, rfl, h⟩) j u hj))
    have Hone : Hid (∀ u ∈ flat vars, u.oneCell' = true) := Lib.hid (fun u hu => by
      unfold flat at hu
      obtain ⟨v, _, hv⟩ := List.mem_flatMap.1 hu
      simp only [List.mem_cons, List.not_mem_nil, or_false] at hv
      rcases hv with rfl | rfl <;> rfl)
    have Hown : Hid ((w.alloc (.cells #[] 41)).ownsRow w.heap.size 41 2 (.slice (some ⟨w.heap.size, 0, none⟩) 0 0) 0 []) := Lib.hid ⟨rfl, .inr ⟨w.heap.size, 0, #[], rfl, Nat.le_refl _, heap_alloc_new _ _, Nat.le_refl _, by simp [maxLen], rfl, rfl⟩⟩
    have Hfl := Lib.hid (flat_length vars)
    clear hv
    go_enter Tryz.func61, Tryz.ntmps61
    go_wp2_with (at_builtin; refine wpList_append_own _ rfl (.tmp 5) (.tmp 6) 24 rfl w.heap.size 41 i33 _ 2 24 Tryz.underlying24 hi33 hz0 hz1 hz2 rfl (by decide) (.slice (some ⟨w.heap.size, 0, none⟩) 0 0) 0 [] rfl Hown.out a vars.length c (flat vars) rfl Hfl.out Hflat.out Hone.out (by simp only [maxLen]; omega) (by omega) (by simp) ?_; intro v' w1 hown' hgrow hnil; simp only [Nat.zero_add, List.nil_append] at hown'; obtain ⟨A', c', e'⟩ := own_shape hown'; subst e'; have hq' := Lib.hid hown'; have Hg := Lib.hid hgrow; clear hown' hgrow hnil)
    go_ret
    obtain ⟨k1, k2, k3⟩ := ownsRow_bval hq'.out
    exact ⟨A', c', rfl, k2, k1.only (fun b o e => by simpa using k3 b o e), ((Below.refl w.heap.size w).alloc (Nat.le_refl _) _).grown Hg.out (by simp) (fun j hj => by cases hj; exact Nat.le_refl _)⟩
end Go.Proofs.YtlgbepamnkfpjaaGreatDoor

/- put: writes into boxes of the call's own. -/
set_option linter.unusedVariables false
set_option linter.unusedSimpArgs false
namespace Go.Proofs.YtlgbepamnkfpjaaGreatDoor
open Go.RowKit Go.Lib

theorem setT_cell {w : World} {k : Nat} {p : Parts} {a : Addr} (h : a.block ≠ k) : (setT w k p).cell? a = w.cell? a := by
  refine World.cell?_of_block (w := w) ?_
  unfold setT
  iterate 7 rw [Below.heap_setCell _ _ _ _ (by simpa using h)]
/-- Three of a term's cells anew. -/
def set3 (w : World) (k : Nat) (x y z : Value) : World := ((w.setCell ⟨k, 5, none⟩ x).setCell ⟨k, 4, none⟩ y).setCell ⟨k, 6, none⟩ z
theorem set3_cell {w : World} {k : Nat} {x y z : Value} {a : Addr} (h : a.block ≠ k) : (set3 w k x y z).cell? a = w.cell? a := by
  refine World.cell?_of_block (w := w) ?_
  unfold set3
  iterate 3 rw [Below.heap_setCell _ _ _ _ (by simpa using h)]
theorem set3_below {B : Nat} {a w : World} {k : Nat} (h : Below B a w) (hk : B ≤ k) (x y z : Value) : Below B a (set3 w k x y z) :=
  ((h.setCell (p := ⟨k, 5, none⟩) hk _).setCell (p := ⟨k, 4, none⟩) hk _).setCell (p := ⟨k, 6, none⟩) hk _
theorem inc_setT {w : World} {p q : Nat → Bool} {k : Nat} {pp : Parts} (h : ∀ b, p b = true → q b = true ∧ b ≠ k) : Inc (only w p) (only (setT w k pp) q) :=
  only_inc fun a v hp hv => ⟨(h _ hp).1, by rw [setT_cell (h _ hp).2]; exact hv⟩
theorem inc_set3 {w : World} {p q : Nat → Bool} {k : Nat} {x y z : Value} (h : ∀ b, p b = true → q b = true ∧ b ≠ k) : Inc (only w p) (only (set3 w k x y z) q) :=
  only_inc fun a v hp hv => ⟨(h _ hp).1, by rw [set3_cell (h _ hp).2]; exact hv⟩
theorem below_size {B : Nat} {w w' : World} (h : Below B w w') {n : Nat} (hn : n ≤ w.heap.size) : n ≤ w'.heap.size := Nat.le_trans hn h.size
/-- A variable that is replaced: by a copy. -/
def CopyOK (w0 : World) (vars : Bd) (l : List Tm) (t : Tm) : Prop :=
  ∀ (wi : World), ∀ x y, instOf vars l x = some y → ∀ (pp : Parts) (W : World), TmV wi y (.agg pp.arr) → Below wi.heap.size wi W → Calls Tryz.prog 29 #[.agg pp.arr] W (PutIs W y)
set_option maxRecDepth 100000 in
set_option maxHeartbeats 2000000 in
theorem put_var {w0 : World} {vars : Bd} {l : List Tm} {ip : IParts} (hi : InsV w0 vars l ip) {p : Parts} {y : Tm} (h18 : p.op = 18) (hy : instOf vars l p.name = some y) (hcp : ∀ (pp : Parts) (W : World), TmV w0 y (.agg pp.arr) → Below w0.heap.size w0 W → Calls Tryz.prog 29 #[.agg pp.arr] W (PutIs W y)) (w : World) (hb : Below w0.heap.size w0 w) :
    Calls Tryz.prog 35 #[.agg ip.arr, .agg p.arr] w (PutIs w y) := by
  obtain ⟨W1, hW1⟩ : ∃ W1, W1 = ((w.alloc (.cells ip.arr 64)).alloc (.cells p.arr 26)).alloc (.cells #[.int .i64 0, .string ⟨#[]⟩, .int .i64 0, .string ⟨#[]⟩, .slice none 0 0, .slice none 0 0, .slice none 0 0] 26) := ⟨_, rfl⟩
  have HB : Hid (Below w.heap.size w W1) := Lib.hid (by rw [hW1]; exact (((Below.refl _ _).alloc (Nat.le_refl _) _).alloc (by simp) _).alloc (by simp; omega) _)
  have HZ : Hid (W1.heap[w.heap.size + 1 + 1]? = some (.cells zeroP.arr 26 (0, 0))) := Lib.hid (by
    rw [hW1]
    have e : ((w.alloc (.cells ip.arr 64)).alloc (.cells p.arr 26)).heap.size = w.heap.size + 1 + 1 := by simp
    have h : (((w.alloc (.cells ip.arr 64)).alloc (.cells p.arr 26)).alloc (.cells #[.int .i64 0, .string ⟨#[]⟩, .int .i64 0, .string ⟨#[]⟩, .slice none 0 0, .slice none 0 0, .slice none 0 0] 26)).heap[((w.alloc (.cells ip.arr 64)).alloc (.cells p.arr 26)).heap.size]? = some (.cells zeroP.arr 26 (0, 0)) := heap_alloc_new ((w.alloc (.cells ip.arr 64)).alloc (.cells p.arr 26)) _
    rw [e] at h
    exact h)
  have Hof : Hid (Calls Tryz.prog 58 #[.agg ip.arr, .string p.name] W1 (OfName w0 W1 (some y))) := Lib.hid (by
    rw [← hy]
    exact instOf_any hi (hb.trans (HB.out.mono hb.size)) p.name)
  have Hcp := Lib.hid hcp
  have Hb := Lib.hid hb
  obtain ⟨V, nv, cv, L, nl, cl⟩ := ip
  obtain ⟨op, nm, so, n, A, la, ca, V2, lv, cvv, P, lp, cp⟩ := p
  dsimp only at h18
  subst h18
  clear hi hy hb hcp
  simp only [IParts.arr, Parts.arr] at Hof hW1 ⊢
  have HW1 := Lib.hid hW1
  clear hW1
  go_enter Tryz.func35, Tryz.ntmps35
  go_wp2_with (first
    | (go_at_call 58; rw [← HW1.out]; refine Calls.mono Hof.out ?_; rintro e w5 ⟨⟨op5, nm5, so5, n5, A5, la5, ca5, V5, lv5, cv5, P5, lp5, cp5⟩, rfl, hb5, ht5⟩; unfold Parts.arr; dsimp only [Option.isSome]; have Ht5 := Lib.hid (ht5 y rfl); have H5 : Hid (Below w.heap.size w (w5.alloc (.cells (Parts.arr ⟨op5, nm5, so5, n5, A5, la5, ca5, V5, lv5, cv5, P5, lp5, cp5⟩) 26))) := Lib.hid ((HB.out.trans (hb5.mono HB.out.size)).alloc (HB.out.trans (hb5.mono HB.out.size)).size _); have HZ5 : Hid ((w5.alloc (.cells (Parts.arr ⟨op5, nm5, so5, n5, A5, la5, ca5, V5, lv5, cv5, P5, lp5, cp5⟩) 26)).heap[w.heap.size + 1 + 1]? = some (.cells zeroP.arr 26 (0, 0))) := Lib.hid (below_keeps (hb5.alloc hb5.size _) HZ.out); clear hb5 ht5)
    | (go_at_call 29; refine Calls.mono (Hcp.out ⟨op5, nm5, so5, n5, A5, la5, ca5, V5, lv5, cv5, P5, lp5, cp5⟩ _ Ht5.out (Hb.out.trans (H5.out.mono Hb.out.size))) ?_; rintro e w6 ⟨⟨op6, nm6, so6, n6, A6, la6, ca6, V6, lv6, cv6, P6, lp6, cp6⟩, rfl, ht6, hb6⟩; unfold Parts.arr; dsimp only; have Ht6 := Lib.hid ht6; have Hb6 := Lib.hid hb6; have HZ6 : Hid (w6.heap[w.heap.size + 1 + 1]? = some (.cells zeroP.arr 26 (0, 0))) := Lib.hid (below_keeps hb6 HZ5.out); obtain ⟨z0, z1, z2, z3, z4, z5, z6⟩ := box_cells HZ6.out; have z7 : ∀ i, w6.frozen? ⟨w.heap.size + 1 + 1, i, none⟩ = false := (fun i => by simp [World.frozen?, HZ6.out]); clear ht6 hb6))
  have hlt := (Array.getElem?_eq_some_iff.1 HZ5.out).1
  refine bodyPost_ret (results_cell_row rfl _ _ (w.heap.size + 1 + 1) 26 (Parts.arr ⟨op6, nm6, so6, n6, A6, la6, ca6, V6, lv6, cv6, P6, lp6, cp6⟩) (0, 0) _ rfl (setT_row (p := ⟨op6, nm6, so6, n6, A6, la6, ca6, V6, lv6, cv6, P6, lp6, cp6⟩) HZ6.out) Tryz.underlying26 rfl size27) rfl ?_
  refine ⟨⟨op6, nm6, so6, n6, A6, la6, ca6, V6, lv6, cv6, P6, lp6, cp6⟩, rfl, Ht6.out.inc (inc_setT (k := w.heap.size + 1 + 1) (pp := ⟨op6, nm6, so6, n6, A6, la6, ca6, V6, lv6, cv6, P6, lp6, cp6⟩) fun b hb => ?_), setT_below (k := w.heap.size + 1 + 1) (H5.out.trans (Hb6.out.mono H5.out.size)) (by omega) ⟨op6, nm6, so6, n6, A6, la6, ca6, V6, lv6, cv6, P6, lp6, cp6⟩⟩
  simp only [decide_eq_true_eq] at hb ⊢
  have := H5.out.size
  simp only [World.size_alloc] at hb hlt
  omega
end Go.Proofs.YtlgbepamnkfpjaaGreatDoor

/- put: one step. -/
set_option linter.unusedVariables false
set_option linter.unusedSimpArgs false
namespace Go.Proofs.YtlgbepamnkfpjaaGreatDoor
open Go.RowKit Go.Lib

theorem set3_other {w : World} {k j : Nat} (x y z : Value) (h : j ≠ k) : (set3 w k x y z).heap[j]? = w.heap[j]? := by
  unfold set3
  iterate 3 rw [Below.heap_setCell _ _ _ _ (by simpa using h)]
theorem set3_size (w : World) (k : Nat) (x y z : Value) : (set3 w k x y z).heap.size = w.heap.size := by
  simp [set3, World.setCell]
theorem setT_size (w : World) (k : Nat) (p : Parts) : (setT w k p).heap.size = w.heap.size := by
  simp [setT, World.setCell]
theorem cell_set_ne {w : World} {a b : Addr} {x : Value} (h : a.block ≠ b.block) : (w.setCell b x).cell? a = w.cell? a :=
  World.cell?_of_block (w := w) (Below.heap_setCell w b x a.block (Ne.symm h |> fun h e => h e.symm))
theorem RowCells.nil {w : World} {k : Nat} {A : Option Addr} {f : Nat → Value} : RowCells w A k 0 f := .inl rfl
/-- A term made of what was put, in the last world. -/
theorem put_made {W7 w8 w9 w10 wf : World} {op sort : Int} {name n : ByteArray} {vs : Bd} {ts ps : List Tm} {A8 A9 A10 : Option Addr} {c8 n9 c9 n10 c10 : Nat} {B : Nat} (hbd : Bds op sort name n ts.length vs ps.length) (hB7 : B ≤ W7.heap.size)
    (hc8 : vs.length ≤ c8) (hr8 : RowCells (only w8 fun b => decide (W7.heap.size ≤ b)) A8 2 vs.length (bval vs)) (hb8 : Below W7.heap.size W7 w8)
    (h9 : TmsV (only w9 fun b => decide (w8.heap.size ≤ b)) ts A9 n9 c9) (hb9 : Below w8.heap.size w8 w9)
    (h10 : TmsV (only w10 fun b => decide (w9.heap.size ≤ b)) ps A10 n10 c10) (hb10 : Below w9.heap.size w9 w10)
    (hf : ∀ a v, W7.heap.size ≤ a.block → w10.cell? a = some v → wf.cell? a = some v) :
    TmV (only wf fun b => decide (B ≤ b)) (.mk op name sort n ts vs ps) (.agg (Parts.arr ⟨op, name, sort, n, A9, n9, c9, A8, vs.length, c8, A10, n10, c10⟩)) := by
  have s8 := hb8.size
  have s9 := hb9.size
  have i10 : ∀ q : Nat → Bool, (∀ b, q b = true → W7.heap.size ≤ b) → Inc (only w10 q) (only wf fun b => decide (B ≤ b)) := fun q hq => only_inc fun a v hp hv => ⟨by have := hq _ hp; simp; omega, hf a v (hq _ hp) hv⟩
  obtain ⟨hl9, hc9, f, hf9, hL9⟩ := h9
  obtain ⟨hl10, hc10, g, hg10, hP10⟩ := h10
  subst hl9 hl10
  have j9 : Inc (only w9 fun b => decide (w8.heap.size ≤ b)) (only wf fun b => decide (B ≤ b)) := fun a v hv => i10 (fun b => decide (w8.heap.size ≤ b)) (fun b hb => by simp only [decide_eq_true_eq] at hb; omega) a v (only_below hb10 a v hv)
  have j10 := i10 (fun b => decide (w9.heap.size ≤ b)) (fun b hb => by simp only [decide_eq_true_eq] at hb; omega)
  have j8 : Inc (only w8 fun b => decide (W7.heap.size ≤ b)) (only wf fun b => decide (B ≤ b)) := fun a v hv => i10 (fun b => decide (W7.heap.size ≤ b)) (fun b hb => by simpa using hb) a v (only_below hb10 a v (only_below hb9 a v hv))
  exact .mk f g hbd hc9 (hf9.inc j9) (fun j t hj => (hL9 j t hj).inc j9) hc8 (hr8.inc j8) hc10 (hg10.inc j10) (fun j t hj => (hP10 j t hj).inc j10)
/-- What the region leaves: the box of the term with its new lists, and the result's. -/
def Done3 (w : World) (k : Nat) (op sort : Int) (name n : ByteArray) (ts : List Tm) (vs : Bd) (ps : List Tm) (wx : World) : Prop :=
  ∃ (A8 : Option Addr) (c8 : Nat) (A9 : Option Addr) (n9 c9 : Nat) (A10 : Option Addr) (n10 c10 m : Nat), k + 1 < m ∧ wx.heap[k]? = some (.cells (Parts.arr ⟨op, name, sort, n, A9, n9, c9, A8, vs.length, c8, A10, n10, c10⟩) 26 (0, 0)) ∧
    wx.heap[k + 1]? = some (.cells zeroP.arr 26 (0, 0)) ∧ Below w.heap.size w wx ∧ TmV (only wx fun b => decide (m ≤ b)) (.mk op name sort n ts vs ps) (.agg (Parts.arr ⟨op, name, sort, n, A9, n9, c9, A8, vs.length, c8, A10, n10, c10⟩))
theorem set3_row {w : World} {k : Nat} {op sort : Int} {name n : ByteArray} {A V P : Option Addr} {la ca lv cv lp cp : Nat} (h : w.heap[k]? = some (.cells (Parts.arr ⟨op, name, sort, n, A, la, ca, V, lv, cv, P, lp, cp⟩) 26 (0, 0))) (A8 : Option Addr) (n8 c8 : Nat) (A9 : Option Addr) (n9 c9 : Nat) (A10 : Option Addr) (n10 c10 : Nat) :
    (set3 w k (.slice A8 n8 c8) (.slice A9 n9 c9) (.slice A10 n10 c10)).heap[k]? = some (.cells (Parts.arr ⟨op, name, sort, n, A9, n9, c9, A8, n8, c8, A10, n10, c10⟩) 26 (0, 0)) := by
  simp [set3, World.setCell, Array.getElem?_modify, h, Parts.arr]
end Go.Proofs.YtlgbepamnkfpjaaGreatDoor
