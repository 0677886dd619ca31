/- Terms that are made; terms beside a block that is empty yet. -/
import Derived.Test.YtlgbepamnkfpjaaGreatDoorM27
set_option linter.unusedSimpArgs false
set_option linter.unusedVariables false
set_option linter.unusedVariables false
set_option linter.unusedSimpArgs false
namespace Go.Proofs.YtlgbepamnkfpjaaGreatDoor
open Go.RowKit Go.Lib

def TsV (w : World) (l : List Tm) (v : Value) : Prop := ∃ A c, v = .slice A l.length c ∧ l.length ≤ c ∧ ∃ f, RowCells w A 7 l.length f ∧ ∀ (j : Nat) (t : Tm), l[j]? = some t → TmV w t (f j)
def BsV (w : World) (vars : Bd) (v : Value) : Prop := ∃ A c, v = .slice A vars.length c ∧ vars.length ≤ c ∧ RowCells w A 2 vars.length fun j => match vars[j]? with | some (s, k) => .agg #[.string s, .int .i64 k] | none => .nilFunc
theorem TsV.mono {w w' : World} {l : List Tm} {v : Value} (h : TsV w l v) (hb : Below w.heap.size w w') : TsV w' l v := by
  obtain ⟨A, c, e, hc, f, hf, hL⟩ := h
  exact ⟨A, c, e, hc, f, hf.below hb, fun j t ht => (hL j t ht).mono hb⟩
theorem BsV.mono {w w' : World} {l : Bd} {v : Value} (h : BsV w l v) (hb : Below w.heap.size w w') : BsV w' l v := by
  obtain ⟨A, c, e, hc, hf⟩ := h
  exact ⟨A, c, e, hc, hf.below hb⟩
theorem TsV.nil (w : World) : TsV w [] (.slice none 0 0) := ⟨none, 0, rfl, Nat.le_refl _, fun _ => .nilFunc, .inl rfl, by simp⟩
theorem BsV.nil (w : World) : BsV w [] (.slice none 0 0) := ⟨none, 0, rfl, Nat.le_refl _, .inl rfl⟩
theorem TmV.make {w : World} {op : Int} {name : ByteArray} {sort : Int} {n : ByteArray} {l : List Tm} {vars : Bd} {pat : List Tm} {vl vv vp : Value} (hb : Bds op sort name n l.length vars pat.length) (hl : TsV w l vl) (hv : BsV w vars vv) (hp : TsV w pat vp) :
    TmV w (.mk op name sort n l vars pat) (.agg #[.int .i64 op, .string name, .int .i64 sort, .string n, vl, vv, vp]) := by
  obtain ⟨A, c, rfl, hc, f, hf, hL⟩ := hl
  obtain ⟨V, cv, rfl, hcv, hV⟩ := hv
  obtain ⟨P, cp, rfl, hcp, g, hg, hP⟩ := hp
  exact .mk f g hb hc hf hL hcv hV hcp hg hP
theorem TmV.head {w : World} {t : Tm} {v : Value} (h : TmV w t v) : v.cells[0]? = some (.int .i64 (opOf t)) := by
  cases h
  rfl
theorem TmV.seven {w : World} {t : Tm} {v : Value} (h : TmV w t v) : v.cells.size = 7 := by
  cases h
  rfl
/-- A slice of one, of two, in a block of its own. -/
theorem TsV.one {w : World} {t : Tm} {p : Parts} (h : TmV w t (.agg p.arr)) (T : TypeId) : TsV (w.alloc (.cells p.arr T)) [t] (.slice (some ⟨w.heap.size, 0, none⟩) 1 1) := by
  refine ⟨_, _, rfl, Nat.le_refl _, fun _ => .agg p.arr, .inr ⟨_, _, rfl, fun j hj => ⟨h.seven, fun i hi => ?_⟩⟩, fun j t' ht => ?_⟩
  · have hj0 : j = 0 := by simp at hj; exact hj
    subst hj0
    rw [cell_of_row _ w.heap.size _ p.arr T (0, 0) (heap_alloc_new w _)]
    simp [Value.cells]
  · cases j with
    | zero => simp at ht; subst ht; exact h.mono ((Below.refl _ _).alloc (Nat.le_refl _) _)
    | succ j => simp at ht
theorem TsV.two {w : World} {t u : Tm} {p q : Parts} (h : TmV w t (.agg p.arr)) (h' : TmV w u (.agg q.arr)) (T : TypeId) : TsV (w.alloc (.cells (p.arr ++ q.arr) T)) [t, u] (.slice (some ⟨w.heap.size, 0, none⟩) 2 2) := by
  have hb : Below w.heap.size w (w.alloc (.cells (p.arr ++ q.arr) T)) := (Below.refl _ _).alloc (Nat.le_refl _) _
  refine ⟨_, _, rfl, Nat.le_refl _, fun j => if j = 0 then .agg p.arr else .agg q.arr, .inr ⟨_, _, rfl, fun j hj => ?_⟩, fun j t' ht => ?_⟩
  · have h2 : j = 0 ∨ j = 1 := by simp at hj; omega
    have hps : p.arr.size = 7 := rfl
    have hqs : q.arr.size = 7 := rfl
    rcases h2 with rfl | rfl
    · refine ⟨h.seven, fun i hi => ?_⟩
      rw [cell_of_row _ w.heap.size _ _ T (0, 0) (heap_alloc_new w _)]
      simp only [Nat.zero_add, Nat.zero_mul, if_true, Value.cells]
      rw [Array.getElem?_append_left (by omega)]
    · refine ⟨h'.seven, fun i hi => ?_⟩
      rw [cell_of_row _ w.heap.size _ _ T (0, 0) (heap_alloc_new w _)]
      simp only [Nat.zero_add, Nat.one_mul, Value.cells]
      rw [Array.getElem?_append_right (by omega)]
      simp [hps]
  · match j, ht with
    | 0, ht => simp at ht; subst ht; exact h.mono hb
    | 1, ht => simp at ht; subst ht; exact h'.mono hb
    | j + 2, ht => simp at ht
theorem BsV.one (w : World) (s : ByteArray) (k : Int) (T : TypeId) : BsV (w.alloc (.cells #[.string s, .int .i64 k] T)) [(s, k)] (.slice (some ⟨w.heap.size, 0, none⟩) 1 1) := by
  refine ⟨_, _, rfl, Nat.le_refl _, .inr ⟨_, _, rfl, fun j hj => ?_⟩⟩
  have hj0 : j = 0 := by simp at hj; exact hj
  subst hj0
  refine ⟨rfl, fun i hi => ?_⟩
  rw [cell_of_row _ w.heap.size _ _ T (0, 0) (heap_alloc_new w _)]
  simp [Value.cells]

mutual
def solid : Tm → Bool
  | .mk op _ _ _ l vars pat => !(op == 0) && vars.all (fun v => !(v.1.size == 0)) && solids l && solids pat
def solids : List Tm → Bool
  | [] => true
  | t :: ts => solid t && solids ts
end
theorem solids_mem {l : List Tm} {k : Nat} {t : Tm} (h : l[k]? = some t) (hs : solids l = true) : solid t = true := by
  induction l generalizing k with
  | nil => simp at h
  | cons u l ih =>
    simp only [solids, Bool.and_eq_true] at hs
    cases k with
    | zero => simp at h; subst h; exact hs.1
    | succ k => exact ih (k := k) (by simpa using h) hs.2
theorem solid_op {t : Tm} (h : solid t = true) : opOf t ≠ 0 := by
  cases t
  simp only [solid, Bool.and_eq_true] at h
  have := h.1.1.1
  simpa [opOf] using this
def notZero (x : Value) : Prop := ∀ i : Nat, zeroP.arr[i]? ≠ some x
theorem notZero_int {x : Int} (h : x ≠ 0) : notZero (.int .i64 x) := by
  intro i e
  match i with
  | 0 => simp [zeroP, Parts.arr] at e; exact h e.symm
  | 1 => simp [zeroP, Parts.arr] at e
  | 2 => simp [zeroP, Parts.arr] at e; exact h e.symm
  | 3 => simp [zeroP, Parts.arr] at e
  | 4 => simp [zeroP, Parts.arr] at e
  | 5 => simp [zeroP, Parts.arr] at e
  | 6 => simp [zeroP, Parts.arr] at e
  | n + 7 => simp [zeroP, Parts.arr] at e
theorem notZero_string {s : ByteArray} (h : s.size ≠ 0) : notZero (.string s) := by
  have hne : ¬ (ByteArray.empty = s) := fun e => h (by rw [← e]; rfl)
  intro i e
  match i with
  | 0 => simp [zeroP, Parts.arr] at e
  | 1 => simp [zeroP, Parts.arr] at e; exact hne e
  | 2 => simp [zeroP, Parts.arr] at e
  | 3 => simp [zeroP, Parts.arr] at e; exact hne e
  | 4 => simp [zeroP, Parts.arr] at e
  | 5 => simp [zeroP, Parts.arr] at e
  | 6 => simp [zeroP, Parts.arr] at e
  | n + 7 => simp [zeroP, Parts.arr] at e
theorem RowCells.solid {w w' : World} {k : Nat} (hz : w.heap[k]? = some (.cells zeroP.arr 26 (0, 0))) (hk : ∀ a : Addr, a.block ≠ k → w'.cell? a = w.cell? a) {A : Option Addr} {s n : Nat} {f : Nat → Value} (h : RowCells w A s n f)
    (hx : ∀ j, j < n → ∃ i x, i < s ∧ (f j).cells[i]? = some x ∧ notZero x) : RowCells w' A s n f := by
  rcases h with h | ⟨b, o, hA, h⟩
  · exact .inl h
  · refine .inr ⟨b, o, hA, fun j hj => ⟨(h j hj).1, fun i hi => ?_⟩⟩
    by_cases e : b = k
    · subst e
      obtain ⟨i', x, hi', hc, hn⟩ := hx j hj
      have h1 := (h j hj).2 i' hi'
      rw [hc, cell_of_row _ b _ _ 26 (0, 0) hz] at h1
      exact absurd h1 (hn _)
    · rw [hk _ e]
      exact (h j hj).2 i hi
theorem TmV.solid {w w' : World} {k : Nat} (hz : w.heap[k]? = some (.cells zeroP.arr 26 (0, 0))) (hk : ∀ a : Addr, a.block ≠ k → w'.cell? a = w.cell? a) {t : Tm} {v : Value} (h : TmV w t v) : solid t = true → TmV w' t v := by
  induction h with
  | @mk op name sort n l vars pat A V P ca cv cp f g hb hl hf hL hv hV hp hg hP ihL ihP =>
    intro hs
    simp only [YtlgbepamnkfpjaaGreatDoor.solid, Bool.and_eq_true] at hs
    obtain ⟨⟨⟨_, h2⟩, h3⟩, h4⟩ := hs
    refine .mk f g hb hl (hf.solid hz hk fun j hj => ?_) (fun j t ht => ihL j t ht (solids_mem ht h3)) hv (hV.solid hz hk fun j hj => ?_) hp (hg.solid hz hk fun j hj => ?_) (fun j t ht => ihP j t ht (solids_mem ht h4))
    · have ht := List.getElem?_eq_getElem hj
      exact ⟨0, _, by omega, (hL j _ ht).head, notZero_int (solid_op (solids_mem ht h3))⟩
    · have ht := List.getElem?_eq_getElem hj
      refine ⟨0, .string vars[j].1, by omega, ?_, notZero_string ?_⟩
      · rw [ht]; rfl
      · have := (List.all_eq_true.1 h2) vars[j] (List.getElem_mem hj)
        simpa using this
    · have ht := List.getElem?_eq_getElem hj
      exact ⟨0, _, by omega, (hP j _ ht).head, notZero_int (solid_op (solids_mem ht h4))⟩
theorem setT_cell_ne {w : World} {k : Nat} {p : Parts} {a : Addr} (h : a.block ≠ k) : (setT w k p).cell? a = w.cell? a := by
  unfold setT
  rw [cell_set_ne h, cell_set_ne h, cell_set_ne h, cell_set_ne h, cell_set_ne h, cell_set_ne h, cell_set_ne h]
end Go.Proofs.YtlgbepamnkfpjaaGreatDoor
