/- Terms in memory; their size. -/
import Derived.Test.YtbnonccmlildnaaGreatRows
import Derived.WalkKit
import Derived.WalkSpells
import Derived.WalkLawsBesides
import Derived.Lib.Hide
set_option linter.unusedSimpArgs false
set_option linter.unusedVariables false
namespace Go.Proofs.YtbnonccmlildnaaGreat
open Go.RowKit

def i64 (x : Int) : Prop := -9223372036854775808 ≤ x ∧ x ≤ 9223372036854775807
inductive Tm
  | mk (op : Int) (name : ByteArray) (sort : Int) (n : ByteArray) (l : List Tm) (vars : List (ByteArray × Int)) (pat : List Tm)
structure Bds (op sort : Int) (name n : ByteArray) (ll : Nat) (vars : List (ByteArray × Int)) (lp : Nat) : Prop where
  op : i64 op
  sort : i64 sort
  name : name.size ≤ 140737488355328
  n : n.size ≤ 140737488355328
  l : ll ≤ 140737488355328
  v : vars.length ≤ 140737488355328
  p : lp ≤ 140737488355328
  vs : ∀ x ∈ vars, x.1.size ≤ 140737488355328 ∧ i64 x.2
/-- Rows of elements of several cells. -/
def RowCells (w : World) (A : Option Addr) (k n : Nat) (f : Nat → Value) : Prop :=
  n = 0 ∨ ∃ b o, A = some ⟨b, o, none⟩ ∧ ∀ j, j < n → (f j).cells.size = k ∧ ∀ i, i < k → w.cell? ⟨b, o + j * k + i, none⟩ = (f j).cells[i]?
inductive TmV (w : World) : Tm → Value → Prop
  | mk {op : Int} {name : ByteArray} {sort : Int} {n : ByteArray} {l : List Tm} {vars : List (ByteArray × Int)} {pat : List Tm} {A V P : Option Addr} {ca cv cp : Nat} (f g : Nat → Value) (hb : Bds op sort name n l.length vars pat.length)
    (hl : l.length ≤ ca) (hf : RowCells w A 7 l.length f) (hL : ∀ (j : Nat) (t : Tm), l[j]? = some t → TmV w t (f j))
    (hv : vars.length ≤ cv) (hV : RowCells w V 2 vars.length fun j => match vars[j]? with | some (s, k) => .agg #[.string s, .int .i64 k] | none => .nilFunc)
    (hp : pat.length ≤ cp) (hg : RowCells w P 7 pat.length g) (hP : ∀ (j : Nat) (t : Tm), pat[j]? = some t → TmV w t (g j)) :
    TmV w (.mk op name sort n l vars pat) (.agg #[.int .i64 op, .string name, .int .i64 sort, .string n, .slice A l.length ca, .slice V vars.length cv, .slice P pat.length cp])

mutual
def tsize : Tm → Nat
  | .mk _ _ _ _ l _ _ => 1 + tsizes l
def tsizes : List Tm → Nat
  | [] => 0
  | t :: ts => tsize t + tsizes ts
end

theorem cell_of_below {B : Nat} {w w' : World} (h : Below B w w') {a : Addr} {v : Value} (hB : w.heap.size ≤ B) (hc : w.cell? a = some v) : w'.cell? a = some v :=
  (h.cell (by have := World.block_lt_of_cell? w a hc; omega)).trans hc
theorem RowCells.below {w w' : World} {A : Option Addr} {k n : Nat} {f : Nat → Value} (h : RowCells w A k n f) (hb : Below w.heap.size w w') : RowCells w' A k n f := by
  rcases h with h | ⟨b, o, hA, h⟩
  · exact .inl h
  · refine .inr ⟨b, o, hA, fun j hj => ⟨(h j hj).1, fun i hi => ?_⟩⟩
    have h1 := (h j hj).2 i hi
    have h2 : (f j).cells[i]? = some ((f j).cells[i]'(by rw [(h j hj).1]; exact hi)) := Array.getElem?_eq_getElem _
    rw [h2] at h1 ⊢
    exact cell_of_below hb (Nat.le_refl _) h1
theorem TmV.mono {w w' : World} {t : Tm} {v : Value} (h : TmV w t v) (hb : Below w.heap.size w w') : TmV w' t v := by
  induction h with
  | mk f g hbd hl hf _ hv hV hp hg _ ihL ihP => exact .mk f g hbd hl (hf.below hb) ihL hv (hV.below hb) hp (hg.below hb) ihP
/-- The seven parts. -/
structure Parts where
  op : Int
  name : ByteArray
  sort : Int
  n : ByteArray
  A : Option Addr
  la : Nat
  ca : Nat
  V : Option Addr
  lv : Nat
  cv : Nat
  P : Option Addr
  lp : Nat
  cp : Nat
def Parts.arr (p : Parts) : Array Value := #[.int .i64 p.op, .string p.name, .int .i64 p.sort, .string p.n, .slice p.A p.la p.ca, .slice p.V p.lv p.cv, .slice p.P p.lp p.cp]
theorem TmV.parts {w : World} {t : Tm} {v : Value} (h : TmV w t v) : ∃ p : Parts, v = .agg p.arr := by
  cases h with
  | mk f g => exact ⟨⟨_, _, _, _, _, _, _, _, _, _, _, _, _⟩, rfl⟩
/-- An element of a list of terms: where it lies, its cells. -/
theorem RowCells.get {w : World} {A : Option Addr} {n : Nat} {f : Nat → Value} (h : RowCells w A 7 n f) {j : Nat} (hj : j < n) {p : Parts} (hp : f j = .agg p.arr) :
    ∃ b o, A = some ⟨b, o, none⟩ ∧ w.cell? ⟨b, o + j * 7, none⟩ = some (.int .i64 p.op) ∧ w.cell? ⟨b, o + j * 7 + 1, none⟩ = some (.string p.name) ∧ w.cell? ⟨b, o + j * 7 + 2, none⟩ = some (.int .i64 p.sort) ∧ w.cell? ⟨b, o + j * 7 + 3, none⟩ = some (.string p.n) ∧
      w.cell? ⟨b, o + j * 7 + 4, none⟩ = some (.slice p.A p.la p.ca) ∧ w.cell? ⟨b, o + j * 7 + 5, none⟩ = some (.slice p.V p.lv p.cv) ∧ w.cell? ⟨b, o + j * 7 + 6, none⟩ = some (.slice p.P p.lp p.cp) := by
  rcases h with h | ⟨b, o, hA, h⟩
  · omega
  · have h1 := (h j hj).2
    rw [hp] at h1
    exact ⟨b, o, hA, by simpa [Value.cells, Parts.arr] using h1 0 (by omega), by simpa [Value.cells, Parts.arr] using h1 1 (by omega), by simpa [Value.cells, Parts.arr] using h1 2 (by omega), by simpa [Value.cells, Parts.arr] using h1 3 (by omega), by simpa [Value.cells, Parts.arr] using h1 4 (by omega), by simpa [Value.cells, Parts.arr] using h1 5 (by omega), by simpa [Value.cells, Parts.arr] using h1 6 (by omega)⟩
theorem tsizes_take {l : List Tm} {k : Nat} (hk : k < l.length) : tsizes (l.take (k + 1)) = tsizes (l.take k) + tsize l[k] := by
  induction l generalizing k with
  | nil => simp at hk
  | cons t l ih =>
    cases k with
    | zero => simp [tsizes]
    | succ k =>
      simp only [List.length_cons] at hk
      have := ih (k := k) (by omega)
      simp only [List.take_succ_cons, List.getElem_cons_succ, tsizes]
      omega
theorem tsize_pos : ∀ t : Tm, 1 ≤ tsize t
  | .mk .. => by simp only [tsize]; omega
theorem length_tsizes : ∀ l : List Tm, l.length ≤ tsizes l
  | [] => by simp [tsizes]
  | t :: l => by
    have := tsize_pos t
    have := length_tsizes l
    simp only [tsizes, List.length_cons]
    omega
theorem tsizes_le (l : List Tm) (k : Nat) : tsizes (l.take k) ≤ tsizes l := by
  induction l generalizing k with
  | nil => simp
  | cons t l ih =>
    cases k with
    | zero => simp [tsizes]
    | succ k =>
      have := ih k
      simp only [List.take_succ_cons, tsizes]
      omega

/-- The world behind the laying of a term's copy. -/
def boxT (w : World) (p : Parts) : World := w.alloc (.cells #[.int .i64 p.op, .string p.name, .int .i64 p.sort, .string p.n, .slice p.A p.la p.ca, .slice p.V p.lv p.cv, .slice p.P p.lp p.cp] 29)

theorem boxT_size (w : World) (p : Parts) : (boxT w p).heap.size = w.heap.size + 1 := by simp [boxT]
theorem boxT_cell {w wr : World} {p : Parts} (h : Below (w.heap.size + 1) (boxT w p) wr) (i : Nat) {v : Value} (hi : p.arr[i]? = some v) : wr.cell? ⟨w.heap.size, i, none⟩ = some v := by
  refine cell_of_below h (by simp [boxT]) ?_
  unfold boxT
  rw [cell_of_row _ w.heap.size i _ 29 (0, 0) (heap_alloc_new w _)]
  exact hi
theorem below_boxT (w : World) (p : Parts) : Below w.heap.size w (boxT w p) := (Below.refl _ _).alloc (Nat.le_refl _) _

end Go.Proofs.YtbnonccmlildnaaGreat

/- Depth, size, deeper, Ground: what they tell. -/
namespace Go.Proofs.YtbnonccmlildnaaGreat
open Go.RowKit

mutual
def tdepth : Tm → Nat
  | .mk _ _ _ _ l _ _ => tdepths l + 1
def tdepths : List Tm → Nat
  | [] => 0
  | t :: ts => max (tdepth t) (tdepths ts)
end
theorem tdepths_take {l : List Tm} {k : Nat} (hk : k < l.length) : tdepths (l.take (k + 1)) = max (tdepths (l.take k)) (tdepth l[k]) := by
  induction l generalizing k with
  | nil => simp at hk
  | cons t l ih =>
    cases k with
    | zero => simp [tdepths]
    | succ k =>
      simp only [List.length_cons] at hk
      have := ih (k := k) (by omega)
      simp only [List.take_succ_cons, List.getElem_cons_succ, tdepths]
      omega
theorem tdepth_le : (∀ t : Tm, tdepth t ≤ tsize t) := by
  intro t
  induction t using Tm.rec (motive_2 := fun l => tdepths l ≤ tsizes l) with
  | mk _ _ _ _ l _ _ ih _ => simp only [tdepth, tsize]; omega
  | nil => simp [tdepths]
  | cons t l h1 h2 => simp only [tdepths, tsizes]; omega

theorem min_up (n t most : Nat) (h : n ≤ most) : min n (most + 1) + min t (most - n + 1) = min (n + t) (most + 1) := by omega
set_option maxHeartbeats 1000000 in
theorem size_any {t : Tm} {v : Value} {w : World} (h : TmV w t v) : ∀ (most : Nat), most ≤ 1000000 → ∀ w', Below w.heap.size w w' →
    Calls Tryz.prog 29 #[v, .int .i64 most] w' fun e w'' => e = .returned (.int .i64 (min (tsize t) (most + 1) : Nat)) ∧ Below w'.heap.size w' w'' := by
  induction h with
  | @mk op name sort n l vars pat A V P ca cv cp f g hbd hl hf hL hv hV hp hg hP ihL _ =>
    intro most hmost w' hb
    have Hf := Lib.hid hf
    have Hih : Hid (∀ (j : Nat) (t : Tm), l[j]? = some t → ∀ (most : Nat), most ≤ 1000000 → ∀ w', Below w.heap.size w w' → Calls Tryz.prog 29 #[f j, .int .i64 most] w' fun e w'' => e = .returned (.int .i64 (min (tsize t) (most + 1) : Nat)) ∧ Below w'.heap.size w' w'') := Lib.hid (fun j t h => ihL j t h)
    have HL := Lib.hid hL
    have Hb := Lib.hid hb
    have hlen := hbd.l
    have Hsl := Lib.hid (show tsize (.mk op name sort n l vars pat) = 1 + tsizes l from by simp only [tsize])
    clear hf ihL hL hP hg hV hb hbd
    go_enter Tryz.func29, Tryz.ntmps29
    go_wp2_with fail
    generalize hP0 : (⟨op, name, sort, n, A, l.length, ca, V, vars.length, cv, P, pat.length, cp⟩ : Parts) = P0
    have HP0 := Lib.hid hP0
    clear hP0
    go_loopw [5, 6] (fun v i wr => ∃ (k m : Nat), k ≤ l.length ∧ i = .int .i64 k ∧ v = .int .i64 m ∧ m = min (1 + tsizes (l.take k)) (most + 1) ∧ Below (w'.heap.size + 1) (boxT w' P0) wr) (fun _ i _ => l.length - (intOf i).toNat)
    case atStart => exact ⟨0, 1, Nat.zero_le _, rfl, rfl, by simp [tsizes], by rw [← HP0.out]; exact Below.refl _ _⟩
    case round =>
      obtain ⟨k, m, hk, rfl, rfl, hm, hbr⟩ := hrel
      have Hbr := Lib.hid hbr
      have Hm := Lib.hid hm
      have hm2 : m ≤ most + 1 := by omega
      have hc4 := boxT_cell Hbr.out 4 (v := .slice A l.length ca) (by rw [← HP0.out]; rfl)
      have Hbw : Hid (Below w'.heap.size w' wr) := Lib.hid ((below_boxT w' P0).trans (Hbr.out.mono (by omega)))
      have hwr : w'.heap.size < wr.heap.size := by
        have := Hbr.out.size
        rw [boxT_size] at this
        omega
      clear hbr hm
      by_cases hlt : k < l.length
      · by_cases hmm : m ≤ most
        · have Ht : Hid (l[k]? = some l[k]) := Lib.hid (List.getElem?_eq_getElem hlt)
          have Hsz := Lib.hid (tsizes_take hlt)
          have Hv := Lib.hid (HL.out k _ Ht.out)
          obtain ⟨p, hp⟩ := Hv.out.parts
          have Hp := Lib.hid hp
          obtain ⟨b, o, rfl, h0, h1, h2, h3, h4, h5, h6⟩ := (Hf.out.below (Hb.out.trans (Hbw.out.mono Hb.out.size))).get hlt hp
          clear hp
          generalize l[k] = t at *
          have hsub : ((most : Int) - (m : Int)) = ((most - m : Nat) : Int) := by omega
          have Hc : Hid (Calls Tryz.prog 29 #[.agg p.arr, .int .i64 ((most : Int) - (m : Int))] wr fun e w'' => e = .returned (.int .i64 (min (tsize t) (most - m + 1) : Nat)) ∧ Below wr.heap.size wr w'') := Lib.hid (by
            have := Hih.out k t Ht.out (most - m) (by omega) _ (Hb.out.trans (Hbw.out.mono Hb.out.size))
            rw [Hp.out] at this
            rw [hsub]
            exact this)
          clear hsub
          generalize hx : min (tsize t) (most - m + 1) = x at *
          have hx2 : x ≤ most - m + 1 := by omega
          have Hx := Lib.hid hx
          clear hx
          go_wp2_with (go_at_call 29; refine Calls.mono Hc.out ?_; rintro e w3 ⟨rfl, hb3⟩; have Hb3 := Lib.hid hb3; clear hb3)
          go_roundw
          case rel =>
            refine ⟨k + 1, m + x, by omega, by go_num, by go_num, ?_, Hbr.out.trans (Hb3.out.mono (by omega))⟩
            have e1 := Hm.out
            have e2 := Hx.out
            rw [Hsz.out]
            omega
          case measure => simp [intOf]; omega
        · have Hr : Hid (min (tsize (.mk op name sort n l vars pat)) (most + 1) = m) := Lib.hid (by
            have e1 := Hm.out
            have e2 := tsizes_le l k
            rw [Hsl.out]
            omega)
          go_wp2_with fail
          go_ret
          exact ⟨by rw [Hr.out]; congr 1, Hbw.out⟩
      · have Hr : Hid (min (tsize (.mk op name sort n l vars pat)) (most + 1) = m) := Lib.hid (by
          have e1 := Hm.out
          rw [List.take_of_length_le (by omega)] at e1
          rw [Hsl.out]
          omega)
        go_wp2_with fail
        go_ret
        exact ⟨by rw [Hr.out]; congr 1, Hbw.out⟩
end Go.Proofs.YtbnonccmlildnaaGreat

/- slices.IndexFunc, slices.ContainsFunc over lists of terms. -/
namespace Go.Proofs.YtbnonccmlildnaaGreat
open Go.RowKit

/-- Is it so of one of the first k? -/
def anyTo (q : Nat → Bool) : Nat → Bool
  | 0 => false
  | k + 1 => anyTo q k || q k
theorem anyTo_succ (q : Nat → Bool) (k : Nat) : anyTo q (k + 1) = (anyTo q k || q k) := rfl
theorem anyTo_true {q : Nat → Bool} {k n : Nat} (hk : k < n) (h : q k = true) : anyTo q n = true := by
  induction n with
  | zero => omega
  | succ n ih =>
    rw [anyTo_succ]
    by_cases e : k = n
    · subst e; rw [h, Bool.or_true]
    · rw [ih (by omega), Bool.true_or]
theorem anyTo_iff {q : Nat → Bool} {n : Nat} : anyTo q n = true ↔ ∃ k, k < n ∧ q k = true := by
  refine ⟨fun h => ?_, fun ⟨k, hk, h⟩ => anyTo_true hk h⟩
  induction n with
  | zero => cases h
  | succ n ih =>
    rw [anyTo_succ, Bool.or_eq_true] at h
    rcases h with h | h
    · obtain ⟨k, hk, h⟩ := ih h
      exact ⟨k, by omega, h⟩
    · exact ⟨n, by omega, h⟩

def deeperFCall (w : World) (n : Nat) (f : Nat → Value) (q : Nat → Bool) (q0 : Nat) : Prop :=
  ∀ j, j < n → ∀ w', Below w.heap.size w w' → Calls Tryz.prog 60 #[f j, .pointer (some ⟨q0, 0, none⟩)] w' fun e w'' => e = .returned (.bool (q j)) ∧ Below w'.heap.size w' w''
set_option maxHeartbeats 1000000 in
theorem deeperF_index {w : World} {A : Option Addr} {n c : Nat} {f : Nat → Value} {q : Nat → Bool} (q0 : Nat) (hn : n ≤ 140737488355328) (hf : RowCells w A 7 n f) (hp : ∀ j, j < n → ∃ p : Parts, f j = .agg p.arr) (hc : deeperFCall w n f q q0) :
    Calls Tryz.prog 64 #[.slice A n c, .func (.func 60) #[] #[.pointer (some ⟨q0, 0, none⟩)]] w fun e w' => ∃ r : Int, e = .returned (.int .i64 r) ∧ decide (0 ≤ r) = anyTo q n ∧ Below w.heap.size w w' := by
  have Hf := Lib.hid hf
  have Hp := Lib.hid hp
  have Hc := Lib.hid hc
  clear hf hp hc
  go_enter Tryz.func64, Tryz.ntmps64
  go_wp2_with fail
  go_loopw [8] (fun i wr => ∃ k : Nat, k ≤ n ∧ i = .int .i64 k ∧ anyTo q k = false ∧ Below w.heap.size w wr) (fun i _ => n - (intOf i).toNat)
  case atStart => exact ⟨0, Nat.zero_le _, rfl, rfl, Below.refl _ _⟩
  case round =>
    obtain ⟨k, hk, rfl, hno, hbr⟩ := hrel
    have Hbr := Lib.hid hbr
    have Hno := Lib.hid hno
    clear hbr hno
    by_cases hlt : k < n
    · obtain ⟨p, hpp⟩ := Hp.out k hlt
      obtain ⟨b, o, rfl, h0, h1, h2, h3, h4, h5, h6⟩ := (Hf.out.below Hbr.out).get hlt hpp
      have Hcall : Hid (Calls Tryz.prog 60 #[.agg p.arr, .pointer (some ⟨q0, 0, none⟩)] wr fun e w'' => e = .returned (.bool (q k)) ∧ Below wr.heap.size wr w'') := Lib.hid (by
        have := Hc.out k hlt wr Hbr.out
        rwa [hpp] at this)
      have Hs : Hid (anyTo q (k + 1) = q k ∧ (q k = true → anyTo q n = true)) := Lib.hid ⟨by rw [anyTo_succ, Hno.out]; rfl, fun h => anyTo_true hlt h⟩
      clear hpp
      cases hq : q k with
      | true =>
        rw [hq] at Hcall Hs
        clear hq
        go_wp2_with (go_at_call 60; refine Calls.mono Hcall.out ?_; rintro e w3 ⟨rfl, hb3⟩; have Hb3 := Lib.hid hb3; clear hb3)
        go_ret
        exact ⟨_, rfl, by rw [show anyTo q n = true by simpa using Hs.out.2]; simp, Hbr.out.trans (Hb3.out.mono Hbr.out.size)⟩
      | false =>
        rw [hq] at Hcall Hs
        clear hq
        go_wp2_with (go_at_call 60; refine Calls.mono Hcall.out ?_; rintro e w3 ⟨rfl, hb3⟩; have Hb3 := Lib.hid hb3; clear hb3)
        go_roundw
        case rel => exact ⟨k + 1, by omega, by go_num, Hs.out.1, Hbr.out.trans (Hb3.out.mono Hbr.out.size)⟩
        case measure => simp [intOf]; omega
    · have hkn : k = n := by omega
      subst hkn
      go_wp2_with fail
      go_ret
      exact ⟨_, rfl, by rw [Hno.out]; simp, Hbr.out⟩
theorem deeperF_contains {w : World} {A : Option Addr} {n c : Nat} {f : Nat → Value} {q : Nat → Bool} (q0 : Nat) (hn : n ≤ 140737488355328) (hf : RowCells w A 7 n f) (hp : ∀ j, j < n → ∃ p : Parts, f j = .agg p.arr) (hc : deeperFCall w n f q q0) :
    Calls Tryz.prog 31 #[.slice A n c, .func (.func 60) #[] #[.pointer (some ⟨q0, 0, none⟩)]] w fun e w' => e = .returned (.bool (anyTo q n)) ∧ Below w.heap.size w w' := by
  go_enter Tryz.func31, Tryz.ntmps31
  go_wp2_with (go_at_call 64; refine (deeperF_index q0 hn hf hp hc (c := c)).mono ?_; rintro e w' ⟨r, rfl, hr, hb⟩; have Hb := Lib.hid hb; clear hb)
  go_ret
  exact ⟨by simp, Hb.out⟩

end Go.Proofs.YtbnonccmlildnaaGreat

/- deeper, Ground. -/
namespace Go.Proofs.YtbnonccmlildnaaGreat
open Go.RowKit

theorem lt_tdepths {m : Nat} {l : List Tm} : m < tdepths l ↔ ∃ (k : Nat) (t : Tm), l[k]? = some t ∧ m < tdepth t := by
  induction l with
  | nil => simp [tdepths]
  | cons t l ih =>
    simp only [tdepths]
    constructor
    · intro h
      by_cases h1 : m < tdepth t
      · exact ⟨0, t, rfl, h1⟩
      · obtain ⟨k, u, h2, h3⟩ := ih.1 (by omega)
        exact ⟨k + 1, u, by simpa using h2, h3⟩
    · rintro ⟨k, u, h1, h2⟩
      cases k with
      | zero => simp at h1; subst h1; omega
      | succ k =>
        have := ih.2 ⟨k, u, by simpa using h1, h2⟩
        omega
/-- A test of a list's j-th term. -/
def at? (l : List Tm) (p : Tm → Bool) (j : Nat) : Bool := match l[j]? with | some t => p t | none => false
theorem anyTo_at {l : List Tm} {p : Tm → Bool} : anyTo (at? l p) l.length = l.any p := by
  rw [Bool.eq_iff_iff, anyTo_iff, List.any_eq_true]
  constructor
  · rintro ⟨k, hk, h⟩
    rw [at?, List.getElem?_eq_getElem hk] at h
    exact ⟨l[k], List.getElem_mem hk, h⟩
  · rintro ⟨t, ht, h⟩
    obtain ⟨k, hk, rfl⟩ := List.getElem_of_mem ht
    exact ⟨k, hk, by rw [at?, List.getElem?_eq_getElem hk]; exact h⟩
theorem anyTo_deeper {l : List Tm} {m : Nat} : (l.any fun t => decide (m < tdepth t)) = decide (m < tdepths l) := by
  rw [Bool.eq_iff_iff, List.any_eq_true, decide_eq_true_iff, lt_tdepths]
  constructor
  · rintro ⟨t, ht, h⟩
    obtain ⟨k, hk, rfl⟩ := List.getElem_of_mem ht
    exact ⟨k, l[k], List.getElem?_eq_getElem hk, by simpa using h⟩
  · rintro ⟨k, t, h1, h2⟩
    exact ⟨t, List.mem_of_getElem? h1, by simpa using h2⟩

theorem deeper1_any {w : World} {p : Parts} {q0 : Nat} {most : Int} {b : Bool} (h1 : 1 ≤ most) (h2 : most ≤ 1000000) (hq : w.cell? ⟨q0, 0, none⟩ = some (.int .i64 most))
    (hc : Calls Tryz.prog 28 #[.agg p.arr, .int .i64 (most - 1)] (boxT w p) fun e w'' => e = .returned (.bool b) ∧ Below (boxT w p).heap.size (boxT w p) w'') :
    Calls Tryz.prog 60 #[.agg p.arr, .pointer (some ⟨q0, 0, none⟩)] w fun e w'' => e = .returned (.bool b) ∧ Below w.heap.size w w'' := by
  have Hc := Lib.hid hc
  clear hc
  have hq2 : (w.alloc (.cells #[.int .i64 p.op, .string p.name, .int .i64 p.sort, .string p.n, .slice p.A p.la p.ca, .slice p.V p.lv p.cv, .slice p.P p.lp p.cp] 29)).cell? ⟨q0, 0, none⟩ = some (.int .i64 most) := cell_of_below (below_boxT w p) (Nat.le_refl _) hq
  clear hq
  show Calls Tryz.prog 60 #[.agg #[.int .i64 p.op, .string p.name, .int .i64 p.sort, .string p.n, .slice p.A p.la p.ca, .slice p.V p.lv p.cv, .slice p.P p.lp p.cp], .pointer (some ⟨q0, 0, none⟩)] w _
  go_enter Tryz.func60, Tryz.ntmps60
  go_wp2_with (go_at_call 28; refine Calls.mono Hc.out ?_; rintro e w3 ⟨rfl, hb3⟩; have Hb3 := Lib.hid hb3; clear hb3)
  go_ret
  exact ⟨rfl, (below_boxT w p).trans (Hb3.out.mono (by rw [boxT_size]; omega))⟩

set_option maxHeartbeats 1000000 in
theorem deeper_any {t : Tm} {v : Value} {w : World} (h : TmV w t v) : ∀ (most : Nat), most ≤ 1000000 → ∀ w', Below w.heap.size w w' →
    Calls Tryz.prog 28 #[v, .int .i64 most] w' fun e w'' => e = .returned (.bool (decide (most < tdepth t))) ∧ Below w'.heap.size w' w'' := by
  induction h with
  | @mk op name sort n l vars pat A V P ca cv cp f g hbd hl hf hL hv hV hp hg hP ihL _ =>
    intro most hmost w' hb
    have Hf := Lib.hid hf
    have Hih : Hid (∀ (j : Nat) (t : Tm), l[j]? = some t → ∀ (most : Nat), most ≤ 1000000 → ∀ w', Below w.heap.size w w' → Calls Tryz.prog 28 #[f j, .int .i64 most] w' fun e w'' => e = .returned (.bool (decide (most < tdepth t))) ∧ Below w'.heap.size w' w'') := Lib.hid (fun j t h => ihL j t h)
    have HL := Lib.hid hL
    have Hb := Lib.hid hb
    have hlen := hbd.l
    have Hsl := Lib.hid (show tdepth (.mk op name sort n l vars pat) = tdepths l + 1 from by simp only [tdepth])
    clear hf ihL hL hP hg hV hb hbd
    by_cases h1 : most < 1
    · have h10 : (most : Int) < 1 := by omega
      have Hr : Hid (decide (most < tdepth (.mk op name sort n l vars pat)) = true) := Lib.hid (by rw [Hsl.out]; simp; omega)
      go_enter Tryz.func28, Tryz.ntmps28
      go_wp2_with fail
      go_ret
      exact ⟨by rw [Hr.out]; rfl, (below_boxT w' ⟨op, name, sort, n, A, l.length, ca, V, vars.length, cv, P, pat.length, cp⟩).alloc (by rw [boxT_size]; omega) _⟩
    · have h10 : ¬ (most : Int) < 1 := by omega
      obtain ⟨P0, hP0⟩ : ∃ P0 : Parts, P0 = ⟨op, name, sort, n, A, l.length, ca, V, vars.length, cv, P, pat.length, cp⟩ := ⟨_, rfl⟩
      have Hr : Hid (anyTo (at? l fun t => decide (most - 1 < tdepth t)) l.length = decide (most < tdepth (.mk op name sort n l vars pat))) := Lib.hid (by
        rw [anyTo_at, anyTo_deeper, Hsl.out]
        simp
        omega)
      obtain ⟨W, hW⟩ : ∃ W, W = (boxT w' P0).alloc (.cells #[.int .i64 most] 3) := ⟨_, rfl⟩
      have hWb : Below w'.heap.size w' W := by
        rw [hW]
        exact (below_boxT w' _).alloc (by rw [boxT_size]; omega) _
      have Hwb := Lib.hid hWb
      have Hcall : Hid (deeperFCall W l.length f (at? l fun t => decide (most - 1 < tdepth t)) (w'.heap.size + 1)) := Lib.hid (fun j hj w2 hw2 => by
        have ht : l[j]? = some l[j] := List.getElem?_eq_getElem hj
        obtain ⟨p, hpp⟩ := (HL.out j _ ht).parts
        have hcell : w2.cell? ⟨w'.heap.size + 1, 0, none⟩ = some (.int .i64 most) := cell_of_below hw2 (Nat.le_refl _) (by rw [hW, ← boxT_size w' P0, cell_of_row _ _ 0 _ 3 (0, 0) (heap_alloc_new _ _)]; rfl)
        have hbw : Below w.heap.size w (boxT w2 p) := (Hb.out.trans ((hWb.trans (hw2.mono hWb.size)).mono Hb.out.size)).trans ((below_boxT w2 p).mono (by have := Hb.out.size; have := hWb.size; have := hw2.size; omega))
        have hi := Hih.out j _ ht (most - 1) (by omega) _ hbw
        rw [hpp] at hi ⊢
        have hs : ((most - 1 : Nat) : Int) = (most : Int) - 1 := by omega
        rw [hs] at hi
        have hq : at? l (fun t => decide (most - 1 < tdepth t)) j = decide (most - 1 < tdepth l[j]) := by rw [at?, ht]
        rw [hq]
        exact deeper1_any (by omega) (by omega) hcell hi)
      have Hparts : Hid (∀ j, j < l.length → ∃ p : Parts, f j = .agg p.arr) := Lib.hid (fun j hj => (HL.out j _ (List.getElem?_eq_getElem hj)).parts)
      have Hfw := Lib.hid (Hf.out.below (Hb.out.trans (hWb.mono Hb.out.size)))
      have HW : Hid (W = (w'.alloc (.cells #[.int .i64 op, .string name, .int .i64 sort, .string n, .slice A l.length ca, .slice V vars.length cv, .slice P pat.length cp] 29)).alloc (.cells #[.int .i64 most] 3)) := Lib.hid (by rw [hW, hP0]; rfl)
      clear hW hP0 hWb
      go_enter Tryz.func28, Tryz.ntmps28
      go_wp2_with (go_at_call 31; rw [← HW.out]; refine (deeperF_contains (w'.heap.size + 1) hlen Hfw.out Hparts.out Hcall.out).mono ?_; rintro e w3 ⟨rfl, hb3⟩; have Hb3 := Lib.hid hb3; clear hb3)
      go_ret
      exact ⟨by rw [← Hr.out]; rfl, Hwb.out.trans (Hb3.out.mono Hwb.out.size)⟩
end Go.Proofs.YtbnonccmlildnaaGreat

/- Ground; small makers of terms. -/
namespace Go.Proofs.YtbnonccmlildnaaGreat
open Go.RowKit

mutual
def tground : Tm → Bool
  | .mk op _ _ _ l _ _ => !(op == 18) && !(op == 19) && tgrounds l
def tgrounds : List Tm → Bool
  | [] => true
  | t :: ts => tground t && tgrounds ts
end
theorem tgrounds_any (l : List Tm) : (l.any fun t => !tground t) = !tgrounds l := by
  induction l with
  | nil => rfl
  | cons t l ih => rw [List.any_cons, ih]; simp only [tgrounds]; cases tground t <;> cases tgrounds l <;> rfl

/-- The parts of a term that is made by a name, a number. -/
def numP (s : ByteArray) : Parts := ⟨1, .empty, 0, s, none, 0, 0, none, 0, 0, none, 0, 0⟩
def appP (s : ByteArray) (A : Option Addr) (l c : Nat) : Parts := ⟨17, s, 0, .empty, A, l, c, none, 0, 0, none, 0, 0⟩
theorem size27 : (Tryz.prog.info? 29).map (·.size) = some 7 := by kernel_rfl
end Go.Proofs.YtbnonccmlildnaaGreat

/- Which texts are names. -/
namespace Go.Proofs.YtbnonccmlildnaaGreat
open Go.RowKit

/-- The words that are kept. -/
def kept : List (List UInt8) := [[110, 111, 116], [97, 110, 100], [111, 114], [105, 102, 102], [105, 116, 101], [110, 101, 103], [102, 111, 114, 97, 108, 108], [112, 97, 116, 116, 101, 114, 110], [116, 114, 117, 101], [102, 97, 108, 115, 101], [105, 110, 116], [98, 111, 111, 108], [111, 98, 106]]
def letterB (c : Nat) : Bool := (decide (97 ≤ c) && decide (c ≤ 122)) || (decide (65 ≤ c) && decide (c ≤ 90)) || c == 95
def digitB (c : Nat) : Bool := decide (48 ≤ c) && decide (c ≤ 57)
def okAt (s : ByteArray) (i : Nat) : Bool := match s.data[i]? with
  | some c => letterB c.toNat || (i != 0 && digitB c.toNat)
  | none => false
def okTo (s : ByteArray) : Nat → Bool
  | 0 => true
  | k + 1 => okTo s k && okAt s k
def nameB (s : ByteArray) : Bool := !kept.contains s.toList && decide (0 < s.size) && decide (s.size ≤ 40) && okTo s s.size
theorem okTo_false {s : ByteArray} {k n : Nat} (hk : k < n) (h : okAt s k = false) : okTo s n = false := by
  induction n with
  | zero => omega
  | succ n ih =>
    unfold okTo
    by_cases e : k = n
    · subst e; rw [h, Bool.and_false]
    · rw [ih (by omega), Bool.false_and]

theorem toList_ne {s : ByteArray} {l : List UInt8} (h : ¬ s = ⟨l.toArray⟩) : (s.toList == l) = false := by
  rw [ByteArray.toList_eq, beq_eq_false_iff_ne]
  intro e
  apply h
  subst e
  simp

theorem of_toList {s : ByteArray} {l : List UInt8} (h : s.toList = l) : s = ⟨l.toArray⟩ := by
  rw [ByteArray.toList_eq] at h
  subst h
  simp
theorem empty_toList (s : ByteArray) : (s.toList == []) = decide (s.size = 0) := by
  rw [ByteArray.toList_eq, Bool.eq_iff_iff, beq_iff_eq, decide_eq_true_iff]
  obtain ⟨d⟩ := s
  show d.toList = [] ↔ d.size = 0
  rw [← Array.length_toList, List.length_eq_zero_iff]
theorem below_iter (w : World) (s : ByteArray) (p : Nat) : Below w.heap.size w (w.iter s p) :=
  (Below.refl _ _).alloc (Nat.le_refl _) _
/-- A place of a text: what the range tells there. -/
theorem rune_class (s : ByteArray) (pos : Nat) (hp : pos < s.size) : ∃ r wd : Nat, Utf8.decode s pos = (r, wd) ∧
    ((okAt s pos = true ∧ wd = 1 ∧ ((97 ≤ r ∧ r ≤ 122) ∨ (65 ≤ r ∧ r ≤ 90) ∨ r = 95 ∨ (0 < pos ∧ 48 ≤ r ∧ r ≤ 57))) ∨
      (okAt s pos = false ∧ (r < 48 ∨ (58 ≤ r ∧ r ≤ 64) ∨ (91 ≤ r ∧ r ≤ 94) ∨ r = 96 ∨ 122 < r ∨ (pos = 0 ∧ 48 ≤ r ∧ r ≤ 57)))) := by
  have hget : s.data[pos]? = some (s[pos]'hp) := Array.getElem?_eq_getElem hp
  have hok : okAt s pos = (letterB (s[pos]'hp).toNat || (pos != 0 && digitB (s[pos]'hp).toNat)) := by
    unfold okAt
    rw [hget]
  by_cases ha : (s[pos]'hp).toNat < 128
  · refine ⟨(s[pos]'hp).toNat, 1, decode_ascii s pos hp ha, ?_⟩
    rw [hok]
    generalize (s[pos]'hp).toNat = c at *
    cases h : (letterB c || (pos != 0 && digitB c)) with
    | true =>
      refine .inl ⟨rfl, rfl, ?_⟩
      simp [letterB, digitB] at h
      omega
    | false =>
      refine .inr ⟨rfl, ?_⟩
      simp [letterB, digitB] at h
      omega
  · refine ⟨(Utf8.decode s pos).1, (Utf8.decode s pos).2, rfl, .inr ⟨?_, ?_⟩⟩
    · rw [hok]
      generalize (s[pos]'hp).toNat = c at *
      simp [letterB, digitB]
      omega
    · have := (decode_high s pos hp (by omega)).1
      omega

set_option maxRecDepth 100000 in
set_option maxHeartbeats 2000000 in
theorem named_any (s : ByteArray) (w : World) (hs : s.size ≤ 140737488355328) : Calls Tryz.prog 94 #[.string s] w fun e w' => e = .returned (.bool (nameB s)) ∧ Below w.heap.size w w' := by
  by_cases hk : s.toList ∈ kept
  · have Hr : Hid (nameB s = false) := Lib.hid (by
      unfold nameB
      rw [List.contains_iff_mem.2 hk]
      rfl)
    simp only [kept, List.mem_cons, List.not_mem_nil, or_false] at hk
    rcases hk with hk | hk | hk | hk | hk | hk | hk | hk | hk | hk | hk | hk | hk
    all_goals
      obtain rfl := of_toList hk
      clear hk
      go_enter Tryz.func94, Tryz.ntmps94
      go_wp2_with fail
      go_ret
      exact ⟨by rw [Hr.out]; rfl, Below.refl _ _⟩
  · have Hk : Hid (kept.contains s.toList = false) := Lib.hid (by simpa using hk)
    have Hname : Hid (nameB s = (decide (0 < s.size) && decide (s.size ≤ 40) && okTo s s.size)) := Lib.hid (by
      unfold nameB
      rw [Hk.out]
      rfl)
    simp only [kept, List.mem_cons, List.not_mem_nil, or_false, not_or] at hk
    obtain ⟨k1, k2, k3, k4, k5, k6, k7, k8, k9, k10, k11, k12, k13⟩ := hk
    rw [← ne_eq, ← beq_eq_false_iff_ne] at k1 k2 k3 k4 k5 k6 k7 k8 k9 k10 k11 k12 k13
    go_enter Tryz.func94, Tryz.ntmps94
    go_wp2_with fail
    clear k1 k2 k3 k4 k5 k6 k7 k8 k9 k10 k11 k12 k13 Hk
    go_loopw [] (fun wr => ∃ pos : Nat, wr = w.iter s pos ∧ pos ≤ s.size ∧ Hid (okTo s pos = true)) (fun wr => s.size - wr.iterPos w.heap.size)
    case atStart => exact ⟨0, rfl, Nat.zero_le _, Lib.hid rfl⟩
    case round =>
      obtain ⟨pos, rfl, hpos, Hok⟩ := hrel
      have Hbel : Hid (∀ p, Below w.heap.size w (w.iter s p)) := Lib.hid (fun p => below_iter w s p)
      by_cases hp : pos < s.size
      · have hnx : ∀ ty, (Instr.next (.pointer (some ⟨w.heap.size, 0, none⟩)) true ty).run Tryz.prog (w.iter s pos) = _ := fun ty => run_next_any w s pos ty hp
        obtain ⟨r, wd, hdec, hcls⟩ := rune_class s pos hp
        rw [hdec] at hnx
        simp only at hnx
        clear hdec
        obtain ⟨z, hz, hz2⟩ : ∃ z, ((pos : Int) == 0) = z ∧ (z = true ↔ pos = 0) := ⟨_, rfl, by simp⟩
        rcases hcls with ⟨h1, rfl, hc⟩ | ⟨h1, hc⟩
        · have H1 := Lib.hid h1
          clear h1
          cases z
          all_goals
            simp at hz2
            rcases hc with ⟨c1, c2⟩ | ⟨c1, c2⟩ | c1 | ⟨c0, c1, c2⟩
            all_goals first
              | (exfalso; omega)
              | (clear hz2
                 try clear c0
                 go_wp2_with fail
                 go_roundw
                 case rel => exact ⟨pos + 1, rfl, by omega, Lib.hid (by unfold okTo; rw [Hok.out, H1.out]; rfl)⟩
                 case measure => simp; omega)
        · have Hr : Hid (nameB s = false) := Lib.hid (by rw [Hname.out, okTo_false hp h1, Bool.and_false])
          clear h1
          have hb95 : ((r : Int) == 95) = false := by
            rw [beq_eq_false_iff_ne]
            omega
          cases z
          all_goals
            simp at hz2
            rcases hc with c1 | ⟨c1, c2⟩ | ⟨c1, c2⟩ | c1 | c1 | ⟨c0, c1, c2⟩
            all_goals first
              | (exfalso; omega)
              | (clear hz2
                 try clear c0
                 go_wp2_with fail
                 all_goals first
                   | (go_ret
                      exact ⟨by rw [Hr.out]; rfl, Hbel.out _⟩)
                   | (exfalso
                      simp only [Bool.not_eq_false', decide_eq_true_eq] at *
                      omega))
      · have hnx : ∀ ty, (Instr.next (.pointer (some ⟨w.heap.size, 0, none⟩)) true ty).run Tryz.prog (w.iter s pos) = _ := fun ty => run_next_end w s pos ty hp
        have hpe : pos = s.size := by omega
        subst hpe
        have he := empty_toList s
        by_cases h0 : s.size = 0
        · rw [decide_eq_true h0] at he
          have Hr : Hid (nameB s = false) := Lib.hid (by rw [Hname.out, h0]; rfl)
          clear h0
          go_wp2_with fail
          go_ret
          exact ⟨by rw [Hr.out]; rfl, Hbel.out _⟩
        · rw [decide_eq_false h0] at he
          have Hr : Hid (nameB s = decide ((s.size : Int) ≤ 40)) := Lib.hid (by
            rw [Hname.out, Hok.out, Bool.and_true, decide_eq_true (show 0 < s.size by omega), Bool.true_and]
            congr 1
            simp
            omega)
          go_wp2_with fail
          go_ret
          exact ⟨by rw [Hr.out]; rfl, Hbel.out _⟩
end Go.Proofs.YtbnonccmlildnaaGreat
