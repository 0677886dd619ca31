/- One element, and those of a list behind it: append. -/
import Derived.Test.YtbnonccmlildnaaGreatM38
import Derived.ArgAppend
import Derived.Test.YtbnonccmlildnaaGreatM37
import Derived.Test.YtbnonccmlildnaaGreatM36
set_option linter.unusedSimpArgs false
set_option linter.unusedVariables false
namespace Go.Proofs.YtbnonccmlildnaaGreat
open Go.RowKit Go.Lib

theorem FnAt.mono {w w' : World} {f : Fn} {v : Value} (h : FnAt w f v) (hb : Below w.heap.size w w') : FnAt w' f v := by
  obtain ⟨B, c, e, hi⟩ := h.is
  exact ⟨⟨B, c, e, hi.mono hb⟩, h.name, h.args, h.out⟩
theorem TbAt.mono {w w' : World} {t : Tb} {v : Value} (h : TbAt w t v) (hb : Below w.heap.size w w') : TbAt w' t v := by
  obtain ⟨B, c, e, hi, hc⟩ := h.is
  exact ⟨⟨B, c, e, hi.mono hb, hc⟩, h.name, h.els, h.len⟩
def Tri (v : Value) : Prop := v.cells.size = 3 ∧ ∀ u ∈ v.cells.toList, u.oneCell' = true
theorem FnAt.three {w : World} {f : Fn} {v : Value} (h : FnAt w f v) : Tri v := by
  obtain ⟨B, c, e, hi⟩ := h.is
  subst e
  refine ⟨rfl, fun u hu => ?_⟩
  simp only [Value.cells, List.mem_cons, List.not_mem_nil, or_false] at hu
  rcases hu with rfl | rfl | rfl <;> rfl
theorem TbAt.three {w : World} {f : Tb} {v : Value} (h : TbAt w f v) : Tri v := by
  obtain ⟨B, c, e, hi, _⟩ := h.is
  subst e
  refine ⟨rfl, fun u hu => ?_⟩
  simp only [Value.cells, List.mem_cons, List.not_mem_nil, or_false] at hu
  rcases hu with rfl | rfl | rfl <;> rfl
def RowsOf {α : Type} (At : World → α → Value → Prop) (w : World) (A : Option Addr) (l : List α) : Prop := ∃ g : Nat → Value, RowCells w A 3 l.length g ∧ ∀ (j : Nat) (a : α), l[j]? = some a → At w a (g j)
/-- A list of the call's own, whose elements hold in an older world. -/
def FrontV {α : Type} (At : World → α → Value → Prop) (w0 w : World) (e : TypeId) (A : Option Addr) (c : Nat) (l : List α) : Prop :=
  ∃ us a, A = some ⟨a, 0, none⟩ ∧ us.length = l.length ∧ (∀ (j : Nat) (x : α), l[j]? = some x → At w0 x (us.getD j .nilFunc)) ∧ (∀ u ∈ us, u.cells.size = 3) ∧ w.ownsRow 0 e 3 (.slice A l.length c) l.length (cellsOf us)
theorem FrontV.keep {α : Type} {At : World → α → Value → Prop} {w0 w w' : World} {e : TypeId} {A : Option Addr} {c : Nat} {l : List α} (h : FrontV At w0 w e A c l) (hk : ∀ (g : Nat) (cur : Array Value), w.heap[g]? = some (Obj.cells cur e (0, 0)) → w'.heap[g]? = w.heap[g]?) : FrontV At w0 w' e A c l := by
  obtain ⟨us, a, hA, h1, h2, h3, h4⟩ := h
  exact ⟨us, a, hA, h1, h2, h3, ownsRow_same h4 fun g hg => by obtain ⟨_, cur, hc⟩ := ownsRow_lt h4 g hg; exact hk g cur hc⟩
theorem FrontV.below {α : Type} {At : World → α → Value → Prop} {w0 w w' : World} {e : TypeId} {A : Option Addr} {c : Nat} {l : List α} (h : FrontV At w0 w e A c l) (hb : Below w.heap.size w w') : FrontV At w0 w' e A c l :=
  h.keep fun g cur hc => hb.block g (Array.getElem?_eq_some_iff.1 hc).1
theorem FrontV.set {α : Type} {At : World → α → Value → Prop} {w0 w : World} {e : TypeId} {A : Option Addr} {c : Nat} {l : List α} (h : FrontV At w0 w e A c l) {K T i : Nat} {cs : Array Value} (hK : w.heap[K]? = some (.cells cs T (0, 0))) (hT : T ≠ e) (v : Value) : FrontV At w0 (w.setCell ⟨K, i, none⟩ v) e A c l :=
  h.keep fun g cur hc => Below.heap_setCell w ⟨K, i, none⟩ v g (fun e => by rw [show g = K from e, hK] at hc; cases hc; exact hT rfl)
theorem FrontV.rows {α : Type} {At : World → α → Value → Prop} (hmono : ∀ {w w' : World} {a : α} {v : Value}, At w a v → Below w.heap.size w w' → At w' a v) {w0 w : World} {e : TypeId} {A : Option Addr} {c : Nat} {l : List α} (h : FrontV At w0 w e A c l) (hb : Below w0.heap.size w0 w) : RowsOf At w A l ∧ l.length ≤ c := by
  obtain ⟨us, a, hA, h1, h2, h3, h4⟩ := h
  obtain ⟨r1, r2, _⟩ := ownsRow_cells h4 h3 h1 (by decide)
  exact ⟨⟨_, r1, fun j x hx => hmono (h2 j x hx) hb⟩, r2⟩
theorem rows_front {α : Type} {At : World → α → Value → Prop} (hmono : ∀ {w w' : World} {a : α} {v : Value}, At w a v → Below w.heap.size w w' → At w' a v) (h3 : ∀ {w : World} {a : α} {v : Value}, At w a v → Tri v) {P : Program} {w0 w : World} (hb0 : Below w0.heap.size w0 w) (t ty e : TypeId) (i : TypeInfo) (z : Value) (bytes : Nat)
    (ht : P.underlying t = some (.slice e)) (hi : P.info? e = some i) (hz : i.zero = some z) (hsize : i.size = 3) (hby : i.bytes = bytes) (hzs : z.cells.size = 3) {S : Option Addr} {l : List α} {cs : Nat} (h : RowsOf At w0 S l) (h0 : S = none → cs = 0) {g : Nat} {a0 : α} {v0 : Value} (hv : At w0 a0 v0) (hrow : w.heap[g]? = some (.cells v0.cells e (0, 0)))
    (h63 : 1 + l.length ≤ maxLen) (hbytes : (1 + l.length) * bytes ≤ 140737488355328) :
    ∃ A c w', (Builtin.append_ #[t, t] ty #[.slice (some ⟨g, 0, none⟩) 1 1, .slice S l.length cs]).run P w = .ok (.slice A (a0 :: l).length c) w' ∧ FrontV At w0 w' e A c (a0 :: l) ∧ Below w.heap.size w w' := by
  obtain ⟨f, h1', h2⟩ := h
  have h1 := h1'.below hb0
  have hone : RowCells w (some ⟨g, 0, none⟩) 3 1 (fun _ => v0) := .inr ⟨g, 0, rfl, fun j hj => ⟨(h3 hv).1, fun i hi => by
    have : j = 0 := by omega
    subst this
    rw [row_at hrow]
    simp⟩⟩
  by_cases hl : l.length = 0
  · have hn : l = [] := List.length_eq_zero_iff.1 hl
    subst hn
    refine ⟨some ⟨g, 0, none⟩, 1, w, ?_, ⟨[v0], g, rfl, rfl, fun j a ha => ?_, fun u hu => ?_, ?_, .inr ⟨g, 1, v0.cells, rfl, Nat.zero_le _, hrow, Nat.le_refl _, by decide, by rw [(h3 hv).1], ?_⟩⟩, Below.refl _ _⟩
    · have hf : (Builtin.firstCells i.size 0 (.slice S 0 cs)).run P w = .ok #[] w := by
        cases S with
        | none => simp [Builtin.firstCells]
        | some ad => exact run_firstCells_some (P := P) w i.size 0 ad 0 cs [] (by simp) (by simp)
      have hs : S = none ∨ ∃ ad, S = some ad := by cases S; exact .inl rfl; exact .inr ⟨_, rfl⟩
      rcases hs with rfl | ⟨ad, rfl⟩
      · simp [Builtin.append_, run_underlying ht, sizeOf, typeInfo, hi, Builtin.lenOf, Builtin.firstCells, storeCells]
      · simp [Builtin.append_, run_underlying ht, sizeOf, typeInfo, hi, Builtin.lenOf, hf, storeCells]
    · match j, ha with
      | 0, ha => cases ha; exact hv
      | j + 1, ha => simp at ha
    · rw [List.mem_singleton.1 hu]; exact (h3 hv).1
    · simp [cellsOf, (h3 hv).1]
    · have e1 : v0.cells.toList.length = 3 := by rw [Array.length_toList, (h3 hv).1]
      simp only [List.length_singleton, Nat.one_mul, cellsOf, List.flatMap_cons, List.flatMap_nil, List.append_nil]
      rw [← e1, List.take_length]
  · obtain ⟨b, o, rfl, h4⟩ := h1.resolve_left hl
    have hul : ((List.range l.length).map f).length = l.length := by simp
    have hut : ∀ u ∈ (List.range l.length).map f, ∃ a, At w0 a u := fun u hu => by
      obtain ⟨j, hj, rfl⟩ := List.mem_map.1 hu
      exact ⟨_, h2 j _ (List.getElem?_eq_getElem (List.mem_range.1 hj))⟩
    have hu3 : ∀ u ∈ (List.range l.length).map f, u.cells.size = 3 := fun u hu => by obtain ⟨a, ha⟩ := hut u hu; exact (h3 ha).1
    have hlen := cellsOf_length hu3
    rw [hul] at hlen
    obtain ⟨v', w', hr, hq, hg⟩ := run_append_arg_grows (P := P) w t ty e i z 3 bytes ht hi hz hsize hby hzs (by omega) ⟨g, 0, none⟩ 1 1 v0.cells.toList (by rw [Array.length_toList, (h3 hv).1]) (fun j u hj => by
      rw [Addr.add_lit, row_at hrow, Nat.zero_add]
      simpa using hj) ⟨b, o, none⟩ l.length cs (cellsOf ((List.range l.length).map f)) hlen (fun j u hj => by
      have hjl : j < l.length * 3 := by rw [← hlen]; exact (List.getElem?_eq_some_iff.1 hj).1
      have hq : j / 3 < l.length := by omega
      have h5 := (h4 (j / 3) hq).2 (j % 3) (by omega)
      have h6 := cellsOf_get hu3 (j := j / 3) (by rw [hul]; exact hq) (i := j % 3) (by omega)
      rw [show j / 3 * 3 + j % 3 = j by omega, hj] at h6
      rw [Addr.add_lit]
      rw [show o + j / 3 * 3 + j % 3 = o + j by omega] at h5
      rw [h5, h6]
      simp) (by omega) h63 hbytes
    have hb : Below w.heap.size w w' := ⟨hg.os, hg.tape, hg.output, hg.size, fun k hk => hg.block k hk (by simp)⟩
    have hcells : v0.cells.toList ++ cellsOf ((List.range l.length).map f) = cellsOf (v0 :: (List.range l.length).map f) := by simp [cellsOf]
    rw [hcells] at hq
    have hc2 := hq.2
    rcases hc2 with ⟨rfl, hn⟩ | ⟨g', cap, cur, rfl, _⟩
    · omega
    · have hu4 : ∀ u ∈ v0 :: (List.range l.length).map f, u.cells.size = 3 := fun u hu => by
        rcases List.mem_cons.1 hu with rfl | hu
        · exact (h3 hv).1
        · exact hu3 u hu
      have e1 : (a0 :: l).length = 1 + l.length := by simp; omega
      refine ⟨_, cap, w', by rw [e1]; exact hr, ⟨_, g', rfl, by simp, fun j a ha => ?_, hu4, by rw [e1]; exact ⟨hq.1, hq.2.imp_right fun ⟨g2, cap2, cur2, x1, _, x3⟩ => ⟨g2, cap2, cur2, x1, Nat.zero_le _, x3⟩⟩⟩, hb⟩
      match j, ha with
      | 0, ha => cases ha; exact hv
      | j + 1, ha =>
        have hj : j < l.length := by have := (List.getElem?_eq_some_iff.1 ha).1; simpa using this
        have := h2 j a (by simpa using ha)
        simpa [hj] using this
end Go.Proofs.YtbnonccmlildnaaGreat

/- ModelRows, plainly. -/
namespace Go.Proofs.YtbnonccmlildnaaGreat
open Go.RowKit Go.Lib

/-- The digits of a small number. -/
def dig3 (k : Nat) : List UInt8 :=
  if k < 10 then [UInt8.ofNat (48 + k)] else if k < 100 then [UInt8.ofNat (48 + k / 10), UInt8.ofNat (48 + k % 10)] else [UInt8.ofNat (48 + k / 10 / 10), UInt8.ofNat (48 + k / 10 % 10), UInt8.ofNat (48 + k % 10)]
def num8 (n : Int) : List UInt8 := if n < 0 then 45 :: dig3 n.natAbs else dig3 n.natAbs
def n8B (n : Int) : ByteArray := ⟨(num8 n).toArray⟩
theorem dec3 {k : Nat} (h : k < 1000) : decDigits k = dig3 k := by
  unfold dig3
  by_cases h1 : k < 10
  · rw [if_pos h1, decDigits, dif_pos h1]
  · rw [if_neg h1, decDigits, dif_neg h1]
    by_cases h2 : k < 100
    · rw [if_pos h2, decDigits, dif_pos (by omega)]
      rfl
    · rw [if_neg h2, decDigits, dif_neg (by omega), decDigits, dif_pos (by omega)]
      rfl
theorem itoa8 {n : Int} (h : n.natAbs < 1000) : itoa n = num8 n := by
  unfold itoa num8
  by_cases h0 : n < 0
  · rw [if_pos h0, if_pos h0, dec3 h]
  · rw [if_neg h0, if_neg h0, show n.toNat = n.natAbs by omega, dec3 h]
/-- All numbers of eight bits at once. -/
theorem int8_all (p : Int → Bool) (h : (List.range 256).all (fun k => p ((k : Int) - 128)) = true) {n : Int} (h1 : -128 ≤ n) (h2 : n ≤ 127) : p n = true := by
  have := List.all_eq_true.1 h (n + 128).toNat (by simp; omega)
  rw [show (((n + 128).toNat : Nat) : Int) - 128 = n by omega] at this
  exact this
theorem n8_val {n : Int} (h1 : -128 ≤ n) (h2 : n ≤ 127) : valB (n8B n) = n := by
  have := int8_all (fun n => decide (valB (n8B n) = n)) (by kernel_rfl) h1 h2
  simpa using this
theorem n8_right {n : Int} (h1 : -128 ≤ n) (h2 : n ≤ 127) : rightB (n8B n) = true := int8_all (fun n => rightB (n8B n)) (by kernel_rfl) h1 h2
theorem n8_check {n : Int} (h1 : -128 ≤ n) (h2 : n ≤ 127) : checkTop exSig (appF (n8B n)) = (1, 0) := by
  have := int8_all (fun n => decide (checkTop exSig (appF (n8B n)) = (1, 0))) (by kernel_rfl) h1 h2
  simpa using this
theorem n8_asks (n : Int) : asksT 0 (appF (n8B n)) = false := by kernel_rfl
theorem n8_size {n : Int} (h1 : -128 ≤ n) (h2 : n ≤ 127) : (n8B n).size ≤ 4 := by
  have := int8_all (fun n => decide ((n8B n).size ≤ 4)) (by kernel_rfl) h1 h2
  simpa using this
/-- The rows of the table. -/
def rowsT (rows : List (Int × Int)) : List (List ByteArray × ByteArray) := rows.map fun r => ([n8B r.1], n8B r.2)
/-- The first row that fits. -/
def wantI : List (Int × Int) → Int → Int → Int
  | [], _, o => o
  | r :: rs, a, o => if r.1 = a then r.2 else wantI rs a o
theorem wantI_le {rows : List (Int × Int)} {a o : Int} (h : ∀ r ∈ rows, -128 ≤ r.2 ∧ r.2 ≤ 127) (ho : -128 ≤ o ∧ o ≤ 127) : -128 ≤ wantI rows a o ∧ wantI rows a o ≤ 127 := by
  induction rows with
  | nil => exact ho
  | cons r rs ih =>
    unfold wantI
    split
    · exact h r (by simp)
    · exact ih fun r hr => h r (by simp [hr])
theorem rows_row {rows : List (Int × Int)} {a o : Int} (h : ∀ r ∈ rows, -128 ≤ r.1 ∧ r.1 ≤ 127) (ha : -128 ≤ a ∧ a ≤ 127) : rowOf (rowsT rows) [n8B a] (n8B o) = n8B (wantI rows a o) := by
  induction rows with
  | nil => rfl
  | cons r rs ih =>
    have hr := h r (by simp)
    unfold rowsT wantI
    rw [List.map_cons, rowOf]
    by_cases he : r.1 = a
    · rw [if_pos (by rw [he]), if_pos he]
    · rw [if_neg, if_neg he]
      · exact ih fun r hr => h r (by simp [hr])
      · intro hx
        have hx2 := (maps_eq (xs := [n8B r.1]) (ys := [n8B a])).1 hx
        simp only [List.cons.injEq, and_true] at hx2
        have h1 := n8_val hr.1 hr.2
        rw [hx2, n8_val ha.1 ha.2] at h1
        exact he h1.symm
def rowsTbs (rows : List (Int × Int)) (o : Int) : List Tb := [⟨fB, rowsT rows, n8B o⟩, ⟨fB, [], ⟨#[55, 55]⟩⟩]
theorem rows_value (τ : Nat → List UInt8) {rows : List (Int × Int)} {a o : Int} (h : ∀ r ∈ rows, (-128 ≤ r.1 ∧ r.1 ≤ 127) ∧ (-128 ≤ r.2 ∧ r.2 ≤ 127)) (ha : -128 ≤ a ∧ a ≤ 127) (ho : -128 ≤ o ∧ o ≤ 127) :
    valueS τ exSig (rowsTbs rows o) 0 (appF (n8B a)) = .ok (.num (wantI rows a o)) ∧ textV τ (.num (wantI rows a o)) = n8B (wantI rows a o) := by
  obtain ⟨w1, w2⟩ := wantI_le (a := a) (fun r hr => (h r hr).2) ho
  constructor
  · unfold valueS
    rw [n8_check ha.1 ha.2, if_neg (by decide), n8_asks]
    show evalT τ exSig (rowsTbs rows o) 0 (appF (n8B a)) [] = _
    unfold appF
    simp only [evalT, evals]
    rw [if_neg (by decide)]
    have hn : evalT τ exSig (rowsTbs rows o) 0 (.mk 1 eB 0 (n8B a) [] [] []) [] = .ok (.num a) := by
      rw [evalT_op (by decide) (by decide) (by decide)]
      show Except.ok (Vl.num (valB (n8B a))) = _
      rw [n8_val ha.1 ha.2]
    simp only [evalT, evals] at hn
    rw [hn]
    show appV τ exSig (rowsTbs rows o) 0 fB [.num a] = _
    have hi : [Vl.num a].map (textV τ) = [n8B a] := by
      show [(⟨(itoa a).toArray⟩ : ByteArray)] = _
      rw [itoa8 (by omega)]
      rfl
    have ht : tableOf (rowsTbs rows o) fB = some ⟨fB, rowsT rows, n8B o⟩ := by
      unfold tableOf rowsTbs
      rw [List.find?_cons]
      rw [show ((fB.toList == fB.toList) = true) from by kernel_rfl]
    unfold appV
    rw [ht, show outOf exSig fB = 1 from by kernel_rfl, hi]
    dsimp only
    rw [rows_row (fun r hr => (h r hr).1) ha]
    unfold readV
    rw [if_pos rfl, if_pos (n8_right w1 w2), n8_val w1 w2]
  · show (⟨(itoa _).toArray⟩ : ByteArray) = _
    rw [itoa8 (by omega)]
    rfl
end Go.Proofs.YtbnonccmlildnaaGreat

/- ModelObjects, plainly: what is put is small; the end. -/
namespace Go.Proofs.YtbnonccmlildnaaGreat
open Go.RowKit Go.Lib

mutual
theorem tw_put {x : ByteArray} {u : Tm} (hu : tw u ≤ 1) : ∀ t : Tm, tw (putX x u t) ≤ tw t
  | .mk op name sort n l vars pat => by
    simp only [putX]
    split
    · simp only [tw]; omega
    · split
      · exact Nat.le_refl _
      · have h1 := tws_put (x := x) hu l
        have h2 := tws_put (x := x) hu pat
        simp only [tw]
        omega
theorem tws_put {x : ByteArray} {u : Tm} (hu : tw u ≤ 1) : ∀ l : List Tm, tws (putXs x u l) ≤ tws l
  | [] => Nat.le_refl _
  | t :: ts => by
    have h1 := tw_put (x := x) hu t
    have h2 := tws_put (x := x) hu ts
    simp only [putXs, tws]
    omega
end
mutual
theorem shortT_put {x : ByteArray} {u : Tm} (hu : shortT u = true) : ∀ t : Tm, shortT t = true → shortT (putX x u t) = true
  | .mk op name sort n l vars pat, h => by
    simp only [putX]
    split
    · exact hu
    · split
      · exact h
      · simp only [shortT, Bool.and_eq_true] at h ⊢
        exact ⟨⟨h.1.1, shortTs_put hu l h.1.2⟩, shortTs_put hu pat h.2⟩
theorem shortTs_put {x : ByteArray} {u : Tm} (hu : shortT u = true) : ∀ l : List Tm, shortTs l = true → shortTs (putXs x u l) = true
  | [], _ => rfl
  | t :: ts, h => by
    simp only [putXs, shortTs, Bool.and_eq_true] at h ⊢
    exact ⟨shortT_put hu t h.1, shortTs_put hu ts h.2⟩
end
mutual
theorem numsT_put {L : Nat} {x : ByteArray} {u : Tm} (hu : numsT L u = true) : ∀ t : Tm, numsT L t = true → numsT L (putX x u t) = true
  | .mk op name sort n l vars pat, h => by
    simp only [putX]
    split
    · exact hu
    · split
      · exact h
      · simp only [numsT, Bool.and_eq_true] at h ⊢
        exact ⟨h.1, numsTs_put hu l h.2⟩
theorem numsTs_put {L : Nat} {x : ByteArray} {u : Tm} (hu : numsT L u = true) : ∀ l : List Tm, numsTs L l = true → numsTs L (putXs x u l) = true
  | [], _ => rfl
  | t :: ts, h => by
    simp only [putXs, numsTs, Bool.and_eq_true] at h ⊢
    exact ⟨numsT_put hu t h.1, numsTs_put hu ts h.2⟩
end
def tauD : Nat → List UInt8 := fun k => decDigits k
theorem dig3_len (k : Nat) : (dig3 k).length ≤ 3 := by unfold dig3; split; simp; split <;> simp
theorem text_small {M : Mdl} (h : M.objs ≤ 100) : ObjText M tauD := fun k hk => by
  refine ⟨?_, fun w hw => (Tryz.strconv_Itoa_small k (by omega) w).mono ?_⟩
  · unfold tauD
    rw [dec3 (by omega)]
    have := dig3_len k
    omega
  · rintro e w' ⟨rfl, rfl⟩
    exact ⟨rfl, Below.refl _ _⟩
/-- Is it the word true? -/
def isT (s : ByteArray) : Bool := s.toList == [116, 114, 117, 101]
theorem isT_tr (τ : Nat → List UInt8) (b : Bool) : isT (textV τ (.tr b)) = b := by
  cases b <;> kernel_rfl
theorem obj_end {τ : Nat → List UInt8} {sig : List Fn} {tbs : List Tb} {objs : Nat} {nm nn x z : ByteArray} {st s : Int} {body : Tm} {pat : List Tm} {v : Vl} (h0 : objs ≤ 3) (hu : usesX z (.mk 19 nm st nn [body] [(x, s)] pat) = false)
    (hv : valueS τ sig tbs objs (.mk 19 nm st nn [body] [(x, s)] pat) = .ok v) {w : Nat → Vl} (hw : ∀ i, i < objs → valueS τ (⟨z, [], 3⟩ :: sig) (⟨z, [], objB i⟩ :: tbs) objs (putX x (constT z) body) = .ok (w i)) :
    isT (textV τ v) = (List.range objs).all fun i => isT (textV τ (w i)) := by
  obtain ⟨b, rfl, h1, h2⟩ := objects h0 hu hv hw
  rw [isT_tr]
  have h3 : ((List.range objs).all fun i => isT (textV τ (w i))) = true ↔ ∀ i, i < objs → w i = .tr true := by
    rw [List.all_eq_true]
    constructor
    · intro h i hi
      have h4 := h i (List.mem_range.2 hi)
      obtain ⟨c, hc⟩ := h1 i hi
      rw [hc, isT_tr] at h4
      rw [hc, h4]
    · intro h i hi
      rw [h i (List.mem_range.1 hi), isT_tr]
  cases hb : (List.range objs).all fun i => isT (textV τ (w i)) with
  | true => exact h2.2 (h3.1 hb)
  | false =>
    cases b with
    | false => rfl
    | true => rw [h3.2 (h2.1 rfl)] at hb; cases hb
end Go.Proofs.YtbnonccmlildnaaGreat

/- ModelObjects: the walk. -/
namespace Go.Proofs.YtbnonccmlildnaaGreat
open Go.RowKit Go.Lib

theorem two_rows (w : World) (a b : Obj) : ((w.alloc a).alloc b).heap[w.heap.size]? = some a ∧ ((w.alloc a).alloc b).heap[w.heap.size + 1]? = some b ∧ ((w.alloc a).alloc b).heap.size = w.heap.size + 2 ∧ Below w.heap.size w ((w.alloc a).alloc b) := by
  obtain ⟨h0, h1, _⟩ := four_rows w a b a a
  have s1 : (w.alloc a).heap.size = w.heap.size + 1 := by simp
  have s2 : ((w.alloc a).alloc b).heap.size = w.heap.size + 1 + 1 := by simp
  have s3 : (((w.alloc a).alloc b).alloc a).heap.size = w.heap.size + 1 + 1 + 1 := by simp
  rw [Below.heap_alloc _ _ _ (by omega), Below.heap_alloc _ _ _ (by omega)] at h0 h1
  exact ⟨h0, h1, by simp, ((Below.refl _ _).alloc (Nat.le_refl _) _).alloc (by simp) _⟩
theorem light_one {w W : World} {t : Tm} {p : Parts} {S T : Option Addr} {cs ns ct : Nat} {tbs : List Tb} (o0 : Int) (ht : TmV w t (.agg p.arr)) (hT : TbsAt w T tbs) (hnt : tbs.length ≤ 140737488355328) (hns : ns ≤ 140737488355328) (hb : Below w.heap.size w W) :
    Calls Tryz.prog 8 #[.slice S ns cs, .agg #[.slice T tbs.length ct, .int .i64 o0], .slice (some ⟨W.heap.size, 0, none⟩) 1 1] (W.alloc (.cells p.arr 29)) (LightIs (lightB 200 [t]) (W.alloc (.cells p.arr 29))) := by
  obtain ⟨A, c, e, _, f, hf, hL⟩ := TsV.one (ht.mono hb) 29
  have hb2 : Below W.heap.size W (W.alloc (.cells p.arr 29)) := (Below.refl _ _).alloc (Nat.le_refl _) _
  cases e
  exact lightM_any o0 ((hT.mono hb).mono hb2) hnt hns hf hL (by simp) _ (Below.refl _ _)
/-- What Value tells, where all is well. -/
theorem value_at {w : World} {sig : List Fn} {S T : Option Addr} {cs ct N : Nat} {tbs : List Tb} (hS : SigAt w S cs sig) (hT : TbsAt w T tbs) (hTl : tbs.length ≤ 140737488355328) (hL : tabsL 1048576 tbs) (hN : N ≤ 3) {t : Tm} {v : Value} (ht : TmV w t v) (hn : numsT 1048576 t = true) (htw : tw t ≤ 1000000) (hsh : shortT t = true) :
    ∀ W, Below w.heap.size w W → Calls Tryz.prog 9 #[.slice S sig.length cs, .agg #[.slice T tbs.length ct, .int .i64 N], v] W (ValueIs tauD (valueS tauD sig tbs N t) W) :=
  Value_any (M := ⟨sig, tbs, N, N, S, cs, T, ct, w⟩) (L := 1048576) ⟨hS.at_, hT, by show N ≤ 1000; omega, text_small (by show N ≤ 100; omega), hL, by decide, hS.len, hTl⟩ hS.out (by show (N : Int) = min (max (N : Int) 0) 1000; omega) ht hn htw hsh
theorem wp_append_call {P : Program} {o : Oper} {a : Act} {w : World} {K : Act → World → Prop} {Q : Exit → Act → World → Prop} (s x : Operand) (t : TypeId) (ho : o.op = .call { callee := .builtin .append, args := #[s, x], argTypes := #[t, t] })
    {v' : Value} {w' : World} (hr : (Builtin.append_ #[t, t] o.type #[a.eval s, a.eval x]).run P w = .ok v' w') (h : K (a.put o.dst v') w') : Oper.wp P o a w K Q := by
  unfold Oper.wp execOp
  simp only [ho, resolve, invoke, builtin, Sem.run_bind, Sem.run_pure, Result.andThen_ok, List.map_toArray, List.map_cons, List.map_nil, hr]
  exact h
theorem wpList_append_run {P : Program} {w : World} {ops : Array Oper} {rest : List Oper} {o : Oper} {a : Act} {Q : Exit → Act → World → Prop} (hgd : o.guard = none) (s x : Operand) (t : TypeId)
    (ho : o.op = .call { callee := .builtin .append, args := #[s, x], argTypes := #[t, t] }) {v' : Value} {w' : World} (hr : (Builtin.append_ #[t, t] o.type #[a.eval s, a.eval x]).run P w = .ok v' w')
    (h : wpList P ops Q rest (a.put o.dst v') w') : wpList P ops Q (o :: rest) a w := by
  refine wpList_plain hgd fun K hK => ?_
  exact wp_append_call s x t ho hr (hK _ _ h)
def zB : ByteArray := ⟨#[122, 122]⟩
theorem info47 : (Tryz.prog.info? 47).map (fun i => (i.zero, i.size, i.bytes)) = some (some (.agg #[.string .empty, .slice none 0 0, .string .empty]), 3, 56) := by kernel_rfl
theorem info50 : (Tryz.prog.info? 50).map (fun i => (i.zero, i.size, i.bytes)) = some (some (.agg #[.string .empty, .slice none 0 0, .int .i64 0]), 3, 48) := by kernel_rfl
theorem objB_at : ∀ i : Nat, i < 3 → (⟨#[35]⟩ : ByteArray) ++ (⟨#[48, 49, 50, 51]⟩ : ByteArray).extract i (i + 1) = objB i := by
  intro i hi
  have h : ((List.range 3).all fun i => decide ((⟨#[35]⟩ : ByteArray) ++ (⟨#[48, 49, 50, 51]⟩ : ByteArray).extract i (i + 1) = objB i)) = true := by kernel_rfl
  simpa using List.all_eq_true.1 h i (List.mem_range.2 hi)
theorem wrap_i {i : Nat} (h : i < 3) : IntKind.i64.wrap ((i : Int) + 1) = (i : Int) + 1 := by
  have h3 : i = 0 ∨ i = 1 ∨ i = 2 := by omega
  rcases h3 with rfl | rfl | rfl <;> rfl
theorem new_tb (w : World) (i : Nat) : TbAt w ⟨zB, [], objB i⟩ (.agg #[.string zB, .slice none 0 0, .string (objB i)]) :=
  ⟨⟨none, 0, rfl, ⟨fun _ => .nilFunc, .inl rfl, by simp⟩, by simp⟩, (show zB.size ≤ 140737488355328 by decide), (show (2 : Nat) ≤ 140737488355328 by decide), by simp⟩
theorem new_fn (w : World) : FnAt w ⟨zB, [], 3⟩ (.agg #[.string zB, .slice none 0 0, .int .i64 3]) :=
  ⟨⟨none, 0, rfl, ⟨by simp, .inl rfl⟩⟩, (show zB.size ≤ 140737488355328 by decide), by simp, by unfold i64; decide⟩
def objSpec (B0 K N nt ct i : Nat) (T : Option Addr) (tbs : List Tb) (w0 : World) : Nat → World → Value → Prop
  | 0, _, v => v = .pointer (some ⟨K, 1, none⟩)
  | 1, _, v => v = .int .i64 N
  | 2, _, v => v = .string zB
  | 3, _, v => v = .int .i64 i
  | 4, _, v => v = .int .i64 i
  | 5, _, v => v = .int .i64 ((i : Int) + 1)
  | 6, _, v => v = .string ((⟨#[48, 49, 50, 51]⟩ : ByteArray).extract i (i + 1))
  | 7, _, v => v = .string (objB i)
  | 8, _, v => v = .agg #[.string zB, .slice none 0 0, .string (objB i)]
  | 9, w, v => ∃ g, v = .slice (some ⟨g, 0, none⟩) 1 1 ∧ w.heap[g]? = some (.cells #[.string zB, .slice none 0 0, .string (objB i)] 47 (0, 0))
  | 10, _, v => v = .pointer (some ⟨K, 0, none⟩)
  | 11, _, v => v = .slice T nt ct
  | 12, w, v => ∃ A c, v = .slice A ((⟨zB, [], objB i⟩ : Tb) :: tbs).length c ∧ FrontV TbAt w0 w 47 A c (⟨zB, [], objB i⟩ :: tbs)
  | 13, w, v => ∃ A c, v = .agg #[.slice A ((⟨zB, [], objB i⟩ : Tb) :: tbs).length c, .int .i64 N] ∧ FrontV TbAt w0 w 47 A c (⟨zB, [], objB i⟩ :: tbs)
  | 14, w, v => ∃ g, v = .pointer (some ⟨g, 0, none⟩) ∧ w.heap[g]? = some (.cells #[.slice none 0 0, .int .i64 0] 25 (0, 0)) ∧ B0 ≤ g
  | _, _, _ => True
theorem objSpec_keep (B0 K N nt ct i : Nat) (T : Option Addr) (tbs : List Tb) (w0 : World) (j : Nat) (w w' : World) (v : Value) (h : objSpec B0 K N nt ct i T tbs w0 j w v) (hb : Below w.heap.size w w') : objSpec B0 K N nt ct i T tbs w0 j w' v :=
  match j, h with
  | 0, h => h
  | 1, h => h
  | 2, h => h
  | 3, h => h
  | 4, h => h
  | 5, h => h
  | 6, h => h
  | 7, h => h
  | 8, h => h
  | 9, ⟨g, h1, h2⟩ => ⟨g, h1, (hb.block g (Array.getElem?_eq_some_iff.1 h2).1).trans h2⟩
  | 10, h => h
  | 11, h => h
  | 12, ⟨A, c, h1, h2⟩ => ⟨A, c, h1, h2.below hb⟩
  | 13, ⟨A, c, h1, h2⟩ => ⟨A, c, h1, h2.below hb⟩
  | 14, ⟨g, h1, h2, h3⟩ => ⟨g, h1, (hb.block g (Array.getElem?_eq_some_iff.1 h2).1).trans h2, h3⟩
  | n + 15, _ => trivial
def objSpec2 (B0 K ca cv : Nat) (A V : Option Addr) (ea va : Addr) (q : Parts) (x : ByteArray) : Nat → World → Value → Prop
  | 0, _, v => v = .pointer (some ⟨K, 4, none⟩)
  | 1, _, v => v = .slice A 1 ca
  | 2, _, v => v = .pointer (some ea)
  | 3, _, v => v = .agg q.arr
  | 4, _, v => v = .pointer (some ⟨K, 5, none⟩)
  | 5, _, v => v = .slice V 1 cv
  | 6, _, v => v = .pointer (some va)
  | 7, _, v => v = .pointer (some va)
  | 8, _, v => v = .string x
  | 9, _, v => v = .string zB
  | 10, _, v => v = .agg (Parts.arr ⟨17, zB, 0, ⟨#[]⟩, none, 0, 0, none, 0, 0, none, 0, 0⟩)
  | 12, w, v => ∃ g, v = .pointer (some ⟨g, 0, none⟩) ∧ w.heap[g]? = some (.cells zeroP.arr 29 (0, 0)) ∧ B0 ≤ g
  | _, _, _ => True
theorem objSpec2_keep (B0 K ca cv : Nat) (A V : Option Addr) (ea va : Addr) (q : Parts) (x : ByteArray) (j : Nat) (w w' : World) (v : Value) (h : objSpec2 B0 K ca cv A V ea va q x j w v) (hb : Below w.heap.size w w') : objSpec2 B0 K ca cv A V ea va q x j w' v :=
  match j, h with
  | 0, h => h
  | 1, h => h
  | 2, h => h
  | 3, h => h
  | 4, h => h
  | 5, h => h
  | 6, h => h
  | 7, h => h
  | 8, h => h
  | 9, h => h
  | 10, h => h
  | 11, _ => trivial
  | 12, ⟨g, h1, h2, h3⟩ => ⟨g, h1, (hb.block g (Array.getElem?_eq_some_iff.1 h2).1).trans h2, h3⟩
  | n + 13, _ => trivial
theorem inc_set7 {w9 : World} {gE N C : Nat} (p : Parts) (h : ∀ b, b < N ∨ C ≤ b → b ≠ gE) : Inc (only w9 (inOld N C)) (set7 w9 gE p) := fun a v hv => by
  rw [only_cell] at hv
  split at hv
  · rename_i hp
    rw [set7_cell (h _ (inOld_iff.1 hp))]
    exact hv
  · cases hv
theorem const_at (w : World) : TmV w (constT zB) (.agg (Parts.arr ⟨17, zB, 0, ⟨#[]⟩, none, 0, 0, none, 0, 0, none, 0, 0⟩)) :=
  TmV.make (bds_small (by omega) (by decide) (by decide) (by simp) (by simp)) (TsV.nil w) (BsV.nil w) (TsV.nil w)
set_option maxRecDepth 100000 in
set_option maxHeartbeats 16000000 in
theorem modelObjects_any {w : World} {sig : List Fn} {S : Option Addr} {cs : Nat} (hS : SigAt w S cs sig) (hS0 : S = none → cs = 0) {tbs : List Tb} {T : Option Addr} {ct : Nat} (hT : TbsAt w T tbs) (hTl : tbs.length ≤ 140737488355328) (hT0 : T = none → ct = 0) (hTb : tabsL 1048576 tbs) {o0 : Int} (ho : i64 o0)
    {t : Tm} {v : Value} (ht : TmV w t v) (hn : numsT 1048576 t = true) (hsm : sig.length ≤ 1048576 ∧ tbs.length ≤ 1048576) : Calls Tryz.prog 6 #[.slice S sig.length cs, .agg #[.slice T tbs.length ct, .int .i64 o0], v] w (BoolIs true w) := by
  have HT := Lib.hid ht
  cases ht with
  | @mk op nm so nn l vars pat A V P ca cv cp f g hbd hl hf hL hv hV hp hg hP =>
    obtain ⟨W1, hW1⟩ : ∃ W1, W1 = (w.alloc (.cells #[.slice T tbs.length ct, .int .i64 o0] 25)).alloc (.cells #[.int .i64 op, .string nm, .int .i64 so, .string nn, .slice A l.length ca, .slice V vars.length cv, .slice P pat.length cp] 29) := ⟨_, rfl⟩
    obtain ⟨r0, r1, hsz, hb0⟩ := two_rows w (.cells #[.slice T tbs.length ct, .int .i64 o0] 25) (.cells #[.int .i64 op, .string nm, .int .i64 so, .string nn, .slice A l.length ca, .slice V vars.length cv, .slice P pat.length cp] 29)
    rw [← hW1] at r0 r1 hsz hb0
    have HS := Lib.hid hS
    have HS0 := Lib.hid hS0
    have HTb := Lib.hid hT
    have HT0 := Lib.hid hT0
    have HL := Lib.hid hTb
    have Ho := Lib.hid ho
    have Hn := Lib.hid hn
    have Hbd := Lib.hid hbd
    have Hf := Lib.hid hf
    have HfL := Lib.hid hL
    have HV := Lib.hid hV
    have HW1 := Lib.hid hW1
    have Hr0 := Lib.hid r0
    have Hr1 := Lib.hid r1
    have Hb0 := Lib.hid hb0
    have hns := hS.len
    have hll := hbd.l
    have hvl := hbd.v
    have hpl := hbd.p
    clear hS hS0 hT hT0 hTb ho hn hbd hl hf hL hv hV hp hg hP hW1 r0 r1 hb0
    go_enter Tryz.func6, Tryz.ntmps6
    go_upto_region 4 with (first
      | (go_at_call 7; rw [← HW1.out]; refine Calls.mono (known_any W1) ?_; rintro e w1 ⟨rfl, hb1⟩; have Hb1 := Lib.hid hb1; have c1 : w1.cell? ⟨w.heap.size, 1, none⟩ = some (.int .i64 o0) := (by rw [cell_of_row _ _ 1 _ _ _ ((hb1.block _ (by omega)).trans Hr0.out)]; rfl); have fz1 : w1.frozen? ⟨w.heap.size, 1, none⟩ = false := frozen_of_row _ _ 1 _ 25 ((hb1.block _ (by omega)).trans Hr0.out); clear hb1)
      | (go_at_call 14; refine Calls.mono (place_any o0 Ho.out _) ?_; rintro e w2 ⟨k, hk3, rfl, rfl⟩))
    obtain ⟨N, hN⟩ : ∃ N : Nat, N = 1 + k := ⟨_, rfl⟩
    have hNi : (1 + (k : Int)) = (N : Int) := by omega
    rw [hNi]
    clear hNi
    have hN3 : N ≤ 3 ∧ 1 ≤ N := by omega
    clear hN hk3
    have hr1' := (Hb1.out.block _ (by omega)).trans Hr1.out
    have hr0' := (Hb1.out.block _ (by omega)).trans Hr0.out
    obtain ⟨W2, hW2⟩ : ∃ W2, W2 = w1.setCell ⟨w.heap.size, 1, none⟩ (.int .i64 (N : Int)) := ⟨_, rfl⟩
    rw [← hW2]
    have Hr02 : Hid (W2.heap[w.heap.size]? = some (.cells #[.slice T tbs.length ct, .int .i64 (N : Int)] 25 (0, 0))) := Lib.hid (by rw [hW2]; exact heap_setCell_same w1 w.heap.size 1 _ 25 _ hr0')
    have Hr12 : Hid (W2.heap[w.heap.size + 1]? = some (.cells (Parts.arr ⟨op, nm, so, nn, A, l.length, ca, V, vars.length, cv, P, pat.length, cp⟩) 29 (0, 0))) := Lib.hid (by rw [hW2, Below.heap_setCell _ _ _ _ (show w.heap.size + 1 ≠ w.heap.size by omega)]; exact hr1')
    have Hb2 : Hid (Below w.heap.size w W2) := Lib.hid (by rw [hW2]; exact (Hb0.out.trans (Hb1.out.mono Hb0.out.size)).setCell (p := ⟨w.heap.size, 1, none⟩) (Nat.le_refl _) _)
    clear hr1' hr0' hW2 c1 fz1 Hb1
    have k0 : W2.cell? ⟨w.heap.size, 0, none⟩ = some (.slice T tbs.length ct) := by rw [cell_of_row _ _ 0 _ _ _ Hr02.out]; rfl
    have k1 : W2.cell? ⟨w.heap.size, 1, none⟩ = some (.int .i64 (N : Int)) := by rw [cell_of_row _ _ 1 _ _ _ Hr02.out]; rfl
    obtain ⟨x0, x1, x2, x3, x4, x5, x6⟩ := box_cells Hr12.out
    dsimp only at x0 x1 x2 x3 x4 x5 x6
    have q2 : w.heap.size + 1 < W2.heap.size := (Array.getElem?_eq_some_iff.1 Hr12.out).1
    have Hlight : Hid (Calls Tryz.prog 8 #[.slice S sig.length cs, .agg #[.slice T tbs.length ct, .int .i64 (N : Int)], .slice (some ⟨W2.heap.size, 0, none⟩) 1 1] (W2.alloc (.cells #[.int .i64 op, .string nm, .int .i64 so, .string nn, .slice A l.length ca, .slice V vars.length cv, .slice P pat.length cp] 29)) (LightIs (lightB 200 [.mk op nm so nn l vars pat]) (W2.alloc (.cells #[.int .i64 op, .string nm, .int .i64 so, .string nn, .slice A l.length ca, .slice V vars.length cv, .slice P pat.length cp] 29)))) := Lib.hid (light_one (p := ⟨op, nm, so, nn, A, l.length, ca, V, vars.length, cv, P, pat.length, cp⟩) (N : Int) HT.out HTb.out hTl hns Hb2.out)
    have Hval : Hid (lightB 200 [.mk op nm so nn l vars pat] = true → ∀ W, Below w.heap.size w W → Calls Tryz.prog 9 #[.slice S sig.length cs, .agg #[.slice T tbs.length ct, .int .i64 (N : Int)], .agg #[.int .i64 op, .string nm, .int .i64 so, .string nn, .slice A l.length ca, .slice V vars.length cv, .slice P pat.length cp]] W (ValueIs tauD (valueS tauD sig tbs N (.mk op nm so nn l vars pat)) W)) := Lib.hid (fun hl W hW => by
      obtain ⟨h1, h2, _⟩ := light_mem hl (List.mem_singleton.2 rfl)
      exact value_at HS.out HTb.out hTl HL.out hN3.1 HT.out Hn.out (by omega) h2 W hW)
    generalize hlb : lightB 200 [.mk op nm so nn l vars pat] = lb at *
    go_wp2_with fail
    go_at_call 8
    refine Calls.mono Hlight.out ?_
    rintro e w3 ⟨b, rfl, hlb2, hb3⟩
    have Hb23 : Hid (Below W2.heap.size W2 w3) := Lib.hid (((Below.refl W2.heap.size W2).alloc (Nat.le_refl _) _).trans (hb3.mono (by simp)))
    clear hb3 x0 x1 x2 x3 x4 x5 x6 k0 k1
    have k0 : w3.cell? ⟨w.heap.size, 0, none⟩ = some (.slice T tbs.length ct) := by rw [cell_of_row _ _ 0 _ _ _ ((Hb23.out.block _ (by omega)).trans Hr02.out)]; rfl
    have k1 : w3.cell? ⟨w.heap.size, 1, none⟩ = some (.int .i64 (N : Int)) := by rw [cell_of_row _ _ 1 _ _ _ ((Hb23.out.block _ (by omega)).trans Hr02.out)]; rfl
    obtain ⟨x0, x1, x2, x3, x4, x5, x6⟩ := box_cells ((Hb23.out.block _ q2).trans Hr12.out)
    dsimp only at x0 x1 x2 x3 x4 x5 x6
    cases b with
    | false =>
      go_wp2_with fail
      go_ret
      exact ⟨rfl, Hb2.out.trans (Hb23.out.mono Hb2.out.size)⟩
    | true =>
      have hlt := hlb2 rfl
      subst hlt
      have Hval2 := Lib.hid (Hval.out rfl)
      clear Hval Hlight hlb2
      by_cases h19 : op = 19
      · by_cases hv1 : vars.length = 1
        · by_cases hl1 : l.length = 1
          · obtain ⟨vx, rfl⟩ := List.length_eq_one_iff.1 hv1
            obtain ⟨body, rfl⟩ := List.length_eq_one_iff.1 hl1
            obtain ⟨x, sx⟩ := vx
            subst h19
            obtain ⟨vb, vo, rfl, hv0, hv1'⟩ := RowCells.bound (HV.out.below (Hb2.out.trans (Hb23.out.mono Hb2.out.size))) (j := 0) (show [(x, sx)][0]? = some (x, sx) from rfl)
            simp only [List.length_singleton] at *
            have one1 : ((1 : Int) == 1) = true := rfl
            have Hbody : Hid (numsT 1048576 body = true ∧ tw body ≤ 1000000 ∧ shortT body = true) := Lib.hid (by
              obtain ⟨h1, h2, _⟩ := light_mem hlb (List.mem_singleton.2 rfl)
              have h3 := Hn.out
              simp only [numsT, numsTs, Bool.and_eq_true] at h3
              simp only [shortT, shortTs, Bool.and_eq_true] at h2
              simp only [tw, tws] at h1
              exact ⟨h3.2.1, by omega, h2.1.2.1⟩)
            have Hw3 := Lib.hid (Hb2.out.trans (Hb23.out.mono Hb2.out.size))
            cases hval : valueS tauD sig tbs N (.mk 19 nm so nn [body] [(x, sx)] pat) with
            | error er =>
              have Hc := Lib.hid (Hval2.out w3 Hw3.out)
              rw [hval] at Hc
              clear Hval2 hval
              go_wp2_with (go_at_call 9; refine Calls.mono Hc.out ?_; rintro e w4 ⟨hv4, hb4⟩; obtain ⟨z, hz, rfl⟩ : ∃ z : Int, ¬ z = 0 ∧ e = .returned (.tuple #[.string .empty, .int .i64 z]) := (by rcases hv4 with ⟨_, h, _⟩ | ⟨_, z, h, _, h2, h3⟩; cases h; exact ⟨z, h2, h3⟩); have hz2 : (z == 0) = false := (by simpa using hz); have Hb4 := Lib.hid hb4; clear hv4 hb4)
              go_ret
              exact ⟨rfl, Hw3.out.trans (Hb4.out.mono Hw3.out.size)⟩
            | ok va =>
              have Hc := Lib.hid (Hval2.out w3 Hw3.out)
              rw [hval] at Hc
              have Hva := Lib.hid hval
              clear Hval2 hval
              go_wp2_with (go_at_call 9; refine Calls.mono Hc.out ?_; rintro e w4 ⟨hv4, hb4⟩; obtain rfl : e = .returned (.tuple #[.string (textV tauD va), .int .i64 0]) := (by rcases hv4 with ⟨_, h, h3⟩ | ⟨_, z, h, _⟩; cases h; exact h3; cases h); have Hb4 := Lib.hid hb4; clear hv4 hb4)
              obtain ⟨i47, hi47, ha0, ha1, ha2⟩ := info_parts info47
              obtain ⟨i50, hi50, hc0, hc1, hc2⟩ := info_parts info50
              have Hw4 := Lib.hid (Hb23.out.trans (Hb4.out.mono Hb23.out.size))
              clear k0 k1 x0 x1 x2 x3 x4 x5 x6 hv0 hv1'
              go_loopw [10, 11] (fun hv iv wr => ∃ (i : Nat) (wv : Nat → Vl), i ≤ N ∧ iv = .int .i64 i ∧ hv = .bool ((List.range i).all fun j => isT (textV tauD (wv j))) ∧ Hid ((∀ j, j < i → valueS tauD (⟨zB, [], 3⟩ :: sig) (⟨zB, [], objB j⟩ :: tbs) N (putX x (constT zB) body) = .ok (wv j)) ∧ (0 < i → usesX zB (.mk 19 nm so nn [body] [(x, sx)] pat) = false)) ∧ Hid (Below W2.heap.size W2 wr)) (fun _ iv _ => N - (Go.RowKit.intOf iv).toNat)
              case atStart => exact ⟨0, fun _ => .tr false, Nat.zero_le _, rfl, rfl, Lib.hid ⟨fun j hj => absurd hj (Nat.not_lt_zero _), fun h => absurd h (Nat.lt_irrefl _)⟩, Hw4⟩
              case round =>
                obtain ⟨i, wv, hi, rfl, rfl, HI, HB⟩ := hrel
                have HRow : Hid (∀ W, Below wr.heap.size wr W → W.heap[w.heap.size]? = some (.cells #[.slice T tbs.length ct, .int .i64 (N : Int)] 25 (0, 0)) ∧ W.heap[w.heap.size + 1]? = some (.cells (Parts.arr ⟨19, nm, so, nn, A, 1, ca, some ⟨vb, vo, none⟩, 1, cv, P, pat.length, cp⟩) 29 (0, 0))) := Lib.hid (fun W hW => by
                  have hbW := HB.out.trans (hW.mono HB.out.size)
                  exact ⟨(hbW.block _ (by omega)).trans Hr02.out, (hbW.block _ q2).trans Hr12.out⟩)
                have HBw := Lib.hid (Hb2.out.trans (HB.out.mono Hb2.out.size))
                have hkr := (HRow.out wr (Below.refl _ _)).1
                have k0 : wr.cell? ⟨w.heap.size, 0, none⟩ = some (.slice T tbs.length ct) := by rw [cell_of_row _ _ 0 _ _ _ hkr]; rfl
                have k1 : wr.cell? ⟨w.heap.size, 1, none⟩ = some (.int .i64 (N : Int)) := by rw [cell_of_row _ _ 1 _ _ _ hkr]; rfl
                clear hkr
                by_cases hlt : i < N
                · have hlti : (i : Int) < (N : Int) := by omega
                  go_wp2_with fail
                  have Hob : Hid ((⟨#[35]⟩ : ByteArray) ++ (⟨#[48, 49, 50, 51]⟩ : ByteArray).extract i (i + 1) = objB i) := Lib.hid (objB_at i (by omega))
                  have HTr := Lib.hid (HTb.out.mono HBw.out)
                  have Hwr : Hid (IntKind.i64.wrap ((i : Int) + 1) = (i : Int) + 1) := Lib.hid (wrap_i (by omega))
                  refine wp_region_makesF [0,1,2,3,4,5,6,7,8,9,10,11,12,13,14] [15] (by kernel_rfl) (by kernel_rfl) (objSpec_keep wr.heap.size w.heap.size N tbs.length ct i T tbs wr) ?_ ?_
                  · generalize Exit.then _ _ = Q2
                    intro j o9 ho hi a' w' hb hfr hd K hK
                    have hbd : Below wr.heap.size wr w' := (Below.refl wr.heap.size wr).drew.trans hb
                    have hR' := (HRow.out w' hbd).1
                    have y0 : w'.cell? ⟨w.heap.size, 0, none⟩ = some (.slice T tbs.length ct) := by rw [cell_of_row _ _ 0 _ _ _ hR']; rfl
                    have y1 : w'.cell? ⟨w.heap.size, 1, none⟩ = some (.int .i64 (N : Int)) := by rw [cell_of_row _ _ 1 _ _ _ hR']; rfl
                    have hv4 : a'.tmps.getD 4 undef = .pointer (some ⟨w.heap.size, 0, none⟩) := hfr 4 (by kernel_rfl)
                    have hv9 : a'.tmps.getD 9 undef = .string zB := hfr 9 (by kernel_rfl)
                    have hv11 : a'.tmps.getD 11 undef = .int .i64 i := hfr 11 (by kernel_rfl)
                    rw [Array.getD_eq_getD_getElem?] at hv4 hv9 hv11
                    have HK := Lib.hid hK
                    have Hbd := Lib.hid hbd
                    have Hbs : Hid (wr.heap.size ≤ w'.heap.size) := Lib.hid hbd.size
                    clear hb hK hfr hbd hR' k0 k1
                    match j, ho with
                    | 0, ho =>
                      cases ho
                      clear hd
                      go_simp
                      exact HK.out _ _ rfl (Below.refl _ _)
                    | 1, ho =>
                      cases ho
                      have f1 := hd ⟨0, .data⟩ (by simp) rfl _ _ rfl rfl
                      simp only [objSpec, Array.getD_eq_getD_getElem?] at f1
                      clear hd
                      go_simp
                      exact HK.out _ _ rfl (Below.refl _ _)
                    | 2, ho =>
                      cases ho
                      clear hd
                      go_simp
                      exact HK.out _ _ rfl (Below.refl _ _)
                    | 3, ho =>
                      cases ho
                      clear hd
                      go_simp
                      exact HK.out _ _ rfl (Below.refl _ _)
                    | 4, ho =>
                      cases ho
                      clear hd
                      go_simp
                      exact HK.out _ _ rfl (Below.refl _ _)
                    | 5, ho =>
                      cases ho
                      have f1 := hd ⟨4, .data⟩ (by simp) rfl _ _ rfl rfl
                      simp only [objSpec, Array.getD_eq_getD_getElem?] at f1
                      clear hd
                      go_simp
                      exact HK.out _ _ (by show Value.int .i64 (IntKind.i64.wrap ((i : Int) + 1)) = _; rw [Hwr.out]) (Below.refl _ _)
                    | 6, ho =>
                      cases ho
                      have f1 := hd ⟨3, .data⟩ (by simp) rfl _ _ rfl rfl
                      have f2 := hd ⟨5, .data⟩ (by simp) rfl _ _ rfl rfl
                      simp only [objSpec, Array.getD_eq_getD_getElem?] at f1 f2
                      clear hd
                      go_simp
                      rw [if_pos ⟨by omega, by omega⟩, if_pos (by omega)]
                      exact HK.out _ _ rfl (Below.refl _ _)
                    | 7, ho =>
                      cases ho
                      have f1 := hd ⟨6, .data⟩ (by simp) rfl _ _ rfl rfl
                      simp only [objSpec, Array.getD_eq_getD_getElem?] at f1
                      clear hd
                      go_simp
                      rw [if_neg (by omega)]
                      exact HK.out (.string ((⟨#[35]⟩ : ByteArray) ++ (⟨#[48, 49, 50, 51]⟩ : ByteArray).extract i (i + 1))) _ (by show Value.string _ = _; rw [Hob.out]) (Below.refl _ _)
                    | 8, ho =>
                      cases ho
                      have f1 := hd ⟨2, .data⟩ (by simp) rfl _ _ rfl rfl
                      have f2 := hd ⟨7, .data⟩ (by simp) rfl _ _ rfl rfl
                      simp only [objSpec, Array.getD_eq_getD_getElem?] at f1 f2
                      clear hd
                      go_simp
                      exact HK.out _ _ rfl (Below.refl _ _)
                    | 9, ho =>
                      cases ho
                      have f1 := hd ⟨8, .data⟩ (by simp) rfl _ _ rfl rfl
                      simp only [objSpec, Array.getD_eq_getD_getElem?] at f1
                      clear hd
                      go_simp
                      exact HK.out _ _ ⟨w'.heap.size, rfl, heap_alloc_new w' _⟩ ((Below.refl _ _).alloc (Nat.le_refl _) _)
                    | 10, ho =>
                      cases ho
                      clear hd
                      go_simp
                      exact HK.out _ _ rfl (Below.refl _ _)
                    | 11, ho =>
                      cases ho
                      have f1 := hd ⟨10, .data⟩ (by simp) rfl _ _ rfl rfl
                      simp only [objSpec, Array.getD_eq_getD_getElem?] at f1
                      clear hd
                      go_simp
                      exact HK.out _ _ rfl (Below.refl _ _)
                    | 12, ho =>
                      cases ho
                      obtain ⟨g9, f1, f2⟩ := hd ⟨9, .data⟩ (by simp) rfl _ _ rfl rfl
                      have f3 := hd ⟨11, .data⟩ (by simp) rfl _ _ rfl rfl
                      simp only [objSpec, Array.getD_eq_getD_getElem?] at f1 f3
                      obtain ⟨A', c', w9, hrun, hfr9, hb9⟩ := rows_front (At := TbAt) (fun h hb => h.mono hb) (fun h => h.three) (P := Tryz.prog) Hbd.out 23 23 47 i47 _ 56 Tryz.underlying23 hi47 ha0 ha1 ha2 rfl HTr.out HT0.out (new_tb wr i) f2 (by simp only [maxLen]; omega) (by omega)
                      refine wp_append_call (.tmp 71) (.tmp 73) 23 rfl (v' := .slice A' ((⟨zB, [], objB i⟩ : Tb) :: tbs).length c') (w' := w9) ?_ ?_
                      · simp only [Act.eval, Array.getD_eq_getD_getElem?, f1, f3]
                        exact hrun
                      · exact HK.out _ _ ⟨A', c', rfl, hfr9⟩ hb9
                    | 13, ho =>
                      cases ho
                      have f1 := hd ⟨1, .data⟩ (by simp) rfl _ _ rfl rfl
                      obtain ⟨A', c', f2, hf9⟩ := hd ⟨12, .data⟩ (by simp) rfl _ _ rfl rfl
                      simp only [objSpec, Array.getD_eq_getD_getElem?] at f1 f2
                      have HF9 := Lib.hid hf9
                      clear hd hf9
                      go_simp
                      exact HK.out _ _ ⟨A', c', rfl, HF9.out⟩ (Below.refl _ _)
                    | 14, ho =>
                      cases ho
                      clear hd
                      go_simp
                      exact HK.out _ _ ⟨w'.heap.size, rfl, heap_alloc_new w' _, Hbs.out⟩ ((Below.refl _ _).alloc (Nat.le_refl _) _)
                    | 15, ho => exact absurd (by simp) hi
                    | n + 16, ho => simp at ho
                  · intro fuel listed a' w8 hc hm hall
                    obtain ⟨gg, ha, hh⟩ := hm.act (ds := [62, 63, 64, 65, 66, 67, 68, 69, 70, 71, 72, 73, 74, 75, 12]) (by kernel_rfl)
                    have hl : listed = #[true,true,true,true,true,true,true,true,true,true,true,true,true,true,true,false] := by
                      have hs : listed.size = 16 := hm.size
                      have n15 := getD_both (hm.rest 15 (by simp))
                      rw [listed_all listed, hs]
                      simp only [List.range, List.range.loop, List.map, n15, hall 0 (by simp), hall 1 (by simp), hall 2 (by simp), hall 3 (by simp), hall 4 (by simp), hall 5 (by simp), hall 6 (by simp), hall 7 (by simp), hall 8 (by simp), hall 9 (by simp), hall 10 (by simp), hall 11 (by simp), hall 12 (by simp), hall 13 (by simp), hall 14 (by simp)]
                    obtain ⟨A', c', e13, hf13⟩ := hh 13 _ _ (hall 13 (by simp)) rfl rfl
                    obtain ⟨gn, e14, hg14, hgB⟩ := hh 14 _ _ (hall 14 (by simp)) rfl rfl
                    have hbd : Below wr.heap.size wr w8 := (Below.refl wr.heap.size wr).drew.trans hm.inv
                    have HB8 := Lib.hid hbd
                    have HF13 := Lib.hid hf13
                    have HG14 := Lib.hid hg14
                    have HGB := Lib.hid hgB
                    subst hl
                    clear hm hall hh hf13 hg14 hgB hbd
                    subst ha
                    simp only [setAll]
                    rw [e13, e14]
                    clear e13 e14
                    generalize gg 62 = g62, gg 63 = g63, gg 64 = g64, gg 65 = g65, gg 66 = g66, gg 67 = g67, gg 68 = g68, gg 69 = g69, gg 70 = g70, gg 71 = g71, gg 72 = g72, gg 73 = g73, gg 74 = g74
                    simp only [Act.put, List.setIfInBounds_toArray, List.set_cons_zero, List.set_cons_succ]
                    obtain ⟨f2, rfl⟩ : ∃ f2, fuel = f2 + 1 := ⟨fuel - 1, by simp at hc; omega⟩
                    clear hc
                    have z0 : w8.cell? ⟨gn, 0, none⟩ = some (.slice none 0 0) := by rw [cell_of_row _ _ 0 _ _ _ HG14.out]; rfl
                    have z1 : w8.cell? ⟨gn, 1, none⟩ = some (.int .i64 0) := by rw [cell_of_row _ _ 1 _ _ _ HG14.out]; rfl
                    have zf : ∀ i, w8.frozen? ⟨gn, i, none⟩ = false := fun i => frozen_of_row _ _ i _ 25 HG14.out
                    have zq : gn < w8.heap.size := (Array.getElem?_eq_some_iff.1 HG14.out).1
                    refine wpAny_ready (rs := [15]) (by kernel_rfl) (by simp) ?_
                    refine AllReady.cons rfl (fun K3 hK3 => ?_) AllReady.nil
                    go_simp
                    refine hK3 _ _ (wpAny_done (by kernel_rfl) ?_ _)
                    clear hK3 K3
                    try dsimp only [Exit.then]
                    have hA1 : (w8.setCell ⟨gn, 0, none⟩ (.slice A' (tbs.length + 1) c')).heap[gn]? = some (.cells #[.slice A' (tbs.length + 1) c', .int .i64 0] 25 (0, 0)) := heap_setCell_same w8 gn 0 _ 25 _ HG14.out
                    have hA2 := heap_setCell_same _ gn 1 _ 25 (.int .i64 (N : Int)) hA1
                    have hFA := (HF13.out.set (i := 0) HG14.out (by decide) (.slice A' (tbs.length + 1) c')).set (i := 1) hA1 (by decide) (.int .i64 (N : Int))
                    have hBA : Below wr.heap.size wr ((w8.setCell ⟨gn, 0, none⟩ (.slice A' (tbs.length + 1) c')).setCell ⟨gn, 1, none⟩ (.int .i64 (N : Int))) := (HB8.out.setCell (p := ⟨gn, 0, none⟩) HGB.out _).setCell (p := ⟨gn, 1, none⟩) HGB.out _
                    obtain ⟨WA, hWA⟩ : ∃ WA, WA = (w8.setCell ⟨gn, 0, none⟩ (.slice A' (tbs.length + 1) c')).setCell ⟨gn, 1, none⟩ (.int .i64 (N : Int)) := ⟨_, rfl⟩
                    rw [← hWA] at hA2 hFA hBA
                    rw [← hWA]
                    have HGn : Hid (WA.heap[gn]? = some (.cells #[.slice A' (tbs.length + 1) c', .int .i64 (N : Int)] 25 (0, 0))) := Lib.hid hA2
                    have HFA := Lib.hid hFA
                    have HBA := Lib.hid hBA
                    clear hA1 hA2 hFA hBA hWA z0 z1 zf zq HF13 HG14 HGB HB8
                    have hal : Below WA.heap.size WA (WA.alloc (.cells #[.string zB, .slice none 0 0, .int .i64 3] 50)) := (Below.refl _ _).alloc (Nat.le_refl _) _
                    obtain ⟨S', cs', WB, hrunB, hFB, hBB⟩ := rows_front (At := FnAt) (fun h hb => h.mono hb) (fun h => h.three) (P := Tryz.prog) (w0 := WA) (w := WA.alloc (.cells #[.string zB, .slice none 0 0, .int .i64 3] 50)) hal 22 22 50 i50 _ 48 Tryz.underlying22 hi50 hc0 hc1 hc2 rfl (HS.out.at_.mono (HBw.out.trans (HBA.out.mono HBw.out.size))) HS0.out (new_fn WA) (g := WA.heap.size) (heap_alloc_new _ _) (by simp only [maxLen]; omega) (by omega)
                    have HFB := Lib.hid hFB
                    have HBB : Hid (Below WA.heap.size WA WB) := Lib.hid (hal.trans (hBB.mono hal.size))
                    have HrunB := Lib.hid hrunB
                    clear hFB hBB hrunB hal
                    go_wp2_with (at_builtin; refine wpList_append_run rfl (.tmp 78) (.tmp 79) 22 rfl (v' := .slice S' ((⟨zB, [], 3⟩ : Fn) :: sig).length cs') (w' := WB) (by simp only [Act.eval]; exact HrunB.out) ?_)
                    have HrB0 := HBA.out.trans (HBB.out.mono HBA.out.size)
                    have HwB := Lib.hid (HBw.out.trans (HrB0.mono HBw.out.size))
                    obtain ⟨q, hq⟩ := (HfL.out 0 body rfl).parts
                    obtain ⟨eb, eo, hAe, e0, e1, e2, e3, e4, e5, e6⟩ := (Hf.out.below HwB.out).get (j := 0) (by simp) hq
                    simp only [Nat.zero_mul, Nat.add_zero] at e0 e1 e2 e3 e4 e5 e6
                    obtain ⟨b', o', hVe, v0, v1⟩ := RowCells.bound (HV.out.below HwB.out) (j := 0) (show [(x, sx)][0]? = some (x, sx) from rfl)
                    cases hVe
                    simp only [Nat.zero_mul, Nat.add_zero] at v0
                    subst hAe
                    have HE := Lib.hid (And.intro v0 (And.intro e0 (And.intro e1 (And.intro e2 (And.intro e3 (And.intro e4 (And.intro e5 e6)))))))
                    have HputX : Hid (∀ W', Below WB.heap.size WB W' → Calls Tryz.prog 15 #[.agg q.arr, .string x, .agg (Parts.arr ⟨17, zB, 0, ⟨#[]⟩, none, 0, 0, none, 0, 0, none, 0, 0⟩)] W' (PutIs w.heap.size W' (putX x (constT zB) body))) := Lib.hid (fun W' hW' => by
                      have := put_any (HfL.out 0 body rfl) x (const_at w) Hbody.out.2.1 W' (HwB.out.trans (hW'.mono HwB.out.size))
                      rw [hq] at this
                      exact this)
                    have HszB : Hid (w.heap.size ≤ WB.heap.size) := Lib.hid HwB.out.size
                    clear e0 e1 e2 e3 e4 e5 e6 v0 v1 hq
                    have hrB2 := (HRow.out WB HrB0).2
                    have HRB := Lib.hid hrB2
                    clear hrB2
                    go_cut [14] from 56 to 111 (fun s14 wx => ∃ (gE : Nat) (pp : Parts), s14 = .pointer (some ⟨gE, 0, none⟩) ∧ Hid (wx.heap[gE]? = some (.cells pp.arr 29 (0, 0)) ∧ TmV wx (putX x (constT zB) body) (.agg pp.arr) ∧ Below WB.heap.size WB wx))
                    case first =>
                      refine wp_region_makesF [0,1,2,3,4,5,6,7,8,9,10] [11, 13] (by kernel_rfl) (by kernel_rfl) (objSpec2_keep WB.heap.size (w.heap.size + 1) ca cv (some ⟨eb, eo, none⟩) (some ⟨vb, vo, none⟩) ⟨eb, eo, none⟩ ⟨vb, vo, none⟩ q x) ?_ ?_
                      · generalize Exit.then _ _ = Q2
                        intro j o9 ho hi a' w' hb hfr hd K hK
                        have hbd : Below WB.heap.size WB w' := (Below.refl WB.heap.size WB).drew.trans hb
                        obtain ⟨x0, x1, x2, x3, x4, x5, x6⟩ := box_cells ((hbd.block _ (Array.getElem?_eq_some_iff.1 HRB.out).1).trans HRB.out)
                        dsimp only at x0 x1 x2 x3 x4 x5 x6
                        obtain ⟨v0, e0, e1, e2, e3, e4, e5, e6⟩ := HE.out
                        have v0 := cell_of_below hbd (Nat.le_refl _) v0
                        have e0 := cell_of_below hbd (Nat.le_refl _) e0
                        have e1 := cell_of_below hbd (Nat.le_refl _) e1
                        have e2 := cell_of_below hbd (Nat.le_refl _) e2
                        have e3 := cell_of_below hbd (Nat.le_refl _) e3
                        have e4 := cell_of_below hbd (Nat.le_refl _) e4
                        have e5 := cell_of_below hbd (Nat.le_refl _) e5
                        have e6 := cell_of_below hbd (Nat.le_refl _) e6
                        have hv5 : a'.tmps.getD 5 undef = .pointer (some ⟨w.heap.size + 1, 0, none⟩) := hfr 5 (by kernel_rfl)
                        have hv9 : a'.tmps.getD 9 undef = .string zB := hfr 9 (by kernel_rfl)
                        rw [Array.getD_eq_getD_getElem?] at hv5 hv9
                        have HK := Lib.hid hK
                        have Hbs : Hid (WB.heap.size ≤ w'.heap.size) := Lib.hid hbd.size
                        clear hb hK hfr hbd k0 k1
                        match j, ho with
                        | 0, ho =>
                          cases ho
                          clear hd
                          go_simp
                          exact HK.out _ _ rfl (Below.refl _ _)
                        | 1, ho =>
                          cases ho
                          have f1 := hd ⟨0, .data⟩ (by simp) rfl _ _ rfl rfl
                          simp only [objSpec2, Array.getD_eq_getD_getElem?] at f1
                          clear hd
                          go_simp
                          exact HK.out _ _ rfl (Below.refl _ _)
                        | 2, ho =>
                          cases ho
                          have f1 := hd ⟨1, .data⟩ (by simp) rfl _ _ rfl rfl
                          simp only [objSpec2, Array.getD_eq_getD_getElem?] at f1
                          clear hd
                          go_simp
                          exact HK.out _ _ rfl (Below.refl _ _)
                        | 3, ho =>
                          cases ho
                          have f1 := hd ⟨2, .data⟩ (by simp) rfl _ _ rfl rfl
                          simp only [objSpec2, Array.getD_eq_getD_getElem?] at f1
                          clear hd
                          go_simp
                          exact HK.out _ _ rfl (Below.refl _ _)
                        | 4, ho =>
                          cases ho
                          clear hd
                          go_simp
                          exact HK.out _ _ rfl (Below.refl _ _)
                        | 5, ho =>
                          cases ho
                          have f1 := hd ⟨4, .data⟩ (by simp) rfl _ _ rfl rfl
                          simp only [objSpec2, Array.getD_eq_getD_getElem?] at f1
                          clear hd
                          go_simp
                          exact HK.out _ _ rfl (Below.refl _ _)
                        | 6, ho =>
                          cases ho
                          have f1 := hd ⟨5, .data⟩ (by simp) rfl _ _ rfl rfl
                          simp only [objSpec2, Array.getD_eq_getD_getElem?] at f1
                          clear hd
                          go_simp
                          exact HK.out _ _ rfl (Below.refl _ _)
                        | 7, ho =>
                          cases ho
                          have f1 := hd ⟨6, .data⟩ (by simp) rfl _ _ rfl rfl
                          simp only [objSpec2, Array.getD_eq_getD_getElem?] at f1
                          clear hd
                          go_simp
                          exact HK.out _ _ rfl (Below.refl _ _)
                        | 8, ho =>
                          cases ho
                          have f1 := hd ⟨7, .data⟩ (by simp) rfl _ _ rfl rfl
                          simp only [objSpec2, Array.getD_eq_getD_getElem?] at f1
                          clear hd
                          go_simp
                          exact HK.out _ _ rfl (Below.refl _ _)
                        | 9, ho =>
                          cases ho
                          clear hd
                          go_simp
                          exact HK.out _ _ rfl (Below.refl _ _)
                        | 10, ho =>
                          cases ho
                          have f1 := hd ⟨9, .data⟩ (by simp) rfl _ _ rfl rfl
                          simp only [objSpec2, Array.getD_eq_getD_getElem?] at f1
                          clear hd
                          go_simp
                          exact HK.out _ _ rfl (Below.refl _ _)
                        | 11, ho => exact absurd (by simp) hi
                        | 12, ho =>
                          cases ho
                          clear hd
                          go_simp
                          exact HK.out _ _ ⟨w'.heap.size, rfl, heap_alloc_new w' _, Hbs.out⟩ ((Below.refl _ _).alloc (Nat.le_refl _) _)
                        | 13, ho => exact absurd (by simp) hi
                        | n + 14, ho => simp at ho
                      · intro fuel listed a' w8 hc hm hall
                        obtain ⟨gg, ha, hh⟩ := hm.act (ds := [81, 82, 83, 84, 85, 86, 87, 88, 89, 90, 91, 14]) (by kernel_rfl)
                        cases h12 : listed.getD 12 false with
                        | true =>
                          have hl : listed = #[true,true,true,true,true,true,true,true,true,true,true,false,true,false] := by
                            have hs : listed.size = 14 := hm.size
                            have n11 := getD_both (hm.rest 11 (by simp))
                            have n13 := getD_both (hm.rest 13 (by simp))
                            rw [listed_all listed, hs]
                            simp only [List.range, List.range.loop, List.map, n11, n13, h12, hall 0 (by simp), hall 1 (by simp), hall 2 (by simp), hall 3 (by simp), hall 4 (by simp), hall 5 (by simp), hall 6 (by simp), hall 7 (by simp), hall 8 (by simp), hall 9 (by simp), hall 10 (by simp)]
                          have e84 : gg 84 = .agg q.arr := hh 3 _ _ (hall 3 (by simp)) rfl rfl
                          have e89 : gg 89 = .string x := hh 8 _ _ (hall 8 (by simp)) rfl rfl
                          have e91 : gg 91 = .agg (Parts.arr ⟨17, zB, 0, ⟨#[]⟩, none, 0, 0, none, 0, 0, none, 0, 0⟩) := hh 10 _ _ (hall 10 (by simp)) rfl rfl
                          have hbd : Below WB.heap.size WB w8 := (Below.refl WB.heap.size WB).drew.trans hm.inv
                          have HB8 := Lib.hid hbd
                          obtain ⟨gE, e14, hz14, hgB⟩ := hh 12 _ _ h12 rfl rfl
                          subst hl
                          clear hm hall hh hbd h12
                          subst ha
                          simp only [setAll]
                          rw [e84, e89, e91, e14]
                          clear e84 e89 e91 e14
                          generalize gg 81 = g81, gg 82 = g82, gg 83 = g83, gg 85 = g85, gg 86 = g86, gg 87 = g87, gg 88 = g88, gg 90 = g90
                          simp only [Act.put, List.setIfInBounds_toArray, List.set_cons_zero, List.set_cons_succ]
                          obtain ⟨f2, rfl⟩ : ∃ f2, fuel = f2 + 2 := ⟨fuel - 2, by simp at hc; omega⟩
                          clear hc
                          refine wpAny_ready (rs := [11]) (by kernel_rfl) (by simp) ?_
                          refine AllReady.cons rfl (fun K3 hK3 => ?_) AllReady.nil
                          go_simp
                          refine (HputX.out w8 HB8.out).mono ?_
                          rintro e9 w9 ⟨⟨op8, nm8, so8, n8, A8, la8, ca8, V8, lv8, cv8, P8, lp8, cp8⟩, rfl, ht9, hb9⟩
                          refine hK3 _ _ ?_
                          clear hK3 K3
                          try simp only [Act.put, List.setIfInBounds_toArray, List.set_cons_zero, List.set_cons_succ]
                          have hg8 : gE < w8.heap.size := (Array.getElem?_eq_some_iff.1 hz14).1
                          have hzr : w9.heap[gE]? = some (.cells zeroP.arr 29 (0, 0)) := (hb9.block gE hg8).trans hz14
                          have hTE := ht9.inc (inc_set7 (gE := gE) ⟨op8, nm8, so8, n8, A8, la8, ca8, V8, lv8, cv8, P8, lp8, cp8⟩ (fun b hb => by have := HszB.out; omega))
                          have hBE := set7_below (HB8.out.trans (hb9.mono HB8.out.size)) hgB ⟨op8, nm8, so8, n8, A8, la8, ca8, V8, lv8, cv8, P8, lp8, cp8⟩
                          clear ht9 hb9 hz14 hg8 hgB
                          obtain ⟨z0, z1, z2, z3, z4, z5, z6⟩ := box_cells hzr
                          have zf : ∀ i, w9.frozen? ⟨gE, i, none⟩ = false := fun i => frozen_of_row _ _ i _ 29 hzr
                          have zq : gE < w9.heap.size := (Array.getElem?_eq_some_iff.1 hzr).1
                          simp only [Parts.arr]
                          refine wpAny_ready (rs := [13]) (by kernel_rfl) (by simp) ?_
                          refine AllReady.cons rfl (fun K3 hK3 => ?_) AllReady.nil
                          go_simp
                          refine hK3 _ _ (wpAny_done (by kernel_rfl) ?_ _)
                          clear hK3 K3 z0 z1 z2 z3 z4 z5 z6 zf zq
                          try dsimp only [Exit.then]
                          have hRg0 := set7_row hzr ⟨op8, nm8, so8, n8, A8, la8, ca8, V8, lv8, cv8, P8, lp8, cp8⟩
                          obtain ⟨WE, hWE⟩ : ∃ WE, WE = set7 w9 (gE) ⟨op8, nm8, so8, n8, A8, la8, ca8, V8, lv8, cv8, P8, lp8, cp8⟩ := ⟨_, rfl⟩
                          have hWE2 : (((((((w9.setCell ⟨gE, 0, none⟩ (.int .i64 op8)).setCell ⟨gE, 1, none⟩ (.string nm8)).setCell ⟨gE, 2, none⟩ (.int .i64 so8)).setCell ⟨gE, 3, none⟩ (.string n8)).setCell ⟨gE, 4, none⟩ (.slice A8 la8 ca8)).setCell ⟨gE, 5, none⟩ (.slice V8 lv8 cv8)).setCell ⟨gE, 6, none⟩ (.slice P8 lp8 cp8)) = WE := hWE.symm
                          rw [hWE2]
                          rw [← hWE] at hRg0 hTE hBE
                          have hRg := hRg0
                          clear hWE hWE2 hzr hRg0
                          go_wp2_with fail
                          go_meet
                          all_goals exact ⟨_, ⟨op8, nm8, so8, n8, A8, la8, ca8, V8, lv8, cv8, P8, lp8, cp8⟩, rfl, Lib.hid ⟨hRg, hTE, hBE⟩⟩
                        | false =>
                          have hl : listed = #[true,true,true,true,true,true,true,true,true,true,true,false,false,false] := by
                            have hs : listed.size = 14 := hm.size
                            have n11 := getD_both (hm.rest 11 (by simp))
                            have n13 := getD_both (hm.rest 13 (by simp))
                            rw [listed_all listed, hs]
                            simp only [List.range, List.range.loop, List.map, n11, n13, h12, hall 0 (by simp), hall 1 (by simp), hall 2 (by simp), hall 3 (by simp), hall 4 (by simp), hall 5 (by simp), hall 6 (by simp), hall 7 (by simp), hall 8 (by simp), hall 9 (by simp), hall 10 (by simp)]
                          have e84 : gg 84 = .agg q.arr := hh 3 _ _ (hall 3 (by simp)) rfl rfl
                          have e89 : gg 89 = .string x := hh 8 _ _ (hall 8 (by simp)) rfl rfl
                          have e91 : gg 91 = .agg (Parts.arr ⟨17, zB, 0, ⟨#[]⟩, none, 0, 0, none, 0, 0, none, 0, 0⟩) := hh 10 _ _ (hall 10 (by simp)) rfl rfl
                          have hbd : Below WB.heap.size WB w8 := (Below.refl WB.heap.size WB).drew.trans hm.inv
                          have HB8 := Lib.hid hbd
                          subst hl
                          clear hm hall hh hbd h12
                          subst ha
                          simp only [setAll]
                          rw [e84, e89, e91]
                          clear e84 e89 e91
                          generalize gg 81 = g81, gg 82 = g82, gg 83 = g83, gg 85 = g85, gg 86 = g86, gg 87 = g87, gg 88 = g88, gg 90 = g90, gg 14 = g14
                          simp only [Act.put, List.setIfInBounds_toArray, List.set_cons_zero, List.set_cons_succ]
                          obtain ⟨f2, rfl⟩ : ∃ f2, fuel = f2 + 3 := ⟨fuel - 3, by simp at hc; omega⟩
                          clear hc
                          refine wpAny_ready (rs := [11, 12]) (by kernel_rfl) (by simp) ?_
                          refine AllReady.cons rfl (fun K3 hK3 => ?_) (AllReady.cons rfl (fun K3 hK3 => ?_) AllReady.nil)
                          · go_simp
                            refine (HputX.out w8 HB8.out).mono ?_
                            rintro e9 w9 ⟨⟨op8, nm8, so8, n8, A8, la8, ca8, V8, lv8, cv8, P8, lp8, cp8⟩, rfl, ht9, hb9⟩
                            refine hK3 _ _ ?_
                            clear hK3 K3
                            try simp only [Act.put, List.setIfInBounds_toArray, List.set_cons_zero, List.set_cons_succ]
                            refine wpAny_ready (rs := [12]) (by kernel_rfl) (by simp) ?_
                            refine AllReady.cons rfl (fun K3 hK3 => ?_) AllReady.nil
                            go_simp
                            refine hK3 _ _ ?_
                            clear hK3 K3
                            try simp only [Act.put, List.setIfInBounds_toArray, List.set_cons_zero, List.set_cons_succ]
                            obtain ⟨wx, hwx⟩ : ∃ wx, wx = w9.alloc (.cells zeroP.arr 29) := ⟨_, rfl⟩
                            have hzr : wx.heap[w9.heap.size]? = some (.cells zeroP.arr 29 (0, 0)) := by rw [hwx]; exact heap_alloc_new w9 _
                            have hal : Below w9.heap.size w9 wx := by rw [hwx]; exact (Below.refl _ _).alloc (Nat.le_refl _) _
                            have hwx2 : w9.alloc (.cells #[.int .i64 0, .string ⟨#[]⟩, .int .i64 0, .string ⟨#[]⟩, .slice none 0 0, .slice none 0 0, .slice none 0 0] 29) = wx := hwx.symm
                            rw [hwx2]
                            clear hwx hwx2
                            have hTE := (ht9.inc (inc_only _ _)).mono (set7_below hal (Nat.le_refl _) ⟨op8, nm8, so8, n8, A8, la8, ca8, V8, lv8, cv8, P8, lp8, cp8⟩)
                            have hb89 := HB8.out.trans (hb9.mono HB8.out.size)
                            have hBE := set7_below (hb89.trans (hal.mono hb89.size)) hb89.size ⟨op8, nm8, so8, n8, A8, la8, ca8, V8, lv8, cv8, P8, lp8, cp8⟩
                            clear ht9 hb9 hal hb89
                            obtain ⟨z0, z1, z2, z3, z4, z5, z6⟩ := box_cells hzr
                            have zf : ∀ i, wx.frozen? ⟨w9.heap.size, i, none⟩ = false := fun i => frozen_of_row _ _ i _ 29 hzr
                            have zq : w9.heap.size < wx.heap.size := (Array.getElem?_eq_some_iff.1 hzr).1
                            simp only [Parts.arr]
                            refine wpAny_ready (rs := [13]) (by kernel_rfl) (by simp) ?_
                            refine AllReady.cons rfl (fun K3 hK3 => ?_) AllReady.nil
                            go_simp
                            refine hK3 _ _ (wpAny_done (by kernel_rfl) ?_ _)
                            clear hK3 K3 z0 z1 z2 z3 z4 z5 z6 zf zq
                            try dsimp only [Exit.then]
                            have hRg0 := set7_row hzr ⟨op8, nm8, so8, n8, A8, la8, ca8, V8, lv8, cv8, P8, lp8, cp8⟩
                            obtain ⟨WE, hWE⟩ : ∃ WE, WE = set7 wx (w9.heap.size) ⟨op8, nm8, so8, n8, A8, la8, ca8, V8, lv8, cv8, P8, lp8, cp8⟩ := ⟨_, rfl⟩
                            have hWE2 : (((((((wx.setCell ⟨w9.heap.size, 0, none⟩ (.int .i64 op8)).setCell ⟨w9.heap.size, 1, none⟩ (.string nm8)).setCell ⟨w9.heap.size, 2, none⟩ (.int .i64 so8)).setCell ⟨w9.heap.size, 3, none⟩ (.string n8)).setCell ⟨w9.heap.size, 4, none⟩ (.slice A8 la8 ca8)).setCell ⟨w9.heap.size, 5, none⟩ (.slice V8 lv8 cv8)).setCell ⟨w9.heap.size, 6, none⟩ (.slice P8 lp8 cp8)) = WE := hWE.symm
                            rw [hWE2]
                            rw [← hWE] at hRg0 hTE hBE
                            have hRg := hRg0
                            clear hWE hWE2 hzr hRg0
                            go_wp2_with fail
                            go_meet
                            all_goals exact ⟨_, ⟨op8, nm8, so8, n8, A8, la8, ca8, V8, lv8, cv8, P8, lp8, cp8⟩, rfl, Lib.hid ⟨hRg, hTE, hBE⟩⟩
                          · go_simp
                            refine hK3 _ _ ?_
                            clear hK3 K3
                            try simp only [Act.put, List.setIfInBounds_toArray, List.set_cons_zero, List.set_cons_succ]
                            obtain ⟨wx, hwx⟩ : ∃ wx, wx = w8.alloc (.cells zeroP.arr 29) := ⟨_, rfl⟩
                            have hz14 : wx.heap[w8.heap.size]? = some (.cells zeroP.arr 29 (0, 0)) := by rw [hwx]; exact heap_alloc_new w8 _
                            have hbx : Below WB.heap.size WB wx := by rw [hwx]; exact HB8.out.alloc HB8.out.size _
                            have hwx2 : w8.alloc (.cells #[.int .i64 0, .string ⟨#[]⟩, .int .i64 0, .string ⟨#[]⟩, .slice none 0 0, .slice none 0 0, .slice none 0 0] 29) = wx := hwx.symm
                            rw [hwx2]
                            clear hwx hwx2
                            refine wpAny_ready (rs := [11]) (by kernel_rfl) (by simp) ?_
                            refine AllReady.cons rfl (fun K3 hK3 => ?_) AllReady.nil
                            go_simp
                            refine (HputX.out wx hbx).mono ?_
                            rintro e9 w9 ⟨⟨op8, nm8, so8, n8, A8, la8, ca8, V8, lv8, cv8, P8, lp8, cp8⟩, rfl, ht9, hb9⟩
                            refine hK3 _ _ ?_
                            clear hK3 K3
                            try simp only [Act.put, List.setIfInBounds_toArray, List.set_cons_zero, List.set_cons_succ]
                            have hg8 : w8.heap.size < wx.heap.size := (Array.getElem?_eq_some_iff.1 hz14).1
                            have hzr : w9.heap[w8.heap.size]? = some (.cells zeroP.arr 29 (0, 0)) := (hb9.block _ hg8).trans hz14
                            have hTE := ht9.inc (inc_set7 (gE := w8.heap.size) ⟨op8, nm8, so8, n8, A8, la8, ca8, V8, lv8, cv8, P8, lp8, cp8⟩ (fun b hb => by have := HszB.out; have := HB8.out.size; omega))
                            have hBE := set7_below (hbx.trans (hb9.mono hbx.size)) HB8.out.size ⟨op8, nm8, so8, n8, A8, la8, ca8, V8, lv8, cv8, P8, lp8, cp8⟩
                            clear ht9 hb9 hz14 hg8 hbx
                            obtain ⟨z0, z1, z2, z3, z4, z5, z6⟩ := box_cells hzr
                            have zf : ∀ i, w9.frozen? ⟨w8.heap.size, i, none⟩ = false := fun i => frozen_of_row _ _ i _ 29 hzr
                            have zq : w8.heap.size < w9.heap.size := (Array.getElem?_eq_some_iff.1 hzr).1
                            simp only [Parts.arr]
                            refine wpAny_ready (rs := [13]) (by kernel_rfl) (by simp) ?_
                            refine AllReady.cons rfl (fun K3 hK3 => ?_) AllReady.nil
                            go_simp
                            refine hK3 _ _ (wpAny_done (by kernel_rfl) ?_ _)
                            clear hK3 K3 z0 z1 z2 z3 z4 z5 z6 zf zq
                            try dsimp only [Exit.then]
                            have hRg0 := set7_row hzr ⟨op8, nm8, so8, n8, A8, la8, ca8, V8, lv8, cv8, P8, lp8, cp8⟩
                            obtain ⟨WE, hWE⟩ : ∃ WE, WE = set7 w9 (w8.heap.size) ⟨op8, nm8, so8, n8, A8, la8, ca8, V8, lv8, cv8, P8, lp8, cp8⟩ := ⟨_, rfl⟩
                            have hWE2 : (((((((w9.setCell ⟨w8.heap.size, 0, none⟩ (.int .i64 op8)).setCell ⟨w8.heap.size, 1, none⟩ (.string nm8)).setCell ⟨w8.heap.size, 2, none⟩ (.int .i64 so8)).setCell ⟨w8.heap.size, 3, none⟩ (.string n8)).setCell ⟨w8.heap.size, 4, none⟩ (.slice A8 la8 ca8)).setCell ⟨w8.heap.size, 5, none⟩ (.slice V8 lv8 cv8)).setCell ⟨w8.heap.size, 6, none⟩ (.slice P8 lp8 cp8)) = WE := hWE.symm
                            rw [hWE2]
                            rw [← hWE] at hRg0 hTE hBE
                            have hRg := hRg0
                            clear hWE hWE2 hzr hRg0
                            go_wp2_with fail
                            go_meet
                            all_goals exact ⟨_, ⟨op8, nm8, so8, n8, A8, la8, ca8, V8, lv8, cv8, P8, lp8, cp8⟩, rfl, Lib.hid ⟨hRg, hTE, hBE⟩⟩
                    case rest =>
                      obtain ⟨gE, ⟨op8, nm8, so8, n8, A8, la8, ca8, V8, lv8, cv8, P8, lp8, cp8⟩, rfl, HC⟩ := hcut
                      obtain ⟨hRg, hTE, hBE⟩ := HC.out
                      clear HC
                      have HBE := Lib.hid hBE
                      have HrB := HBA.out.trans (HBB.out.mono HBA.out.size)
                      have HrE := Lib.hid (HrB.trans (hBE.mono HrB.size))
                      have HAE := Lib.hid (HBB.out.trans (hBE.mono HBB.out.size))
                      have hgr := (HAE.out.block gn (Array.getElem?_eq_some_iff.1 HGn.out).1).trans HGn.out
                      have g0 : wc.cell? ⟨gn, 0, none⟩ = some (.slice A' (tbs.length + 1) c') := by rw [cell_of_row _ _ 0 _ _ _ hgr]; rfl
                      have g1 : wc.cell? ⟨gn, 1, none⟩ = some (.int .i64 (N : Int)) := by rw [cell_of_row _ _ 1 _ _ _ hgr]; rfl
                      obtain ⟨h0, h1, h2, h3, h4, h5, h6⟩ := box_cells (p := ⟨op8, nm8, so8, n8, A8, la8, ca8, V8, lv8, cv8, P8, lp8, cp8⟩) hRg
                      dsimp only at h0 h1 h2 h3 h4 h5 h6
                      have HVal : Hid (Calls Tryz.prog 9 #[.slice S' (sig.length + 1) cs', .agg #[.slice A' (tbs.length + 1) c', .int .i64 (N : Int)], .agg #[.int .i64 op8, .string nm8, .int .i64 so8, .string n8, .slice A8 la8 ca8, .slice V8 lv8 cv8, .slice P8 lp8 cp8]] wc (ValueIs tauD (valueS tauD (⟨zB, [], 3⟩ :: sig) (⟨zB, [], objB i⟩ :: tbs) N (putX x (constT zB) body)) wc)) := Lib.hid (by
                        have hSig : SigAt wc S' cs' (⟨zB, [], 3⟩ :: sig) := ⟨FnsAt.mono (HFB.out.rows (fun h hb => h.mono hb) HBB.out).1 hBE, by simp only [List.length_cons]; omega, fun f hf => by
                          rcases List.mem_cons.1 hf with rfl | hf
                          · unfold i64; decide
                          · exact HS.out.out f hf⟩
                        have hTbs : TbsAt wc A' (⟨zB, [], objB i⟩ :: tbs) := TbsAt.mono (HFA.out.rows (fun h hb => h.mono hb) HBA.out).1 HAE.out
                        exact value_at hSig hTbs (by simp only [List.length_cons]; omega) (fun tb htb => by
                          rcases List.mem_cons.1 htb with rfl | htb
                          · exact ⟨(show (2 : Nat) ≤ 1048576 by decide), fun r hr => by simp at hr⟩
                          · exact HL.out tb htb) hN3.1 hTE (numsT_put (by kernel_rfl) _ Hbody.out.1) (Nat.le_trans (tw_put (by decide) _) Hbody.out.2.1) (shortT_put (by kernel_rfl) _ Hbody.out.2.2) wc (Below.refl _ _))
                      have HBwE := Lib.hid (HBw.out.trans (HrE.out.mono HBw.out.size))
                      clear hBE hTE hRg hgr HFA HFB HGn HBA HBB HrB HAE HBE
                      cases hvi : (valueS tauD (⟨zB, [], 3⟩ :: sig) (⟨zB, [], objB i⟩ :: tbs) N (putX x (constT zB) body)) with
                      | error er =>
                        rw [hvi] at HVal
                        clear hvi
                        go_wp2_with (go_at_call 9; refine Calls.mono HVal.out ?_; rintro e w5 ⟨hv5, hb5⟩; obtain ⟨z, hz, rfl⟩ : ∃ z : Int, ¬ z = 0 ∧ e = .returned (.tuple #[.string .empty, .int .i64 z]) := (by rcases hv5 with ⟨_, h, _⟩ | ⟨_, z, h, _, h2, h3⟩; cases h; exact ⟨z, h2, h3⟩); have hz2 : (z == 0) = false := (by simpa using hz); have Hb5 := Lib.hid hb5; clear hv5 hb5)
                        go_ret
                        exact ⟨rfl, HBwE.out.trans (Hb5.out.mono HBwE.out.size)⟩
                      | ok wi =>
                        rw [hvi] at HVal
                        have Hvi := Lib.hid hvi
                        clear hvi
                        cases hus : usesX zB (.mk 19 nm so nn [body] [(x, sx)] pat) with
                        | true =>
                          have Hus : Hid (∀ W, Below w.heap.size w W → Calls Tryz.prog 16 #[.agg #[.int .i64 19, .string nm, .int .i64 so, .string nn, .slice (some ⟨eb, eo, none⟩) 1 ca, .slice (some ⟨vb, vo, none⟩) 1 cv, .slice P pat.length cp], .string zB] W (BoolIs true W)) := Lib.hid (fun W hW => by have := uses_any HT.out zB W hW; rw [hus] at this; exact this)
                          clear hus
                          go_wp2_with (first
                            | (go_at_call 9; refine Calls.mono HVal.out ?_; rintro e w5 ⟨hv5, hb5⟩; obtain rfl : e = .returned (.tuple #[.string (textV tauD wi), .int .i64 0]) := (by rcases hv5 with ⟨_, h, h3⟩ | ⟨_, z, h, _⟩; cases h; exact h3; cases h); obtain ⟨x0, x1, x2, x3, x4, x5, x6⟩ := box_cells (HRow.out w5 (HrE.out.trans (hb5.mono HrE.out.size))).2; dsimp only at x0 x1 x2 x3 x4 x5 x6; have Hb5 := Lib.hid hb5; clear hv5 hb5)
                            | (go_at_call 16; refine Calls.mono (Hus.out w5 (HBwE.out.trans (Hb5.out.mono HBwE.out.size))) ?_; rintro e w6 ⟨rfl, hb6⟩; have Hb6 := Lib.hid hb6; clear hb6))
                          go_ret
                          exact ⟨rfl, HBwE.out.trans ((Hb5.out.trans (Hb6.out.mono Hb5.out.size)).mono HBwE.out.size)⟩
                        | false =>
                          have Hus : Hid (∀ W, Below w.heap.size w W → Calls Tryz.prog 16 #[.agg #[.int .i64 19, .string nm, .int .i64 so, .string nn, .slice (some ⟨eb, eo, none⟩) 1 ca, .slice (some ⟨vb, vo, none⟩) 1 cv, .slice P pat.length cp], .string zB] W (BoolIs false W)) := Lib.hid (fun W hW => by have := uses_any HT.out zB W hW; rw [hus] at this; exact this)
                          have Hus0 := Lib.hid hus
                          clear hus
                          have Hnext : Hid (∃ wv' : Nat → Vl, (∀ j, j < i + 1 → valueS tauD (⟨zB, [], 3⟩ :: sig) (⟨zB, [], objB j⟩ :: tbs) N (putX x (constT zB) body) = .ok (wv' j)) ∧ ((List.range (i + 1)).all fun j => isT (textV tauD (wv' j))) = (((List.range i).all fun j => isT (textV tauD (wv j))) && isT (textV tauD wi))) := Lib.hid ⟨fun j => if j = i then wi else wv j, fun j hj => by
                            by_cases e : j = i
                            · dsimp only; rw [if_pos e, e]; exact Hvi.out
                            · dsimp only; rw [if_neg e]; exact HI.out.1 j (by omega), by
                            rw [List.range_succ, List.all_append]
                            congr 1
                            · rw [Bool.eq_iff_iff, List.all_eq_true, List.all_eq_true]
                              constructor
                              · intro h j hj
                                have := h j hj
                                dsimp only at this
                                rwa [if_neg (by have := List.mem_range.1 hj; omega)] at this
                              · intro h j hj
                                dsimp only
                                rw [if_neg (by have := List.mem_range.1 hj; omega)]
                                exact h j hj
                            · simp⟩
                          generalize ((List.range i).all fun j => isT (textV tauD (wv j))) = b at *
                          generalize htw : textV tauD wi = tw at *
                          unfold isT at Hnext
                          cases b with
                          | true =>
                            go_wp2_with (first
                              | (go_at_call 9; refine Calls.mono HVal.out ?_; rintro e w5 ⟨hv5, hb5⟩; obtain rfl : e = .returned (.tuple #[.string tw, .int .i64 0]) := (by rcases hv5 with ⟨_, h, h3⟩ | ⟨_, z, h, _⟩; cases h; rw [← htw]; exact h3; cases h); obtain ⟨x0, x1, x2, x3, x4, x5, x6⟩ := box_cells (HRow.out w5 (HrE.out.trans (hb5.mono HrE.out.size))).2; dsimp only at x0 x1 x2 x3 x4 x5 x6; have Hb5 := Lib.hid hb5; clear hv5 hb5)
                              | (go_at_call 16; refine Calls.mono (Hus.out w5 (HBwE.out.trans (Hb5.out.mono HBwE.out.size))) ?_; rintro e w6 ⟨rfl, hb6⟩; have Hb6 := Lib.hid hb6; clear hb6))
                            go_roundw
                            case rel =>
                              obtain ⟨wv', e1, e2⟩ := Hnext.out
                              have h56 := Hb5.out.trans (Hb6.out.mono Hb5.out.size)
                              exact ⟨i + 1, wv', by omega, by go_num, by unfold isT; rw [e2]; rfl, Lib.hid ⟨e1, fun _ => Hus0.out⟩, Lib.hid (HB.out.trans ((HrE.out.trans (h56.mono HrE.out.size)).mono HB.out.size))⟩
                            case measure => simp [Go.RowKit.intOf]; omega
                          | false =>
                            go_wp2_with (first
                              | (go_at_call 9; refine Calls.mono HVal.out ?_; rintro e w5 ⟨hv5, hb5⟩; obtain rfl : e = .returned (.tuple #[.string tw, .int .i64 0]) := (by rcases hv5 with ⟨_, h, h3⟩ | ⟨_, z, h, _⟩; cases h; rw [← htw]; exact h3; cases h); obtain ⟨x0, x1, x2, x3, x4, x5, x6⟩ := box_cells (HRow.out w5 (HrE.out.trans (hb5.mono HrE.out.size))).2; dsimp only at x0 x1 x2 x3 x4 x5 x6; have Hb5 := Lib.hid hb5; clear hv5 hb5)
                              | (go_at_call 16; refine Calls.mono (Hus.out w5 (HBwE.out.trans (Hb5.out.mono HBwE.out.size))) ?_; rintro e w6 ⟨rfl, hb6⟩; have Hb6 := Lib.hid hb6; clear hb6))
                            go_roundw
                            case rel =>
                              obtain ⟨wv', e1, e2⟩ := Hnext.out
                              have h56 := Hb5.out.trans (Hb6.out.mono Hb5.out.size)
                              exact ⟨i + 1, wv', by omega, by go_num, by unfold isT; rw [e2]; rfl, Lib.hid ⟨e1, fun _ => Hus0.out⟩, Lib.hid (HB.out.trans ((HrE.out.trans (h56.mono HrE.out.size)).mono HB.out.size))⟩
                            case measure => simp [Go.RowKit.intOf]; omega
                · have hiN : i = N := by omega
                  subst hiN
                  have hge : ¬ (i : Int) < (i : Int) := by omega
                  have Hend := Lib.hid (obj_end hN3.1 (HI.out.2 (by omega)) Hva.out (fun j hj => HI.out.1 j hj))
                  generalize ((List.range i).all fun j => isT (textV tauD (wv j))) = b at *
                  have Hword : Hid (isT (textV tauD va) = b) := Lib.hid Hend.out
                  generalize textV tauD va = tv at *
                  unfold isT at Hword
                  generalize hbb : (tv.toList == [116, 114, 117, 101]) = bb at *
                  go_wp2_with fail
                  go_ret
                  have h5 := Hword.out
                  subst h5
                  exact ⟨by simp, HBw.out⟩
          · have hl1i : ((l.length : Int) == 1) = false := by rw [beq_eq_false_iff_ne]; omega
            have hv1i : ((vars.length : Int) == 1) = true := by rw [hv1]; rfl
            have h19i : (op == 19) = true := by simpa using h19
            go_wp2_with fail
            go_ret
            exact ⟨rfl, Hb2.out.trans (Hb23.out.mono Hb2.out.size)⟩
        · have hv1i : ((vars.length : Int) == 1) = false := by rw [beq_eq_false_iff_ne]; omega
          have h19i : (op == 19) = true := by simpa using h19
          go_wp2_with fail
          go_ret
          exact ⟨rfl, Hb2.out.trans (Hb23.out.mono Hb2.out.size)⟩
      · have h19i : (op == 19) = false := by simpa using h19
        go_wp2_with fail
        go_ret
        exact ⟨rfl, Hb2.out.trans (Hb23.out.mono Hb2.out.size)⟩
end Go.Proofs.YtbnonccmlildnaaGreat
