/- Apps: plainly; the state of its walk. -/
import Derived.Test.YtlgbepamnkfpjaaGreatDoorM25
import Derived.Laws.OwnMore
import Derived.StringKeys
set_option linter.unusedSimpArgs false
set_option linter.unusedVariables false
set_option linter.unusedVariables false
set_option linter.unusedSimpArgs false
namespace Go.Proofs.YtlgbepamnkfpjaaGreatDoor
open Go.RowKit Go.Lib Go.Maps Go.ChangeMaps

def hasKey (out : List Tm) (k : List UInt8) : Bool := out.any fun u => keyL u == k
/-- One term more, if it is a ground application of a new key. -/
def appsAdd (out : List Tm) (t : Tm) (op : Int) : List Tm := if (tground t && op == 17 && !hasKey out (keyL t)) = true then out ++ [t] else out
mutual
def appsW (out : List Tm) : Tm → List Tm
  | .mk op name s n l vars pat => if op = 19 then out else appsAdd (appsWs out l) (.mk op name s n l vars pat) op
def appsWs (out : List Tm) : List Tm → List Tm
  | [] => out
  | t :: ts => appsWs (appsW out t) ts
end
theorem appsWs_append (out : List Tm) (a b : List Tm) : appsWs out (a ++ b) = appsWs (appsWs out a) b := by
  induction a generalizing out with
  | nil => rfl
  | cons t ts ih => simp only [List.cons_append, appsWs, ih]
theorem appsWs_take {l : List Tm} {k : Nat} (hk : k < l.length) (out : List Tm) : appsWs out (l.take (k + 1)) = appsW (appsWs out (l.take k)) l[k] := by
  have : l.take (k + 1) = l.take k ++ [l[k]] := by simp
  rw [this, appsWs_append]
  rfl
theorem appsAdd_length (out : List Tm) (t : Tm) (op : Int) : (appsAdd out t op).length ≤ out.length + 1 := by
  unfold appsAdd
  split
  · simp
  · omega
mutual
theorem appsW_length (out : List Tm) : ∀ t : Tm, (appsW out t).length ≤ out.length + tsize t
  | .mk op name s n l vars pat => by
    simp only [appsW, tsize]
    split
    · omega
    · have h1 := appsAdd_length (appsWs out l) (.mk op name s n l vars pat) op
      have h2 := appsWs_length out l
      omega
theorem appsWs_length (out : List Tm) : ∀ l : List Tm, (appsWs out l).length ≤ out.length + tsizes l
  | [] => by simp [appsWs, tsizes]
  | t :: ts => by
    simp only [appsWs, tsizes]
    have h1 := appsW_length out t
    have h2 := appsWs_length (appsW out t) ts
    omega
end
/-- Are all of them ground, told as the walk tells it: one by one, each of them walked. -/
theorem tgrounds_take {l : List Tm} {k : Nat} (hk : k < l.length) : tgrounds (l.take (k + 1)) = (tground l[k] && tgrounds (l.take k)) := by
  induction l generalizing k with
  | nil => simp at hk
  | cons t l ih =>
    cases k with
    | zero => simp [tgrounds]
    | succ k =>
      simp only [List.length_cons] at hk
      have := ih (k := k) (by omega)
      simp only [List.take_succ_cons, List.getElem_cons_succ, tgrounds, this]
      cases tground t <;> cases tground l[k] <;> rfl
/-- What the map tells. -/
def fKeys (out : List Tm) : Lit → Option Value
  | .string k => if hasKey out k = true then some (.int .i64 1) else none
  | _ => none
theorem fKeys_add (out : List Tm) (t : Tm) : upd (fKeys out) (.string (keyL t)) (.int .i64 1) = fKeys (out ++ [t]) := by
  funext x
  unfold upd
  split
  · rename_i h
    subst h
    simp [fKeys, hasKey]
  · rename_i h
    cases x with
    | string k =>
      have : (keyL t == k) = false := by
        simp only [beq_eq_false_iff_ne, ne_eq]
        intro e
        exact h (by rw [e])
      simp [fKeys, hasKey, this]
    | _ => rfl
theorem keyed9 : Keyed Tryz.prog 9 := string_keyed Tryz.underlying9
theorem key9 (t : Tm) (h : (keyL t).length ≤ 140737488355328) : keyOf Tryz.prog 9 (.string (keyB t)) = some (.string (keyL t)) := by
  have := Go.WideMaps.keyOf_string_mk (P := Tryz.prog) (k := 9) Tryz.underlying9 (s := keyB t) (by simp only [keyB, ByteArray.size, maxLen]; simp; omega)
  rw [this]
  simp [keyB]
/-- The four blocks of a walk. -/
structure Blocks (w : World) (c3 M c4 c5 : Nat) : Prop where
  o1 : c3 < M
  o2 : M < c4
  o3 : c4 < c5
  o4 : c5 < w.heap.size
  f5 : w.heap[c5]? = some (.cells #[.func (.func 27) #[] #[.pointer (some ⟨c5, 0, none⟩), .pointer (some ⟨c4, 0, none⟩), .pointer (some ⟨c3, 0, none⟩)]] 38 (0, 0))
  m4 : w.heap[c4]? = some (.cells #[.map (some M)] 59 (0, 0))
/-- What it holds. -/
structure Holds (w : World) (c3 M B : Nat) (out : List Tm) (A : Option Addr) (c : Nat) : Prop where
  cell : w.heap[c3]? = some (.cells #[.slice A out.length c] 23 (0, 0))
  map : MapV Tryz.prog 9 w M out.length (fKeys out)
  list : ∃ us, PutLoop B w out A out.length c us
  lt : c3 < M ∧ M < B
/-- All that stood stands, but those two and the list's row. -/
structure Walked (c3 M : Nat) (w w' : World) (o o' : Option Nat) : Prop where
  below : Below c3 w w'
  keep : ∀ k, k < w.heap.size → k ≠ c3 → k ≠ M → o ≠ some k → w'.heap[k]? = w.heap[k]?
  own : o' = o ∨ ∀ k, o' = some k → w.heap.size ≤ k
theorem Walked.refl (c3 M : Nat) (w : World) (o : Option Nat) : Walked c3 M w w o o := ⟨Below.refl _ _, fun _ _ _ _ _ => rfl, .inl rfl⟩
theorem Walked.trans {c3 M : Nat} {a b c : World} {o1 o2 o3 : Option Nat} (h : Walked c3 M a b o1 o2) (k : Walked c3 M b c o2 o3) : Walked c3 M a c o1 o3 := by
  refine ⟨h.below.trans k.below, fun i hi h3 hM ho => ?_, ?_⟩
  · have hb := h.below.size
    rw [k.keep i (by omega) h3 hM ?_, h.keep i hi h3 hM ho]
    intro e
    rcases h.own with e2 | e2
    · exact ho (e2 ▸ e)
    · have := e2 i e
      omega
  · rcases k.own with e | e
    · rcases h.own with e2 | e2
      · exact .inl (e.trans e2)
      · exact .inr fun i hi => e2 i (e ▸ hi)
    · exact .inr fun i hi => by have := e i hi; have := h.below.size; omega
/-- Memory was made alone. -/
theorem Walked.low {c3 M : Nat} {a b c : World} {o1 o2 : Option Nat} (h : Walked c3 M a b o1 o2) (hb : Below b.heap.size b c) (hc : c3 ≤ a.heap.size) : Walked c3 M a c o1 o2 :=
  ⟨h.below.trans (hb.mono (by have := h.below.size; omega)), fun i hi h3 hM ho => by rw [hb.block i (by have := h.below.size; omega)]; exact h.keep i hi h3 hM ho, h.own⟩
theorem Blocks.walked {w w' : World} {c3 M c4 c5 : Nat} {o o' : Option Nat} (h : Blocks w c3 M c4 c5) (k : Walked c3 M w w' o o') (ho : ∀ j, o = some j → c5 < j) : Blocks w' c3 M c4 c5 := by
  have h1 := h.o1
  have h2 := h.o2
  have h3 := h.o3
  have h4 := h.o4
  have h5 := k.below.size
  refine ⟨h1, h2, h3, by omega, ?_, ?_⟩
  · rw [k.keep c5 h4 (by omega) (by omega) (fun e => by have := ho _ e; omega)]
    exact h.f5
  · rw [k.keep c4 (by omega) (by omega) (by omega) (fun e => by have := ho _ e; omega)]
    exact h.m4
theorem Blocks.below {w w' : World} {c3 M c4 c5 : Nat} (h : Blocks w c3 M c4 c5) (hb : Below w.heap.size w w') : Blocks w' c3 M c4 c5 := by
  have h4 := h.o4
  have h5 := hb.size
  exact ⟨h.o1, h.o2, h.o3, by omega, below_keeps hb h.f5, below_keeps hb h.m4⟩
theorem Holds.below {w w' : World} {c3 M B : Nat} {out : List Tm} {A : Option Addr} {c : Nat} (h : Holds w c3 M B out A c) (hb : Below w.heap.size w w') : Holds w' c3 M B out A c := by
  obtain ⟨us, hu⟩ := h.list
  exact ⟨below_keeps hb h.cell, h.map.same (hb.block M h.map.lt), ⟨us, hu.below hb⟩, h.lt⟩
theorem Holds.own {w : World} {c3 M B : Nat} {out : List Tm} {A : Option Addr} {c : Nat} (h : Holds w c3 M B out A c) : ∀ k, (Value.slice A out.length c).ownBlock = some k → B ≤ k ∧ k < w.heap.size := fun k hk => by
  obtain ⟨us, hu⟩ := h.list
  obtain ⟨h1, cur, hc⟩ := ownsRow_lt hu.own k hk
  exact ⟨h1, (Array.getElem?_eq_some_iff.1 hc).1⟩
end Go.Proofs.YtlgbepamnkfpjaaGreatDoor

/- Apps: its walk: formulas for all. -/
set_option linter.unusedVariables false
set_option linter.unusedSimpArgs false
namespace Go.Proofs.YtlgbepamnkfpjaaGreatDoor
open Go.RowKit Go.Lib Go.Maps Go.ChangeMaps

def WalkIs (w : World) (c3 M B : Nat) (o : Option Nat) (out : List Tm) (g : Bool) (e : Ending) (w' : World) : Prop :=
  e = .returned (.bool g) ∧ ∃ A c, Holds w' c3 M B out A c ∧ Walked c3 M w w' o (Value.slice A out.length c).ownBlock
def WalkOK (w0 : World) (t : Tm) (v : Value) : Prop :=
  ∀ (c3 M c4 c5 B : Nat) (out : List Tm) (A : Option Addr) (c : Nat) (w : World), w0.heap.size ≤ c3 → Below w0.heap.size w0 w → Blocks w c3 M c4 c5 → c5 < B → B ≤ w.heap.size → Holds w c3 M B out A c → out.length + tsize t ≤ 1000000 →
    Calls Tryz.prog 27 #[v, .pointer (some ⟨c5, 0, none⟩), .pointer (some ⟨c4, 0, none⟩), .pointer (some ⟨c3, 0, none⟩)] w (WalkIs w c3 M B (Value.slice A out.length c).ownBlock (appsW out t) (tground t))
theorem zero3 (w : World) : (zeroValue 3).run Tryz.prog w = .ok (.int .i64 0) w := Tryz.zeroValue3 w
theorem bool_and_cases (a b : Bool) : (a && b) = true ∨ (a && b) = false := by cases a <;> cases b <;> simp
set_option maxRecDepth 100000 in
set_option maxHeartbeats 1000000 in
theorem walk_all {w0 : World} {sort : Int} {name n : ByteArray} {ts pat : List Tm} {vs : Bd} {A V P : Option Addr} {ca cv cp : Nat} : WalkOK w0 (.mk 19 name sort n ts vs pat) (.agg (Parts.arr ⟨19, name, sort, n, A, ts.length, ca, V, vs.length, cv, P, pat.length, cp⟩)) := by
  intro c3 M c4 c5 B out A2 c w h0 hb hB h5 hBw hH hl
  have HH := Lib.hid hH
  have H0 : Hid (c3 ≤ w.heap.size) := Lib.hid (by have := hB.o1; have := hB.o2; have := hB.o3; have := hB.o4; omega)
  have Hr : Hid (appsW out (.mk 19 name sort n ts vs pat) = out ∧ tground (.mk 19 name sort n ts vs pat) = false) := Lib.hid (And.intro (by simp [appsW]) (by simp [tground]))
  clear hH hB hb h0 h5 hBw hl
  simp only [Parts.arr]
  go_enter Tryz.func27, Tryz.ntmps27
  go_wp2_with fail
  go_ret
  have hA : Below w.heap.size w (w.alloc (.cells #[.int .i64 19, .string name, .int .i64 sort, .string n, .slice A ts.length ca, .slice V vs.length cv, .slice P pat.length cp] 26)) := (Below.refl _ _).alloc (Nat.le_refl _) _
  refine ⟨by rw [Hr.out.2]; rfl, A2, c, by rw [Hr.out.1]; exact HH.out.below hA, ?_⟩
  rw [Hr.out.1]
  exact (Walked.refl c3 M w _).low hA H0.out
end Go.Proofs.YtlgbepamnkfpjaaGreatDoor

/- Apps: its walk: operators. -/
set_option linter.unusedVariables false
set_option linter.unusedSimpArgs false
namespace Go.Proofs.YtlgbepamnkfpjaaGreatDoor
open Go.RowKit Go.Lib Go.Maps Go.ChangeMaps

set_option maxRecDepth 100000 in
set_option maxHeartbeats 4000000 in
theorem walk_op {w0 : World} {op sort : Int} {name n : ByteArray} {ts pat : List Tm} {vs : Bd} {A V P : Option Addr} {ca cv cp : Nat} {f : Nat → Value} (h17 : (op == 17) = false) (h19 : (op == 19) = false) (hf : RowCells w0 A 7 ts.length f) (hL : ∀ (j : Nat) (t : Tm), ts[j]? = some t → TmV w0 t (f j)) (hwalk : ∀ (j : Nat) (t : Tm), ts[j]? = some t → WalkOK w0 t (f j)) (hlen : ts.length ≤ 1000000) :
    ∀ (c3 M c4 c5 B : Nat) (out : List Tm) (A2 : Option Addr) (c : Nat) (w : World), w0.heap.size ≤ c3 → Below w0.heap.size w0 w → Blocks w c3 M c4 c5 → c5 < B → B ≤ w.heap.size → Holds w c3 M B out A2 c → out.length + tsize (.mk op name sort n ts vs pat) ≤ 1000000 → 
    Calls Tryz.prog 27 #[.agg (Parts.arr ⟨op, name, sort, n, A, ts.length, ca, V, vs.length, cv, P, pat.length, cp⟩), .pointer (some ⟨c5, 0, none⟩), .pointer (some ⟨c4, 0, none⟩), .pointer (some ⟨c3, 0, none⟩)] w (WalkIs w c3 M B (Value.slice A2 out.length c).ownBlock (appsW out (.mk op name sort n ts vs pat)) (tground (.mk op name sort n ts vs pat))) := by
  intro c3 M c4 c5 B out A2 c w h0 hb hB h5 hBw hH hl 
  simp only [tsize] at hl
  have hA : Below w.heap.size w (w.alloc (.cells (Parts.arr ⟨op, name, sort, n, A, ts.length, ca, V, vs.length, cv, P, pat.length, cp⟩) 26)) := (Below.refl _ _).alloc (Nat.le_refl _) _
  have Hc3 : Hid (c3 ≤ w.heap.size ∧ c3 < B ∧ M < B ∧ B ≤ w.heap.size ∧ w0.heap.size ≤ c3 ∧ c5 < B) := Lib.hid (by have := hB.o1; have := hB.o2; have := hB.o3; have := hB.o4; omega)
  have HH : Hid (Holds (w.alloc (.cells (Parts.arr ⟨op, name, sort, n, A, ts.length, ca, V, vs.length, cv, P, pat.length, cp⟩) 26)) c3 M B out A2 c) := Lib.hid (hH.below hA)
  have HBl : Hid (Blocks (w.alloc (.cells (Parts.arr ⟨op, name, sort, n, A, ts.length, ca, V, vs.length, cv, P, pat.length, cp⟩) 26)) c3 M c4 c5) := Lib.hid (hB.below hA)
  obtain ⟨W1, hW1⟩ : ∃ W1, W1 = (w.alloc (.cells (Parts.arr ⟨op, name, sort, n, A, ts.length, ca, V, vs.length, cv, P, pat.length, cp⟩) 26)) := ⟨_, rfl⟩
  have HW1 : Hid (Walked c3 M w W1 (Value.slice A2 out.length c).ownBlock (Value.slice A2 out.length c).ownBlock ∧ Below w.heap.size w W1 ∧ W1.heap.size = w.heap.size + 1) := Lib.hid (by rw [hW1]; exact And.intro ((Walked.refl c3 M w _).low hA Hc3.out.1) (And.intro hA (by simp)))
  have HWk : Hid (Walked c3 M W1 W1 (Value.slice A2 out.length c).ownBlock (Value.slice A2 out.length c).ownBlock) := Lib.hid (Walked.refl c3 M W1 _)
  have Hrow : Hid ((w.alloc (.cells (Parts.arr ⟨op, name, sort, n, A, ts.length, ca, V, vs.length, cv, P, pat.length, cp⟩) 26)).heap[w.heap.size]? = some (.cells (Parts.arr ⟨op, name, sort, n, A, ts.length, ca, V, vs.length, cv, P, pat.length, cp⟩) 26 (0, 0))) := Lib.hid (heap_alloc_new w _)
  have Hlt : Hid (∀ k, (Value.slice A2 out.length c).ownBlock = some k → B ≤ k ∧ k < w.heap.size) := Lib.hid hH.own
  have Hf := Lib.hid hf
  have HL := Lib.hid hL
  have Hwalk := Lib.hid hwalk
  have Hb := Lib.hid hb
  have Hl := Lib.hid hl
  have Hres : Hid (appsW out (.mk op name sort n ts vs pat) = appsWs out ts ∧ tground (.mk op name sort n ts vs pat) = (tgrounds ts && !(op == 18))) := Lib.hid (And.intro (by simp [appsW, appsAdd, h17, show op ≠ 19 by simpa using h19]) (by simp only [tground, h19]; cases tgrounds ts <;> cases (op == 18) <;> rfl))
  clear hf hL hwalk hb hB h5 hBw hH hl hA h0
  simp only [Parts.arr] at HH HBl Hrow hW1 ⊢
  have HWe := Lib.hid hW1
  clear hW1
  have h18 : (op == 18) = true ∨ (op == 18) = false := by cases (op == 18) <;> simp
  go_enter Tryz.func27, Tryz.ntmps27
  go_wp2_with fail
  go_loopw [6, 19] (fun v i wr => ∃ (k : Nat) (g : Bool), k ≤ ts.length ∧ i = .int .i64 k ∧ v = .bool g ∧ Hid (g = (tgrounds (ts.take k) && !(op == 18))) ∧ Hid (∃ A3 c3', Holds wr c3 M B (appsWs out (ts.take k)) A3 c3' ∧ Walked c3 M W1 wr (Value.slice A2 out.length c).ownBlock (Value.slice A3 (appsWs out (ts.take k)).length c3').ownBlock) ∧ Hid (Blocks wr c3 M c4 c5) ∧ Hid (wr.heap[w.heap.size]? = some (.cells #[.int .i64 op, .string name, .int .i64 sort, .string n, .slice A ts.length ca, .slice V vs.length cv, .slice P pat.length cp] 26 (0, 0)))) (fun _ i _ => ts.length - (Go.RowKit.intOf i).toNat)
  case atStart => exact ⟨0, _, Nat.zero_le _, rfl, rfl, Lib.hid (by simp only [List.take_zero, tgrounds, Bool.true_and]; rfl), Lib.hid ⟨A2, c, HH.out, by rw [← HWe.out]; exact HWk.out⟩, HBl, Hrow⟩
  case round =>
    obtain ⟨k, g, hk, rfl, rfl, Hg, HX, HBr, Hrr⟩ := hrel
    obtain ⟨A3, cc3, hX1, hX2⟩ := HX.out
    have HX1 := Lib.hid hX1
    have HX2 := Lib.hid hX2
    clear hX1 hX2 HX
    have f5 := (row1 HBr.out.f5).1
    have q5 : c5 < wr.heap.size := HBr.out.o4
    have q0 : w.heap.size < wr.heap.size := (Array.getElem?_eq_some_iff.1 Hrr.out).1
    by_cases hlt : k < ts.length
    · have hwr0 : Below w0.heap.size w0 wr := (Hb.out.trans (HW1.out.2.1.mono Hb.out.size)).trans (HX2.out.below.mono (by have := Hc3.out; omega))
      have Ht : Hid (ts[k]? = some ts[k]) := Lib.hid (List.getElem?_eq_getElem hlt)
      have Hv := Lib.hid (HL.out k _ Ht.out)
      obtain ⟨p, hp⟩ := Hv.out.parts
      obtain ⟨b, o, rfl, h0, h1, h2, h3, h4, h5, h6⟩ := (Hf.out.below hwr0).get hlt hp
      have Hbx : Hid (Below wr.heap.size wr (boxT wr p)) := Lib.hid (below_boxT wr p)
      have Hst : Hid (appsWs out (ts.take (k + 1)) = appsW (appsWs out (ts.take k)) ts[k] ∧ tgrounds (ts.take (k + 1)) = (tground ts[k] && tgrounds (ts.take k))) := Lib.hid (And.intro (appsWs_take hlt out) (tgrounds_take hlt))
      have Hc : Hid (Calls Tryz.prog 27 #[.agg #[.int .i64 p.op, .string p.name, .int .i64 p.sort, .string p.n, .slice p.A p.la p.ca, .slice p.V p.lv p.cv, .slice p.P p.lp p.cp], .pointer (some ⟨c5, 0, none⟩), .pointer (some ⟨c4, 0, none⟩), .pointer (some ⟨c3, 0, none⟩)] (wr.alloc (.cells #[.int .i64 p.op, .string p.name, .int .i64 p.sort, .string p.n, .slice p.A p.la p.ca, .slice p.V p.lv p.cv, .slice p.P p.lp p.cp] 26)) (WalkIs (boxT wr p) c3 M B (Value.slice A3 (appsWs out (ts.take k)).length cc3).ownBlock (appsW (appsWs out (ts.take k)) ts[k]) (tground ts[k]))) := Lib.hid (by
        have := Hwalk.out k _ Ht.out c3 M c4 c5 B (appsWs out (ts.take k)) A3 cc3 (boxT wr p) (by have := Hc3.out; omega) (hwr0.trans (Hbx.out.mono hwr0.size)) (HBr.out.below Hbx.out) (by have := Hc3.out; omega) (by have := Hc3.out; rw [boxT_size]; omega) (HX1.out.below Hbx.out) (by
          have e1 := appsWs_length out (ts.take k)
          have e2 := tsizes_le ts (k + 1)
          rw [tsizes_take hlt] at e2
          have e3 := Hl.out
          omega)
        rw [hp] at this
        exact this)
      have Ho : Hid (∀ j, (Value.slice A3 (appsWs out (ts.take k)).length cc3).ownBlock = some j → B ≤ j ∧ j < wr.heap.size) := Lib.hid HX1.out.own
      have Hne : Hid ((Value.slice A3 (appsWs out (ts.take k)).length cc3).ownBlock ≠ some w.heap.size) := Lib.hid (fun e => by
        rcases HX2.out.own with e2 | e2
        · have := (Hlt.out _ (e2 ▸ e)).2
          omega
        · have := e2 _ e
          have := HW1.out.2.2
          omega)
      clear hp hwr0
      generalize ts[k] = t at *
      cases hgt : tground t with
      | true =>
        rw [hgt] at Hc Hst
        go_wp2_with (go_at_call 27; refine Calls.mono Hc.out ?_; rintro e w8 ⟨rfl, A8, c8, hh8, hw8⟩; have HH8 := Lib.hid hh8; have Hw8 := Lib.hid hw8; clear hh8 hw8)
        go_roundw
        case rel =>
          refine ⟨k + 1, _, by omega, by go_num, rfl, Lib.hid ?_, Lib.hid ⟨A8, c8, ?_, ?_⟩, Lib.hid ?_, Lib.hid ?_⟩
          · rw [Hst.out.2, Hg.out]
            simp
          · rw [Hst.out.1]
            exact HH8.out
          · rw [Hst.out.1]
            exact (HX2.out.low Hbx.out (by have := Hc3.out; have := HW1.out.2.2; omega)).trans Hw8.out
          · exact (HBr.out.below Hbx.out).walked Hw8.out (fun j hj => by have := (Ho.out j hj).1; have := Hc3.out; omega)
          · have := below_keeps Hbx.out Hrr.out
            rw [← this]
            exact Hw8.out.keep _ (by rw [boxT_size]; omega) (by have := Hc3.out; omega) (by have := Hc3.out; omega) Hne.out
        case measure => simp [Go.RowKit.intOf]; omega
      | false =>
        rw [hgt] at Hc Hst
        go_wp2_with (go_at_call 27; refine Calls.mono Hc.out ?_; rintro e w8 ⟨rfl, A8, c8, hh8, hw8⟩; have HH8 := Lib.hid hh8; have Hw8 := Lib.hid hw8; clear hh8 hw8)
        go_roundw
        case rel =>
          refine ⟨k + 1, _, by omega, by go_num, rfl, Lib.hid ?_, Lib.hid ⟨A8, c8, ?_, ?_⟩, Lib.hid ?_, Lib.hid ?_⟩
          · rw [Hst.out.2]
            simp
          · rw [Hst.out.1]
            exact HH8.out
          · rw [Hst.out.1]
            exact (HX2.out.low Hbx.out (by have := Hc3.out; have := HW1.out.2.2; omega)).trans Hw8.out
          · exact (HBr.out.below Hbx.out).walked Hw8.out (fun j hj => by have := (Ho.out j hj).1; have := Hc3.out; omega)
          · have := below_keeps Hbx.out Hrr.out
            rw [← this]
            exact Hw8.out.keep _ (by rw [boxT_size]; omega) (by have := Hc3.out; omega) (by have := Hc3.out; omega) Hne.out
        case measure => simp [Go.RowKit.intOf]; omega
    · have hkl : k = ts.length := by omega
      subst hkl
      rw [List.take_length] at Hg HX1 HX2
      obtain ⟨x0, x1, x2, x3, x4, x5, x6⟩ := box_cells (p := ⟨op, name, sort, n, A, ts.length, ca, V, vs.length, cv, P, pat.length, cp⟩) Hrr.out
      dsimp only at x0 x1 x2 x3 x4 x5 x6
      have Hb1 : Hid (Walked c3 M w wr (Value.slice A2 out.length c).ownBlock (Value.slice A3 (appsWs out ts).length cc3).ownBlock) := Lib.hid (HW1.out.1.trans HX2.out)
      cases g with
      | true =>
        go_wp2_with fail
        go_ret
        exact ⟨by rw [Hres.out.2, ← Hg.out]; rfl, A3, cc3, by rw [Hres.out.1]; exact HX1.out, by rw [Hres.out.1]; exact Hb1.out⟩
      | false =>
        go_wp2_with fail
        go_ret
        exact ⟨by rw [Hres.out.2, ← Hg.out]; rfl, A3, cc3, by rw [Hres.out.1]; exact HX1.out, by rw [Hres.out.1]; exact Hb1.out⟩
end Go.Proofs.YtlgbepamnkfpjaaGreatDoor
