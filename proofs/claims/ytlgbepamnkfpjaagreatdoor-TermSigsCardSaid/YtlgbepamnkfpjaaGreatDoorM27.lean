/- Apps: one more term, written into the list. -/
import Derived.Test.YtlgbepamnkfpjaaGreatDoorM26
import Derived.Deep.RegionHeld3
set_option linter.unusedSimpArgs false
set_option linter.unusedVariables false
set_option linter.unusedVariables false
set_option linter.unusedSimpArgs false
namespace Go.Proofs.YtlgbepamnkfpjaaGreatDoor
open Go.RowKit Go.Lib Go.Maps Go.ChangeMaps

/-- append of one element, as a step of a region that draws. -/
theorem step_append_one {P : Program} (w : World) {ops : Array Oper} {o : Oper} {a : Act} {K : Act → World → Prop} {Q : Exit → Act → World → Prop} {E : Prop} (hgd : o.guard = none) (s x : Operand) (t : TypeId)
    (ho : o.op = .call { callee := .builtin .append, args := #[s, x], argTypes := #[t, t] }) (base : Nat) (e : TypeId) (i : TypeInfo) (z : Value) (k bytes : Nat) (ht : P.underlying t = some (.slice e)) (hi : P.info? e = some i) (hz : i.zero = some z)
    (hsize : i.size = k) (hby : i.bytes = bytes) (hzs : z.cells.size = k) (hk : 0 < k) (v : Value) (n : Nat) (xs : List Value) (hs : a.eval s = v) (hown : w.ownsRow base e k v n xs) (ad : Addr) (c : Nat) (u : Array Value) (hx : a.eval x = .slice (some ad) 1 c)
    (hu : u.size = k) (hb : w.heap[ad.block]? = some (.cells u e (0, 0))) (h0 : ad.off = 0) (hsp : ad.spot = none) (h1 : ∀ y ∈ u.toList, y.oneCell' = true) (h63 : n + 1 ≤ maxLen) (hbytes : (n + 1) * bytes ≤ 140737488355328) (hbase : base ≤ w.heap.size)
    (h : ∀ g cap w', w'.ownsRow base e k (.slice (some ⟨g, 0, none⟩) (n + 1) cap) (n + 1) (xs ++ u.toList) → w.grownBy w' v.ownBlock → (v.ownBlock = some g ∨ g = w.heap.size) → K (a.put o.dst (.slice (some ⟨g, 0, none⟩) (n + 1) cap)) w') :
    if Region.wanted o (yielded ops a.tmps) = true then Oper.wp P o a w K Q else E := by
  have hw : Region.wanted o (yielded ops a.tmps) = true := by simp [Region.wanted, hgd]
  rw [if_pos hw]
  obtain ⟨v', w', hr, hq, hg, hnil, hat⟩ := run_append_own_at (P := P) w base t o.type e i z k bytes ht hi hz hsize hby hzs hk v n xs hown ad 1 c u.toList (by simp [hu]) (fun j y hj => by
    obtain ⟨ab, ao, asp⟩ := ad
    dsimp only at h0 hsp hb
    subst h0 hsp
    rw [Addr.add_lit, row_at hb, Nat.zero_add]
    simpa using hj) h1 h63 hbytes hbase
  rcases hq.2 with ⟨_, hn⟩ | ⟨g, cap, cur, rfl, r⟩
  · omega
  · unfold Oper.wp execOp
    simp only [ho, resolve, invoke, builtin, Sem.run_bind, Sem.run_pure, Result.andThen_ok, List.map_toArray, List.map_cons, List.map_nil, hs, hx, hr]
    refine h g cap w' hq hg ?_
    rcases hat with hat | hat
    · exact .inl hat.symm
    · exact .inr (by simpa [Value.ownBlock] using hat)
/-- A term written into a row. -/
def setL (w : World) (g o : Nat) (p : Parts) : World := ((((((w.setCell ⟨g, o, none⟩ (.int .i64 p.op)).setCell ⟨g, o + 1, none⟩ (.string p.name)).setCell ⟨g, o + 2, none⟩ (.int .i64 p.sort)).setCell ⟨g, o + 3, none⟩ (.string p.n)).setCell ⟨g, o + 4, none⟩ (.slice p.A p.la p.ca)).setCell ⟨g, o + 5, none⟩ (.slice p.V p.lv p.cv)).setCell ⟨g, o + 6, none⟩ (.slice p.P p.lp p.cp)
theorem setL_other {w : World} {g o j : Nat} {p : Parts} (h : j ≠ g) : (setL w g o p).heap[j]? = w.heap[j]? := by
  unfold setL
  iterate 7 rw [Below.heap_setCell _ _ _ _ (by simpa using h)]
theorem list_sets {xs : List Value} {m : Nat} (hx : xs.length = m) (a0 a1 a2 a3 a4 a5 a6 b0 b1 b2 b3 b4 b5 b6 : Value) :
    ((((((((xs ++ [a0, a1, a2, a3, a4, a5, a6]).set m b0).set (m + 1) b1).set (m + 2) b2).set (m + 3) b3).set (m + 4) b4).set (m + 5) b5).set (m + 6) b6) = xs ++ [b0, b1, b2, b3, b4, b5, b6] := by
  subst hx
  simp [List.set_append]
theorem setL_own {w : World} {B g k cap : Nat} {us : List Value} (p : Parts) (h : w.ownsRow B 26 7 (.slice (some ⟨g, 0, none⟩) (k + 1) cap) (k + 1) (cellsOf us ++ zeroP.arr.toList)) (hu : (cellsOf us).length = k * 7) :
    (setL w g (k * 7) p).ownsRow B 26 7 (.slice (some ⟨g, 0, none⟩) (k + 1) cap) (k + 1) (cellsOf us ++ p.arr.toList) := by
  have h0 := (h.stored (k * 7) (.int .i64 p.op)).1
  have h1 := (h0.stored (k * 7 + 1) (.string p.name)).1
  have h2 := (h1.stored (k * 7 + 2) (.int .i64 p.sort)).1
  have h3 := (h2.stored (k * 7 + 3) (.string p.n)).1
  have h4 := (h3.stored (k * 7 + 4) (.slice p.A p.la p.ca)).1
  have h5 := (h4.stored (k * 7 + 5) (.slice p.V p.lv p.cv)).1
  have h6 := (h5.stored (k * 7 + 6) (.slice p.P p.lp p.cp)).1
  have e : zeroP.arr.toList = [.int .i64 0, .string .empty, .int .i64 0, .string .empty, .slice none 0 0, .slice none 0 0, .slice none 0 0] := rfl
  rw [e, list_sets hu] at h6
  exact h6
/-- What the two stores leave, in whichever order they came. -/
structure Added (w9 wf : World) (c3 B g k cap : Nat) (us : List Value) (p : Parts) : Prop where
  os : wf.os = w9.os
  tape : wf.tape = w9.tape
  output : wf.output = w9.output
  size : wf.heap.size = w9.heap.size
  other : ∀ j, j ≠ c3 → j ≠ g → wf.heap[j]? = w9.heap[j]?
  cell : wf.heap[c3]? = some (.cells #[.slice (some ⟨g, 0, none⟩) (k + 1) cap] 23 (0, 0))
  own : wf.ownsRow B 26 7 (.slice (some ⟨g, 0, none⟩) (k + 1) cap) (k + 1) (cellsOf us ++ p.arr.toList)
theorem set_row {w : World} {k : Nat} {u v : Value} {t : TypeId} (h : w.heap[k]? = some (.cells #[u] t (0, 0))) : (w.setCell ⟨k, 0, none⟩ v).heap[k]? = some (.cells #[v] t (0, 0)) := by
  simp [World.setCell, Array.getElem?_modify, h]
theorem added1 {w9 : World} {c3 B g k cap : Nat} {us : List Value} {v : Value} (p : Parts) (h : w9.ownsRow B 26 7 (.slice (some ⟨g, 0, none⟩) (k + 1) cap) (k + 1) (cellsOf us ++ zeroP.arr.toList)) (hu : (cellsOf us).length = k * 7) (hc : w9.heap[c3]? = some (.cells #[v] 23 (0, 0))) (hne : c3 ≠ g) :
    Added w9 ((setL w9 g (k * 7) p).setCell ⟨c3, 0, none⟩ (.slice (some ⟨g, 0, none⟩) (k + 1) cap)) c3 B g k cap us p := by
  refine ⟨by simp [setL, World.setCell], by simp [setL, World.setCell], by simp [setL, World.setCell], by simp [setL, World.setCell], fun j h1 h2 => ?_, set_row ((setL_other hne).trans hc), ownsRow_setCell_other (setL_own p h hu) (by simpa [Value.ownBlock] using Ne.symm hne) _⟩
  rw [Below.heap_setCell _ _ _ _ (by simpa using h1), setL_other h2]
theorem added2 {w9 : World} {c3 B g k cap : Nat} {us : List Value} {v : Value} (p : Parts) (h : w9.ownsRow B 26 7 (.slice (some ⟨g, 0, none⟩) (k + 1) cap) (k + 1) (cellsOf us ++ zeroP.arr.toList)) (hu : (cellsOf us).length = k * 7) (hc : w9.heap[c3]? = some (.cells #[v] 23 (0, 0))) (hne : c3 ≠ g) :
    Added w9 (setL (w9.setCell ⟨c3, 0, none⟩ (.slice (some ⟨g, 0, none⟩) (k + 1) cap)) g (k * 7) p) c3 B g k cap us p := by
  refine ⟨by simp [setL, World.setCell], by simp [setL, World.setCell], by simp [setL, World.setCell], by simp [setL, World.setCell], fun j h1 h2 => ?_, (setL_other hne).trans (set_row hc), setL_own p (ownsRow_setCell_other h (by simpa [Value.ownBlock] using Ne.symm hne) _) hu⟩
  rw [setL_other h2, Below.heap_setCell _ _ _ _ (by simpa using h1)]
theorem PutLoop.kept {B : Nat} {w w' : World} {ts : List Tm} {A : Option Addr} {k c : Nat} {us : List Value} (h : PutLoop B w ts A k c us) (hk : ∀ j, B ≤ j → j < w.heap.size → w'.heap[j]? = w.heap[j]?) (hs : w.heap.size ≤ w'.heap.size) : PutLoop B w' ts A k c us :=
  ⟨h.len, ownsRow_same h.own fun g hg => by obtain ⟨h1, cur, hc⟩ := ownsRow_lt h.own g hg; exact hk g h1 (Array.getElem?_eq_some_iff.1 hc).1, h.seven, fun j t hj ht => (h.data j t hj ht).inc (only_inc fun a v hp hv => ⟨hp, (World.cell?_of_block (w := w) (hk a.block (fromBut_iff.1 hp).1 (World.block_lt_of_cell? w a hv))).trans hv⟩), Nat.le_trans h.base hs⟩
/-- The list of the first terms is the list of all, as far as it goes. -/
theorem PutLoop.more {B : Nat} {w : World} {ts : List Tm} {A : Option Addr} {c : Nat} {us : List Value} (h : PutLoop B w ts A ts.length c us) (T : Tm) : PutLoop B w (ts ++ [T]) A ts.length c us :=
  ⟨h.len, h.own, h.seven, fun j t hj ht => h.data j t hj (by rwa [List.getElem?_append_left hj] at ht), h.base⟩
/-- One more term, appended. -/
theorem PutLoop.append2 {B : Nat} {W w9 wc : World} {ts : List Tm} {A : Option Addr} {k c g cap : Nat} {us : List Value} {t : Tm} {pp : Parts} (h : PutLoop B W ts A k c us) (ht : ts[k]? = some t) (hnew : TmV (only W fun b => decide (wc.heap.size ≤ b)) t (.agg pp.arr)) (hold : ∀ j, (Value.slice A k c).ownBlock = some j → j < wc.heap.size) (hB : B ≤ wc.heap.size)
    (hq : w9.ownsRow B 26 7 (.slice (some ⟨g, 0, none⟩) (k + 1) cap) (k + 1) (cellsOf us ++ pp.arr.toList)) (hg : ∀ j, B ≤ j → j < W.heap.size → some j ≠ (Value.slice A k c).ownBlock → w9.heap[j]? = W.heap[j]?) (hgs : W.heap.size ≤ w9.heap.size) (hat : (Value.slice A k c).ownBlock = some g ∨ g = W.heap.size) : PutLoop B w9 ts (some ⟨g, 0, none⟩) (k + 1) cap (us ++ [.agg pp.arr]) := by
  have hinc : ∀ p : Nat → Bool, (∀ b, p b = true → B ≤ b ∧ some b ≠ (Value.slice A k c).ownBlock) → Inc (only W p) (only w9 (fromBut B (some g))) := fun p hp => only_inc fun a v hpa hv => by
    obtain ⟨h1, h2⟩ := hp _ hpa
    have hlt := World.block_lt_of_cell? W a hv
    refine ⟨fromBut_iff.2 ⟨h1, fun e => ?_⟩, (World.cell?_of_block (w := W) (hg a.block h1 hlt h2)).trans hv⟩
    rcases hat with e2 | e2
    · exact h2 (e.trans e2.symm)
    · cases e
      omega
  have hown : (Value.slice (some ⟨g, 0, none⟩) (k + 1) cap).ownBlock = some g := rfl
  refine ⟨by simp [h.len], ?_, ?_, ?_, Nat.le_trans h.base hgs⟩
  · have : cellsOf (us ++ [.agg pp.arr]) = cellsOf us ++ pp.arr.toList := by simp [cellsOf, Value.cells]
    rw [this]
    exact hq
  · intro u hu
    rcases List.mem_append.1 hu with hu | hu
    · exact h.seven u hu
    · simp only [List.mem_singleton] at hu
      subst hu
      rfl
  · intro j t2 hj ht2
    rw [hown]
    by_cases hjk : j < k
    · have e : (us ++ [Value.agg pp.arr]).getD j .nilFunc = us.getD j .nilFunc := by simp [List.getElem?_append_left (show j < us.length by rw [h.len]; exact hjk)]
      rw [e]
      exact (h.data j t2 hjk ht2).inc (hinc _ fun b hb => fromBut_iff.1 hb)
    · have hjk2 : j = k := by omega
      subst hjk2
      rw [ht] at ht2
      cases ht2
      have e : (us ++ [Value.agg pp.arr]).getD us.length .nilFunc = .agg pp.arr := by simp
      rw [h.len] at e
      rw [e]
      exact hnew.inc (hinc _ fun b hb => by
        simp only [decide_eq_true_eq] at hb
        exact ⟨by omega, fun e => by have := hold b e.symm; omega⟩)
theorem holds_added {w6 wA w9 wf wc : World} {c3 M B g cap : Nat} {outs : List Tm} {A : Option Addr} {c : Nat} {us : List Value} {T : Tm} {pp : Parts} (hpl : PutLoop B w6 outs A outs.length c us) (hm : MapV Tryz.prog 9 w6 M (outs.length + 1) (fKeys (outs ++ [T]))) (hlt : c3 < M ∧ M < B)
    (hA : Below w6.heap.size w6 wA) (htm : TmV (only wA fun b => decide (wc.heap.size ≤ b)) T (.agg pp.arr)) (hwc : w6.heap.size ≤ wc.heap.size) (hg : wA.grownBy w9 (Value.slice A outs.length c).ownBlock) (hat : (Value.slice A outs.length c).ownBlock = some g ∨ g = wA.heap.size)
    (had : Added w9 wf c3 B g outs.length cap us pp) : Holds wf c3 M B (outs ++ [T]) (some ⟨g, 0, none⟩) cap ∧ Walked c3 M w6 wf (Value.slice A outs.length c).ownBlock (some g) := by
  have hB := hpl.base
  have hown : ∀ k, (Value.slice A outs.length c).ownBlock = some k → B ≤ k ∧ k < w6.heap.size := fun k hk => by
    obtain ⟨h1, cur, hc⟩ := ownsRow_lt hpl.own k hk
    exact ⟨h1, (Array.getElem?_eq_some_iff.1 hc).1⟩
  have hgB : B ≤ g := by
    rcases hat with h | h
    · exact (hown g h).1
    · have := hA.size
      omega
  have hs := hA.size
  have hs9 := hg.size
  have hkeep : ∀ k, k < w6.heap.size → k ≠ c3 → (Value.slice A outs.length c).ownBlock ≠ some k → wf.heap[k]? = w6.heap[k]? := fun k hk h3 ho => by
    have hkg : k ≠ g := by
      intro e
      subst e
      rcases hat with h | h
      · exact ho h
      · omega
    rw [had.other k h3 hkg, hg.block k (by omega) (fun e => ho e.symm), hA.block k hk]
  have hgrow : ((wA.heap.size ≤ w9.heap.size)) := hs9
  refine ⟨⟨?_, ?_, ⟨us ++ [.agg pp.arr], ?_⟩, hlt⟩, ⟨?_, fun k hk h3 hM ho => hkeep k hk h3 ho, ?_⟩⟩
  · have := had.cell
    simpa using this
  · have : (outs ++ [T]).length = outs.length + 1 := by simp
    rw [this]
    exact hm.same (hkeep M hm.lt (by omega) (fun e => by have := (hown M e).1; omega))
  · have hmore := (hpl.more T).below hA
    have hnew := hmore.append2 (w9 := wf) (g := g) (cap := cap) (t := T) (pp := pp) (wc := wc) (by simp) htm (fun j hj => by have := (hown j hj).2; omega) (by omega) had.own (fun j hj1 hj2 hj3 => by
      have hjg : j ≠ g := by
        intro e
        subst e
        rcases hat with h | h
        · exact hj3 h.symm
        · omega
      rw [had.other j (by omega) hjg, hg.block j hj2 hj3]) (by have := had.size; omega) hat
    have : (outs ++ [T]).length = outs.length + 1 := by simp
    rw [this]
    exact hnew
  · refine ⟨had.os.trans (hg.os.trans hA.os), had.tape.trans (hg.tape.trans hA.tape), had.output.trans (hg.output.trans hA.output), by have := had.size; omega, fun k hk => ?_⟩
    exact hkeep k (by omega) (by omega) (fun e => by have := (hown k e).1; omega)
  · rcases hat with h | h
    · exact .inl h.symm
    · exact .inr fun k hk => by cases hk; omega
end Go.Proofs.YtlgbepamnkfpjaaGreatDoor

/- Apps: its walk: applications. -/
set_option linter.unusedVariables false
set_option linter.unusedSimpArgs false
namespace Go.Proofs.YtlgbepamnkfpjaaGreatDoor
open Go.RowKit Go.Lib Go.Maps Go.ChangeMaps

/-- What the append's parts are. -/
def appSpec (B : Nat) (p : Parts) (T : Tm) (v0 : Value) (k : Nat) : Nat → World → Value → Prop
  | 0, _, v => v = v0
  | 1, _, v => v = .agg p.arr
  | 2, w, v => ∃ pp : Parts, v = .agg pp.arr ∧ TmV (fromB w B) T (.agg pp.arr)
  | 3, _, v => v = .int .i64 k
  | 4, w, v => ∃ z, v = .slice (some ⟨z, 0, none⟩) 1 1 ∧ w.heap[z]? = some (.cells zeroP.arr 26 (0, 0))
  | _, _, _ => True
theorem appSpec_keep (B : Nat) (p : Parts) (T : Tm) (v0 : Value) (k : Nat) (i : Nat) (w w' : World) (v : Value) (h : appSpec B p T v0 k i w v) (hb : Below w.heap.size w w') : appSpec B p T v0 k i w' v := by
  match i, h with
  | 0, h => exact h
  | 1, h => exact h
  | 2, ⟨pp, e, h⟩ => exact ⟨pp, e, h.inc (fromB_below hb)⟩
  | 3, h => exact h
  | 4, ⟨z, e, h⟩ => exact ⟨z, e, (hb.block z (Array.getElem?_eq_some_iff.1 h).1).trans h⟩
  | n + 5, h => trivial
theorem own_form {c3 M : Nat} {w w' : World} {o : Option Nat} {g n c : Nat} (h : Walked c3 M w w' o (some g)) : Walked c3 M w w' o (Value.slice (some ⟨g, 0, none⟩) n c).ownBlock := h
theorem last_cells {w : World} {B g k cap : Nat} {us : List Value} (h : w.ownsRow B 26 7 (.slice (some ⟨g, 0, none⟩) (k + 1) cap) (k + 1) (cellsOf us ++ zeroP.arr.toList)) (hu : (cellsOf us).length = k * 7) :
    w.cell? ⟨g, k * 7, none⟩ = some (.int .i64 0) ∧ w.cell? ⟨g, k * 7 + 1, none⟩ = some (.string ⟨#[]⟩) ∧ w.cell? ⟨g, k * 7 + 2, none⟩ = some (.int .i64 0) ∧ w.cell? ⟨g, k * 7 + 3, none⟩ = some (.string ⟨#[]⟩) ∧ w.cell? ⟨g, k * 7 + 4, none⟩ = some (.slice none 0 0) ∧ w.cell? ⟨g, k * 7 + 5, none⟩ = some (.slice none 0 0) ∧ w.cell? ⟨g, k * 7 + 6, none⟩ = some (.slice none 0 0) ∧ ∀ i, w.frozen? ⟨g, i, none⟩ = false := by
  have e : ∀ i, i < 7 → w.cell? ⟨g, k * 7 + i, none⟩ = zeroP.arr.toList[i]? := fun i hi => by
    rw [h.cellAt (k * 7 + i) (by omega), List.getElem?_append_right (by omega)]
    congr 1
    omega
  exact ⟨e 0 (by omega), e 1 (by omega), e 2 (by omega), e 3 (by omega), e 4 (by omega), e 5 (by omega), e 6 (by omega), h.frozenAt⟩
set_option maxRecDepth 100000 in
set_option maxHeartbeats 32000000 in
theorem walk_app {w0 : World} {sort : Int} {name n : ByteArray} {ts pat : List Tm} {vs : Bd} {A V P : Option Addr} {ca cv cp : Nat} {f : Nat → Value} (hkl : (keyL (.mk 17 name sort n ts vs pat)).length ≤ 140737488355328) (hkey : tground (.mk 17 name sort n ts vs pat) = true → ∀ W, Below w0.heap.size w0 W → Calls Tryz.prog 28 #[.agg (Parts.arr ⟨17, name, sort, n, A, ts.length, ca, V, vs.length, cv, P, pat.length, cp⟩)] W (TextIs W (keyB (.mk 17 name sort n ts vs pat)))) (hcopy : ∀ W, Below w0.heap.size w0 W → Calls Tryz.prog 29 #[.agg (Parts.arr ⟨17, name, sort, n, A, ts.length, ca, V, vs.length, cv, P, pat.length, cp⟩)] W (PutIs W (.mk 17 name sort n ts vs pat))) (hf : RowCells w0 A 7 ts.length f) (hL : ∀ (j : Nat) (t : Tm), ts[j]? = some t → TmV w0 t (f j)) (hwalk : ∀ (j : Nat) (t : Tm), ts[j]? = some t → WalkOK w0 t (f j)) (hlen : ts.length ≤ 1000000) :
    ∀ (c3 M c4 c5 B : Nat) (out : List Tm) (A2 : Option Addr) (c : Nat) (w : World), w0.heap.size ≤ c3 → Below w0.heap.size w0 w → Blocks w c3 M c4 c5 → c5 < B → B ≤ w.heap.size → Holds w c3 M B out A2 c → out.length + tsize (.mk 17 name sort n ts vs pat) ≤ 1000000 → 
    Calls Tryz.prog 27 #[.agg (Parts.arr ⟨17, name, sort, n, A, ts.length, ca, V, vs.length, cv, P, pat.length, cp⟩), .pointer (some ⟨c5, 0, none⟩), .pointer (some ⟨c4, 0, none⟩), .pointer (some ⟨c3, 0, none⟩)] w (WalkIs w c3 M B (Value.slice A2 out.length c).ownBlock (appsW out (.mk 17 name sort n ts vs pat)) (tground (.mk 17 name sort n ts vs pat))) := by
  intro c3 M c4 c5 B out A2 c w h0 hb hB h5 hBw hH hl 
  simp only [tsize] at hl
  have hA : Below w.heap.size w (w.alloc (.cells (Parts.arr ⟨17, name, sort, n, A, ts.length, ca, V, vs.length, cv, P, pat.length, cp⟩) 26)) := (Below.refl _ _).alloc (Nat.le_refl _) _
  have Hc3 : Hid (c3 ≤ w.heap.size ∧ c3 < B ∧ M < B ∧ B ≤ w.heap.size ∧ w0.heap.size ≤ c3 ∧ c5 < B) := Lib.hid (by have := hB.o1; have := hB.o2; have := hB.o3; have := hB.o4; omega)
  have HH : Hid (Holds (w.alloc (.cells (Parts.arr ⟨17, name, sort, n, A, ts.length, ca, V, vs.length, cv, P, pat.length, cp⟩) 26)) c3 M B out A2 c) := Lib.hid (hH.below hA)
  have HBl : Hid (Blocks (w.alloc (.cells (Parts.arr ⟨17, name, sort, n, A, ts.length, ca, V, vs.length, cv, P, pat.length, cp⟩) 26)) c3 M c4 c5) := Lib.hid (hB.below hA)
  obtain ⟨W1, hW1⟩ : ∃ W1, W1 = (w.alloc (.cells (Parts.arr ⟨17, name, sort, n, A, ts.length, ca, V, vs.length, cv, P, pat.length, cp⟩) 26)) := ⟨_, rfl⟩
  have HW1 : Hid (Walked c3 M w W1 (Value.slice A2 out.length c).ownBlock (Value.slice A2 out.length c).ownBlock ∧ Below w.heap.size w W1 ∧ W1.heap.size = w.heap.size + 1) := Lib.hid (by rw [hW1]; exact And.intro ((Walked.refl c3 M w _).low hA Hc3.out.1) (And.intro hA (by simp)))
  have HWk : Hid (Walked c3 M W1 W1 (Value.slice A2 out.length c).ownBlock (Value.slice A2 out.length c).ownBlock) := Lib.hid (Walked.refl c3 M W1 _)
  have Hrow : Hid ((w.alloc (.cells (Parts.arr ⟨17, name, sort, n, A, ts.length, ca, V, vs.length, cv, P, pat.length, cp⟩) 26)).heap[w.heap.size]? = some (.cells (Parts.arr ⟨17, name, sort, n, A, ts.length, ca, V, vs.length, cv, P, pat.length, cp⟩) 26 (0, 0))) := Lib.hid (heap_alloc_new w _)
  have Hlt : Hid (∀ k, (Value.slice A2 out.length c).ownBlock = some k → B ≤ k ∧ k < w.heap.size) := Lib.hid hH.own
  have Hf := Lib.hid hf
  have HL := Lib.hid hL
  have Hwalk := Lib.hid hwalk
  have Hb := Lib.hid hb
  have Hl := Lib.hid hl
  obtain ⟨T, hT⟩ : ∃ T, T = Tm.mk 17 name sort n ts vs pat := ⟨_, rfl⟩
  have Hres : Hid (appsW out T = appsAdd (appsWs out ts) T 17 ∧ tground T = tgrounds ts) := Lib.hid (by rw [hT]; exact And.intro (by simp [appsW]) (by simp [tground]))
  rw [← hT] at hkl hkey hcopy ⊢
  simp only [Parts.arr] at hkey hcopy
  have Hkl := Lib.hid hkl
  have Hkey := Lib.hid hkey
  have Hcopy := Lib.hid hcopy
  have HsT : Hid (tsize T = 1 + tsizes ts) := Lib.hid (by rw [hT]; simp only [tsize])
  clear hkl hkey hcopy hT
  clear hf hL hwalk hb hB h5 hBw hH hl hA h0
  simp only [Parts.arr] at HH HBl Hrow hW1 ⊢
  have HWe := Lib.hid hW1
  clear hW1
  
  go_enter Tryz.func27, Tryz.ntmps27
  go_wp2_with fail
  go_loopw [6, 19] (fun v i wr => ∃ (k : Nat) (g : Bool), k ≤ ts.length ∧ i = .int .i64 k ∧ v = .bool g ∧ Hid (g = (tgrounds (ts.take k) && !(17 == 18))) ∧ Hid (∃ A3 c3', Holds wr c3 M B (appsWs out (ts.take k)) A3 c3' ∧ Walked c3 M W1 wr (Value.slice A2 out.length c).ownBlock (Value.slice A3 (appsWs out (ts.take k)).length c3').ownBlock) ∧ Hid (Blocks wr c3 M c4 c5) ∧ Hid (wr.heap[w.heap.size]? = some (.cells #[.int .i64 17, .string name, .int .i64 sort, .string n, .slice A ts.length ca, .slice V vs.length cv, .slice P pat.length cp] 26 (0, 0)))) (fun _ i _ => ts.length - (Go.RowKit.intOf i).toNat)
  case atStart => exact ⟨0, _, Nat.zero_le _, rfl, rfl, Lib.hid (by simp only [List.take_zero, tgrounds, Bool.true_and]; simp), Lib.hid ⟨A2, c, HH.out, by rw [← HWe.out]; exact HWk.out⟩, HBl, Hrow⟩
  case round =>
    obtain ⟨k, g, hk, rfl, rfl, Hg, HX, HBr, Hrr⟩ := hrel
    obtain ⟨A3, cc3, hX1, hX2⟩ := HX.out
    have HX1 := Lib.hid hX1
    have HX2 := Lib.hid hX2
    clear hX1 hX2 HX
    have f5 := (row1 HBr.out.f5).1
    have q5 : c5 < wr.heap.size := HBr.out.o4
    have q0 : w.heap.size < wr.heap.size := (Array.getElem?_eq_some_iff.1 Hrr.out).1
    by_cases hlt : k < ts.length
    · have hwr0 : Below w0.heap.size w0 wr := (Hb.out.trans (HW1.out.2.1.mono Hb.out.size)).trans (HX2.out.below.mono (by have := Hc3.out; omega))
      have Ht : Hid (ts[k]? = some ts[k]) := Lib.hid (List.getElem?_eq_getElem hlt)
      have Hv := Lib.hid (HL.out k _ Ht.out)
      obtain ⟨p, hp⟩ := Hv.out.parts
      obtain ⟨b, o, rfl, h0, h1, h2, h3, h4, h5, h6⟩ := (Hf.out.below hwr0).get hlt hp
      have Hbx : Hid (Below wr.heap.size wr (boxT wr p)) := Lib.hid (below_boxT wr p)
      have Hst : Hid (appsWs out (ts.take (k + 1)) = appsW (appsWs out (ts.take k)) ts[k] ∧ tgrounds (ts.take (k + 1)) = (tground ts[k] && tgrounds (ts.take k))) := Lib.hid (And.intro (appsWs_take hlt out) (tgrounds_take hlt))
      have Hc : Hid (Calls Tryz.prog 27 #[.agg #[.int .i64 p.op, .string p.name, .int .i64 p.sort, .string p.n, .slice p.A p.la p.ca, .slice p.V p.lv p.cv, .slice p.P p.lp p.cp], .pointer (some ⟨c5, 0, none⟩), .pointer (some ⟨c4, 0, none⟩), .pointer (some ⟨c3, 0, none⟩)] (wr.alloc (.cells #[.int .i64 p.op, .string p.name, .int .i64 p.sort, .string p.n, .slice p.A p.la p.ca, .slice p.V p.lv p.cv, .slice p.P p.lp p.cp] 26)) (WalkIs (boxT wr p) c3 M B (Value.slice A3 (appsWs out (ts.take k)).length cc3).ownBlock (appsW (appsWs out (ts.take k)) ts[k]) (tground ts[k]))) := Lib.hid (by
        have := Hwalk.out k _ Ht.out c3 M c4 c5 B (appsWs out (ts.take k)) A3 cc3 (boxT wr p) (by have := Hc3.out; omega) (hwr0.trans (Hbx.out.mono hwr0.size)) (HBr.out.below Hbx.out) (by have := Hc3.out; omega) (by have := Hc3.out; rw [boxT_size]; omega) (HX1.out.below Hbx.out) (by
          have e1 := appsWs_length out (ts.take k)
          have e2 := tsizes_le ts (k + 1)
          rw [tsizes_take hlt] at e2
          have e3 := Hl.out
          omega)
        rw [hp] at this
        exact this)
      have Ho : Hid (∀ j, (Value.slice A3 (appsWs out (ts.take k)).length cc3).ownBlock = some j → B ≤ j ∧ j < wr.heap.size) := Lib.hid HX1.out.own
      have Hne : Hid ((Value.slice A3 (appsWs out (ts.take k)).length cc3).ownBlock ≠ some w.heap.size) := Lib.hid (fun e => by
        rcases HX2.out.own with e2 | e2
        · have := (Hlt.out _ (e2 ▸ e)).2
          omega
        · have := e2 _ e
          have := HW1.out.2.2
          omega)
      clear hp hwr0
      generalize ts[k] = t at *
      cases hgt : tground t with
      | true =>
        rw [hgt] at Hc Hst
        go_wp2_with (go_at_call 27; refine Calls.mono Hc.out ?_; rintro e w8 ⟨rfl, A8, c8, hh8, hw8⟩; have HH8 := Lib.hid hh8; have Hw8 := Lib.hid hw8; clear hh8 hw8)
        go_roundw
        case rel =>
          refine ⟨k + 1, _, by omega, by go_num, rfl, Lib.hid ?_, Lib.hid ⟨A8, c8, ?_, ?_⟩, Lib.hid ?_, Lib.hid ?_⟩
          · rw [Hst.out.2, Hg.out]
            simp
          · rw [Hst.out.1]
            exact HH8.out
          · rw [Hst.out.1]
            exact (HX2.out.low Hbx.out (by have := Hc3.out; have := HW1.out.2.2; omega)).trans Hw8.out
          · exact (HBr.out.below Hbx.out).walked Hw8.out (fun j hj => by have := (Ho.out j hj).1; have := Hc3.out; omega)
          · have := below_keeps Hbx.out Hrr.out
            rw [← this]
            exact Hw8.out.keep _ (by rw [boxT_size]; omega) (by have := Hc3.out; omega) (by have := Hc3.out; omega) Hne.out
        case measure => simp [Go.RowKit.intOf]; omega
      | false =>
        rw [hgt] at Hc Hst
        go_wp2_with (go_at_call 27; refine Calls.mono Hc.out ?_; rintro e w8 ⟨rfl, A8, c8, hh8, hw8⟩; have HH8 := Lib.hid hh8; have Hw8 := Lib.hid hw8; clear hh8 hw8)
        go_roundw
        case rel =>
          refine ⟨k + 1, _, by omega, by go_num, rfl, Lib.hid ?_, Lib.hid ⟨A8, c8, ?_, ?_⟩, Lib.hid ?_, Lib.hid ?_⟩
          · rw [Hst.out.2]
            simp
          · rw [Hst.out.1]
            exact HH8.out
          · rw [Hst.out.1]
            exact (HX2.out.low Hbx.out (by have := Hc3.out; have := HW1.out.2.2; omega)).trans Hw8.out
          · exact (HBr.out.below Hbx.out).walked Hw8.out (fun j hj => by have := (Ho.out j hj).1; have := Hc3.out; omega)
          · have := below_keeps Hbx.out Hrr.out
            rw [← this]
            exact Hw8.out.keep _ (by rw [boxT_size]; omega) (by have := Hc3.out; omega) (by have := Hc3.out; omega) Hne.out
        case measure => simp [Go.RowKit.intOf]; omega
    · have hkl : k = ts.length := by omega
      subst hkl
      rw [List.take_length] at Hg HX1 HX2
      obtain ⟨x0, x1, x2, x3, x4, x5, x6⟩ := box_cells (p := ⟨17, name, sort, n, A, ts.length, ca, V, vs.length, cv, P, pat.length, cp⟩) Hrr.out
      dsimp only at x0 x1 x2 x3 x4 x5 x6
      have Hb1 : Hid (Walked c3 M w wr (Value.slice A2 out.length c).ownBlock (Value.slice A3 (appsWs out ts).length cc3).ownBlock) := Lib.hid (HW1.out.1.trans HX2.out)
      have Hwr0 : Hid (Below w0.heap.size w0 wr) := Lib.hid ((Hb.out.trans (HW1.out.2.1.mono Hb.out.size)).trans (HX2.out.below.mono (by have := Hc3.out; omega)))
      have Hgt : Hid (g = tground T) := Lib.hid (by rw [Hg.out, Hres.out.2]; simp)
      cases g with
      | false =>
        have Hr2 : Hid (appsW out T = appsWs out ts) := Lib.hid (by rw [Hres.out.1]; simp [appsAdd, ← Hgt.out])
        go_wp2_with fail
        go_ret
        exact ⟨by rw [← Hgt.out]; rfl, A3, cc3, by rw [Hr2.out]; exact HX1.out, by rw [Hr2.out]; exact Hb1.out⟩
      | true =>
        have Hk38 := Lib.hid (Hkey.out Hgt.out.symm wr Hwr0.out)
        cases hk : hasKey (appsWs out ts) (keyL T) with
        | true =>
          have Hr2 : Hid (appsW out T = appsWs out ts) := Lib.hid (by rw [Hres.out.1]; simp [appsAdd, hk])
          have Hv : Hid ((fKeys (appsWs out ts) (.string (keyL T))).getD (.int .i64 0) = .int .i64 1) := Lib.hid (by simp [fKeys, hk])
          have Hkk := Lib.hid (key9 T Hkl.out)
          clear hk
          generalize appsWs out ts = outs at *
          go_wp2_with (first
            | (go_at_call 28; (with_reducible refine Hk38.out.mono ?_); rintro e w5 ⟨rfl, hb5⟩; have Hb5 := Lib.hid hb5; have HH5 := Lib.hid (HX1.out.below hb5); have HB5 := Lib.hid (HBr.out.below hb5); have m5 := (row1 HB5.out.m4).1; clear hb5)
            | (at_lookup; refine wpList_lookup_mapv _ rfl _ _ 59 rfl 9 3 keyed9 Tryz.underlying59 _ (zero3 _) M _ _ rfl HH5.out.map _ _ rfl Hkk.out (.int .i64 1) Hv.out ?_))
          go_ret
          exact ⟨by rw [← Hgt.out]; rfl, A3, cc3, by rw [Hr2.out]; exact HH5.out, by rw [Hr2.out]; exact Hb1.out.low Hb5.out Hc3.out.1⟩
        | false =>
          have Hr2 : Hid (appsW out T = appsWs out ts ++ [T]) := Lib.hid (by rw [Hres.out.1]; simp [appsAdd, hk, ← Hgt.out])
          have Hv : Hid ((fKeys (appsWs out ts) (.string (keyL T))).getD (.int .i64 0) = .int .i64 0) := Lib.hid (by simp [fKeys, hk])
          have Hkk := Lib.hid (key9 T Hkl.out)
          have Hln : Hid ((appsWs out ts).length + 1 ≤ 1000000) := Lib.hid (by have := appsWs_length out ts; have := Hl.out; omega)
          clear hk
          generalize appsWs out ts = outs at *
          go_wp2_with (first
            | (go_at_call 28; (with_reducible refine Hk38.out.mono ?_); rintro e w5 ⟨rfl, hb5⟩; have Hb5 := Lib.hid hb5; have HH5 := Lib.hid (HX1.out.below hb5); have HB5 := Lib.hid (HBr.out.below hb5); have m5 := (row1 HB5.out.m4).1; have Hr5 := Lib.hid (below_keeps hb5 Hrr.out); clear hb5)
            | (at_lookup; refine wpList_lookup_mapv _ rfl _ _ 59 rfl 9 3 keyed9 Tryz.underlying59 _ (zero3 _) M _ _ rfl HH5.out.map _ _ rfl Hkk.out (.int .i64 0) Hv.out ?_)
            | (at_mapUpdate; refine wpList_update_mapv _ rfl _ _ _ 59 rfl 9 3 keyed9 Tryz.underlying59 M _ _ rfl HH5.out.map (by have := Hln.out; unfold maxLen; omega) _ (.int .i64 1) _ rfl rfl Hkk.out ?_; intro w6 hm6 hg6; rw [fKeys_add] at hm6; have Hm6 := Lib.hid hm6; have Hg6 := Lib.hid hg6; clear hm6 hg6))
          have HPL : Hid (∃ us, PutLoop B w6 outs A3 outs.length cc3 us) := Lib.hid (by
            obtain ⟨us, hu⟩ := HH5.out.list
            exact ⟨us, hu.kept (fun j hj1 hj2 => Hg6.out.block j hj2 (fun e => by cases e; have := Hc3.out; omega)) Hg6.out.size⟩)
          obtain ⟨us, hPL⟩ := HPL.out
          have HPL := Lib.hid hPL
          have hr3 : w6.heap[c3]? = some (.cells #[.slice A3 outs.length cc3] 23 (0, 0)) := (Hg6.out.block c3 (Array.getElem?_eq_some_iff.1 HH5.out.cell).1 (fun e => by cases e; have := HH5.out.lt; omega)).trans HH5.out.cell
          have hrb : w6.heap[w.heap.size]? = some (.cells (Parts.arr ⟨17, name, sort, n, A, ts.length, ca, V, vs.length, cv, P, pat.length, cp⟩) 26 (0, 0)) := (Hg6.out.block w.heap.size (Array.getElem?_eq_some_iff.1 Hr5.out).1 (fun e => by cases e; have := Hc3.out; omega)).trans Hr5.out
          have Hr36 := Lib.hid hr3
          have HWk6 : Hid (Walked c3 M w w6 (Value.slice A2 out.length c).ownBlock (Value.slice A3 outs.length cc3).ownBlock) := Lib.hid ((Hb1.out.low Hb5.out Hc3.out.1).trans ⟨⟨Hg6.out.os, Hg6.out.tape, Hg6.out.output, Hg6.out.size, fun k hk => Hg6.out.block k (by have := (Array.getElem?_eq_some_iff.1 HH5.out.cell).1; omega) (fun e => by cases e; have := HH5.out.lt; omega)⟩, fun k hk _ hM _ => Hg6.out.block k hk (fun e => by cases e; exact hM rfl), .inl rfl⟩)
          have Hw06 : Hid (Below w0.heap.size w0 w6) := Lib.hid (Hb.out.trans (HWk6.out.below.mono (by have := Hc3.out; omega)))
          have HLT : Hid (c3 < M ∧ M < B) := Lib.hid HH5.out.lt
          obtain ⟨i27, hi27, hz0, hz1, hz2⟩ := info_parts info27
          have c36 := (row1 hr3).1
          have q36 : c3 < w6.heap.size := (Array.getElem?_eq_some_iff.1 hr3).1
          have qb6 : w.heap.size < w6.heap.size := (Array.getElem?_eq_some_iff.1 hrb).1
          obtain ⟨x0, x1, x2, x3, x4, x5, x6⟩ := box_cells hrb
          dsimp only at x0 x1 x2 x3 x4 x5 x6
          have k1 : (0 : Int) ≤ (outs.length : Int) := by omega
          have k2 : (outs.length : Int) < (outs.length : Int) + 1 := by omega
          have Hrb6 := Lib.hid hrb
          have Hne : Hid ((Value.slice A3 outs.length cc3).ownBlock ≠ some w.heap.size) := Lib.hid (fun e => by
            rcases HX2.out.own with e2 | e2
            · have := (Hlt.out _ (e2 ▸ e)).2
              omega
            · have := e2 _ e
              have := HW1.out.2.2
              omega)
          clear hr3 hrb hPL HH5 Hr5 Hk38 HX1 HX2 HBr Hrr Hb1 m5 HB5 Hkey Hkk Hv Hwalk HL Hf Hwr0 Hres HW1 HWe HH HWk HBl Hrow f5 x0 x1 x2 x3 x4 x5 x6 c36
          refine wp_region_makes [0,1,2,3,4] [5,6,7,8] (by kernel_rfl) (by kernel_rfl) (appSpec_keep w6.drew.heap.size ⟨17, name, sort, n, A, ts.length, ca, V, vs.length, cv, P, pat.length, cp⟩ T (.slice A3 outs.length cc3) outs.length) ?_ ?_
          · generalize Exit.then _ _ = Q2
            intro i o ho hi a' w' hb hfr hd K hK
            have hbd : Below w6.heap.size w6 w' := (Below.refl w6.heap.size w6).drew.trans hb
            obtain ⟨x0, x1, x2, x3, x4, x5, x6⟩ := box_cells (p := ⟨17, name, sort, n, A, ts.length, ca, V, vs.length, cv, P, pat.length, cp⟩) (below_keeps hbd Hrb6.out)
            have c36 := (row1 (below_keeps hbd Hr36.out)).1
            have hv3 : a'.tmps.getD 3 undef = .pointer (some ⟨c3, 0, none⟩) := hfr 3 (by kernel_rfl)
            have hv4 : a'.tmps.getD 4 undef = .pointer (some ⟨w.heap.size, 0, none⟩) := hfr 4 (by kernel_rfl)
            rw [Array.getD_eq_getD_getElem?] at hv3 hv4
            have Hbs : Hid (w6.drew.heap.size ≤ w'.heap.size) := Lib.hid hb.size
            have Hw0 : Hid (Below w0.heap.size w0 w') := Lib.hid (Hw06.out.trans (hbd.mono Hw06.out.size))
            have HK := Lib.hid hK
            dsimp only at x0 x1 x2 x3 x4 x5 x6
            clear hb hK hfr hbd
            match i, ho with
            | 0, ho => cases ho; clear hd; go_simp; exact HK.out _ _ rfl (Below.refl _ _)
            | 1, ho => cases ho; clear hd; go_simp; exact HK.out _ _ rfl (Below.refl _ _)
            | 2, ho =>
              cases ho
              have e := hd ⟨1, .data⟩ (by simp) rfl _ _ rfl rfl
              simp only [appSpec, Parts.arr, Array.getD_eq_getD_getElem?] at e
              clear hd
              go_simp
              refine (Hcopy.out w' Hw0.out).mono ?_
              rintro e8 w8 ⟨pp, rfl, ht8, hb8⟩
              exact HK.out _ _ ⟨pp, rfl, ht8.inc (fromB_less Hbs.out)⟩ hb8
            | 3, ho =>
              cases ho
              have e := hd ⟨0, .data⟩ (by simp) rfl _ _ rfl rfl
              simp only [appSpec, Array.getD_eq_getD_getElem?] at e
              clear hd
              go_simp
              exact HK.out _ _ rfl (Below.refl _ _)
            | 4, ho =>
              cases ho
              clear hd
              go_simp
              exact HK.out _ _ ⟨w'.heap.size, rfl, heap_alloc_new w' _⟩ ((Below.refl _ _).alloc (Nat.le_refl _) _)
            | 5, ho => exact absurd (by simp) hi
            | 6, ho => exact absurd (by simp) hi
            | 7, ho => exact absurd (by simp) hi
            | 8, ho => exact absurd (by simp) hi
            | n + 9, ho => simp at ho
          · intro fuel listed a' w8 hc hm hall
            obtain ⟨g, ha, hh⟩ := hm.act (ds := [46,47,48,49,50]) (by kernel_rfl)
            have hl : listed = #[true,true,true,true,true,false,false,false,false] := by
              have hs : listed.size = 9 := hm.size
              have n5 := getD_both (hm.rest 5 (by simp))
              have n6 := getD_both (hm.rest 6 (by simp))
              have n7 := getD_both (hm.rest 7 (by simp))
              have n8 := getD_both (hm.rest 8 (by simp))
              rw [listed_all listed, hs]
              simp only [List.range, List.range.loop, List.map, n5, n6, n7, n8, hall 0 (by simp), hall 1 (by simp), hall 2 (by simp), hall 3 (by simp), hall 4 (by simp)]
            have e46 : g 46 = .slice A3 outs.length cc3 := hh 0 _ _ (hall 0 (by simp)) rfl rfl
            obtain ⟨⟨op8, nm8, so8, n8, A8, la8, ca8, V8, lv8, cv8, P8, lp8, cp8⟩, e48, ht8⟩ := hh 2 _ _ (hall 2 (by simp)) rfl rfl
            have e49 : g 49 = .int .i64 outs.length := hh 3 _ _ (hall 3 (by simp)) rfl rfl
            obtain ⟨z, e50, hz⟩ := hh 4 _ _ (hall 4 (by simp)) rfl rfl
            have hbd : Below w6.heap.size w6 w8 := (Below.refl w6.heap.size w6).drew.trans hm.inv
            have pA := Lib.hid hbd
            have zA := Lib.hid hz
            have tA : Hid (TmV (only w8 fun b => decide (w6.drew.heap.size ≤ b)) T (.agg (Parts.arr ⟨op8, nm8, so8, n8, A8, la8, ca8, V8, lv8, cv8, P8, lp8, cp8⟩))) := Lib.hid ht8
            have sA : Hid (w6.heap.size ≤ w6.drew.heap.size) := Lib.hid (Nat.le_refl _)
            simp only [Parts.arr] at e48
            subst hl
            clear hm hall hh hz ht8 hbd
            subst ha
            simp only [setAll]
            rw [e46, e48, e49, e50]
            clear e46 e48 e49 e50
            generalize g 47 = g47
            simp only [Act.put, List.setIfInBounds_toArray, List.set_cons_zero, List.set_cons_succ]
            obtain ⟨f, rfl⟩ : ∃ f, fuel = f + 4 := ⟨fuel - 4, by simp at hc; omega⟩
            clear hc
            refine wpAny_ready (rs := [5]) (by kernel_rfl) (by simp) ?_
            refine AllReady.cons rfl (fun K3 hK3 => ?_) AllReady.nil
            refine step_append_one _ (by rfl) _ _ 23 (by rfl) B 26 i27 _ 7 120 Tryz.underlying23 hi27 hz0 hz1 hz2 rfl (by decide) (.slice A3 outs.length cc3) outs.length (cellsOf us) (by rfl) (HPL.out.below pA.out).own ⟨z, 0, none⟩ 1 zeroP.arr (by rfl) rfl zA.out rfl rfl (Parts.one _) (by have := Hln.out; simp only [maxLen]; omega) (by have := Hln.out; omega) (by have := HPL.out.base; have := pA.out.size; omega) ?_
            intro g9 cap9 w9 hq9 hg9 hat9
            have Hul : Hid ((cellsOf us).length = outs.length * 7) := Lib.hid (by rw [cellsOf_length HPL.out.seven, HPL.out.len])
            have n9 : c3 ≠ g9 := by
              intro e
              subst e
              have h1 := HLT.out
              have h2 := HPL.out.base
              have h3 := pA.out.size
              rcases hat9 with h | h
              · obtain ⟨h4, _⟩ := ownsRow_lt HPL.out.own _ h
                omega
              · omega
            have hr39 : w9.heap[c3]? = some (.cells #[.slice A3 outs.length cc3] 23 (0, 0)) := (hg9.block c3 (by have := pA.out.size; omega) (fun e => by obtain ⟨h4, _⟩ := ownsRow_lt HPL.out.own _ e.symm; have h1 := HLT.out; omega)).trans (below_keeps pA.out Hr36.out)
            obtain ⟨c39, f39⟩ := row1 hr39
            have n9' : g9 ≠ c3 := Ne.symm n9
            obtain ⟨y0, y1, y2, y3, y4, y5, y6, y7⟩ := last_cells hq9 Hul.out
            have a1 := added1 ⟨op8, nm8, so8, n8, A8, la8, ca8, V8, lv8, cv8, P8, lp8, cp8⟩ hq9 Hul.out hr39 n9
            have a2 := added2 ⟨op8, nm8, so8, n8, A8, la8, ca8, V8, lv8, cv8, P8, lp8, cp8⟩ hq9 Hul.out hr39 n9
            have b1 := holds_added HPL.out Hm6.out HLT.out pA.out tA.out sA.out hg9 hat9 a1
            have b2 := holds_added HPL.out Hm6.out HLT.out pA.out tA.out sA.out hg9 hat9 a2
            have d1 := And.intro b1.1 (own_form (n := (outs ++ [T]).length) (c := cap9) (HWk6.out.trans b1.2))
            have d2 := And.intro b2.1 (own_form (n := (outs ++ [T]).length) (c := cap9) (HWk6.out.trans b2.2))
            unfold setL at d1 d2
            dsimp only at d1 d2
            have HF1 := Lib.hid d1
            have HF2 := Lib.hid d2
            clear hq9 hg9 hat9 a1 a2 b1 b2 d1 d2 hr39
            refine hK3 _ _ ?_
            clear hK3 K3
            try simp only [Act.put, List.setIfInBounds_toArray, List.set_cons_zero, List.set_cons_succ]
            refine wpAny_ready (rs := [6, 8]) (by kernel_rfl) (by simp) ?_
            refine AllReady.cons rfl (fun K3 hK3 => ?_) (AllReady.cons rfl (fun K3 hK3 => ?_) AllReady.nil)
            · go_simp
              refine hK3 _ _ ?_
              clear hK3 K3
              refine wpAny_ready (rs := [7, 8]) (by kernel_rfl) (by simp) ?_
              refine AllReady.cons rfl (fun K3 hK3 => ?_) (AllReady.cons rfl (fun K3 hK3 => ?_) AllReady.nil)
              · go_simp
                refine hK3 _ _ ?_
                clear hK3 K3
                refine wpAny_ready (rs := [8]) (by kernel_rfl) (by simp) ?_
                refine AllReady.cons rfl (fun K3 hK3 => ?_) AllReady.nil
                go_simp
                refine hK3 _ _ (wpAny_done (by kernel_rfl) ?_ _)
                dsimp only [Exit.then]
                go_wp2_with fail
                go_ret
                refine ⟨by rw [← Hgt.out]; rfl, some ⟨g9, 0, none⟩, cap9, ?_, ?_⟩
                · rw [Hr2.out]
                  first
                    | (with_reducible exact HF1.out.1)
                    | (with_reducible exact HF2.out.1)
                · rw [Hr2.out]
                  first
                    | (with_reducible exact HF1.out.2)
                    | (with_reducible exact HF2.out.2)
              · go_simp
                refine hK3 _ _ ?_
                clear hK3 K3
                refine wpAny_ready (rs := [7]) (by kernel_rfl) (by simp) ?_
                refine AllReady.cons rfl (fun K3 hK3 => ?_) AllReady.nil
                go_simp
                refine hK3 _ _ (wpAny_done (by kernel_rfl) ?_ _)
                dsimp only [Exit.then]
                go_wp2_with fail
                go_ret
                refine ⟨by rw [← Hgt.out]; rfl, some ⟨g9, 0, none⟩, cap9, ?_, ?_⟩
                · rw [Hr2.out]
                  first
                    | (with_reducible exact HF1.out.1)
                    | (with_reducible exact HF2.out.1)
                · rw [Hr2.out]
                  first
                    | (with_reducible exact HF1.out.2)
                    | (with_reducible exact HF2.out.2)
            · go_simp
              refine hK3 _ _ ?_
              clear hK3 K3
              refine wpAny_ready (rs := [6]) (by kernel_rfl) (by simp) ?_
              refine AllReady.cons rfl (fun K3 hK3 => ?_) AllReady.nil
              go_simp
              refine hK3 _ _ ?_
              clear hK3 K3
              refine wpAny_ready (rs := [7]) (by kernel_rfl) (by simp) ?_
              refine AllReady.cons rfl (fun K3 hK3 => ?_) AllReady.nil
              go_simp
              refine hK3 _ _ (wpAny_done (by kernel_rfl) ?_ _)
              dsimp only [Exit.then]
              go_wp2_with fail
              go_ret
              refine ⟨by rw [← Hgt.out]; rfl, some ⟨g9, 0, none⟩, cap9, ?_, ?_⟩
              · rw [Hr2.out]
                first
                  | (with_reducible exact HF1.out.1)
                  | (with_reducible exact HF2.out.1)
              · rw [Hr2.out]
                first
                  | (with_reducible exact HF1.out.2)
                  | (with_reducible exact HF2.out.2)
end Go.Proofs.YtlgbepamnkfpjaaGreatDoor

/- Apps. -/
set_option linter.unusedVariables false
set_option linter.unusedSimpArgs false
namespace Go.Proofs.YtlgbepamnkfpjaaGreatDoor
open Go.RowKit Go.Lib Go.Maps Go.ChangeMaps

set_option maxHeartbeats 1000000 in
theorem walk_any {w0 : World} {t : Tm} {v : Value} (h : TmV w0 t v) {q : Int → Bool} (hit : ∀ n, q n = true → ItoaOK w0 n) : (tground t = true → keyN q t = true) → keyN q t = true → tw t ≤ 1000000 → (keyL t).length ≤ 140737488355328 → WalkOK w0 t v := by
  induction h with
  | @mk op name sort n ts vs pat A V P ca cv cp f g hbd hl hf hL hv hV hp hg hP ihL _ =>
    intro _ hq htw hkl
    have hT : TmV w0 (.mk op name sort n ts vs pat) (.agg (Parts.arr ⟨op, name, sort, n, A, ts.length, ca, V, vs.length, cv, P, pat.length, cp⟩)) := .mk f g hbd hl hf hL hv hV hp hg hP
    have hq0 := hq
    have htw0 := htw
    simp only [keyN, Bool.and_eq_true] at hq
    simp only [tw] at htw
    have l1 := length_tws ts
    have hk : ∀ (j : Nat) (t : Tm), ts[j]? = some t → WalkOK w0 t (f j) := fun j t ht => ihL j t ht (fun _ => keysN_mem ht hq.2) (keysN_mem ht hq.2) (by have := tws_mem ht; omega) (by
      have h1 : (keyL t).length ≤ (keysL ts).length := by
        have hj : j < ts.length := by
          rcases Nat.lt_or_ge j ts.length with h | h
          · exact h
          · rw [List.getElem?_eq_none h] at ht
            cases ht
        have e : ts[j] = t := by
          rw [List.getElem?_eq_getElem hj] at ht
          exact Option.some.inj ht
        have h2 := keysL_le ts (j + 1)
        rw [keysL_take hj, List.length_append, e] at h2
        omega
      simp only [keyL, List.length_append] at hkl
      omega)
    by_cases h19 : op = 19
    · subst h19
      exact walk_all
    · by_cases h17 : op = 17
      · subst h17
        exact walk_app hkl (fun hg W hW => Key_any hT (key_any hT hit hg hq0 htw0) hkl W hW) (fun W hW => Copy_any hT htw0 W hW) hf hL hk (by omega)
      · exact walk_op (by simpa using h17) (by simpa using h19) hf hL hk (by omega)
end Go.Proofs.YtlgbepamnkfpjaaGreatDoor

/- Apps, whole. -/
set_option linter.unusedVariables false
set_option linter.unusedSimpArgs false
namespace Go.Proofs.YtlgbepamnkfpjaaGreatDoor
open Go.RowKit Go.Lib Go.Maps Go.ChangeMaps

def AppsIs (w : World) (out : List Tm) (e : Ending) (w' : World) : Prop := ∃ A c, e = .returned (.slice A out.length c) ∧ TmsV (only w' fun b => decide (w.heap.size ≤ b)) out A out.length c ∧ Below w.heap.size w w'
/-- The world in which the walk is called. -/
def appsWorld (w : World) (p : Parts) : World :=
  (((((w.alloc (.cells #[.int .i64 p.op, .string p.name, .int .i64 p.sort, .string p.n, .slice p.A p.la p.ca, .slice p.V p.lv p.cv, .slice p.P p.lp p.cp] 26)).alloc (.cells #[.slice none 0 0] 23)).alloc (.map #[] 0)).alloc (.cells #[.map (some (w.heap.size + 1 + 1))] 59)).alloc
    (.cells #[.func (.func 27) #[] #[.pointer (some ⟨w.heap.size + 1 + 1 + 1 + 1, 0, none⟩), .pointer (some ⟨w.heap.size + 1 + 1 + 1, 0, none⟩), .pointer (some ⟨w.heap.size + 1, 0, none⟩)]] 38))
theorem fKeys_nil : fKeys [] = fun _ => none := by
  funext x
  cases x <;> rfl
theorem apps_start (w : World) (p : Parts) : Blocks (appsWorld w p) (w.heap.size + 1) (w.heap.size + 1 + 1) (w.heap.size + 1 + 1 + 1) (w.heap.size + 1 + 1 + 1 + 1) ∧ Holds (appsWorld w p) (w.heap.size + 1) (w.heap.size + 1 + 1) (w.heap.size + 5) [] none 0 ∧ Below w.heap.size w (appsWorld w p) ∧ (appsWorld w p).heap.size = w.heap.size + 5 := by
  have hs : (appsWorld w p).heap.size = w.heap.size + 5 := by simp [appsWorld]
  have hb : Below w.heap.size w (appsWorld w p) := by
    unfold appsWorld
    exact (((((Below.refl _ _).alloc (Nat.le_refl _) _).alloc (by simp) _).alloc (by simp; omega) _).alloc (by simp; omega) _).alloc (by simp; omega) _
  have e0 : ∀ (W : World) (o : Obj) (n : Nat), W.heap.size = n → (W.alloc o).heap[n]? = some o := fun W o n h => by subst h; exact heap_alloc_new W o
  have r5 : (appsWorld w p).heap[w.heap.size + 1 + 1 + 1 + 1]? = some (.cells #[.func (.func 27) #[] #[.pointer (some ⟨w.heap.size + 1 + 1 + 1 + 1, 0, none⟩), .pointer (some ⟨w.heap.size + 1 + 1 + 1, 0, none⟩), .pointer (some ⟨w.heap.size + 1, 0, none⟩)]] 38 (0, 0)) := e0 _ _ _ (by simp)
  have r4 : (appsWorld w p).heap[w.heap.size + 1 + 1 + 1]? = some (.cells #[.map (some (w.heap.size + 1 + 1))] 59 (0, 0)) := by
    unfold appsWorld
    rw [Below.heap_alloc _ _ _ (by simp)]
    exact e0 _ _ _ (by simp)
  have r2 : (appsWorld w p).heap[w.heap.size + 1 + 1]? = some (.map #[] 0) := by
    unfold appsWorld
    rw [Below.heap_alloc _ _ _ (by simp <;> omega), Below.heap_alloc _ _ _ (by simp)]
    exact e0 _ _ _ (by simp)
  have r3 : (appsWorld w p).heap[w.heap.size + 1]? = some (.cells #[.slice none 0 0] 23 (0, 0)) := by
    unfold appsWorld
    rw [Below.heap_alloc _ _ _ (by simp <;> omega), Below.heap_alloc _ _ _ (by simp <;> omega), Below.heap_alloc _ _ _ (by simp)]
    exact e0 _ _ _ (by simp)
  refine ⟨⟨by omega, by omega, by omega, by omega, r5, r4⟩, ⟨r3, ?_, ⟨[], rfl, World.ownsRow_nil _ _ _ _, by simp, fun j t hj => absurd hj (Nat.not_lt_zero _), by omega⟩, by omega⟩, hb, hs⟩
  rw [fKeys_nil]
  have hm := MapV.made (P := Tryz.prog) (k := 9) ((w.alloc (.cells #[.int .i64 p.op, .string p.name, .int .i64 p.sort, .string p.n, .slice p.A p.la p.ca, .slice p.V p.lv p.cv, .slice p.P p.lp p.cp] 26)).alloc (.cells #[.slice none 0 0] 23))
  have es : ((w.alloc (.cells #[.int .i64 p.op, .string p.name, .int .i64 p.sort, .string p.n, .slice p.A p.la p.ca, .slice p.V p.lv p.cv, .slice p.P p.lp p.cp] 26)).alloc (.cells #[.slice none 0 0] 23)).heap.size = w.heap.size + 1 + 1 := by simp
  rw [es] at hm
  refine hm.same ?_
  rw [r2]
  exact (e0 _ _ _ es).symm
set_option maxRecDepth 100000 in
set_option maxHeartbeats 1000000 in
theorem Apps_any {w0 : World} {t : Tm} {v : Value} (h : TmV w0 t v) (hwalk : WalkOK w0 t v) (htw : tw t ≤ 1000000) (w : World) (hb : Below w0.heap.size w0 w) : Calls Tryz.prog 10 #[v] w (AppsIs w (appsW [] t)) := by
  obtain ⟨p, rfl⟩ := h.parts
  obtain ⟨hB, hH, hb5, hs5⟩ := apps_start w p
  have Hc : Hid (Calls Tryz.prog 27 #[.agg p.arr, .pointer (some ⟨w.heap.size + 1 + 1 + 1 + 1, 0, none⟩), .pointer (some ⟨w.heap.size + 1 + 1 + 1, 0, none⟩), .pointer (some ⟨w.heap.size + 1, 0, none⟩)] (appsWorld w p) (WalkIs (appsWorld w p) (w.heap.size + 1) (w.heap.size + 1 + 1) (w.heap.size + 5) none (appsW [] t) (tground t))) := Lib.hid (hwalk _ _ _ _ (w.heap.size + 5) [] none 0 (appsWorld w p) (by have := hb.size; omega) (hb.trans (hb5.mono hb.size)) hB (by omega) (by omega) hH (by have := tsize_tw t; simp; omega))
  have Hb5 := Lib.hid hb5
  clear h hwalk htw hb hB hH hb5 hs5
  unfold appsWorld at Hc Hb5
  simp only [Parts.arr] at Hc ⊢
  have hmm := @run_makeMap Tryz.prog
  have hst : ∀ (a : Addr) (f : Go.Fn) (x y : Array Value) (m : Mode) (W : World), (store a (.func f x y) m).run Tryz.prog W = stored Tryz.prog W a (.func f x y) m := fun a f x y m W => run_store Tryz.prog W a _ m rfl
  go_enter Tryz.func10, Tryz.ntmps10
  go_wp2_with (go_at_call 27; (with_reducible refine Calls.mono Hc.out ?_); rintro e w6 ⟨rfl, A6, c6, hh6, hw6⟩; have HH6 := Lib.hid hh6; have Hb6 : Hid (Below w.heap.size w w6) := Lib.hid (Hb5.out.trans (hw6.below.mono (by omega))); obtain ⟨c36, _⟩ := row1 HH6.out.cell; clear hh6 hw6)
  go_ret
  obtain ⟨us, hu⟩ := HH6.out.list
  refine ⟨A6, c6, rfl, hu.done.inc (only_inc fun a v hp hv => ⟨?_, hv⟩), Hb6.out⟩
  simp only [decide_eq_true_eq] at hp ⊢
  omega
end Go.Proofs.YtlgbepamnkfpjaaGreatDoor

/- avowref3.Word: just the names. -/
set_option linter.unusedVariables false
set_option linter.unusedSimpArgs false
namespace Go.Proofs.YtlgbepamnkfpjaaGreatDoor
open Go.RowKit Go.Lib

/-- The classes of a byte. -/
theorem byte_class (c : Nat) : (97 ≤ c ∧ c ≤ 122) ∨ (65 ≤ c ∧ c ≤ 90) ∨ c = 95 ∨ (48 ≤ c ∧ c ≤ 57) ∨ (letterB c = false ∧ digitB c = false) := by
  by_cases h : letterB c = true
  · simp [letterB] at h
    omega
  · by_cases h2 : digitB c = true
    · simp [digitB] at h2
      omega
    · exact .inr (.inr (.inr (.inr ⟨by simpa using h, by simpa using h2⟩)))
theorem okAt_get (s : ByteArray) (k : Nat) (hk : k < s.size) : okAt s k = (letterB (s[k]'hk).toNat || (k != 0 && digitB (s[k]'hk).toNat)) := by
  have hget : s.data[k]? = some (s[k]'hk) := Array.getElem?_eq_getElem hk
  unfold okAt
  rw [hget]
def keptV : Array Value := #[.string ⟨#[110, 111, 116]⟩, .string ⟨#[97, 110, 100]⟩, .string ⟨#[111, 114]⟩, .string ⟨#[105, 102, 102]⟩, .string ⟨#[105, 116, 101]⟩, .string ⟨#[110, 101, 103]⟩, .string ⟨#[102, 111, 114, 97, 108, 108]⟩, .string ⟨#[112, 97, 116, 116, 101, 114, 110]⟩, .string ⟨#[116, 114, 117, 101]⟩, .string ⟨#[102, 97, 108, 115, 101]⟩, .string ⟨#[105, 110, 116]⟩, .string ⟨#[98, 111, 111, 108]⟩, .string ⟨#[111, 98, 106]⟩]
theorem kept_get (j : Nat) (hj : j < 13) : ∃ l, kept[j]? = some l ∧ keptV[j]? = some (.string ⟨l.toArray⟩) := by
  match j, hj with
  | 0, _ | 1, _ | 2, _ | 3, _ | 4, _ | 5, _ | 6, _ | 7, _ | 8, _ | 9, _ | 10, _ | 11, _ | 12, _ => exact ⟨_, rfl, rfl⟩
def missTo (s : ByteArray) (j : Nat) : Prop := ∀ (i : Nat) (l : List UInt8), i < j → kept[i]? = some l → (l == s.toList) = false
set_option maxRecDepth 100000 in
set_option maxHeartbeats 4000000 in
theorem wordR_go (s : ByteArray) (w : World) (h0 : 0 < s.size) (h40 : s.size ≤ 40) (hd : ¬ (48 ≤ (s[0]'h0).toNat ∧ (s[0]'h0).toNat ≤ 57)) : Calls Tryz.prog 48 #[.string s] w fun e w' => e = .returned (.bool (nameB s)) ∧ Below w.heap.size w w' := by
  have he : (s.toList == []) = false := by rw [empty_toList]; simpa using (by omega : s.size ≠ 0)
  have h40' : ¬ (40 : Int) < (s.size : Int) := by omega
  have h0' : (0 : Int) < (s.size : Int) := by omega
  have hq : (¬ (48 : Int) ≤ ((s[0]'h0).toNat : Int)) ∨ ((48 : Int) ≤ ((s[0]'h0).toNat : Int) ∧ ¬ ((s[0]'h0).toNat : Int) ≤ 57) := by omega
  have Hd := Lib.hid hd
  clear hd
  rcases hq with hq | ⟨hq, hq2⟩
  all_goals
    go_enter Tryz.func48, Tryz.ntmps48
    go_wp2_with fail
    go_loopw [3, 4] (fun i c wr => ∃ k : Nat, k ≤ s.size ∧ i = .int .i64 k ∧ w = wr ∧ Hid (okTo s k = true)) (fun i _ _ => s.size - (Go.RowKit.intOf i).toNat)
    case atStart => exact ⟨0, Nat.zero_le _, rfl, rfl, Lib.hid rfl⟩
    case round =>
      obtain ⟨k, hk, rfl, rfl, Hok⟩ := hrel
      by_cases hlt : k < s.size
      · have Hget := Lib.hid (okAt_get s k hlt)
        have Hdig : Hid (k = 0 → ¬ (48 ≤ (s[k]'hlt).toNat ∧ (s[k]'hlt).toNat ≤ 57)) := Lib.hid (fun e => by subst e; exact Hd.out)
        rcases byte_class (s[k]'hlt).toNat with hc | hc | hc | hc | hc
        · have H1 : Hid (okAt s k = true) := Lib.hid (by rw [Hget.out]; simp [letterB, digitB]; omega)
          clear Hget Hdig
          have e1 : (97 : Int) ≤ ((s[k]'hlt).toNat : Int) := by omega
          have e2 : ((s[k]'hlt).toNat : Int) ≤ 122 := by omega
          go_wp2_with fail
          go_roundw
          case rel => exact ⟨k + 1, by omega, by go_num, trivial, Lib.hid (by unfold okTo; rw [Hok.out, H1.out]; rfl)⟩
          case measure => simp [Go.RowKit.intOf]; omega
        · have H1 : Hid (okAt s k = true) := Lib.hid (by rw [Hget.out]; simp [letterB, digitB]; omega)
          clear Hget Hdig
          have e1 : ¬ (97 : Int) ≤ ((s[k]'hlt).toNat : Int) := by omega
          have e2 : (65 : Int) ≤ ((s[k]'hlt).toNat : Int) := by omega
          have e3 : ((s[k]'hlt).toNat : Int) ≤ 90 := by omega
          go_wp2_with fail
          go_roundw
          case rel => exact ⟨k + 1, by omega, by go_num, trivial, Lib.hid (by unfold okTo; rw [Hok.out, H1.out]; rfl)⟩
          case measure => simp [Go.RowKit.intOf]; omega
        · have H1 : Hid (okAt s k = true) := Lib.hid (by rw [Hget.out]; simp [letterB, digitB]; omega)
          clear Hget Hdig
          have e1 : ¬ (97 : Int) ≤ ((s[k]'hlt).toNat : Int) := by omega
          have e2 : (65 : Int) ≤ ((s[k]'hlt).toNat : Int) := by omega
          have e3 : ¬ ((s[k]'hlt).toNat : Int) ≤ 90 := by omega
          have e4 : (((s[k]'hlt).toNat : Int) == 95) = true := by rw [beq_iff_eq]; omega
          go_wp2_with fail
          go_roundw
          case rel => exact ⟨k + 1, by omega, by go_num, trivial, Lib.hid (by unfold okTo; rw [Hok.out, H1.out]; rfl)⟩
          case measure => simp [Go.RowKit.intOf]; omega
        · have H1 : Hid (okAt s k = true) := Lib.hid (by rw [Hget.out]; simp [letterB, digitB]; have := Hdig.out; omega)
          clear Hget Hdig
          have e1 : ¬ (97 : Int) ≤ ((s[k]'hlt).toNat : Int) := by omega
          have e2 : ¬ (65 : Int) ≤ ((s[k]'hlt).toNat : Int) := by omega
          have e4 : (((s[k]'hlt).toNat : Int) == 95) = false := by rw [beq_eq_false_iff_ne]; omega
          have e5 : (48 : Int) ≤ ((s[k]'hlt).toNat : Int) := by omega
          have e6 : ((s[k]'hlt).toNat : Int) ≤ 57 := by omega
          go_wp2_with fail
          go_roundw
          case rel => exact ⟨k + 1, by omega, by go_num, trivial, Lib.hid (by unfold okTo; rw [Hok.out, H1.out]; rfl)⟩
          case measure => simp [Go.RowKit.intOf]; omega
        · have Hr : Hid (nameB s = false) := Lib.hid (by
            have h1 : okAt s k = false := by rw [Hget.out, hc.1, hc.2]; simp
            unfold nameB
            rw [okTo_false hlt h1, Bool.and_false])
          have hn : (s[k]'hlt).toNat < 48 ∨ (58 ≤ (s[k]'hlt).toNat ∧ (s[k]'hlt).toNat ≤ 64) ∨ (91 ≤ (s[k]'hlt).toNat ∧ (s[k]'hlt).toNat ≤ 94) ∨ (s[k]'hlt).toNat = 96 ∨ 122 < (s[k]'hlt).toNat := by
            have h1 := hc.1
            have h2 := hc.2
            simp [letterB] at h1
            simp [digitB] at h2
            omega
          clear Hget Hdig hc
          have e95 : (((s[k]'hlt).toNat : Int) == 95) = false := by rw [beq_eq_false_iff_ne]; omega
          have g1 : (97 : Int) ≤ ((s[k]'hlt).toNat : Int) ∨ ¬ (97 : Int) ≤ ((s[k]'hlt).toNat : Int) := by omega
          have g2 : (65 : Int) ≤ ((s[k]'hlt).toNat : Int) ∨ ¬ (65 : Int) ≤ ((s[k]'hlt).toNat : Int) := by omega
          have g3 : (48 : Int) ≤ ((s[k]'hlt).toNat : Int) ∨ ¬ (48 : Int) ≤ ((s[k]'hlt).toNat : Int) := by omega
          have f1 : (97 : Int) ≤ ((s[k]'hlt).toNat : Int) → ¬ ((s[k]'hlt).toNat : Int) ≤ 122 := by omega
          have f2 : (65 : Int) ≤ ((s[k]'hlt).toNat : Int) → ¬ ((s[k]'hlt).toNat : Int) ≤ 90 := by omega
          have f3 : (48 : Int) ≤ ((s[k]'hlt).toNat : Int) → ¬ ((s[k]'hlt).toNat : Int) ≤ 57 := by omega
          clear hn
          rcases g1 with g1 | g1
          all_goals
            rcases g2 with g2 | g2
            all_goals
              rcases g3 with g3 | g3
              all_goals
                try have k1 := f1 g1
                try have k2 := f2 g2
                try have k3 := f3 g3
                clear f1 f2 f3
                go_wp2_with fail
                go_ret
                exact ⟨by rw [Hr.out]; rfl, Below.refl _ _⟩
      · have hks : k = s.size := by omega
        subst hks
        have Hname : Hid (nameB s = !kept.contains s.toList) := Lib.hid (by
          unfold nameB
          rw [Hok.out, decide_eq_true h0, decide_eq_true h40]
          simp)
        clear Hok Hd
        go_wp2_with fail
        go_loopw [6] (fun i wr => ∃ j : Nat, j ≤ 13 ∧ i = .int .i64 j ∧ wr = w.alloc (.cells keptV 9) ∧ Hid (missTo s j)) (fun i _ => 13 - (Go.RowKit.intOf i).toNat)
        case atStart => exact ⟨0, by omega, rfl, rfl, Lib.hid (fun i l hi => absurd hi (Nat.not_lt_zero _))⟩
        case round =>
          obtain ⟨j, hj, rfl, rfl, Hm⟩ := hrel
          have Hbel : Hid (Below w.heap.size w (w.alloc (.cells keptV 9))) := Lib.hid ((Below.refl _ _).alloc (Nat.le_refl _) _)
          by_cases hj2 : j < 13
          · obtain ⟨l, hl, hv⟩ := kept_get j hj2
            have Hl := Lib.hid hl
            have hcell : (w.alloc (.cells keptV 9)).cell? ⟨w.heap.size, j, none⟩ = some (.string ⟨l.toArray⟩) := by rw [row_at (heap_alloc_new w _)]; exact hv
            have hj3 : (j : Int) < 13 := by omega
            clear hl hv
            cases hc : (l == s.toList) with
            | true =>
              have hcmp : ((⟨l.toArray⟩ : ByteArray).toList == s.toList) = true := by rw [ByteArray.toList_eq]; exact hc
              have Hr : Hid (nameB s = false) := Lib.hid (by
                rw [Hname.out]
                have e : l = s.toList := by simpa using hc
                have : kept.contains s.toList = true := by rw [← e]; exact List.contains_iff_mem.2 (List.mem_of_getElem? Hl.out)
                rw [this]
                rfl)
              go_wp2_with fail
              go_ret
              exact ⟨by rw [Hr.out]; rfl, Hbel.out⟩
            | false =>
              have hcmp : ((⟨l.toArray⟩ : ByteArray).toList == s.toList) = false := by rw [ByteArray.toList_eq]; exact hc
              have Hm2 : Hid (missTo s (j + 1)) := Lib.hid (fun i l2 hi hl2 => by
                by_cases e : i = j
                · subst e
                  rw [Hl.out] at hl2
                  cases hl2
                  exact hc
                · exact Hm.out i l2 (by omega) hl2)
              go_wp2_with fail
              go_roundw
              case rel => exact ⟨j + 1, by omega, by go_num, trivial, Hm2⟩
              case measure => simp [Go.RowKit.intOf]; omega
          · have h13 : j = 13 := by omega
            subst h13
            have Hr : Hid (nameB s = true) := Lib.hid (by
              rw [Hname.out]
              cases hc : kept.contains s.toList with
              | false => rfl
              | true =>
                exfalso
                obtain ⟨i, hi⟩ := List.mem_iff_getElem?.1 (List.contains_iff_mem.1 hc)
                have hlt : i < 13 := by
                  have : kept.length = 13 := rfl
                  rcases Nat.lt_or_ge i kept.length with h | h
                  · omega
                  · rw [List.getElem?_eq_none h] at hi
                    cases hi
                have := Hm.out i _ hlt hi
                simp at this)
            go_wp2_with fail
            go_ret
            exact ⟨by rw [Hr.out]; rfl, Hbel.out⟩
set_option maxRecDepth 100000 in
set_option maxHeartbeats 1000000 in
theorem wordR_any (s : ByteArray) (w : World) : Calls Tryz.prog 48 #[.string s] w fun e w' => e = .returned (.bool (nameB s)) ∧ Below w.heap.size w w' := by
  by_cases h0 : 0 < s.size
  · have he : (s.toList == []) = false := by rw [empty_toList]; simpa using (by omega : s.size ≠ 0)
    have h0' : (0 : Int) < (s.size : Int) := by omega
    by_cases h40 : s.size ≤ 40
    · by_cases hd : 48 ≤ (s[0]'h0).toNat ∧ (s[0]'h0).toNat ≤ 57
      · have Hr : Hid (nameB s = false) := Lib.hid (by
          have h1 : okAt s 0 = false := by
            rw [okAt_get s 0 h0]
            simp [letterB]
            omega
          unfold nameB
          rw [okTo_false h0 h1, Bool.and_false])
        have h40' : ¬ (40 : Int) < (s.size : Int) := by omega
        have e1 : (48 : Int) ≤ ((s[0]'h0).toNat : Int) := by omega
        have e2 : ((s[0]'h0).toNat : Int) ≤ 57 := by omega
        clear hd
        go_enter Tryz.func48, Tryz.ntmps48
        go_wp2_with fail
        go_ret
        exact ⟨by rw [Hr.out]; rfl, Below.refl _ _⟩
      · exact wordR_go s w h0 h40 hd
    · have Hr : Hid (nameB s = false) := Lib.hid (by
        unfold nameB
        rw [decide_eq_false h40]
        simp)
      have h40' : (40 : Int) < (s.size : Int) := by omega
      go_enter Tryz.func48, Tryz.ntmps48
      go_wp2_with fail
      go_ret
      exact ⟨by rw [Hr.out]; rfl, Below.refl _ _⟩
  · have Hr : Hid (nameB s = false) := Lib.hid (by
      unfold nameB
      rw [decide_eq_false h0]
      simp)
    have he : (s.toList == []) = true := by rw [empty_toList]; simpa using (by omega : s.size = 0)
    go_enter Tryz.func48, Tryz.ntmps48
    go_wp2_with fail
    go_ret
    exact ⟨by rw [Hr.out]; rfl, Below.refl _ _⟩
end Go.Proofs.YtlgbepamnkfpjaaGreatDoor

/- The chapter's example: plainly. -/
set_option linter.unusedVariables false
set_option linter.unusedSimpArgs false
namespace Go.Proofs.YtlgbepamnkfpjaaGreatDoor
open Go.RowKit Go.Lib

def exB (l : List UInt8) : ByteArray := ⟨l.toArray⟩
def exX : Tm := .mk 18 ⟨#[120]⟩ 1 ⟨#[]⟩ [] [] []
def exFx : Tm := .mk 17 ⟨#[102]⟩ 0 ⟨#[]⟩ [exX] [] []
def exNum (b : UInt8) : Tm := .mk 1 ⟨#[]⟩ 0 ⟨#[b]⟩ [] [] []
def exBody : Tm := .mk 10 ⟨#[]⟩ 0 ⟨#[]⟩ [exNum 48, exFx] [] []
def exAll : Tm := .mk 19 ⟨#[]⟩ 0 ⟨#[]⟩ [exBody] [(⟨#[120]⟩, 1)] [exFx]
def exF3 : Tm := .mk 17 ⟨#[102]⟩ 0 ⟨#[]⟩ [exNum 51] [] []
def exT : Tm := .mk 10 ⟨#[]⟩ 0 ⟨#[]⟩ [exNum 48, exF3] [] []
theorem ex_put : tput [(⟨#[120]⟩, 1)] [exNum 51] exBody = exT := by kernel_rfl
theorem ex_inst : instTop [(⟨#[120]⟩, 1)] [exNum 51] exBody = (exT, 0) := by
  unfold instTop
  rw [ex_put]
  rfl
theorem ex_check : checkTop [⟨⟨#[102]⟩, [1], 1⟩] exAll = (2, 0) := by kernel_rfl
theorem ex_none : (checkTop [] exAll).2 = 32 := by kernel_rfl
theorem ex_text : (textT exT).toList = [40, 60, 61, 32, 48, 32, 40, 102, 32, 51, 41, 41] := by kernel_rfl
theorem ex_textAll : (textT exAll).toList = [40,102,111,114,97,108,108,32,40,120,32,105,110,116,41,32,40,112,97,116,116,101,114,110,32,40,102,32,120,41,41,32,40,60,61,32,48,32,40,102,32,120,41,41,41] := by kernel_rfl
theorem ex_few : fewT 1 exAll = true ∧ fewT 1 exT = true := ⟨by kernel_rfl, by kernel_rfl⟩
theorem ex_tw : tw exAll = 8 ∧ tw exT = 4 ∧ tw exBody = 4 := ⟨by kernel_rfl, by kernel_rfl, by kernel_rfl⟩
theorem ex_key : keyN (fun n => decide (0 ≤ n ∧ n < 100)) exT = true ∧ (keyL exT).length ≤ 140737488355328 := ⟨by kernel_rfl, by have : (keyL exT).length = (keyL exT).length := rfl; exact of_decide_eq_true (by kernel_rfl)⟩
theorem ex_noAll : OkIn [(⟨#[120]⟩, 1)] exBody := .inl (by kernel_rfl)
theorem ex_short : shortT exAll = true := by kernel_rfl
theorem ex_ground : tground exAll = false ∧ tground exT = true := ⟨by kernel_rfl, by kernel_rfl⟩
theorem ex_apps : (appsW [] exT).length = 1 := by kernel_rfl
theorem ex_size : tsize exT = 4 ∧ tdepth exT = 3 := ⟨by kernel_rfl, by kernel_rfl⟩
end Go.Proofs.YtlgbepamnkfpjaaGreatDoor
