/- Same: the walk. -/
import Derived.Test.YtlgbepamnkfpjaaDoorM33
import Derived.Deep.QuietTactic
set_option linter.unusedSimpArgs false
set_option linter.unusedVariables false
namespace Go.Proofs.YtlgbepamnkfpjaaDoor
open Go.RowKit Go.Lib

mutual
def sameT : Tm → Tm → Bool
  | .mk op name sort n l vars pat, .mk op' name' sort' n' l' vars' pat' =>
    (op == op') && sameTs l l' && (if op = 17 then name.toList == name'.toList else if op = 1 then n.toList == n'.toList else if op = 18 then name.toList == name'.toList && sort == sort' else if op = 19 then decide (vars = vars') && sameTs pat pat' else true)
def sameTs : List Tm → List Tm → Bool
  | [], [] => true
  | t :: ts, u :: us => sameT t u && sameTs ts us
  | _, _ => false
end
theorem sameTs_length : ∀ (ts us : List Tm), ts.length ≠ us.length → sameTs ts us = false
  | [], [], h => absurd rfl h
  | [], _ :: _, _ => by simp [sameTs]
  | _ :: _, [], _ => by simp [sameTs]
  | t :: ts, u :: us, h => by
    simp only [sameTs]
    rw [sameTs_length ts us (by simpa using h), Bool.and_false]
theorem sameTs_step : ∀ (ts us : List Tm) (k : Nat) (t u : Tm), ts[k]? = some t → us[k]? = some u → sameTs (ts.drop k) (us.drop k) = (sameT t u && sameTs (ts.drop (k + 1)) (us.drop (k + 1))) := by
  intro ts us k t u ht hu
  obtain ⟨h1, h2⟩ := List.getElem?_eq_some_iff.1 ht
  obtain ⟨h3, h4⟩ := List.getElem?_eq_some_iff.1 hu
  rw [List.drop_eq_getElem_cons h1, List.drop_eq_getElem_cons h3, sameTs, h2, h4]
def SameOK (w0 : World) (t : Tm) (v : Value) : Prop := ∀ (u : Tm) (v' : Value), TmV w0 u v' → ∀ W, Below w0.heap.size w0 W → Calls Tryd.prog 16 #[v, v'] W fun e w' => e = .returned (.bool (sameT t u)) ∧ Below W.heap.size W w'
set_option maxRecDepth 100000 in
set_option maxHeartbeats 2000000 in
theorem equalFunc_any {w0 : World} {ts us : List Tm} {A B : Option Addr} {ca cb : Nat} {f g : Nat → Value} (hf : RowCells w0 A 7 ts.length f) (hg : RowCells w0 B 7 us.length g) (hL : ∀ (j : Nat) (t : Tm), ts[j]? = some t → TmV w0 t (f j)) (hU : ∀ (j : Nat) (t : Tm), us[j]? = some t → TmV w0 t (g j))
    (hs : ∀ (j : Nat) (t : Tm), ts[j]? = some t → SameOK w0 t (f j)) (hl : ts.length ≤ 140737488355328) (hl2 : us.length ≤ 140737488355328) (W : World) (hW : Below w0.heap.size w0 W) :
    Calls Tryd.prog 49 #[.slice A ts.length ca, .slice B us.length cb, .func (.func 16) #[] #[]] W fun e w' => e = .returned (.bool (sameTs ts us)) ∧ Below W.heap.size W w' := by
  have HL := Lib.hid hL
  have HU := Lib.hid hU
  have Hf := Lib.hid hf
  have Hg := Lib.hid hg
  have Hs := Lib.hid hs
  have HW := Lib.hid hW
  clear hf hg hL hU hs hW
  by_cases hne : ts.length = us.length
  · obtain ⟨m, hm1, hm2⟩ : ∃ m, ts.length = m ∧ us.length = m := ⟨_, rfl, hne.symm⟩
    rw [hm1] at Hf hl ⊢
    rw [hm2] at Hg hl2 ⊢
    have Hm1 := Lib.hid hm1
    have Hm2 := Lib.hid hm2
    clear hm1 hm2 hne hl2
    go_enter Tryd.func49, Tryd.ntmps49
    go_wp2_with fail
    go_loopw [17] (fun i wr => ∃ k : Nat, k ≤ m ∧ i = .int .i64 k ∧ Hid (sameTs ts us = sameTs (ts.drop k) (us.drop k)) ∧ Hid (Below W.heap.size W wr)) (fun i _ => m - (Go.RowKit.intOf i).toNat)
    case atStart => exact ⟨0, by omega, rfl, Lib.hid rfl, Lib.hid (Below.refl _ _)⟩
    case round =>
      obtain ⟨k, hk, rfl, HE, HB⟩ := hrel
      by_cases hlt : k < m
      · have hkt : k < ts.length := by have := Hm1.out; omega
        have hku : k < us.length := by have := Hm2.out; omega
        have Ht : Hid (ts[k]? = some ts[k]) := Lib.hid (List.getElem?_eq_getElem hkt)
        have Hu : Hid (us[k]? = some us[k]) := Lib.hid (List.getElem?_eq_getElem hku)
        have HE2 := Lib.hid (sameTs_step ts us k _ _ Ht.out Hu.out)
        have Hv := Lib.hid (HL.out k _ Ht.out)
        have Hv2 := Lib.hid (HU.out k _ Hu.out)
        obtain ⟨p, hp⟩ := Hv.out.parts
        obtain ⟨q, hq⟩ := Hv2.out.parts
        have Hp := Lib.hid hp
        have Hq := Lib.hid hq
        have hwr0 : Below w0.heap.size w0 wr := HW.out.trans (HB.out.mono HW.out.size)
        obtain ⟨b, o, rfl, e0, e1, e2, e3, e4, e5, e6⟩ := (Hf.out.below hwr0).get hlt hp
        obtain ⟨b2, o2, rfl, f0, f1, f2, f3, f4, f5, f6⟩ := (Hg.out.below hwr0).get hlt hq
        have Hb2 : Hid (Below wr.heap.size wr ((wr.alloc (.cells #[.int .i64 p.op, .string p.name, .int .i64 p.sort, .string p.n, .slice p.A p.la p.ca, .slice p.V p.lv p.cv, .slice p.P p.lp p.cp] 27)).alloc (.cells #[.int .i64 q.op, .string q.name, .int .i64 q.sort, .string q.n, .slice q.A q.la q.ca, .slice q.V q.lv q.cv, .slice q.P q.lp q.cp] 27))) := Lib.hid (((Below.refl _ _).alloc (Nat.le_refl _) _).alloc (by simp) _)
        have Hc : Hid (Calls Tryd.prog 16 #[.agg #[.int .i64 p.op, .string p.name, .int .i64 p.sort, .string p.n, .slice p.A p.la p.ca, .slice p.V p.lv p.cv, .slice p.P p.lp p.cp], .agg #[.int .i64 q.op, .string q.name, .int .i64 q.sort, .string q.n, .slice q.A q.la q.ca, .slice q.V q.lv q.cv, .slice q.P q.lp q.cp]] ((wr.alloc (.cells #[.int .i64 p.op, .string p.name, .int .i64 p.sort, .string p.n, .slice p.A p.la p.ca, .slice p.V p.lv p.cv, .slice p.P p.lp p.cp] 27)).alloc (.cells #[.int .i64 q.op, .string q.name, .int .i64 q.sort, .string q.n, .slice q.A q.la q.ca, .slice q.V q.lv q.cv, .slice q.P q.lp q.cp] 27)) fun e w'' => e = .returned (.bool (sameT ts[k] us[k])) ∧ Below wr.heap.size wr w'') := Lib.hid (by
          have h := Hs.out k _ Ht.out _ _ Hv2.out ((wr.alloc (.cells #[.int .i64 p.op, .string p.name, .int .i64 p.sort, .string p.n, .slice p.A p.la p.ca, .slice p.V p.lv p.cv, .slice p.P p.lp p.cp] 27)).alloc (.cells #[.int .i64 q.op, .string q.name, .int .i64 q.sort, .string q.n, .slice q.A q.la q.ca, .slice q.V q.lv q.cv, .slice q.P q.lp q.cp] 27)) (hwr0.trans (Hb2.out.mono hwr0.size))
          rw [Hp.out, Hq.out] at h
          refine Calls.mono h ?_
          rintro e w'' ⟨rfl, h2⟩
          exact ⟨rfl, Hb2.out.trans (h2.mono Hb2.out.size)⟩)
        have q1 := World.block_lt_of_cell? wr _ e0
        have q2 := World.block_lt_of_cell? wr _ f0
        dsimp only at q1 q2
        clear hp hq hwr0 Ht Hu Hv Hv2 Hp Hq
        generalize sameT ts[k] us[k] = r at *
        cases r with
        | false =>
          go_wp2_with (go_at_call 16; (with_reducible refine Calls.mono Hc.out ?_); rintro e w3 ⟨rfl, hb3⟩; have Hb3 := Lib.hid hb3; clear hb3)
          go_ret
          exact ⟨by rw [HE.out, HE2.out]; rfl, HB.out.trans (Hb3.out.mono HB.out.size)⟩
        | true =>
          go_wp2_with (go_at_call 16; (with_reducible refine Calls.mono Hc.out ?_); rintro e w3 ⟨rfl, hb3⟩; have Hb3 := Lib.hid hb3; clear hb3)
          go_roundw
          case rel => exact ⟨k + 1, by omega, by go_num, Lib.hid (by rw [HE.out, HE2.out, Bool.true_and]), Lib.hid (HB.out.trans (Hb3.out.mono HB.out.size))⟩
          case measure => simp [Go.RowKit.intOf]; omega
      · have hlt2 : ¬ (k : Int) < (m : Int) := by omega
        have Hr : Hid (sameTs ts us = true) := Lib.hid (by
          have h1 := Hm1.out
          have h2 := Hm2.out
          rw [HE.out, List.drop_eq_nil_of_le (by omega), List.drop_eq_nil_of_le (by omega), sameTs])
        go_wp2_with fail
        go_ret
        exact ⟨by rw [Hr.out]; rfl, HB.out⟩
  · have hn2 : ¬ (ts.length : Int) = (us.length : Int) := by omega
    have Hr : Hid (sameTs ts us = false) := Lib.hid (sameTs_length _ _ hne)
    go_enter Tryd.func49, Tryd.ntmps49
    go_wp2_with fail
    go_ret
    exact ⟨by rw [Hr.out]; rfl, Below.refl _ _⟩
end Go.Proofs.YtlgbepamnkfpjaaDoor

/- Bound variables, one against the other. -/
namespace Go.Proofs.YtlgbepamnkfpjaaDoor
open Go.RowKit Go.Lib

theorem toList_inj {a b : ByteArray} (h : a.toList = b.toList) : a = b := by
  rw [ByteArray.toList_eq, ByteArray.toList_eq] at h
  cases a
  cases b
  simpa using h
set_option maxRecDepth 100000 in
set_option maxHeartbeats 2000000 in
theorem equalBounds_any {w0 : World} {vs us : Bd} {A B : Option Addr} {ca cb : Nat} (hf : RowCells w0 A 2 vs.length (bval vs)) (hg : RowCells w0 B 2 us.length (bval us)) (hl : vs.length ≤ 140737488355328) (hl2 : us.length ≤ 140737488355328) (W : World) (hW : Below w0.heap.size w0 W) :
    Calls Tryd.prog 28 #[.slice A vs.length ca, .slice B us.length cb] W fun e w' => e = .returned (.bool (decide (vs = us))) ∧ Below W.heap.size W w' := by
  have Hf := Lib.hid (hf.below hW)
  have Hg := Lib.hid (hg.below hW)
  clear hf hg hW
  by_cases hne : vs.length = us.length
  · obtain ⟨m, hm1, hm2⟩ : ∃ m, vs.length = m ∧ us.length = m := ⟨_, rfl, hne.symm⟩
    rw [hm1] at hl ⊢
    rw [hm2] at hl2 ⊢
    have Hm1 := Lib.hid hm1
    have Hm2 := Lib.hid hm2
    clear hm1 hm2 hne hl2
    go_enter Tryd.func28, Tryd.ntmps28
    go_wp2_with fail
    go_loopw [13] (fun i wr => ∃ k : Nat, k ≤ m ∧ i = .int .i64 k ∧ Hid (vs.take k = us.take k) ∧ Hid (Below W.heap.size W wr)) (fun i _ => m - (Go.RowKit.intOf i).toNat)
    case atStart => exact ⟨0, by omega, rfl, Lib.hid rfl, Lib.hid (Below.refl _ _)⟩
    case round =>
      obtain ⟨k, hk, rfl, HE, HB⟩ := hrel
      by_cases hlt : k < m
      · have hkt : k < vs.length := by have := Hm1.out; omega
        have hku : k < us.length := by have := Hm2.out; omega
        have ht := List.getElem?_eq_getElem hkt
        have hu := List.getElem?_eq_getElem hku
        have Hst : Hid (vs.take (k + 1) = vs.take k ++ [vs[k]] ∧ us.take (k + 1) = us.take k ++ [us[k]]) := Lib.hid (And.intro (List.take_succ_eq_append_getElem hkt) (List.take_succ_eq_append_getElem hku))
        obtain ⟨b, o, rfl, e0, e1⟩ := (Hf.out.below HB.out).bound ht
        obtain ⟨b2, o2, rfl, f0, f1⟩ := (Hg.out.below HB.out).bound hu
        have k1 : (0 : Int) ≤ (k : Int) := by omega
        have k2 : (k : Int) < (m : Int) := by omega
        have Hend : Hid (¬ vs.take (k + 1) = us.take (k + 1) → vs ≠ us) := Lib.hid (fun h e => h (by rw [e]))
        generalize vs[k] = x at *
        generalize us[k] = y at *
        obtain ⟨x1, x2⟩ := x
        obtain ⟨y1, y2⟩ := y
        dsimp only at e0 e1 f0 f1
        by_cases h1 : x1.toList = y1.toList
        · by_cases h2 : x2 = y2
          · have Hx : Hid ((x1, x2) = (y1, y2)) := Lib.hid (by rw [toList_inj h1, h2])
            go_wp2_with fail
            go_region
            go_wp2_with fail
            go_roundw
            case rel => exact ⟨k + 1, by omega, by go_num, Lib.hid (by rw [Hst.out.1, Hst.out.2, HE.out, Hx.out]), Lib.hid HB.out.drew⟩
            case measure => simp [Go.RowKit.intOf]; omega
          · have Hr : Hid (decide (vs = us) = false) := Lib.hid (by
              rw [decide_eq_false_iff_not]
              refine Hend.out fun e => h2 ?_
              rw [Hst.out.1, Hst.out.2, HE.out] at e
              simp at e
              exact e.2)
            go_wp2_with fail
            go_region
            go_wp2_with fail
            go_ret
            exact ⟨by rw [Hr.out]; rfl, HB.out.drew⟩
        · have Hr : Hid (decide (vs = us) = false) := Lib.hid (by
            rw [decide_eq_false_iff_not]
            refine Hend.out fun e => h1 ?_
            rw [Hst.out.1, Hst.out.2, HE.out] at e
            simp at e
            rw [e.1])
          go_wp2_with fail
          go_region
          go_wp2_with fail
          go_ret
          exact ⟨by rw [Hr.out]; rfl, HB.out.drew⟩
      · have hlt2 : ¬ (k : Int) < (m : Int) := by omega
        have Hr : Hid (decide (vs = us) = true) := Lib.hid (by
          have h := HE.out
          have h1 := Hm1.out
          have h2 := Hm2.out
          rw [List.take_of_length_le (by omega), List.take_of_length_le (by omega)] at h
          exact decide_eq_true h)
        go_wp2_with fail
        go_ret
        exact ⟨by rw [Hr.out]; rfl, HB.out⟩
  · have hn2 : ¬ (vs.length : Int) = (us.length : Int) := by omega
    have Hr : Hid (decide (vs = us) = false) := Lib.hid (by rw [decide_eq_false_iff_not]; intro e; exact hne (by rw [e]))
    go_enter Tryd.func28, Tryd.ntmps28
    go_wp2_with fail
    go_ret
    exact ⟨by rw [Hr.out]; rfl, Below.refl _ _⟩
end Go.Proofs.YtlgbepamnkfpjaaDoor

/- Same. -/
namespace Go.Proofs.YtlgbepamnkfpjaaDoor
open Go.RowKit Go.Lib

set_option maxRecDepth 100000 in
set_option maxHeartbeats 2000000 in
theorem all_any {w0 : World} {ts us : List Tm} {A B : Option Addr} {ca cb : Nat} {f g : Nat → Value} (hf : RowCells w0 A 7 ts.length f) (hg : RowCells w0 B 7 us.length g) (hL : ∀ (j : Nat) (t : Tm), ts[j]? = some t → TmV w0 t (f j)) (hU : ∀ (j : Nat) (t : Tm), us[j]? = some t → TmV w0 t (g j))
    (hs : ∀ (j : Nat) (t : Tm), ts[j]? = some t → SameOK w0 t (f j)) (hl : ts.length ≤ 140737488355328) (hl2 : us.length ≤ 140737488355328) (W : World) (hW : Below w0.heap.size w0 W) :
    Calls Tryd.prog 27 #[.slice A ts.length ca, .slice B us.length cb] W fun e w' => e = .returned (.bool (sameTs ts us)) ∧ Below W.heap.size W w' := by
  have Hc := Lib.hid (equalFunc_any (ca := ca) (cb := cb) hf hg hL hU hs hl hl2 W hW)
  clear hf hg hL hU hs hW
  generalize sameTs ts us = r at *
  go_enter Tryd.func27, Tryd.ntmps27
  go_wp2_with (go_at_call 49; (with_reducible refine Calls.mono Hc.out ?_); rintro e w3 ⟨rfl, hb3⟩; have Hb3 := Lib.hid hb3; clear hb3)
  go_ret
  exact ⟨rfl, Hb3.out⟩
set_option maxRecDepth 100000 in
set_option maxHeartbeats 4000000 in
theorem same_any {w0 : World} {t : Tm} {v : Value} (h : TmV w0 t v) : SameOK w0 t v := by
  induction h with
  | @mk op name sort n l vars pat A V P ca cv cp f g hbd hl hf hL hv hV hp hg hP ihL ihP =>
    intro u v' hu W hW
    cases hu with
    | @mk op' name' sort' n' l' vars' pat' A' V' P' ca' cv' cp' f' g' hbd' hl' hf' hL' hv' hV' hp' hg' hP' =>
      have HL : Hid (∀ W2, Below w0.heap.size w0 W2 → Calls Tryd.prog 27 #[.slice A l.length ca, .slice A' l'.length ca'] W2 fun e w' => e = .returned (.bool (sameTs l l')) ∧ Below W2.heap.size W2 w') := Lib.hid (fun W2 h2 => all_any hf hf' hL hL' ihL hbd.l hbd'.l W2 h2)
      have HP : Hid (∀ W2, Below w0.heap.size w0 W2 → Calls Tryd.prog 27 #[.slice P pat.length cp, .slice P' pat'.length cp'] W2 fun e w' => e = .returned (.bool (sameTs pat pat')) ∧ Below W2.heap.size W2 w') := Lib.hid (fun W2 h2 => all_any hg hg' hP hP' ihP hbd.p hbd'.p W2 h2)
      have HV : Hid (∀ W2, Below w0.heap.size w0 W2 → Calls Tryd.prog 28 #[.slice V vars.length cv, .slice V' vars'.length cv'] W2 fun e w' => e = .returned (.bool (decide (vars = vars'))) ∧ Below W2.heap.size W2 w') := Lib.hid (fun W2 h2 => equalBounds_any hV hV' hbd.v hbd'.v W2 h2)
      have Hs : Hid (sameT (.mk op name sort n l vars pat) (.mk op' name' sort' n' l' vars' pat') = ((op == op') && sameTs l l' && (if op = 17 then name.toList == name'.toList else if op = 1 then n.toList == n'.toList else if op = 18 then name.toList == name'.toList && sort == sort' else if op = 19 then decide (vars = vars') && sameTs pat pat' else true))) := Lib.hid (by simp only [sameT])
      obtain ⟨p, hpq⟩ : ∃ p : Parts, p = ⟨op, name, sort, n, A, l.length, ca, V, vars.length, cv, P, pat.length, cp⟩ := ⟨_, rfl⟩
      have HW := Lib.hid hW
      clear hf hL ihL hg hP ihP hf' hL' hg' hP' hV hV' hbd hbd' hl hv hp hl' hv' hp' hW hpq p
      generalize sameT (.mk op name sort n l vars pat) (.mk op' name' sort' n' l' vars' pat') = res at *
      generalize sameTs l l' = rl at *
      generalize sameTs pat pat' = rp at *
      generalize decide (vars = vars') = rv at *
      generalize l.length = ll at *
      generalize l'.length = ll' at *
      generalize pat.length = lp at *
      generalize pat'.length = lp' at *
      generalize vars.length = lv at *
      generalize vars'.length = lv' at *
      have HB : Hid (Below W.heap.size W ((W.alloc (.cells #[.int .i64 op, .string name, .int .i64 sort, .string n, .slice A ll ca, .slice V lv cv, .slice P lp cp] 27)).alloc (.cells #[.int .i64 op', .string name', .int .i64 sort', .string n', .slice A' ll' ca', .slice V' lv' cv', .slice P' lp' cp'] 27))) := Lib.hid (((Below.refl _ _).alloc (Nat.le_refl _) _).alloc (by simp) _)
      have HR1 : Hid (((W.alloc (.cells #[.int .i64 op, .string name, .int .i64 sort, .string n, .slice A ll ca, .slice V lv cv, .slice P lp cp] 27)).alloc (.cells #[.int .i64 op', .string name', .int .i64 sort', .string n', .slice A' ll' ca', .slice V' lv' cv', .slice P' lp' cp'] 27)).heap[W.heap.size]? = some (.cells (Parts.arr ⟨op, name, sort, n, A, ll, ca, V, lv, cv, P, lp, cp⟩) 27 (0, 0))) := Lib.hid (by rw [Below.heap_alloc _ _ _ (by simp)]; exact heap_alloc_new _ _)
      have HR2 : Hid (((W.alloc (.cells #[.int .i64 op, .string name, .int .i64 sort, .string n, .slice A ll ca, .slice V lv cv, .slice P lp cp] 27)).alloc (.cells #[.int .i64 op', .string name', .int .i64 sort', .string n', .slice A' ll' ca', .slice V' lv' cv', .slice P' lp' cp'] 27)).heap[W.heap.size + 1]? = some (.cells (Parts.arr ⟨op', name', sort', n', A', ll', ca', V', lv', cv', P', lp', cp'⟩) 27 (0, 0))) := Lib.hid (by
        have h := heap_alloc_new (W.alloc (.cells #[.int .i64 op, .string name, .int .i64 sort, .string n, .slice A ll ca, .slice V lv cv, .slice P lp cp] 27)) (.cells #[.int .i64 op', .string name', .int .i64 sort', .string n', .slice A' ll' ca', .slice V' lv' cv', .slice P' lp' cp'] 27)
        rw [show (W.alloc (.cells #[.int .i64 op, .string name, .int .i64 sort, .string n, .slice A ll ca, .slice V lv cv, .slice P lp cp] 27)).heap.size = W.heap.size + 1 from by simp] at h
        exact h)
      obtain ⟨W2, hW2⟩ : ∃ W2, W2 = ((W.alloc (.cells #[.int .i64 op, .string name, .int .i64 sort, .string n, .slice A ll ca, .slice V lv cv, .slice P lp cp] 27)).alloc (.cells #[.int .i64 op', .string name', .int .i64 sort', .string n', .slice A' ll' ca', .slice V' lv' cv', .slice P' lp' cp'] 27)) := ⟨_, rfl⟩
      rw [← hW2] at HB HR1 HR2
      have HW2 := Lib.hid hW2
      clear hW2
      by_cases hop : op = op'
      · subst hop
        cases rl with
        | false =>
          have Hr : Hid (res = false) := Lib.hid (by rw [Hs.out]; simp)
          go_enter Tryd.func16, Tryd.ntmps16
          go_wp2_with (go_at_call 27; rw [← HW2.out]; (with_reducible refine Calls.mono (HL.out _ (HW.out.trans (HB.out.mono HW.out.size))) ?_); rintro e w3 ⟨rfl, hb3⟩; have Hb3 := Lib.hid hb3; clear hb3)
          go_ret
          exact ⟨by rw [Hr.out]; rfl, HB.out.trans (Hb3.out.mono HB.out.size)⟩
        | true =>
          have Hs2 : Hid (res = (if op = 17 then name.toList == name'.toList else if op = 1 then n.toList == n'.toList else if op = 18 then name.toList == name'.toList && sort == sort' else if op = 19 then rv && rp else true)) := Lib.hid (by rw [Hs.out]; simp)
          clear Hs
          go_enter Tryd.func16, Tryd.ntmps16
          go_upto_region 3 with (go_at_call 27; rw [← HW2.out]; (with_reducible refine Calls.mono (HL.out _ (HW.out.trans (HB.out.mono HW.out.size))) ?_); rintro e w3 ⟨rfl, hb3⟩; have Hb3 := Lib.hid hb3; clear hb3; obtain ⟨x0, x1, x2, x3, x4, x5, x6⟩ := box_cells (below_keeps Hb3.out HR1.out); obtain ⟨y0, y1, y2, y3, y4, y5, y6⟩ := box_cells (below_keeps Hb3.out HR2.out); dsimp only at x0 x1 x2 x3 x4 x5 x6 y0 y1 y2 y3 y4 y5 y6)
          have Hb13 : Hid (Below W.heap.size W w3) := Lib.hid (HB.out.trans (Hb3.out.mono HB.out.size))
          by_cases h17 : op = 17
          · have Hr : Hid (res = (name.toList == name'.toList)) := Lib.hid (by rw [Hs2.out, if_pos h17])
            subst h17
            go_wp2_with fail
            go_ret
            exact ⟨by rw [Hr.out]; rfl, Hb13.out⟩
          · by_cases h1 : op = 1
            · have Hr : Hid (res = (n.toList == n'.toList)) := Lib.hid (by rw [Hs2.out, if_neg h17, if_pos h1])
              subst h1
              go_wp2_with fail
              go_ret
              exact ⟨by rw [Hr.out]; rfl, Hb13.out⟩
            · by_cases h18 : op = 18
              · have Hr : Hid (res = (name.toList == name'.toList && sort == sort')) := Lib.hid (by rw [Hs2.out, if_neg h17, if_neg h1, if_pos h18])
                subst h18
                cases hnn : (name.toList == name'.toList) with
                | true =>
                  go_wp2_with fail
                  go_ret
                  exact ⟨by rw [Hr.out, hnn, Bool.true_and]; rfl, Hb13.out⟩
                | false =>
                  go_wp2_with fail
                  go_ret
                  exact ⟨by rw [Hr.out, hnn, Bool.false_and]; rfl, Hb13.out⟩
              · by_cases h19 : op = 19
                · have Hr : Hid (res = (rv && rp)) := Lib.hid (by rw [Hs2.out, if_neg h17, if_neg h1, if_neg h18, if_pos h19])
                  subst h19
                  cases rv with
                  | true =>
                    go_wp2_with (first
                      | (go_at_call 28; (with_reducible refine Calls.mono (HV.out _ (HW.out.trans (Hb13.out.mono HW.out.size))) ?_); rintro e w4 ⟨rfl, hb4⟩; have Hb4 := Lib.hid (Hb13.out.trans (hb4.mono Hb13.out.size)); obtain ⟨z0, z1, z2, z3, z4, z5, z6⟩ := box_cells (below_keeps hb4 (below_keeps Hb3.out HR1.out)); obtain ⟨v0, v1, v2, v3, v4, v5, v6⟩ := box_cells (below_keeps hb4 (below_keeps Hb3.out HR2.out)); dsimp only at z0 z1 z2 z3 z4 z5 z6 v0 v1 v2 v3 v4 v5 v6; clear hb4)
                      | (go_at_call 27; (with_reducible refine Calls.mono (HP.out _ (HW.out.trans (Hb4.out.mono HW.out.size))) ?_); rintro e w5 ⟨rfl, hb5⟩; have Hb5 := Lib.hid (Hb4.out.trans (hb5.mono Hb4.out.size)); clear hb5))
                    go_ret
                    exact ⟨by rw [Hr.out, Bool.true_and]; rfl, Hb5.out⟩
                  | false =>
                    go_wp2_with (go_at_call 28; (with_reducible refine Calls.mono (HV.out _ (HW.out.trans (Hb13.out.mono HW.out.size))) ?_); rintro e w4 ⟨rfl, hb4⟩; have Hb4 := Lib.hid (Hb13.out.trans (hb4.mono Hb13.out.size)); clear hb4)
                    go_ret
                    exact ⟨by rw [Hr.out, Bool.false_and]; rfl, Hb4.out⟩
                · have Hr : Hid (res = true) := Lib.hid (by rw [Hs2.out, if_neg h17, if_neg h1, if_neg h18, if_neg h19])
                  have b17 : (op == 17) = false := by simpa using h17
                  have b1 : (op == 1) = false := by simpa using h1
                  have b18 : (op == 18) = false := by simpa using h18
                  have b19 : (op == 19) = false := by simpa using h19
                  go_wp2_with fail
                  go_ret
                  exact ⟨by rw [Hr.out]; rfl, Hb13.out⟩
      · have Hr : Hid (res = false) := Lib.hid (by rw [Hs.out]; simp [hop])
        go_enter Tryd.func16, Tryd.ntmps16
        go_wp2_with fail
        go_ret
        exact ⟨by rw [Hr.out]; rfl, by have := HB.out; rwa [HW2.out] at this⟩
end Go.Proofs.YtlgbepamnkfpjaaDoor
