/- Same, as the reference tells it: the walk. -/
import Derived.Test.YtlgbepamnkfpjaaGreatDoorM33
import Derived.Deep.RegionHeld3
set_option linter.unusedSimpArgs false
set_option linter.unusedVariables false
set_option linter.unusedVariables false
set_option linter.unusedSimpArgs false
namespace Go.Proofs.YtlgbepamnkfpjaaGreatDoor
open Go.RowKit Go.Lib

mutual
def sameT : Tm → Tm → Bool
  | .mk op name sort n l vars pat, .mk op' name' sort' n' l' vars' pat' =>
    (op == op') && sameTs l l' && (if op = 17 then name.toList == name'.toList else if op = 1 then n.toList == n'.toList else if op = 18 then name.toList == name'.toList && sort == sort' else if op = 19 then decide (vars = vars') && sameTs pat pat' else true)
def sameTs : List Tm → List Tm → Bool
  | [], [] => true
  | t :: ts, u :: us => sameT t u && sameTs ts us
  | _, _ => false
end
theorem sameTs_length : ∀ (ts us : List Tm), ts.length ≠ us.length → sameTs ts us = false
  | [], [], h => absurd rfl h
  | [], _ :: _, _ => by simp [sameTs]
  | _ :: _, [], _ => by simp [sameTs]
  | t :: ts, u :: us, h => by
    simp only [sameTs]
    rw [sameTs_length ts us (by simpa using h), Bool.and_false]
theorem sameTs_step : ∀ (ts us : List Tm) (k : Nat) (t u : Tm), ts[k]? = some t → us[k]? = some u → sameTs (ts.drop k) (us.drop k) = (sameT t u && sameTs (ts.drop (k + 1)) (us.drop (k + 1))) := by
  intro ts us k t u ht hu
  obtain ⟨h1, h2⟩ := List.getElem?_eq_some_iff.1 ht
  obtain ⟨h3, h4⟩ := List.getElem?_eq_some_iff.1 hu
  rw [List.drop_eq_getElem_cons h1, List.drop_eq_getElem_cons h3, sameTs, h2, h4]
theorem toList_inj {a b : ByteArray} (h : a.toList = b.toList) : a = b := by
  rw [ByteArray.toList_eq, ByteArray.toList_eq] at h
  cases a
  cases b
  simpa using h
theorem keep_cell {W W2 : World} (hb : Below W.heap.size W W2) {v : Value} {ad : Addr} (hc : W.cell? ad = some v) : W2.cell? ad = some v := cell_of_below hb (Nat.le_refl _) hc
def SameOK (w0 : World) (t : Tm) (v : Value) : Prop := ∀ (u : Tm) (v' : Value), TmV w0 u v' → ∀ W, Below w0.heap.size w0 W → Calls Tryz.prog 12 #[v, v'] W fun e w' => e = .returned (.bool (sameT t u)) ∧ Below W.heap.size W w'
set_option maxRecDepth 100000 in
set_option maxHeartbeats 2000000 in
theorem sameList_any {w0 : World} {ts us : List Tm} {A B : Option Addr} {ca cb : Nat} {f g : Nat → Value} (hf : RowCells w0 A 7 ts.length f) (hg : RowCells w0 B 7 us.length g) (hL : ∀ (j : Nat) (t : Tm), ts[j]? = some t → TmV w0 t (f j)) (hU : ∀ (j : Nat) (t : Tm), us[j]? = some t → TmV w0 t (g j))
    (hs : ∀ (j : Nat) (t : Tm), ts[j]? = some t → SameOK w0 t (f j)) (hl : ts.length ≤ 140737488355328) (hl2 : us.length ≤ 140737488355328) (W : World) (hW : Below w0.heap.size w0 W) :
    Calls Tryz.prog 32 #[.slice A ts.length ca, .slice B us.length cb] W fun e w' => e = .returned (.bool (sameTs ts us)) ∧ Below W.heap.size W w' := by
  have HL := Lib.hid hL
  have HU := Lib.hid hU
  have Hf := Lib.hid hf
  have Hg := Lib.hid hg
  have Hs := Lib.hid hs
  have HW := Lib.hid hW
  clear hf hg hL hU hs hW
  by_cases hne : ts.length = us.length
  · obtain ⟨m, hm1, hm2⟩ : ∃ m, ts.length = m ∧ us.length = m := ⟨_, rfl, hne.symm⟩
    rw [hm1] at Hf hl ⊢
    rw [hm2] at Hg hl2 ⊢
    have Hm1 := Lib.hid hm1
    have Hm2 := Lib.hid hm2
    clear hm1 hm2 hne hl2
    go_enter Tryz.func32, Tryz.ntmps32
    go_wp2_with fail
    go_loopw [5] (fun i wr => ∃ k : Nat, k ≤ m ∧ i = .int .i64 k ∧ Hid (sameTs ts us = sameTs (ts.drop k) (us.drop k)) ∧ Hid (Below W.heap.size W wr)) (fun i _ => m - (Go.RowKit.intOf i).toNat)
    case atStart => exact ⟨0, by omega, rfl, Lib.hid rfl, Lib.hid (Below.refl _ _)⟩
    case round =>
      obtain ⟨k, hk, rfl, HE, HB⟩ := hrel
      by_cases hlt : k < m
      · have hkt : k < ts.length := by have := Hm1.out; omega
        have hku : k < us.length := by have := Hm2.out; omega
        have Ht : Hid (ts[k]? = some ts[k]) := Lib.hid (List.getElem?_eq_getElem hkt)
        have Hu : Hid (us[k]? = some us[k]) := Lib.hid (List.getElem?_eq_getElem hku)
        have HE2 := Lib.hid (sameTs_step ts us k _ _ Ht.out Hu.out)
        have Hv := Lib.hid (HL.out k _ Ht.out)
        have Hv2 := Lib.hid (HU.out k _ Hu.out)
        obtain ⟨p, hp⟩ := Hv.out.parts
        obtain ⟨q, hq⟩ := Hv2.out.parts
        have Hp := Lib.hid hp
        have Hq := Lib.hid hq
        have hwr0 : Below w0.heap.size w0 wr := HW.out.trans (HB.out.mono HW.out.size)
        have Hwr := Lib.hid hwr0
        obtain ⟨b, o, rfl, e0, e1, e2, e3, e4, e5, e6⟩ := (Hf.out.below hwr0).get hlt hp
        obtain ⟨b2, o2, rfl, f0, f1, f2, f3, f4, f5, f6⟩ := (Hg.out.below hwr0).get hlt hq
        have Hc : Hid (∀ W2, Below w0.heap.size w0 W2 → Calls Tryz.prog 12 #[.agg #[.int .i64 p.op, .string p.name, .int .i64 p.sort, .string p.n, .slice p.A p.la p.ca, .slice p.V p.lv p.cv, .slice p.P p.lp p.cp], .agg #[.int .i64 q.op, .string q.name, .int .i64 q.sort, .string q.n, .slice q.A q.la q.ca, .slice q.V q.lv q.cv, .slice q.P q.lp q.cp]] W2 fun e w'' => e = .returned (.bool (sameT ts[k] us[k])) ∧ Below W2.heap.size W2 w'') := Lib.hid (fun W2 h2 => by
          have h := Hs.out k _ Ht.out _ _ Hv2.out W2 h2
          rw [Hp.out, Hq.out] at h
          exact h)
        have k1 : (0 : Int) ≤ (k : Int) := by omega
        have k2 : (k : Int) < (m : Int) := by omega
        clear hp hq hwr0 Ht Hu Hv Hv2 Hp Hq
        generalize sameT ts[k] us[k] = r at *
        have SD : wr.drew.cell? ⟨b, o + k * 7, none⟩ = some (.int .i64 p.op) ∧ wr.drew.cell? ⟨b, o + k * 7 + 1, none⟩ = some (.string p.name) ∧ wr.drew.cell? ⟨b, o + k * 7 + 2, none⟩ = some (.int .i64 p.sort) ∧ wr.drew.cell? ⟨b, o + k * 7 + 3, none⟩ = some (.string p.n) ∧ wr.drew.cell? ⟨b, o + k * 7 + 4, none⟩ = some (.slice p.A p.la p.ca) ∧ wr.drew.cell? ⟨b, o + k * 7 + 5, none⟩ = some (.slice p.V p.lv p.cv) ∧ wr.drew.cell? ⟨b, o + k * 7 + 6, none⟩ = some (.slice p.P p.lp p.cp) ∧
          wr.drew.cell? ⟨b2, o2 + k * 7, none⟩ = some (.int .i64 q.op) ∧ wr.drew.cell? ⟨b2, o2 + k * 7 + 1, none⟩ = some (.string q.name) ∧ wr.drew.cell? ⟨b2, o2 + k * 7 + 2, none⟩ = some (.int .i64 q.sort) ∧ wr.drew.cell? ⟨b2, o2 + k * 7 + 3, none⟩ = some (.string q.n) ∧ wr.drew.cell? ⟨b2, o2 + k * 7 + 4, none⟩ = some (.slice q.A q.la q.ca) ∧ wr.drew.cell? ⟨b2, o2 + k * 7 + 5, none⟩ = some (.slice q.V q.lv q.cv) ∧ wr.drew.cell? ⟨b2, o2 + k * 7 + 6, none⟩ = some (.slice q.P q.lp q.cp) := ⟨e0, e1, e2, e3, e4, e5, e6, f0, f1, f2, f3, f4, f5, f6⟩
        have Hwd : Hid (Below wr.heap.size wr wr.drew) := Lib.hid (Below.refl wr.heap.size wr).drew
        cases r
        all_goals
          go_wp2_with fail
          go_region_held3 (fun w' => w'.cell? ⟨b, o + k * 7, none⟩ = some (.int .i64 p.op) ∧ w'.cell? ⟨b, o + k * 7 + 1, none⟩ = some (.string p.name) ∧ w'.cell? ⟨b, o + k * 7 + 2, none⟩ = some (.int .i64 p.sort) ∧ w'.cell? ⟨b, o + k * 7 + 3, none⟩ = some (.string p.n) ∧ w'.cell? ⟨b, o + k * 7 + 4, none⟩ = some (.slice p.A p.la p.ca) ∧ w'.cell? ⟨b, o + k * 7 + 5, none⟩ = some (.slice p.V p.lv p.cv) ∧ w'.cell? ⟨b, o + k * 7 + 6, none⟩ = some (.slice p.P p.lp p.cp) ∧
            w'.cell? ⟨b2, o2 + k * 7, none⟩ = some (.int .i64 q.op) ∧ w'.cell? ⟨b2, o2 + k * 7 + 1, none⟩ = some (.string q.name) ∧ w'.cell? ⟨b2, o2 + k * 7 + 2, none⟩ = some (.int .i64 q.sort) ∧ w'.cell? ⟨b2, o2 + k * 7 + 3, none⟩ = some (.string q.n) ∧ w'.cell? ⟨b2, o2 + k * 7 + 4, none⟩ = some (.slice q.A q.la q.ca) ∧ w'.cell? ⟨b2, o2 + k * 7 + 5, none⟩ = some (.slice q.V q.lv q.cv) ∧ w'.cell? ⟨b2, o2 + k * 7 + 6, none⟩ = some (.slice q.P q.lp q.cp))
            (first
              | (with_reducible exact SD)
              | (with_reducible exact S4))
            (first
              | (go_at_call 12; (with_reducible refine Calls.mono (Hc.out _ (Hwr.out.trans (Hwd.out.mono Hwr.out.size))) ?_); rintro e w3 ⟨rfl, hb3⟩
                 have S4 := And.intro (keep_cell hb3 SD.1) (And.intro (keep_cell hb3 SD.2.1) (And.intro (keep_cell hb3 SD.2.2.1) (And.intro (keep_cell hb3 SD.2.2.2.1) (And.intro (keep_cell hb3 SD.2.2.2.2.1) (And.intro (keep_cell hb3 SD.2.2.2.2.2.1) (And.intro (keep_cell hb3 SD.2.2.2.2.2.2.1) (And.intro (keep_cell hb3 SD.2.2.2.2.2.2.2.1) (And.intro (keep_cell hb3 SD.2.2.2.2.2.2.2.2.1) (And.intro (keep_cell hb3 SD.2.2.2.2.2.2.2.2.2.1) (And.intro (keep_cell hb3 SD.2.2.2.2.2.2.2.2.2.2.1) (And.intro (keep_cell hb3 SD.2.2.2.2.2.2.2.2.2.2.2.1) (And.intro (keep_cell hb3 SD.2.2.2.2.2.2.2.2.2.2.2.2.1) (keep_cell hb3 SD.2.2.2.2.2.2.2.2.2.2.2.2.2)))))))))))))
                 have Hb3 : Hid (Below wr.heap.size wr w3) := Lib.hid (Hwd.out.trans (hb3.mono Hwd.out.size))
                 clear hb3))
          go_wp2_with fail
        · go_ret
          exact ⟨by rw [HE.out, HE2.out]; rfl, HB.out.trans (Hb3.out.mono HB.out.size)⟩
        · go_roundw
          case rel => exact ⟨k + 1, by omega, by go_num, Lib.hid (by rw [HE.out, HE2.out, Bool.true_and]), Lib.hid (HB.out.trans (Hb3.out.mono HB.out.size))⟩
          case measure => simp [Go.RowKit.intOf]; omega
      · have hlt2 : ¬ (k : Int) < (m : Int) := by omega
        have Hr : Hid (sameTs ts us = true) := Lib.hid (by
          have h1 := Hm1.out
          have h2 := Hm2.out
          rw [HE.out, List.drop_eq_nil_of_le (by omega), List.drop_eq_nil_of_le (by omega), sameTs])
        go_wp2_with fail
        go_ret
        exact ⟨by rw [Hr.out]; rfl, HB.out⟩
  · have hn2 : ¬ (ts.length : Int) = (us.length : Int) := by omega
    have Hr : Hid (sameTs ts us = false) := Lib.hid (sameTs_length _ _ hne)
    go_enter Tryz.func32, Tryz.ntmps32
    go_wp2_with fail
    go_ret
    exact ⟨by rw [Hr.out]; rfl, Below.refl _ _⟩
end Go.Proofs.YtlgbepamnkfpjaaGreatDoor

/- Same, as the reference tells it. -/
set_option linter.unusedVariables false
set_option linter.unusedSimpArgs false
namespace Go.Proofs.YtlgbepamnkfpjaaGreatDoor
open Go.RowKit Go.Lib

/-- The world behind the laying of two terms' copies. -/
def box2 (W : World) (p q : Parts) : World := (W.alloc (.cells p.arr 26)).alloc (.cells q.arr 26)
theorem box2_facts (W : World) (p q : Parts) : Below W.heap.size W (box2 W p q) ∧ (box2 W p q).heap[W.heap.size]? = some (.cells p.arr 26 (0, 0)) ∧ (box2 W p q).heap[W.heap.size + 1]? = some (.cells q.arr 26 (0, 0)) := by
  unfold box2
  refine ⟨((Below.refl _ _).alloc (Nat.le_refl _) _).alloc (by simp) _, by rw [Below.heap_alloc _ _ _ (by simp)]; exact heap_alloc_new _ _, ?_⟩
  have h := heap_alloc_new (W.alloc (.cells p.arr 26)) (.cells q.arr 26)
  rw [show (W.alloc (.cells p.arr 26)).heap.size = W.heap.size + 1 from by simp] at h
  exact h
theorem rowL {w : World} {A : Option Addr} {vars : Bd} {m : Nat} (h : vars.length = m) (hr : RowCells w A 2 m (bval vars)) : RowCells w A 2 vars.length (bval vars) := by rw [h]; exact hr
set_option maxRecDepth 100000 in
set_option maxHeartbeats 4000000 in
theorem same_any {w0 : World} {t : Tm} {v : Value} (h : TmV w0 t v) : SameOK w0 t v := by
  induction h with
  | @mk op name sort n l vars pat A V P ca cv cp f g hbd hl hf hL hv hV hp hg hP ihL ihP =>
    intro u v' hu W hW
    cases hu with
    | @mk op' name' sort' n' l' vars' pat' A' V' P' ca' cv' cp' f' g' hbd' hl' hf' hL' hv' hV' hp' hg' hP' =>
      have HL : Hid (∀ W2, Below w0.heap.size w0 W2 → Calls Tryz.prog 32 #[.slice A l.length ca, .slice A' l'.length ca'] W2 fun e w' => e = .returned (.bool (sameTs l l')) ∧ Below W2.heap.size W2 w') := Lib.hid (fun W2 h2 => sameList_any hf hf' hL hL' ihL hbd.l hbd'.l W2 h2)
      have HP : Hid (∀ W2, Below w0.heap.size w0 W2 → Calls Tryz.prog 32 #[.slice P pat.length cp, .slice P' pat'.length cp'] W2 fun e w' => e = .returned (.bool (sameTs pat pat')) ∧ Below W2.heap.size W2 w') := Lib.hid (fun W2 h2 => sameList_any hg hg' hP hP' ihP hbd.p hbd'.p W2 h2)
      have Hs : Hid (sameT (.mk op name sort n l vars pat) (.mk op' name' sort' n' l' vars' pat') = ((op == op') && sameTs l l' && (if op = 17 then name.toList == name'.toList else if op = 1 then n.toList == n'.toList else if op = 18 then name.toList == name'.toList && sort == sort' else if op = 19 then decide (vars = vars') && sameTs pat pat' else true))) := Lib.hid (by simp only [sameT])
      have HW := Lib.hid hW
      have HV : Hid (RowCells w0 V 2 vars.length (bval vars)) := Lib.hid hV
      have HV' : Hid (RowCells w0 V' 2 vars'.length (bval vars')) := Lib.hid hV'
      have hvl := hbd.v
      have hvl' := hbd'.v
      obtain ⟨HB0, HR10, HR20⟩ := box2_facts W ⟨op, name, sort, n, A, l.length, ca, V, vars.length, cv, P, pat.length, cp⟩ ⟨op', name', sort', n', A', l'.length, ca', V', vars'.length, cv', P', pat'.length, cp'⟩
      clear hf hL ihL hg hP ihP hf' hL' hg' hP' hV hV' hbd hbd' hl hv hp hl' hv' hp' hW
      generalize sameT (.mk op name sort n l vars pat) (.mk op' name' sort' n' l' vars' pat') = res at *
      generalize sameTs l l' = rl at *
      generalize sameTs pat pat' = rp at *
      generalize l.length = ll at *
      generalize l'.length = ll' at *
      generalize pat.length = lp at *
      generalize pat'.length = lp' at *
      obtain ⟨W2, hW2⟩ : ∃ W2, W2 = ((W.alloc (.cells #[.int .i64 op, .string name, .int .i64 sort, .string n, .slice A ll ca, .slice V vars.length cv, .slice P lp cp] 26)).alloc (.cells #[.int .i64 op', .string name', .int .i64 sort', .string n', .slice A' ll' ca', .slice V' vars'.length cv', .slice P' lp' cp'] 26)) := ⟨_, rfl⟩
      have HB : Hid (Below W.heap.size W W2) := Lib.hid (by rw [hW2]; exact HB0)
      have HR1 : Hid (W2.heap[W.heap.size]? = some (.cells (Parts.arr ⟨op, name, sort, n, A, ll, ca, V, vars.length, cv, P, lp, cp⟩) 26 (0, 0))) := Lib.hid (by rw [hW2]; exact HR10)
      have HR2 : Hid (W2.heap[W.heap.size + 1]? = some (.cells (Parts.arr ⟨op', name', sort', n', A', ll', ca', V', vars'.length, cv', P', lp', cp'⟩) 26 (0, 0))) := Lib.hid (by rw [hW2]; exact HR20)
      have HW2 := Lib.hid hW2
      clear hW2 HB0 HR10 HR20
      by_cases hop : op = op'
      · subst hop
        cases rl with
        | false =>
          have Hr : Hid (res = false) := Lib.hid (by rw [Hs.out]; simp)
          generalize vars.length = lv at *
          generalize vars'.length = lv' at *
          go_enter Tryz.func12, Tryz.ntmps12
          go_wp2_with (go_at_call 32; rw [← HW2.out]; (with_reducible refine Calls.mono (HL.out _ (HW.out.trans (HB.out.mono HW.out.size))) ?_); rintro e w3 ⟨rfl, hb3⟩; have Hb3 := Lib.hid hb3; clear hb3)
          go_ret
          exact ⟨by rw [Hr.out]; rfl, HB.out.trans (Hb3.out.mono HB.out.size)⟩
        | true =>
          have Hs2 : Hid (res = (if op = 17 then name.toList == name'.toList else if op = 1 then n.toList == n'.toList else if op = 18 then name.toList == name'.toList && sort == sort' else if op = 19 then decide (vars = vars') && rp else true)) := Lib.hid (by rw [Hs.out]; simp)
          clear Hs
          obtain ⟨lv, hlv⟩ : ∃ lv, vars.length = lv := ⟨_, rfl⟩
          obtain ⟨lv', hlv'⟩ : ∃ lv', vars'.length = lv' := ⟨_, rfl⟩
          have Hlv := Lib.hid hlv
          have Hlv' := Lib.hid hlv'
          rw [hlv] at HV HR1 HW2 hvl ⊢
          rw [hlv'] at HV' HR2 HW2 hvl' ⊢
          clear hlv hlv'
          go_enter Tryz.func12, Tryz.ntmps12
          go_upto_region 3 with (go_at_call 32; rw [← HW2.out]; (with_reducible refine Calls.mono (HL.out _ (HW.out.trans (HB.out.mono HW.out.size))) ?_); rintro e w3 ⟨rfl, hb3⟩; have Hb3 := Lib.hid hb3; clear hb3; obtain ⟨x0, x1, x2, x3, x4, x5, x6⟩ := box_cells (below_keeps Hb3.out HR1.out); obtain ⟨y0, y1, y2, y3, y4, y5, y6⟩ := box_cells (below_keeps Hb3.out HR2.out); dsimp only at x0 x1 x2 x3 x4 x5 x6 y0 y1 y2 y3 y4 y5 y6)
          have Hb13 : Hid (Below W.heap.size W w3) := Lib.hid (HB.out.trans (Hb3.out.mono HB.out.size))
          by_cases h17 : op = 17
          · have Hr : Hid (res = (name.toList == name'.toList)) := Lib.hid (by rw [Hs2.out, if_pos h17])
            subst h17
            go_wp2_with fail
            go_ret
            exact ⟨by rw [Hr.out]; rfl, Hb13.out⟩
          · by_cases h1 : op = 1
            · have Hr : Hid (res = (n.toList == n'.toList)) := Lib.hid (by rw [Hs2.out, if_neg h17, if_pos h1])
              subst h1
              go_wp2_with fail
              go_ret
              exact ⟨by rw [Hr.out]; rfl, Hb13.out⟩
            · by_cases h18 : op = 18
              · have Hr : Hid (res = (name.toList == name'.toList && sort == sort')) := Lib.hid (by rw [Hs2.out, if_neg h17, if_neg h1, if_pos h18])
                subst h18
                cases hnn : (name.toList == name'.toList) with
                | true =>
                  go_wp2_with fail
                  go_ret
                  exact ⟨by rw [Hr.out, hnn, Bool.true_and]; rfl, Hb13.out⟩
                | false =>
                  go_wp2_with fail
                  go_ret
                  exact ⟨by rw [Hr.out, hnn, Bool.false_and]; rfl, Hb13.out⟩
              · by_cases h19 : op = 19
                · have Hr : Hid (res = (decide (vars = vars') && rp)) := Lib.hid (by rw [Hs2.out, if_neg h17, if_neg h1, if_neg h18, if_pos h19])
                  subst h19
                  by_cases hne : lv = lv'
                  · subst hne
                    have Hrow1 := Lib.hid (below_keeps Hb3.out HR1.out)
                    have Hrow2 := Lib.hid (below_keeps Hb3.out HR2.out)
                    have Hf := Lib.hid (HV.out.below (HW.out.trans (Hb13.out.mono HW.out.size)))
                    have Hg := Lib.hid (HV'.out.below (HW.out.trans (Hb13.out.mono HW.out.size)))
                    go_wp2_with fail
                    go_loopw [5] (fun i wr => ∃ k : Nat, k ≤ lv ∧ i = .int .i64 k ∧ Hid (vars.take k = vars'.take k) ∧ Hid (Below w3.heap.size w3 wr)) (fun i _ => lv - (Go.RowKit.intOf i).toNat)
                    case atStart => exact ⟨0, by omega, rfl, Lib.hid rfl, Lib.hid (Below.refl _ _)⟩
                    case round =>
                      obtain ⟨k, hk, rfl, HE, HBr⟩ := hrel
                      clear x0 x1 x2 x3 x4 x5 x6 y0 y1 y2 y3 y4 y5 y6
                      obtain ⟨_, _, _, _, _, x5, x6⟩ := box_cells (below_keeps HBr.out Hrow1.out)
                      obtain ⟨_, _, _, _, _, y5, y6⟩ := box_cells (below_keeps HBr.out Hrow2.out)
                      dsimp only at x5 x6 y5 y6
                      by_cases hlt : k < lv
                      · have hkt : k < vars.length := by have := Hlv.out; omega
                        have hku : k < vars'.length := by have := Hlv'.out; omega
                        have ht := List.getElem?_eq_getElem hkt
                        have hu := List.getElem?_eq_getElem hku
                        have Hst : Hid (vars.take (k + 1) = vars.take k ++ [vars[k]] ∧ vars'.take (k + 1) = vars'.take k ++ [vars'[k]]) := Lib.hid (And.intro (List.take_succ_eq_append_getElem hkt) (List.take_succ_eq_append_getElem hku))
                        obtain ⟨b, o, rfl, e0, e1⟩ := (rowL Hlv.out (Hf.out.below HBr.out)).bound ht
                        obtain ⟨b2, o2, rfl, f0, f1⟩ := (rowL Hlv'.out (Hg.out.below HBr.out)).bound hu
                        have k1 : (0 : Int) ≤ (k : Int) := by omega
                        have k2 : (k : Int) < (lv : Int) := by omega
                        have Hend : Hid (¬ vars.take (k + 1) = vars'.take (k + 1) → vars ≠ vars') := Lib.hid (fun h e => h (by rw [e]))
                        generalize vars[k] = x at *
                        generalize vars'[k] = y at *
                        obtain ⟨z1, z2⟩ := x
                        obtain ⟨v1, v2⟩ := y
                        dsimp only at e0 e1 f0 f1
                        by_cases h1 : z1.toList = v1.toList
                        · by_cases h2 : z2 = v2
                          · have Hx : Hid ((z1, z2) = (v1, v2)) := Lib.hid (by rw [toList_inj h1, h2])
                            go_wp2_with fail
                            go_region
                            go_wp2_with fail
                            go_roundw
                            case rel => exact ⟨k + 1, by omega, by go_num, Lib.hid (by rw [Hst.out.1, Hst.out.2, HE.out, Hx.out]), Lib.hid HBr.out.drew⟩
                            case measure => simp [Go.RowKit.intOf]; omega
                          · have Hr2 : Hid (decide (vars = vars') = false) := Lib.hid (by
                              rw [decide_eq_false_iff_not]
                              refine Hend.out fun e => h2 ?_
                              rw [Hst.out.1, Hst.out.2, HE.out] at e
                              simp at e
                              exact e.2)
                            go_wp2_with fail
                            go_region
                            go_wp2_with fail
                            go_ret
                            exact ⟨by rw [Hr.out, Hr2.out]; rfl, Hb13.out.trans (HBr.out.drew.mono Hb13.out.size)⟩
                        · have Hr2 : Hid (decide (vars = vars') = false) := Lib.hid (by
                            rw [decide_eq_false_iff_not]
                            refine Hend.out fun e => h1 ?_
                            rw [Hst.out.1, Hst.out.2, HE.out] at e
                            simp at e
                            rw [e.1])
                          go_wp2_with fail
                          go_region
                          go_wp2_with fail
                          go_ret
                          exact ⟨by rw [Hr.out, Hr2.out]; rfl, Hb13.out.trans (HBr.out.drew.mono Hb13.out.size)⟩
                      · have hlt2 : ¬ (k : Int) < (lv : Int) := by omega
                        have Hr2 : Hid (decide (vars = vars') = true) := Lib.hid (by
                          have h := HE.out
                          have h1 := Hlv.out
                          have h2 := Hlv'.out
                          rw [List.take_of_length_le (by omega), List.take_of_length_le (by omega)] at h
                          exact decide_eq_true h)
                        have Hbw : Hid (Below W.heap.size W wr) := Lib.hid (Hb13.out.trans (HBr.out.mono Hb13.out.size))
                        go_wp2_with (go_at_call 32; (with_reducible refine Calls.mono (HP.out _ (HW.out.trans (Hbw.out.mono HW.out.size))) ?_); rintro e w5 ⟨rfl, hb5⟩; have Hb5 := Lib.hid (Hbw.out.trans (hb5.mono Hbw.out.size)); clear hb5)
                        go_ret
                        exact ⟨by rw [Hr.out, Hr2.out, Bool.true_and]; rfl, Hb5.out⟩
                  · have hn2 : ¬ (lv : Int) = (lv' : Int) := by omega
                    have Hr2 : Hid (decide (vars = vars') = false) := Lib.hid (by
                      rw [decide_eq_false_iff_not]
                      intro e
                      have h1 := Hlv.out
                      have h2 := Hlv'.out
                      rw [e] at h1
                      exact hne (by omega))
                    go_wp2_with fail
                    go_ret
                    exact ⟨by rw [Hr.out, Hr2.out, Bool.false_and]; rfl, Hb13.out⟩
                · have Hr : Hid (res = true) := Lib.hid (by rw [Hs2.out, if_neg h17, if_neg h1, if_neg h18, if_neg h19])
                  have b17 : (op == 17) = false := by simpa using h17
                  have b1 : (op == 1) = false := by simpa using h1
                  have b18 : (op == 18) = false := by simpa using h18
                  have b19 : (op == 19) = false := by simpa using h19
                  go_wp2_with fail
                  go_ret
                  exact ⟨by rw [Hr.out]; rfl, Hb13.out⟩
      · have Hr : Hid (res = false) := Lib.hid (by rw [Hs.out]; simp [hop])
        generalize vars.length = lv at *
        generalize vars'.length = lv' at *
        go_enter Tryz.func12, Tryz.ntmps12
        go_wp2_with fail
        go_ret
        exact ⟨by rw [Hr.out]; rfl, by have := HB.out; rwa [HW2.out] at this⟩
end Go.Proofs.YtlgbepamnkfpjaaGreatDoor

/- Ground, as the reference tells it; is a term one of a list? -/
set_option linter.unusedVariables false
set_option linter.unusedSimpArgs false
namespace Go.Proofs.YtlgbepamnkfpjaaGreatDoor
open Go.RowKit Go.Lib

theorem tgrounds_step (l : List Tm) (k : Nat) (t : Tm) (h : l[k]? = some t) : tgrounds (l.drop k) = (tground t && tgrounds (l.drop (k + 1))) := by
  obtain ⟨h1, h2⟩ := List.getElem?_eq_some_iff.1 h
  rw [List.drop_eq_getElem_cons h1, tgrounds, h2]

set_option maxRecDepth 100000 in
set_option maxHeartbeats 2000000 in
theorem GroundR_any {w0 : World} {t : Tm} {v : Value} (h : TmV w0 t v) : ∀ W, Below w0.heap.size w0 W → Calls Tryz.prog 30 #[v] W fun e w' => e = .returned (.bool (tground t)) ∧ Below W.heap.size W w' := by
  induction h with
  | @mk op name sort n l vars pat A V P ca cv cp f g hbd hl hf hL hv hV hp hg hP ihL _ =>
    intro W hW
    have Hf := Lib.hid hf
    have HL := Lib.hid hL
    have Hih := Lib.hid ihL
    have HW := Lib.hid hW
    have hlen := hbd.l
    have Hrow := Lib.hid (boxT_row W ⟨op, name, sort, n, A, l.length, ca, V, vars.length, cv, P, pat.length, cp⟩)
    have HB : Hid (Below W.heap.size W (boxT W ⟨op, name, sort, n, A, l.length, ca, V, vars.length, cv, P, pat.length, cp⟩)) := Lib.hid (below_boxT _ _)
    obtain ⟨x0, x1, x2, x3, x4, x5, x6⟩ := box_cells Hrow.out
    dsimp only at x0 x1 x2 x3 x4 x5 x6
    unfold boxT at x0 x1 x2 x3 x4 x5 x6
    dsimp only at x0 x1 x2 x3 x4 x5 x6
    clear hf hL ihL hW hbd hV hg hP hl hv hp
    by_cases h18 : op = 18
    · have Hr : Hid (tground (.mk op name sort n l vars pat) = false) := Lib.hid (by simp [tground, h18])
      subst h18
      go_enter Tryz.func30, Tryz.ntmps30
      go_wp2_with fail
      go_ret
      exact ⟨by rw [Hr.out]; rfl, HB.out⟩
    by_cases h19 : op = 19
    · have Hr : Hid (tground (.mk op name sort n l vars pat) = false) := Lib.hid (by simp [tground, h19])
      subst h19
      go_enter Tryz.func30, Tryz.ntmps30
      go_wp2_with fail
      go_ret
      exact ⟨by rw [Hr.out]; rfl, HB.out⟩
    have Hr : Hid (tground (.mk op name sort n l vars pat) = tgrounds l) := Lib.hid (by simp [tground, h18, h19])
    have b18 : (op == 18) = false := by simpa using h18
    have b19 : (op == 19) = false := by simpa using h19
    go_enter Tryz.func30, Tryz.ntmps30
    go_wp2_with fail
    · go_loopw [3] (fun i wr => ∃ k : Nat, k ≤ l.length ∧ i = .int .i64 k ∧ Hid (tgrounds l = tgrounds (l.drop k)) ∧ Hid (Below (W.heap.size + 1) (boxT W ⟨op, name, sort, n, A, l.length, ca, V, vars.length, cv, P, pat.length, cp⟩) wr)) (fun i _ => l.length - (Go.RowKit.intOf i).toNat)
      case atStart => exact ⟨0, by omega, rfl, Lib.hid rfl, Lib.hid (Below.refl _ _)⟩
      case round =>
        obtain ⟨k, hk, rfl, HE, HBr⟩ := hrel
        clear x0 x1 x2 x3 x4 x5 x6
        have Hbw : Hid (Below W.heap.size W wr) := Lib.hid (HB.out.trans (HBr.out.mono (by omega)))
        have hrow2 := below_keeps (by rw [boxT_size]; exact HBr.out) Hrow.out
        obtain ⟨x0, x1, x2, x3, x4, x5, x6⟩ := box_cells hrow2
        dsimp only at x0 x1 x2 x3 x4 x5 x6
        clear hrow2
        by_cases hlt : k < l.length
        · have Ht : Hid (l[k]? = some l[k]) := Lib.hid (List.getElem?_eq_getElem hlt)
          have HE2 := Lib.hid (tgrounds_step l k _ Ht.out)
          have Hv := Lib.hid (HL.out k _ Ht.out)
          obtain ⟨p, hp⟩ := Hv.out.parts
          have Hp := Lib.hid hp
          have hwr0 : Below w0.heap.size w0 wr := HW.out.trans (Hbw.out.mono HW.out.size)
          obtain ⟨b, o, rfl, e0, e1, e2, e3, e4, e5, e6⟩ := (Hf.out.below hwr0).get hlt hp
          have Hc : Hid (Calls Tryz.prog 30 #[.agg #[.int .i64 p.op, .string p.name, .int .i64 p.sort, .string p.n, .slice p.A p.la p.ca, .slice p.V p.lv p.cv, .slice p.P p.lp p.cp]] wr fun e w'' => e = .returned (.bool (tground l[k])) ∧ Below wr.heap.size wr w'') := Lib.hid (by
            have h := Hih.out k _ Ht.out wr hwr0
            rw [Hp.out] at h
            exact h)
          have k1 : (0 : Int) ≤ (k : Int) := by omega
          have k2 : (k : Int) < (l.length : Int) := by omega
          clear hp hwr0 Ht Hv Hp
          generalize tground l[k] = r at *
          cases r
          all_goals go_wp2_with (go_at_call 30; (with_reducible refine Calls.mono Hc.out ?_); rintro e w3 ⟨rfl, hb3⟩; have Hb3 := Lib.hid hb3; clear hb3)
          · go_ret
            exact ⟨by rw [Hr.out, HE.out, HE2.out]; rfl, Hbw.out.trans (Hb3.out.mono Hbw.out.size)⟩
          
          · go_roundw
            case rel => exact ⟨k + 1, by omega, by go_num, Lib.hid (by rw [HE.out, HE2.out, Bool.true_and]), Lib.hid (HBr.out.trans (Hb3.out.mono (by have := HBr.out.size; rw [boxT_size] at this; omega)))⟩
            case measure => simp [Go.RowKit.intOf]; omega
        · have hlt2 : ¬ (k : Int) < (l.length : Int) := by omega
          have He : Hid (tgrounds l = true) := Lib.hid (by rw [HE.out, List.drop_eq_nil_of_le (by omega)]; rfl)
          go_wp2_with fail
          go_ret
          exact ⟨by rw [Hr.out, He.out]; rfl, Hbw.out⟩

/-- Is a term one of a list? -/
def inT (l : List Tm) (t : Tm) : Bool := l.any fun u => sameT u t
theorem inT_step (l : List Tm) (k : Nat) (u t : Tm) (h : l[k]? = some u) : inT (l.drop k) t = (sameT u t || inT (l.drop (k + 1)) t) := by
  obtain ⟨h1, h2⟩ := List.getElem?_eq_some_iff.1 h
  rw [List.drop_eq_getElem_cons h1, inT, List.any_cons, h2]
  rfl
set_option maxRecDepth 100000 in
set_option maxHeartbeats 2000000 in
theorem In_any {w0 : World} {l : List Tm} {A : Option Addr} {ca : Nat} {f : Nat → Value} (hf : RowCells w0 A 7 l.length f) (hL : ∀ (j : Nat) (t : Tm), l[j]? = some t → TmV w0 t (f j)) (hl : l.length ≤ 140737488355328) {t : Tm} {v : Value} (h : TmV w0 t v) (W : World) (hW : Below w0.heap.size w0 W) :
    Calls Tryz.prog 31 #[.slice A l.length ca, v] W fun e w' => e = .returned (.bool (inT l t)) ∧ Below W.heap.size W w' := by
  have Hf := Lib.hid hf
  have HL := Lib.hid hL
  have HW := Lib.hid hW
  have HT := Lib.hid h
  obtain ⟨q, hq⟩ := h.parts
  subst hq
  have HB : Hid (Below W.heap.size W (boxT W q)) := Lib.hid (below_boxT _ _)
  have Hrow := Lib.hid (boxT_row W q)
  clear hf hL hW h
  unfold Parts.arr
  go_enter Tryz.func31, Tryz.ntmps31
  go_wp2_with fail
  go_loopw [5] (fun i wr => ∃ k : Nat, k ≤ l.length ∧ i = .int .i64 k ∧ Hid (inT l t = inT (l.drop k) t) ∧ Hid (Below (W.heap.size + 1) (boxT W q) wr)) (fun i _ => l.length - (Go.RowKit.intOf i).toNat)
  case atStart => exact ⟨0, by omega, rfl, Lib.hid rfl, Lib.hid (Below.refl _ _)⟩
  case round =>
    obtain ⟨k, hk, rfl, HE, HBr⟩ := hrel
    have Hbw : Hid (Below W.heap.size W wr) := Lib.hid (HB.out.trans (HBr.out.mono (by omega)))
    have hrow2 := below_keeps (by rw [boxT_size]; exact HBr.out) Hrow.out
    obtain ⟨x0, x1, x2, x3, x4, x5, x6⟩ := box_cells hrow2
    clear hrow2
    by_cases hlt : k < l.length
    · have Ht : Hid (l[k]? = some l[k]) := Lib.hid (List.getElem?_eq_getElem hlt)
      have HE2 := Lib.hid (inT_step l k _ t Ht.out)
      have Hv := Lib.hid (HL.out k _ Ht.out)
      obtain ⟨p, hp⟩ := Hv.out.parts
      have Hp := Lib.hid hp
      have hwr0 : Below w0.heap.size w0 wr := HW.out.trans (Hbw.out.mono HW.out.size)
      have Hwr := Lib.hid hwr0
      obtain ⟨b, o, rfl, e0, e1, e2, e3, e4, e5, e6⟩ := (Hf.out.below hwr0).get hlt hp
      have Hc : Hid (∀ W2, Below w0.heap.size w0 W2 → Calls Tryz.prog 12 #[.agg #[.int .i64 p.op, .string p.name, .int .i64 p.sort, .string p.n, .slice p.A p.la p.ca, .slice p.V p.lv p.cv, .slice p.P p.lp p.cp], .agg #[.int .i64 q.op, .string q.name, .int .i64 q.sort, .string q.n, .slice q.A q.la q.ca, .slice q.V q.lv q.cv, .slice q.P q.lp q.cp]] W2 fun e w'' => e = .returned (.bool (sameT l[k] t)) ∧ Below W2.heap.size W2 w'') := Lib.hid (fun W2 h2 => by
        have h := same_any Hv.out _ _ HT.out W2 h2
        rw [Hp.out] at h
        exact h)
      have k1 : (0 : Int) ≤ (k : Int) := by omega
      have k2 : (k : Int) < (l.length : Int) := by omega
      clear hp hwr0 Ht Hv Hp
      generalize sameT l[k] t = r at *
      have SD : wr.drew.cell? ⟨b, o + k * 7, none⟩ = some (.int .i64 p.op) ∧ wr.drew.cell? ⟨b, o + k * 7 + 1, none⟩ = some (.string p.name) ∧ wr.drew.cell? ⟨b, o + k * 7 + 2, none⟩ = some (.int .i64 p.sort) ∧ wr.drew.cell? ⟨b, o + k * 7 + 3, none⟩ = some (.string p.n) ∧ wr.drew.cell? ⟨b, o + k * 7 + 4, none⟩ = some (.slice p.A p.la p.ca) ∧ wr.drew.cell? ⟨b, o + k * 7 + 5, none⟩ = some (.slice p.V p.lv p.cv) ∧ wr.drew.cell? ⟨b, o + k * 7 + 6, none⟩ = some (.slice p.P p.lp p.cp) ∧
        wr.drew.cell? ⟨W.heap.size, 0, none⟩ = some (.int .i64 q.op) ∧ wr.drew.cell? ⟨W.heap.size, 1, none⟩ = some (.string q.name) ∧ wr.drew.cell? ⟨W.heap.size, 2, none⟩ = some (.int .i64 q.sort) ∧ wr.drew.cell? ⟨W.heap.size, 3, none⟩ = some (.string q.n) ∧ wr.drew.cell? ⟨W.heap.size, 4, none⟩ = some (.slice q.A q.la q.ca) ∧ wr.drew.cell? ⟨W.heap.size, 5, none⟩ = some (.slice q.V q.lv q.cv) ∧ wr.drew.cell? ⟨W.heap.size, 6, none⟩ = some (.slice q.P q.lp q.cp) := ⟨e0, e1, e2, e3, e4, e5, e6, x0, x1, x2, x3, x4, x5, x6⟩
      have Hwd : Hid (Below wr.heap.size wr wr.drew) := Lib.hid (Below.refl wr.heap.size wr).drew
      cases r
      all_goals
        go_wp2_with fail
        go_region_held3 (fun w' => w'.cell? ⟨b, o + k * 7, none⟩ = some (.int .i64 p.op) ∧ w'.cell? ⟨b, o + k * 7 + 1, none⟩ = some (.string p.name) ∧ w'.cell? ⟨b, o + k * 7 + 2, none⟩ = some (.int .i64 p.sort) ∧ w'.cell? ⟨b, o + k * 7 + 3, none⟩ = some (.string p.n) ∧ w'.cell? ⟨b, o + k * 7 + 4, none⟩ = some (.slice p.A p.la p.ca) ∧ w'.cell? ⟨b, o + k * 7 + 5, none⟩ = some (.slice p.V p.lv p.cv) ∧ w'.cell? ⟨b, o + k * 7 + 6, none⟩ = some (.slice p.P p.lp p.cp) ∧
          w'.cell? ⟨W.heap.size, 0, none⟩ = some (.int .i64 q.op) ∧ w'.cell? ⟨W.heap.size, 1, none⟩ = some (.string q.name) ∧ w'.cell? ⟨W.heap.size, 2, none⟩ = some (.int .i64 q.sort) ∧ w'.cell? ⟨W.heap.size, 3, none⟩ = some (.string q.n) ∧ w'.cell? ⟨W.heap.size, 4, none⟩ = some (.slice q.A q.la q.ca) ∧ w'.cell? ⟨W.heap.size, 5, none⟩ = some (.slice q.V q.lv q.cv) ∧ w'.cell? ⟨W.heap.size, 6, none⟩ = some (.slice q.P q.lp q.cp))
          (first
            | (with_reducible exact SD)
            | (with_reducible exact S4))
          (first
            | (go_at_call 12; (with_reducible refine Calls.mono (Hc.out _ (Hwr.out.trans (Hwd.out.mono Hwr.out.size))) ?_); rintro e w3 ⟨rfl, hb3⟩
               have S4 := And.intro (keep_cell hb3 SD.1) (And.intro (keep_cell hb3 SD.2.1) (And.intro (keep_cell hb3 SD.2.2.1) (And.intro (keep_cell hb3 SD.2.2.2.1) (And.intro (keep_cell hb3 SD.2.2.2.2.1) (And.intro (keep_cell hb3 SD.2.2.2.2.2.1) (And.intro (keep_cell hb3 SD.2.2.2.2.2.2.1) (And.intro (keep_cell hb3 SD.2.2.2.2.2.2.2.1) (And.intro (keep_cell hb3 SD.2.2.2.2.2.2.2.2.1) (And.intro (keep_cell hb3 SD.2.2.2.2.2.2.2.2.2.1) (And.intro (keep_cell hb3 SD.2.2.2.2.2.2.2.2.2.2.1) (And.intro (keep_cell hb3 SD.2.2.2.2.2.2.2.2.2.2.2.1) (And.intro (keep_cell hb3 SD.2.2.2.2.2.2.2.2.2.2.2.2.1) (keep_cell hb3 SD.2.2.2.2.2.2.2.2.2.2.2.2.2)))))))))))))
               have Hb3 : Hid (Below wr.heap.size wr w3) := Lib.hid (Hwd.out.trans (hb3.mono Hwd.out.size))
               clear hb3))
        go_wp2_with fail
      rotate_left
      · go_ret
        exact ⟨by rw [HE.out, HE2.out]; rfl, Hbw.out.trans (Hb3.out.mono Hbw.out.size)⟩
      · go_roundw
        case rel => exact ⟨k + 1, by omega, by go_num, Lib.hid (by rw [HE.out, HE2.out, Bool.false_or]), Lib.hid (HBr.out.trans (Hb3.out.mono (by have := HBr.out.size; rw [boxT_size] at this; omega)))⟩
        case measure => simp [Go.RowKit.intOf]; omega
    · have hlt2 : ¬ (k : Int) < (l.length : Int) := by omega
      have Hr : Hid (inT l t = false) := Lib.hid (by rw [HE.out, List.drop_eq_nil_of_le (by omega)]; rfl)
      go_wp2_with fail
      go_ret
      exact ⟨by rw [Hr.out]; rfl, Hbw.out⟩
end Go.Proofs.YtlgbepamnkfpjaaGreatDoor

/- Apps, as the reference tells it. -/
set_option linter.unusedVariables false
set_option linter.unusedSimpArgs false
namespace Go.Proofs.YtlgbepamnkfpjaaGreatDoor
open Go.RowKit Go.Lib

def appsRAdd (out : List Tm) (t : Tm) (op : Int) : List Tm := if (op == 17 && tground t && !inT out t) = true then out ++ [t] else out
mutual
def appsR (out : List Tm) : Tm → List Tm
  | .mk op name s n l vars pat => if op = 19 then out else appsRAdd (appsRs out l) (.mk op name s n l vars pat) op
def appsRs (out : List Tm) : List Tm → List Tm
  | [] => out
  | t :: ts => appsRs (appsR out t) ts
end
theorem appsRs_append (out : List Tm) (a b : List Tm) : appsRs out (a ++ b) = appsRs (appsRs out a) b := by
  induction a generalizing out with
  | nil => rfl
  | cons t ts ih => simp only [List.cons_append, appsRs, ih]
theorem appsRs_take {l : List Tm} {k : Nat} (hk : k < l.length) (out : List Tm) : appsRs out (l.take (k + 1)) = appsR (appsRs out (l.take k)) l[k] := by
  have : l.take (k + 1) = l.take k ++ [l[k]] := by simp
  rw [this, appsRs_append]
  rfl
theorem appsRAdd_length (out : List Tm) (t : Tm) (op : Int) : (appsRAdd out t op).length ≤ out.length + 1 := by
  unfold appsRAdd
  split
  · simp
  · omega
mutual
theorem appsR_length (out : List Tm) : ∀ t : Tm, (appsR out t).length ≤ out.length + tsize t
  | .mk op name s n l vars pat => by
    simp only [appsR, tsize]
    split
    · omega
    · have h1 := appsRAdd_length (appsRs out l) (.mk op name s n l vars pat) op
      have h2 := appsRs_length out l
      omega
theorem appsRs_length (out : List Tm) : ∀ l : List Tm, (appsRs out l).length ≤ out.length + tsizes l
  | [] => by simp [appsRs, tsizes]
  | t :: ts => by
    simp only [appsRs, tsizes]
    have h1 := appsR_length out t
    have h2 := appsRs_length (appsR out t) ts
    omega
end
/-- A list of terms that came in, its row the calls' own. -/
structure RefL (w0 W : World) (out : List Tm) (A : Option Addr) (n c : Nat) (us : List Value) : Prop where
  len : us.length = n
  num : n = out.length
  own : W.ownsRow w0.heap.size 26 7 (.slice A n c) n (cellsOf us)
  seven : ∀ u ∈ us, u.cells.size = 7
  data : ∀ (j : Nat) (t : Tm), out[j]? = some t → TmV w0 t (us.getD j .nilFunc)
theorem RefL.nil (w0 W : World) : RefL w0 W [] none 0 0 [] := ⟨rfl, rfl, World.ownsRow_nil _ _ _ _, by simp, by simp⟩
theorem RefL.lt {w0 W : World} {out : List Tm} {A : Option Addr} {n c : Nat} {us : List Value} (h : RefL w0 W out A n c us) : ∀ g, (Value.slice A n c).ownBlock = some g → w0.heap.size ≤ g ∧ g < W.heap.size := fun g hg => by
  obtain ⟨h1, cur, hc⟩ := ownsRow_lt h.own g hg
  exact ⟨h1, (Array.getElem?_eq_some_iff.1 hc).1⟩
theorem RefL.below {w0 W w' : World} {out : List Tm} {A : Option Addr} {n c : Nat} {us : List Value} (h : RefL w0 W out A n c us) (hb : Below W.heap.size W w') : RefL w0 w' out A n c us :=
  ⟨h.len, h.num, ownsRow_same h.own fun g hg => hb.block g (h.lt g hg).2, h.seven, h.data⟩
theorem RefL.row {w0 W : World} {out : List Tm} {A : Option Addr} {n c : Nat} {us : List Value} (h : RefL w0 W out A n c us) : RowCells W A 7 out.length (fun j => us.getD j .nilFunc) := by
  have := (ownsRow_cells h.own h.seven h.len (by decide)).1
  rwa [h.num] at this
/-- All that stood stands, but the list's row. -/
structure WalkR (K : Nat) (w w' : World) (o o' : Option Nat) : Prop where
  below : Below K w w'
  keep : ∀ k, k < w.heap.size → o ≠ some k → w'.heap[k]? = w.heap[k]?
  own : o' = o ∨ ∀ k, o' = some k → w.heap.size ≤ k
theorem WalkR.refl (K : Nat) (w : World) (o : Option Nat) : WalkR K w w o o := ⟨Below.refl _ _, fun _ _ _ => rfl, .inl rfl⟩
theorem WalkR.trans {K : Nat} {a b c : World} {o1 o2 o3 : Option Nat} (h : WalkR K a b o1 o2) (k : WalkR K b c o2 o3) : WalkR K a c o1 o3 := by
  refine ⟨h.below.trans k.below, fun i hi ho => ?_, ?_⟩
  · have hb := h.below.size
    rw [k.keep i (by omega) ?_, h.keep i hi ho]
    intro e
    rcases h.own with e2 | e2
    · exact ho (e2 ▸ e)
    · have := e2 i e
      omega
  · rcases k.own with e | e
    · rcases h.own with e2 | e2
      · exact .inl (e.trans e2)
      · exact .inr fun i hi => e2 i (e ▸ hi)
    · exact .inr fun i hi => by have := e i hi; have := h.below.size; omega
theorem WalkR.low {K : Nat} {a b c : World} {o1 o2 : Option Nat} (h : WalkR K a b o1 o2) (hb : Below b.heap.size b c) (hc : K ≤ a.heap.size) : WalkR K a c o1 o2 :=
  ⟨h.below.trans (hb.mono (by have := h.below.size; omega)), fun i hi ho => by rw [hb.block i (by have := h.below.size; omega)]; exact h.keep i hi ho, h.own⟩
theorem WalkR.first {K : Nat} {a b c : World} {o1 o2 : Option Nat} (hb : Below a.heap.size a b) (h : WalkR K b c o1 o2) (hc : K ≤ a.heap.size) : WalkR K a c o1 o2 :=
  ⟨(hb.mono hc).trans h.below, fun i hi ho => by rw [h.keep i (by have := hb.size; omega) ho, hb.block i hi], h.own.imp id fun h2 i hi => by have := h2 i hi; have := hb.size; omega⟩
theorem RefL.append {w0 W w9 : World} {out : List Tm} {A : Option Addr} {n c g cap : Nat} {us : List Value} {t : Tm} {pp : Parts} (h : RefL w0 W out A n c us) (ht : TmV w0 t (.agg pp.arr)) (hW : Below w0.heap.size w0 W)
    (hq : w9.ownsRow w0.heap.size 26 7 (.slice (some ⟨g, 0, none⟩) (n + 1) cap) (n + 1) (cellsOf us ++ pp.arr.toList)) (hg : W.grownBy w9 (Value.slice A n c).ownBlock) (hat : (Value.slice A n c).ownBlock = some g ∨ g = W.heap.size) :
    RefL w0 w9 (out ++ [t]) (some ⟨g, 0, none⟩) (n + 1) cap (us ++ [.agg pp.arr]) ∧ WalkR w0.heap.size W w9 (Value.slice A n c).ownBlock (some g) := by
  refine ⟨⟨by simp [h.len], by simp [h.num], ?_, ?_, ?_⟩, ⟨⟨hg.os, hg.tape, hg.output, hg.size, fun k hk => ?_⟩, fun k hk ho => hg.block k hk (fun e => ho e.symm), ?_⟩⟩
  · have : cellsOf (us ++ [.agg pp.arr]) = cellsOf us ++ pp.arr.toList := by simp [cellsOf, Value.cells]
    rw [this]
    exact hq
  · intro u hu
    rcases List.mem_append.1 hu with hu | hu
    · exact h.seven u hu
    · simp only [List.mem_singleton] at hu
      subst hu
      rfl
  · intro j t2 ht2
    have hl : us.length = out.length := h.len.trans h.num
    by_cases hj : j < out.length
    · have e : (us ++ [Value.agg pp.arr]).getD j .nilFunc = us.getD j .nilFunc := by simp [List.getElem?_append_left (show j < us.length by omega)]
      rw [e]
      exact h.data j t2 (by rwa [List.getElem?_append_left hj] at ht2)
    · rw [List.getElem?_append_right (by omega)] at ht2
      have hj2 : j - out.length = 0 := by
        rcases Nat.eq_zero_or_pos (j - out.length) with h0 | h0
        · exact h0
        · rw [List.getElem?_eq_none (by simp; omega)] at ht2
          cases ht2
      have hj3 : j = us.length := by omega
      rw [hj2] at ht2
      cases ht2
      subst hj3
      simpa using ht
  · have h1 := hW.size
    refine hg.block k (by omega) fun e => ?_
    have := (h.lt k e.symm).1
    omega
  · rcases hat with e | e
    · exact .inl e.symm
    · exact .inr fun k hk => by cases hk; omega
def AppsRIs (w0 W : World) (out : List Tm) (o : Option Nat) (e : Ending) (w' : World) : Prop := ∃ A n c us, e = .returned (.slice A n c) ∧ RefL w0 w' out A n c us ∧ WalkR w0.heap.size W w' o (Value.slice A n c).ownBlock
def AppsROK (w0 : World) (t : Tm) (v : Value) : Prop := ∀ (W : World) (out : List Tm) (A : Option Addr) (n c : Nat) (us : List Value), Below w0.heap.size w0 W → RefL w0 W out A n c us → out.length + tsize t ≤ 1000000 → Calls Tryz.prog 11 #[v, .slice A n c] W (AppsRIs w0 W (appsR out t) (Value.slice A n c).ownBlock)
theorem info26 : (Tryz.prog.info? 26).map (fun i => (i.zero, i.size, i.bytes)) = some (some (.agg zeroP.arr), 7, 120) := by kernel_rfl
end Go.Proofs.YtlgbepamnkfpjaaGreatDoor

/- Apps, as the reference tells it: the walk. -/
set_option linter.unusedVariables false
set_option linter.unusedSimpArgs false
namespace Go.Proofs.YtlgbepamnkfpjaaGreatDoor
open Go.RowKit Go.Lib

set_option maxRecDepth 100000 in
set_option maxHeartbeats 4000000 in
theorem appsR_any {w0 : World} {t : Tm} {v : Value} (h : TmV w0 t v) : AppsROK w0 t v := by
  have hT := h
  induction h with
  | @mk op name sort n l vars pat A V P ca cv cp f g hbd hl hf hL hv hV hp hg hP ihL _ =>
    intro W out B nb cb us hW hR hlen
    have HT := Lib.hid hT
    have Hf := Lib.hid hf
    have HL := Lib.hid hL
    have Hih : Hid (∀ (j : Nat) (t : Tm), l[j]? = some t → AppsROK w0 t (f j)) := Lib.hid (fun j t h => ihL j t h (hL j t h))
    have HW := Lib.hid hW
    have HR := Lib.hid hR
    have hll := hbd.l
    have Hlen : Hid (out.length + (1 + tsizes l) ≤ 1000000) := Lib.hid (by simpa only [tsize] using hlen)
    have Hrow := Lib.hid (boxT_row W ⟨op, name, sort, n, A, l.length, ca, V, vars.length, cv, P, pat.length, cp⟩)
    have HB : Hid (Below W.heap.size W (boxT W ⟨op, name, sort, n, A, l.length, ca, V, vars.length, cv, P, pat.length, cp⟩)) := Lib.hid (below_boxT _ _)
    have Hos : Hid (∀ k, (Value.slice B nb cb).ownBlock = some k → k < W.heap.size) := Lib.hid (fun k hk => (hR.lt k hk).2)
    clear hf hL ihL hW hbd hV hg hP hl hv hp hR hT hlen
    by_cases h19 : op = 19
    · have Hr : Hid (appsR out (.mk op name sort n l vars pat) = out) := Lib.hid (by simp [appsR, h19])
      subst h19
      go_enter Tryz.func11, Tryz.ntmps11
      go_wp2_with fail
      go_ret
      rw [Hr.out]
      exact ⟨B, nb, cb, us, rfl, HR.out.below HB.out, WalkR.first HB.out (WalkR.refl _ _ _) HW.out.size⟩
    have b19 : (op == 19) = false := by simpa using h19
    have Hr0 : Hid (appsR out (.mk op name sort n l vars pat) = appsRAdd (appsRs out l) (.mk op name sort n l vars pat) op) := Lib.hid (by simp [appsR, h19])
    generalize hT : (Tm.mk op name sort n l vars pat) = T at *
    clear hT
    obtain ⟨x0, x1, x2, x3, x4, x5, x6⟩ := box_cells Hrow.out
    dsimp only at x0 x1 x2 x3 x4 x5 x6
    unfold boxT at x0 x1 x2 x3 x4 x5 x6
    dsimp only at x0 x1 x2 x3 x4 x5 x6
    go_enter Tryz.func11, Tryz.ntmps11
    go_wp2_with fail
    go_loopw [1, 5] (fun lv i wr => ∃ (k n2 c2 : Nat) (A2 : Option Addr) (us2 : List Value), k ≤ l.length ∧ i = .int .i64 k ∧ lv = .slice A2 n2 c2 ∧ Hid (RefL w0 wr (appsRs out (l.take k)) A2 n2 c2 us2) ∧ Hid (WalkR w0.heap.size (boxT W ⟨op, name, sort, n, A, l.length, ca, V, vars.length, cv, P, pat.length, cp⟩) wr (Value.slice B nb cb).ownBlock (Value.slice A2 n2 c2).ownBlock)) (fun _ i _ => l.length - (Go.RowKit.intOf i).toNat)
    case atStart => exact ⟨0, nb, cb, B, us, Nat.zero_le _, rfl, rfl, Lib.hid (HR.out.below HB.out), Lib.hid (WalkR.refl _ _ _)⟩
    case round =>
      obtain ⟨k, n2, c2, A2, us2, hk, rfl, rfl, HI, HWk⟩ := hrel
      clear x0 x1 x2 x3 x4 x5 x6
      have hrow2 := (HWk.out.keep W.heap.size (by rw [boxT_size]; omega) (fun e => by have := Hos.out _ e; omega)).trans Hrow.out
      have Hrow2 := Lib.hid hrow2
      obtain ⟨x0, x1, x2, x3, x4, x5, x6⟩ := box_cells hrow2
      dsimp only at x0 x1 x2 x3 x4 x5 x6
      clear hrow2
      have hwr0 : Below w0.heap.size w0 wr := HW.out.trans ((HB.out.mono HW.out.size).trans HWk.out.below)
      by_cases hlt : k < l.length
      · have Ht : Hid (l[k]? = some l[k]) := Lib.hid (List.getElem?_eq_getElem hlt)
        have Hst := Lib.hid (appsRs_take hlt out)
        obtain ⟨p, hp⟩ := (HL.out k _ Ht.out).parts
        obtain ⟨b, o, rfl, e0, e1, e2, e3, e4, e5, e6⟩ := (Hf.out.below hwr0).get hlt hp
        have Hc : Hid (Calls Tryz.prog 11 #[.agg #[.int .i64 p.op, .string p.name, .int .i64 p.sort, .string p.n, .slice p.A p.la p.ca, .slice p.V p.lv p.cv, .slice p.P p.lp p.cp], .slice A2 n2 c2] wr (AppsRIs w0 wr (appsR (appsRs out (l.take k)) l[k]) (Value.slice A2 n2 c2).ownBlock)) := Lib.hid (by
          have h := Hih.out k _ Ht.out wr (appsRs out (l.take k)) A2 n2 c2 us2 hwr0 HI.out (by
            have h1 := appsRs_length out (l.take k)
            have h2 := tsizes_take hlt
            have h3 := tsizes_le l (k + 1)
            have := Hlen.out
            omega)
          rw [hp] at h
          exact h)
        have k1 : (0 : Int) ≤ (k : Int) := by omega
        have k2 : (k : Int) < (l.length : Int) := by omega
        clear hp hwr0 Ht
        rw [← Hst.out] at Hc
        generalize l[k] = tk at *
        go_wp2_with (go_at_call 11; (with_reducible refine Calls.mono Hc.out ?_); rintro e w3 ⟨A3, n3, c3, us3, rfl, hr3, hw3⟩; have HR3 := Lib.hid hr3; have HW3 := Lib.hid hw3; clear hr3 hw3)
        go_roundw
        case rel => exact ⟨k + 1, n3, c3, A3, us3, by omega, by go_num, rfl, HR3, Lib.hid (HWk.out.trans HW3.out)⟩
        case measure => simp [Go.RowKit.intOf]; omega
      · have hlt2 : ¬ (k : Int) < (l.length : Int) := by omega
        obtain rfl : k = l.length := by omega
        rw [List.take_length] at HI
        have HE : Hid (WalkR w0.heap.size W wr (Value.slice B nb cb).ownBlock (Value.slice A2 n2 c2).ownBlock) := Lib.hid (WalkR.first HB.out HWk.out HW.out.size)
        have Hwr := Lib.hid hwr0
        clear hwr0
        by_cases h17 : op = 17
        · obtain ⟨gr, hgr⟩ : ∃ gr, tground T = gr := ⟨_, rfl⟩
          obtain ⟨it, hit⟩ : ∃ it, inT (appsRs out l) T = it := ⟨_, rfl⟩
          have Hr : Hid (appsR out T = if (gr && !it) = true then appsRs out l ++ [T] else appsRs out l) := Lib.hid (by rw [Hr0.out, appsRAdd, h17, hgr, hit]; rfl)
          have HG : Hid (Calls Tryz.prog 30 #[.agg #[.int .i64 op, .string name, .int .i64 sort, .string n, .slice A l.length ca, .slice V vars.length cv, .slice P pat.length cp]] wr fun e w' => e = .returned (.bool gr) ∧ Below wr.heap.size wr w') := Lib.hid (by
            have := GroundR_any HT.out wr Hwr.out
            rw [hgr] at this
            exact this)
          have HIn : Hid (∀ W2, Below wr.heap.size wr W2 → Calls Tryz.prog 31 #[.slice A2 n2 c2, .agg #[.int .i64 op, .string name, .int .i64 sort, .string n, .slice A l.length ca, .slice V vars.length cv, .slice P pat.length cp]] W2 fun e w' => e = .returned (.bool it) ∧ Below W2.heap.size W2 w') := Lib.hid (fun W2 h2 => by
            have h3 : Below w0.heap.size w0 W2 := Hwr.out.trans (h2.mono Hwr.out.size)
            have hR2 := HI.out.below h2
            have := In_any (ca := c2) hR2.row (fun j t ht => (hR2.data j t ht).mono h3) (by have := appsRs_length out l; have := Hlen.out; omega) (HT.out.mono h3) W2 (Below.refl _ _)
            rw [hit, ← hR2.num] at this
            exact this)
          subst h17
          clear Hr0 hgr hit b19 h19
          cases gr with
          | false =>
            go_wp2_with (go_at_call 30; (with_reducible refine Calls.mono HG.out ?_); rintro e w3 ⟨rfl, hb3⟩; have Hb3 := Lib.hid hb3; clear hb3)
            go_ret
            rw [Hr.out]
            exact ⟨A2, n2, c2, us2, rfl, HI.out.below Hb3.out, HE.out.low Hb3.out HW.out.size⟩
          | true =>
            cases it with
            | true =>
              go_wp2_with (first
                | (go_at_call 30; (with_reducible refine Calls.mono HG.out ?_); rintro e w3 ⟨rfl, hb3⟩; obtain ⟨y0, y1, y2, y3, y4, y5, y6⟩ := box_cells (below_keeps hb3 Hrow2.out); dsimp only at y0 y1 y2 y3 y4 y5 y6; have Hb3 := Lib.hid hb3; clear hb3)
                | (go_at_call 31; (with_reducible refine Calls.mono (HIn.out _ Hb3.out) ?_); rintro e w4 ⟨rfl, hb4⟩; have Hb4 := Lib.hid (Hb3.out.trans (hb4.mono Hb3.out.size)); clear hb4))
              go_ret
              rw [Hr.out]
              exact ⟨A2, n2, c2, us2, rfl, HI.out.below Hb4.out, HE.out.low Hb4.out HW.out.size⟩
            | false =>
              obtain ⟨i26, hi26, hz0, hz1, hz2⟩ := info_parts info26
              have hn2 : n2 ≤ 1000000 := by have := appsRs_length out l; have := Hlen.out; have := HI.out.num; omega
              go_wp2_with (first
                | (go_at_call 30; (with_reducible refine Calls.mono HG.out ?_); rintro e w3 ⟨rfl, hb3⟩; obtain ⟨y0, y1, y2, y3, y4, y5, y6⟩ := box_cells (below_keeps hb3 Hrow2.out); dsimp only at y0 y1 y2 y3 y4 y5 y6; have Hb3 := Lib.hid hb3; clear hb3)
                | (go_at_call 31; (with_reducible refine Calls.mono (HIn.out _ Hb3.out) ?_); rintro e w4 ⟨rfl, hb4⟩; have Hb4 := Lib.hid (Hb3.out.trans (hb4.mono Hb3.out.size)); obtain ⟨z0, z1, z2, z3, z4, z5, z6⟩ := box_cells (below_keeps hb4 (below_keeps Hb3.out Hrow2.out)); dsimp only at z0 z1 z2 z3 z4 z5 z6; have HA : Hid (Below wr.heap.size wr (w4.alloc (.cells (Parts.arr ⟨17, name, sort, n, A, l.length, ca, V, vars.length, cv, P, pat.length, cp⟩) 26))) := Lib.hid (Hb4.out.trans (((Below.refl _ _).alloc (Nat.le_refl _) _).mono Hb4.out.size)); have HU := Lib.hid (HI.out.below HA.out); clear hb4)
                | (at_builtin; refine wpList_append_one rfl (.tmp 37) (.tmp 39) 23 rfl w0.heap.size 26 i26 _ 7 120 Tryz.underlying23 hi26 hz0 hz1 hz2 rfl (by decide) (.slice A2 n2 c2) n2 (cellsOf us2) rfl HU.out.own ⟨w4.heap.size, 0, none⟩ 1 (Parts.arr ⟨17, name, sort, n, A, l.length, ca, V, vars.length, cv, P, pat.length, cp⟩) rfl rfl (heap_alloc_new w4 _) rfl rfl (Parts.one _) (by simp only [maxLen]; omega) (by omega) (Nat.le_trans Hwr.out.size HA.out.size) ?_; intro g9 cap9 w9 hq9 hg9 hat9; have HU9 := Lib.hid (HU.out.append HT.out (Hwr.out.trans (HA.out.mono Hwr.out.size)) hq9 hg9 hat9); clear hq9 hg9 hat9))
              go_ret
              rw [Hr.out]
              exact ⟨some ⟨g9, 0, none⟩, n2 + 1, cap9, _, rfl, HU9.out.1, (HE.out.low HA.out HW.out.size).trans HU9.out.2⟩
        · have b17 : (op == 17) = false := by simpa using h17
          have Hr : Hid (appsR out T = appsRs out l) := Lib.hid (by rw [Hr0.out, appsRAdd, b17]; rfl)
          go_wp2_with fail
          go_ret
          rw [Hr.out]
          exact ⟨A2, n2, c2, us2, rfl, HI.out, HE.out⟩
end Go.Proofs.YtlgbepamnkfpjaaGreatDoor
