/- How light terms are. -/
import Derived.Test.YtlgbepamnkfpjaaGreatDoorM28
set_option linter.unusedSimpArgs false
set_option linter.unusedVariables false
set_option linter.unusedVariables false
set_option linter.unusedSimpArgs false
namespace Go.Proofs.YtlgbepamnkfpjaaGreatDoor
open Go.RowKit Go.Lib

mutual
def wgt (most : Nat) : Tm → Nat → Nat
  | .mk _ name _ n l vars pat, deep => if 60 < deep then most + 1 else if 100 < name.size then most + 1 else if 500 < n.size then most + 1 else wgts most pat (deep + 1) (wgts most l (deep + 1) (1 + vars.length))
def wgts (most : Nat) : List Tm → Nat → Nat → Nat
  | [], _, acc => acc
  | t :: ts, deep, acc => if most < acc then acc else wgts most ts deep (acc + wgt most t deep)
end
theorem wgts_le {most deep B : Nat} : ∀ (l : List Tm) (acc : Nat), (∀ t ∈ l, wgt most t deep ≤ B) → acc ≤ most + B → wgts most l deep acc ≤ most + B
  | [], acc, _, h => by simpa [wgts] using h
  | t :: ts, acc, hl, h => by
    simp only [wgts]
    by_cases hc : most < acc
    · rw [if_pos hc]
      exact h
    · rw [if_neg hc]
      have := hl t (by simp)
      exact wgts_le ts _ (fun u hu => hl u (by simp [hu])) (by omega)
def wcap (most deep : Nat) : Nat := 140737488355330 + (62 - deep) * (most + 1)
theorem wcap_step {most deep : Nat} (h : deep ≤ 60) : most + wcap most (deep + 1) ≤ wcap most deep := by
  have e : 62 - deep = (62 - (deep + 1)) + 1 := by omega
  simp only [wcap]
  rw [e, Nat.add_mul]
  omega
theorem TmV.wgt_le {w : World} {t : Tm} {v : Value} (h : TmV w t v) {most : Nat} (hm : most ≤ 1000000) : ∀ deep, wgt most t deep ≤ wcap most deep := by
  induction h with
  | @mk op name sort n l vars pat A V P ca cv cp f g hbd hl hf hL hv hV hp hg hP ihL ihP =>
    intro deep
    have hvl := hbd.v
    have hcap : most + 1 ≤ wcap most deep := by simp only [wcap]; omega
    simp only [wgt]
    by_cases h1 : 60 < deep
    · rw [if_pos h1]; exact hcap
    · rw [if_neg h1]
      by_cases h2 : 100 < name.size
      · rw [if_pos h2]; exact hcap
      · rw [if_neg h2]
        by_cases h3 : 500 < n.size
        · rw [if_pos h3]; exact hcap
        · rw [if_neg h3]
          have hst := wcap_step (most := most) (show deep ≤ 60 by omega)
          refine Nat.le_trans (wgts_le pat _ (fun t ht => ?_) (wgts_le l _ (fun t ht => ?_) ?_)) hst
          · obtain ⟨j, hj, rfl⟩ := List.getElem_of_mem ht
            exact ihP j _ (List.getElem?_eq_getElem hj) _
          · obtain ⟨j, hj, rfl⟩ := List.getElem_of_mem ht
            exact ihL j _ (List.getElem?_eq_getElem hj) _
          · simp only [wcap]; omega
theorem wgts_drop {most deep : Nat} {l : List Tm} {k acc : Nat} (hk : k < l.length) (ha : acc ≤ most) : wgts most (l.drop k) deep acc = wgts most (l.drop (k + 1)) deep (acc + wgt most l[k] deep) := by
  rw [List.drop_eq_getElem_cons hk, wgts, if_neg (by omega)]
theorem wgts_end {most deep : Nat} {l : List Tm} {k acc : Nat} (h : ¬ (k < l.length ∧ acc ≤ most)) : wgts most (l.drop k) deep acc = acc := by
  by_cases hk : k < l.length
  · rw [List.drop_eq_getElem_cons hk, wgts, if_pos (by omega)]
  · rw [List.drop_eq_nil_of_le (by omega), wgts]
def WgtOK (w0 : World) (most : Nat) (t : Tm) (v : Value) : Prop := ∀ (deep : Nat), deep ≤ 61 → ∀ W, Below w0.heap.size w0 W → Calls Tryz.prog 20 #[v, .int .i64 deep, .int .i64 most] W fun e w' => e = .returned (.int .i64 (wgt most t deep)) ∧ Below W.heap.size W w'
theorem wcap_small {most deep : Nat} (hm : most ≤ 1000000) : wcap most deep ≤ 140737600000000 := by
  have h : (62 - deep) * (most + 1) ≤ 62 * 1000001 := Nat.mul_le_mul (by omega) (by omega)
  simp only [wcap]
  omega
set_option maxRecDepth 100000 in
set_option maxHeartbeats 4000000 in
theorem weight_any {w0 : World} {t : Tm} {v : Value} (h : TmV w0 t v) {most : Nat} (hm : most ≤ 1000000) : WgtOK w0 most t v := by
  induction h with
  | @mk op name sort n l vars pat A V P ca cv cp f g hbd hl hf hL hv hV hp hg hP ihL ihP =>
    intro deep hdeep W hW
    have hrow0 : Hid ((W.alloc (.cells (Parts.arr ⟨op, name, sort, n, A, l.length, ca, V, vars.length, cv, P, pat.length, cp⟩) 26)).heap[W.heap.size]? = some (.cells (Parts.arr ⟨op, name, sort, n, A, l.length, ca, V, vars.length, cv, P, pat.length, cp⟩) 26 (0, 0))) := Lib.hid (heap_alloc_new W _)
    have hb0 : Hid (Below W.heap.size W (W.alloc (.cells (Parts.arr ⟨op, name, sort, n, A, l.length, ca, V, vars.length, cv, P, pat.length, cp⟩) 26))) := Lib.hid ((Below.refl _ _).alloc (Nat.le_refl _) _)
    have HL := Lib.hid hL
    have HP := Lib.hid hP
    have Hf := Lib.hid hf
    have Hg := Lib.hid hg
    have Hih := Lib.hid ihL
    have HihP := Lib.hid ihP
    have HW := Lib.hid hW
    have hb1 := hbd.l
    have hb2 := hbd.v
    have hb3 := hbd.p
    have Hsm := Lib.hid (fun d => wcap_small (deep := d) hm)
    have Hm := Lib.hid hm
    clear hf ihL ihP hL hP hg hV hW hbd hl hv hp
    by_cases h1 : (60 : Int) < (deep : Int)
    · have Hr : Hid (wgt most (.mk op name sort n l vars pat) deep = most + 1) := Lib.hid (by simp only [wgt]; rw [if_pos (by omega)])
      go_enter Tryz.func20, Tryz.ntmps20
      go_wp2_with fail
      go_ret
      exact ⟨by rw [Hr.out]; rfl, hb0.out⟩
    · by_cases h2 : (100 : Int) < (name.size : Int)
      · have Hr : Hid (wgt most (.mk op name sort n l vars pat) deep = most + 1) := Lib.hid (by simp only [wgt]; rw [if_neg (by omega), if_pos (by omega)])
        go_enter Tryz.func20, Tryz.ntmps20
        go_wp2_with fail
        go_ret
        exact ⟨by rw [Hr.out]; rfl, hb0.out⟩
      · by_cases h3 : (500 : Int) < (n.size : Int)
        · have Hr : Hid (wgt most (.mk op name sort n l vars pat) deep = most + 1) := Lib.hid (by simp only [wgt]; rw [if_neg (by omega), if_neg (by omega), if_pos (by omega)])
          go_enter Tryz.func20, Tryz.ntmps20
          go_wp2_with fail
          go_ret
          exact ⟨by rw [Hr.out]; rfl, hb0.out⟩
        · have Hr : Hid (wgt most (.mk op name sort n l vars pat) deep = wgts most pat (deep + 1) (wgts most l (deep + 1) (1 + vars.length))) := Lib.hid (by simp only [wgt]; rw [if_neg (by omega), if_neg (by omega), if_neg (by omega)])
          have hd60 : deep ≤ 60 := by omega
          go_enter Tryz.func20, Tryz.ntmps20
          go_wp2_with fail
          go_loopw [7, 8] (fun nv i wr => ∃ k acc : Nat, k ≤ l.length ∧ nv = .int .i64 acc ∧ i = .int .i64 k ∧ acc ≤ 140737700000000 ∧ Hid (wgts most (l.drop k) (deep + 1) acc = wgts most l (deep + 1) (1 + vars.length)) ∧ Hid (wr.heap[W.heap.size]? = some (.cells (Parts.arr ⟨op, name, sort, n, A, l.length, ca, V, vars.length, cv, P, pat.length, cp⟩) 26 (0, 0))) ∧ Hid (Below W.heap.size W wr)) (fun _ i _ => l.length - (Go.RowKit.intOf i).toNat)
          case atStart => exact ⟨0, 1 + vars.length, by omega, by go_num, rfl, by omega, Lib.hid rfl, hrow0, hb0⟩
          case round =>
            obtain ⟨k, acc, hk, rfl, rfl, hacc, HE, HR, HB⟩ := hrel
            obtain ⟨c0, c1, c2, c3, c4, c5, c6⟩ := box_cells HR.out
            dsimp only at c0 c1 c2 c3 c4 c5 c6
            by_cases hlt : k < l.length ∧ acc ≤ most
            · obtain ⟨hk1, ha1⟩ := hlt
              have hk2 : (k : Int) < (l.length : Int) := by omega
              have ha2 : (acc : Int) ≤ (most : Int) := by omega
              have Ht : Hid (l[k]? = some l[k]) := Lib.hid (List.getElem?_eq_getElem hk1)
              have HE2 : Hid (wgts most (l.drop (k + 1)) (deep + 1) (acc + wgt most l[k] (deep + 1)) = wgts most (l.drop k) (deep + 1) acc) := Lib.hid (wgts_drop hk1 ha1).symm
              have Hv := Lib.hid (HL.out k _ Ht.out)
              obtain ⟨p, hp⟩ := Hv.out.parts
              have Hp := Lib.hid hp
              have hq := Nat.le_trans (Hv.out.wgt_le Hm.out (deep + 1)) (Hsm.out _)
              have hwr0 : Below w0.heap.size w0 wr := HW.out.trans (HB.out.mono HW.out.size)
              obtain ⟨b, o, rfl, e0, e1, e2, e3, e4, e5, e6⟩ := (Hf.out.below hwr0).get hk1 hp
              have Hc : Hid (Calls Tryz.prog 20 #[.agg #[.int .i64 p.op, .string p.name, .int .i64 p.sort, .string p.n, .slice p.A p.la p.ca, .slice p.V p.lv p.cv, .slice p.P p.lp p.cp], .int .i64 ((deep : Int) + 1), .int .i64 most] wr fun e w'' => e = .returned (.int .i64 (wgt most l[k] (deep + 1))) ∧ Below wr.heap.size wr w'') := Lib.hid (by
                have := Hih.out k _ Ht.out (deep + 1) (by omega) wr hwr0
                rw [Hp.out, show ((deep + 1 : Nat) : Int) = (deep : Int) + 1 from by omega] at this
                exact this)
              clear hp hwr0
              generalize wgt most l[k] (deep + 1) = q at *
              clear Hv Ht
              go_wp2_with (go_at_call 20; (with_reducible refine Calls.mono Hc.out ?_); rintro e w3 ⟨rfl, hb3⟩; have Hb3 := Lib.hid hb3; clear hb3)
              go_roundw
              case rel => exact ⟨k + 1, acc + q, by omega, by go_num, by go_num, by omega, Lib.hid (HE2.out.trans HE.out), Lib.hid (below_keeps Hb3.out HR.out), Lib.hid (HB.out.trans (Hb3.out.mono HB.out.size))⟩
              case measure => simp [Go.RowKit.intOf]; omega
            · have HX := Lib.hid ((wgts_end (deep := deep + 1) hlt).symm.trans HE.out)
              by_cases hk1 : k < l.length
              · have ha1 : ¬ acc ≤ most := fun h => hlt ⟨hk1, h⟩
                have hk2 : (k : Int) < (l.length : Int) := by omega
                have ha2 : ¬ (acc : Int) ≤ (most : Int) := by omega
                clear hlt hk1
                have HX1 := HX
                have hac1 := hacc
                rename World => wu
                go_wp2_with fail
                go_loopw [7, 9] (fun nv i wr => ∃ k acc2 : Nat, k ≤ pat.length ∧ nv = .int .i64 acc2 ∧ i = .int .i64 k ∧ acc2 ≤ 140737700000000 ∧ Hid (wgts most (pat.drop k) (deep + 1) acc2 = wgts most pat (deep + 1) acc) ∧ Hid (wr.heap[W.heap.size]? = some (.cells (Parts.arr ⟨op, name, sort, n, A, l.length, ca, V, vars.length, cv, P, pat.length, cp⟩) 26 (0, 0))) ∧ Hid (Below W.heap.size W wr)) (fun _ i _ => pat.length - (Go.RowKit.intOf i).toNat)
                case atStart => exact ⟨0, acc, by omega, rfl, rfl, by omega, Lib.hid rfl, HR, HB⟩
                case round =>
                  rename_i HR0 HB0 _
                  obtain ⟨k, acc, hk, rfl, rfl, hacc, HE, HR, HB⟩ := hrel
                  obtain ⟨c0, c1, c2, c3, c4, c5, c6⟩ := box_cells HR.out
                  dsimp only at c0 c1 c2 c3 c4 c5 c6
                  by_cases hlt : k < pat.length ∧ acc ≤ most
                  · obtain ⟨hk1, ha1⟩ := hlt
                    have hk2 : (k : Int) < (pat.length : Int) := by omega
                    have ha2 : (acc : Int) ≤ (most : Int) := by omega
                    have Ht : Hid (pat[k]? = some pat[k]) := Lib.hid (List.getElem?_eq_getElem hk1)
                    have HE2 : Hid (wgts most (pat.drop (k + 1)) (deep + 1) (acc + wgt most pat[k] (deep + 1)) = wgts most (pat.drop k) (deep + 1) acc) := Lib.hid (wgts_drop hk1 ha1).symm
                    have Hv := Lib.hid (HP.out k _ Ht.out)
                    obtain ⟨p, hp⟩ := Hv.out.parts
                    have Hp := Lib.hid hp
                    have hq := Nat.le_trans (Hv.out.wgt_le Hm.out (deep + 1)) (Hsm.out _)
                    have hwr0 : Below w0.heap.size w0 wr := HW.out.trans (HB.out.mono HW.out.size)
                    obtain ⟨b, o, rfl, e0, e1, e2, e3, e4, e5, e6⟩ := (Hg.out.below hwr0).get hk1 hp
                    have Hc : Hid (Calls Tryz.prog 20 #[.agg #[.int .i64 p.op, .string p.name, .int .i64 p.sort, .string p.n, .slice p.A p.la p.ca, .slice p.V p.lv p.cv, .slice p.P p.lp p.cp], .int .i64 ((deep : Int) + 1), .int .i64 most] wr fun e w'' => e = .returned (.int .i64 (wgt most pat[k] (deep + 1))) ∧ Below wr.heap.size wr w'') := Lib.hid (by
                      have := HihP.out k _ Ht.out (deep + 1) (by omega) wr hwr0
                      rw [Hp.out, show ((deep + 1 : Nat) : Int) = (deep : Int) + 1 from by omega] at this
                      exact this)
                    clear hp hwr0
                    generalize wgt most pat[k] (deep + 1) = q at *
                    clear Hv Ht
                    go_wp2_with (go_at_call 20; (with_reducible refine Calls.mono Hc.out ?_); rintro e w3 ⟨rfl, hb3⟩; have Hb3 := Lib.hid hb3; clear hb3)
                    go_roundw
                    case rel => exact ⟨k + 1, acc + q, by omega, by go_num, by go_num, by omega, Lib.hid (HE2.out.trans HE.out), Lib.hid (below_keeps Hb3.out HR.out), Lib.hid (HB.out.trans (Hb3.out.mono HB.out.size))⟩
                    case measure => simp [Go.RowKit.intOf]; omega
                  · have HX := Lib.hid ((wgts_end (deep := deep + 1) hlt).symm.trans HE.out)
                    by_cases hk1 : k < pat.length
                    · have ha1 : ¬ acc ≤ most := fun h => hlt ⟨hk1, h⟩
                      have hk2 : (k : Int) < (pat.length : Int) := by omega
                      have ha2 : ¬ (acc : Int) ≤ (most : Int) := by omega
                      go_wp2_with fail
                      go_ret
                      exact ⟨by rw [Hr.out, ← HX1.out, ← HX.out]; rfl, HB.out⟩
                    · have hk2 : ¬ (k : Int) < (pat.length : Int) := by omega
                      go_wp2_with fail
                      go_ret
                      exact ⟨by rw [Hr.out, ← HX1.out, ← HX.out]; rfl, HB.out⟩
              · have hk2 : ¬ (k : Int) < (l.length : Int) := by omega
                clear hlt hk1
                have HX1 := HX
                have hac1 := hacc
                rename World => wu
                go_wp2_with fail
                go_loopw [7, 9] (fun nv i wr => ∃ k acc2 : Nat, k ≤ pat.length ∧ nv = .int .i64 acc2 ∧ i = .int .i64 k ∧ acc2 ≤ 140737700000000 ∧ Hid (wgts most (pat.drop k) (deep + 1) acc2 = wgts most pat (deep + 1) acc) ∧ Hid (wr.heap[W.heap.size]? = some (.cells (Parts.arr ⟨op, name, sort, n, A, l.length, ca, V, vars.length, cv, P, pat.length, cp⟩) 26 (0, 0))) ∧ Hid (Below W.heap.size W wr)) (fun _ i _ => pat.length - (Go.RowKit.intOf i).toNat)
                case atStart => exact ⟨0, acc, by omega, rfl, rfl, by omega, Lib.hid rfl, HR, HB⟩
                case round =>
                  rename_i HR0 HB0 _
                  obtain ⟨k, acc, hk, rfl, rfl, hacc, HE, HR, HB⟩ := hrel
                  obtain ⟨c0, c1, c2, c3, c4, c5, c6⟩ := box_cells HR.out
                  dsimp only at c0 c1 c2 c3 c4 c5 c6
                  by_cases hlt : k < pat.length ∧ acc ≤ most
                  · obtain ⟨hk1, ha1⟩ := hlt
                    have hk2 : (k : Int) < (pat.length : Int) := by omega
                    have ha2 : (acc : Int) ≤ (most : Int) := by omega
                    have Ht : Hid (pat[k]? = some pat[k]) := Lib.hid (List.getElem?_eq_getElem hk1)
                    have HE2 : Hid (wgts most (pat.drop (k + 1)) (deep + 1) (acc + wgt most pat[k] (deep + 1)) = wgts most (pat.drop k) (deep + 1) acc) := Lib.hid (wgts_drop hk1 ha1).symm
                    have Hv := Lib.hid (HP.out k _ Ht.out)
                    obtain ⟨p, hp⟩ := Hv.out.parts
                    have Hp := Lib.hid hp
                    have hq := Nat.le_trans (Hv.out.wgt_le Hm.out (deep + 1)) (Hsm.out _)
                    have hwr0 : Below w0.heap.size w0 wr := HW.out.trans (HB.out.mono HW.out.size)
                    obtain ⟨b, o, rfl, e0, e1, e2, e3, e4, e5, e6⟩ := (Hg.out.below hwr0).get hk1 hp
                    have Hc : Hid (Calls Tryz.prog 20 #[.agg #[.int .i64 p.op, .string p.name, .int .i64 p.sort, .string p.n, .slice p.A p.la p.ca, .slice p.V p.lv p.cv, .slice p.P p.lp p.cp], .int .i64 ((deep : Int) + 1), .int .i64 most] wr fun e w'' => e = .returned (.int .i64 (wgt most pat[k] (deep + 1))) ∧ Below wr.heap.size wr w'') := Lib.hid (by
                      have := HihP.out k _ Ht.out (deep + 1) (by omega) wr hwr0
                      rw [Hp.out, show ((deep + 1 : Nat) : Int) = (deep : Int) + 1 from by omega] at this
                      exact this)
                    clear hp hwr0
                    generalize wgt most pat[k] (deep + 1) = q at *
                    clear Hv Ht
                    go_wp2_with (go_at_call 20; (with_reducible refine Calls.mono Hc.out ?_); rintro e w3 ⟨rfl, hb3⟩; have Hb3 := Lib.hid hb3; clear hb3)
                    go_roundw
                    case rel => exact ⟨k + 1, acc + q, by omega, by go_num, by go_num, by omega, Lib.hid (HE2.out.trans HE.out), Lib.hid (below_keeps Hb3.out HR.out), Lib.hid (HB.out.trans (Hb3.out.mono HB.out.size))⟩
                    case measure => simp [Go.RowKit.intOf]; omega
                  · have HX := Lib.hid ((wgts_end (deep := deep + 1) hlt).symm.trans HE.out)
                    by_cases hk1 : k < pat.length
                    · have ha1 : ¬ acc ≤ most := fun h => hlt ⟨hk1, h⟩
                      have hk2 : (k : Int) < (pat.length : Int) := by omega
                      have ha2 : ¬ (acc : Int) ≤ (most : Int) := by omega
                      go_wp2_with fail
                      go_ret
                      exact ⟨by rw [Hr.out, ← HX1.out, ← HX.out]; rfl, HB.out⟩
                    · have hk2 : ¬ (k : Int) < (pat.length : Int) := by omega
                      go_wp2_with fail
                      go_ret
                      exact ⟨by rw [Hr.out, ← HX1.out, ← HX.out]; rfl, HB.out⟩
end Go.Proofs.YtlgbepamnkfpjaaGreatDoor

/- Light: the walk; what a light term is. -/
set_option linter.unusedVariables false
set_option linter.unusedSimpArgs false
namespace Go.Proofs.YtlgbepamnkfpjaaGreatDoor
open Go.RowKit Go.Lib

def lightB (most : Nat) (l : List Tm) : Bool := decide (wgts most l 0 0 ≤ most)
mutual
def nmT : Tm → Bool
  | .mk _ name _ _ l _ pat => decide (name.size ≤ 100) && nmTs l && nmTs pat
def nmTs : List Tm → Bool
  | [] => true
  | t :: ts => nmT t && nmTs ts
end
theorem nmTs_mem {l : List Tm} {k : Nat} {t : Tm} (h : l[k]? = some t) (hs : nmTs l = true) : nmT t = true := by
  induction l generalizing k with
  | nil => simp at h
  | cons u l ih =>
    simp only [nmTs, Bool.and_eq_true] at hs
    cases k with
    | zero => simp at h; subst h; exact hs.1
    | succ k => exact ih (k := k) (by simpa using h) hs.2
mutual
theorem wgt_tw {most : Nat} : ∀ (t : Tm) (deep : Nat), wgt most t deep ≤ most → tw t ≤ wgt most t deep ∧ shortT t = true ∧ nmT t = true
  | .mk op name sort n l vars pat, deep, h => by
    simp only [wgt] at h ⊢
    by_cases h1 : 60 < deep
    · rw [if_pos h1] at h; omega
    · rw [if_neg h1] at h ⊢
      by_cases h2 : 100 < name.size
      · rw [if_pos h2] at h; omega
      · rw [if_neg h2] at h ⊢
        by_cases h3 : 500 < n.size
        · rw [if_pos h3] at h; omega
        · rw [if_neg h3] at h ⊢
          obtain ⟨a1, a2, a3⟩ := wgts_tw pat (deep + 1) _ h
          obtain ⟨b1, b2, b3⟩ := wgts_tw l (deep + 1) (1 + vars.length) (Nat.le_trans (Nat.le_add_right _ _) (Nat.le_trans a1 h))
          refine ⟨by simp only [tw]; omega, ?_, ?_⟩
          · simp only [shortT, a2, b2, Bool.and_true, decide_eq_true_eq]
            omega
          · simp only [nmT, a3, b3, Bool.and_true, Bool.and_eq_true, decide_eq_true_eq]
            omega
theorem wgts_tw {most : Nat} : ∀ (l : List Tm) (deep acc : Nat), wgts most l deep acc ≤ most → acc + tws l ≤ wgts most l deep acc ∧ shortTs l = true ∧ nmTs l = true
  | [], deep, acc, h => by simp [wgts, tws, shortTs, nmTs]
  | t :: ts, deep, acc, h => by
    simp only [wgts] at h ⊢
    by_cases hc : most < acc
    · rw [if_pos hc] at h; omega
    · rw [if_neg hc] at h ⊢
      obtain ⟨a1, a2, a3⟩ := wgts_tw ts deep _ h
      obtain ⟨b1, b2, b3⟩ := wgt_tw t deep (Nat.le_trans (Nat.le_trans (Nat.le_add_left _ acc) (Nat.le_add_right _ (tws ts))) (Nat.le_trans a1 h))
      refine ⟨by simp only [tws]; omega, by simp [shortTs, a2, b2], by simp [nmTs, a3, b3]⟩
end
theorem light_mem {most : Nat} {l : List Tm} (h : lightB most l = true) {t : Tm} (ht : t ∈ l) : tw t ≤ most ∧ shortT t = true ∧ nmT t = true := by
  unfold lightB at h
  have h0 := of_decide_eq_true h
  obtain ⟨h1, h2, h3⟩ := wgts_tw l 0 0 h0
  obtain ⟨j, hj, rfl⟩ := List.getElem_of_mem ht
  have e := List.getElem?_eq_getElem hj
  exact ⟨by have := tws_mem e; omega, shortTs_mem e h2, nmTs_mem e h3⟩
set_option maxRecDepth 100000 in
set_option maxHeartbeats 4000000 in
theorem light_any {w0 : World} {l : List Tm} {A : Option Addr} {c : Nat} {f : Nat → Value} (hf : RowCells w0 A 7 l.length f) (hL : ∀ (j : Nat) (t : Tm), l[j]? = some t → TmV w0 t (f j)) (hl : l.length ≤ 140737488355328) {most : Nat} (hm : most ≤ 1000000) (W : World) (hW : Below w0.heap.size w0 W) :
    Calls Tryz.prog 7 #[.slice A l.length c, .int .i64 most] W fun e w' => e = .returned (.bool (lightB most l)) ∧ Below W.heap.size W w' := by
  have HL := Lib.hid hL
  have Hf := Lib.hid hf
  have HW := Lib.hid hW
  have Hm := Lib.hid hm
  have Hsm := Lib.hid (fun d => wcap_small (deep := d) hm)
  clear hf hL hW
  go_enter Tryz.func7, Tryz.ntmps7
  go_wp2_with fail
  go_loopw [5, 6] (fun nv i wr => ∃ k acc : Nat, k ≤ l.length ∧ nv = .int .i64 acc ∧ i = .int .i64 k ∧ acc ≤ 140737700000000 ∧ Hid (wgts most (l.drop k) 0 acc = wgts most l 0 0) ∧ Hid (Below W.heap.size W wr)) (fun _ i _ => l.length - (Go.RowKit.intOf i).toNat)
  case atStart => exact ⟨0, 0, by omega, rfl, rfl, by omega, Lib.hid rfl, Lib.hid (Below.refl _ _)⟩
  case round =>
    obtain ⟨k, acc, hk, rfl, rfl, hacc, HE, HB⟩ := hrel
    by_cases hlt : k < l.length ∧ acc ≤ most
    · obtain ⟨hk1, ha1⟩ := hlt
      have hk2 : (k : Int) < (l.length : Int) := by omega
      have ha2 : (acc : Int) ≤ (most : Int) := by omega
      have Ht : Hid (l[k]? = some l[k]) := Lib.hid (List.getElem?_eq_getElem hk1)
      have HE2 : Hid (wgts most (l.drop (k + 1)) 0 (acc + wgt most l[k] 0) = wgts most (l.drop k) 0 acc) := Lib.hid (wgts_drop hk1 ha1).symm
      have Hv := Lib.hid (HL.out k _ Ht.out)
      obtain ⟨p, hp⟩ := Hv.out.parts
      have Hp := Lib.hid hp
      have hq := Nat.le_trans (Hv.out.wgt_le Hm.out 0) (Hsm.out _)
      have hwr0 : Below w0.heap.size w0 wr := HW.out.trans (HB.out.mono HW.out.size)
      obtain ⟨b, o, rfl, e0, e1, e2, e3, e4, e5, e6⟩ := (Hf.out.below hwr0).get hk1 hp
      have Hc : Hid (Calls Tryz.prog 20 #[.agg #[.int .i64 p.op, .string p.name, .int .i64 p.sort, .string p.n, .slice p.A p.la p.ca, .slice p.V p.lv p.cv, .slice p.P p.lp p.cp], .int .i64 0, .int .i64 most] wr fun e w'' => e = .returned (.int .i64 (wgt most l[k] 0)) ∧ Below wr.heap.size wr w'') := Lib.hid (by
        have := weight_any Hv.out Hm.out 0 (by omega) wr hwr0
        rw [Hp.out] at this
        exact this)
      clear hp hwr0
      generalize wgt most l[k] 0 = q at *
      clear Hv Ht
      go_wp2_with (go_at_call 20; (with_reducible refine Calls.mono Hc.out ?_); rintro e w3 ⟨rfl, hb3⟩; have Hb3 := Lib.hid hb3; clear hb3)
      go_roundw
      case rel => exact ⟨k + 1, acc + q, by omega, by go_num, by go_num, by omega, Lib.hid (HE2.out.trans HE.out), Lib.hid (HB.out.trans (Hb3.out.mono HB.out.size))⟩
      case measure => simp [Go.RowKit.intOf]; omega
    · have HX := Lib.hid ((wgts_end (deep := 0) hlt).symm.trans HE.out)
      have Hr : Hid (lightB most l = decide (acc ≤ most)) := Lib.hid (by unfold lightB; rw [← HX.out])
      by_cases hk1 : k < l.length
      · have ha1 : ¬ acc ≤ most := fun h => hlt ⟨hk1, h⟩
        have hk2 : (k : Int) < (l.length : Int) := by omega
        have ha2 : ¬ (acc : Int) ≤ (most : Int) := by omega
        have Hr2 : Hid (lightB most l = false) := Lib.hid (by rw [Hr.out]; simp; omega)
        clear hlt ha1
        go_wp2_with fail
        go_ret
        exact ⟨by rw [Hr2.out]; rfl, HB.out⟩
      · have hk2 : ¬ (k : Int) < (l.length : Int) := by omega
        clear hlt
        go_wp2_with fail
        go_ret
        exact ⟨by rw [Hr.out]; rfl, HB.out⟩
end Go.Proofs.YtlgbepamnkfpjaaGreatDoor
