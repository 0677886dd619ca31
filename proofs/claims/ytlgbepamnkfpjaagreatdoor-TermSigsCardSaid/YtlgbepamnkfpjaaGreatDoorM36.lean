/- Size and depth, as the reference tells them. -/
import Derived.Test.YtlgbepamnkfpjaaGreatDoorM34
set_option linter.unusedSimpArgs false
set_option linter.unusedVariables false
set_option linter.unusedVariables false
set_option linter.unusedSimpArgs false
namespace Go.Proofs.YtlgbepamnkfpjaaGreatDoor
open Go.RowKit Go.Lib

set_option maxRecDepth 100000 in
set_option maxHeartbeats 2000000 in
theorem SizeR_any {w0 : World} {t : Tm} {v : Value} (h : TmV w0 t v) (hs : tsize t ≤ 1000000) : ∀ W, Below w0.heap.size w0 W → Calls Tryz.prog 25 #[v] W fun e w' => e = .returned (.int .i64 (tsize t)) ∧ Below W.heap.size W w' := by
  induction h with
  | @mk op name sort n l vars pat A V P ca cv cp f g hbd hl hf hL hv hV hp hg hP ihL _ =>
    intro W hW
    have Hf := Lib.hid hf
    have HL := Lib.hid hL
    have Hih : Hid (∀ (j : Nat) (t : Tm), l[j]? = some t → tsize t ≤ 1000000 → ∀ W, Below w0.heap.size w0 W → Calls Tryz.prog 25 #[f j] W fun e w' => e = .returned (.int .i64 (tsize t)) ∧ Below W.heap.size W w') := Lib.hid (fun j t h => ihL j t h)
    have HW := Lib.hid hW
    simp only [tsize] at hs
    have hlen : l.length ≤ 1000000 := by
      have := length_tsizes l
      omega
    have Hrow := Lib.hid (boxT_row W ⟨op, name, sort, n, A, l.length, ca, V, vars.length, cv, P, pat.length, cp⟩)
    have HB : Hid (Below W.heap.size W (boxT W ⟨op, name, sort, n, A, l.length, ca, V, vars.length, cv, P, pat.length, cp⟩)) := Lib.hid (below_boxT _ _)
    have Hd : Hid (∀ k, tsizes (l.take k) ≤ 1000000) := Lib.hid (fun k => by
      have := tsizes_le l k
      omega)
    clear hf hL ihL hW hbd hV hg hP hl hv hp
    go_enter Tryz.func25, Tryz.ntmps25
    go_wp2_with fail
    go_loopw [3, 4] (fun v i wr => ∃ k : Nat, k ≤ l.length ∧ i = .int .i64 k ∧ v = .int .i64 (1 + tsizes (l.take k) : Nat) ∧ Hid (Below (W.heap.size + 1) (boxT W ⟨op, name, sort, n, A, l.length, ca, V, vars.length, cv, P, pat.length, cp⟩) wr)) (fun _ i _ => l.length - (Go.RowKit.intOf i).toNat)
    case atStart => exact ⟨0, by omega, rfl, by simp [tsizes], Lib.hid (Below.refl _ _)⟩
    case round =>
      obtain ⟨k, hk, rfl, rfl, HBr⟩ := hrel
      have hdk := Hd.out k
      have Hbw : Hid (Below W.heap.size W wr) := Lib.hid (HB.out.trans (HBr.out.mono (by omega)))
      have hrow2 := below_keeps (by rw [boxT_size]; exact HBr.out) Hrow.out
      obtain ⟨x0, x1, x2, x3, x4, x5, x6⟩ := box_cells hrow2
      dsimp only at x0 x1 x2 x3 x4 x5 x6
      clear hrow2
      by_cases hlt : k < l.length
      · have Ht : Hid (l[k]? = some l[k]) := Lib.hid (List.getElem?_eq_getElem hlt)
        have Hsz := Lib.hid (tsizes_take hlt)
        have hds := Hd.out (k + 1)
        rw [tsizes_take hlt] at hds
        have hts : tsize l[k] ≤ 1000000 := by
          have h1 := tsizes_take hlt
          have h2 := tsizes_le l (k + 1)
          omega
        have Hv := Lib.hid (HL.out k _ Ht.out)
        obtain ⟨p, hp⟩ := Hv.out.parts
        have Hp := Lib.hid hp
        have hwr0 : Below w0.heap.size w0 wr := HW.out.trans (Hbw.out.mono HW.out.size)
        obtain ⟨b, o, rfl, e0, e1, e2, e3, e4, e5, e6⟩ := (Hf.out.below hwr0).get hlt hp
        have Hc : Hid (Calls Tryz.prog 25 #[.agg #[.int .i64 p.op, .string p.name, .int .i64 p.sort, .string p.n, .slice p.A p.la p.ca, .slice p.V p.lv p.cv, .slice p.P p.lp p.cp]] wr fun e w'' => e = .returned (.int .i64 (tsize l[k])) ∧ Below wr.heap.size wr w'') := Lib.hid (by
          have h := Hih.out k _ Ht.out hts wr hwr0
          rw [Hp.out] at h
          exact h)
        have k1 : (0 : Int) ≤ (k : Int) := by omega
        have k2 : (k : Int) < (l.length : Int) := by omega
        clear hp hwr0 Ht Hv Hp hts
        generalize tsize l[k] = d at *
        generalize tsizes (l.take k) = dk at *
        go_wp2_with (go_at_call 25; (with_reducible refine Calls.mono Hc.out ?_); rintro e w3 ⟨rfl, hb3⟩; have Hb3 := Lib.hid hb3; clear hb3)
        go_roundw
        case rel =>
          refine ⟨k + 1, by omega, by go_num, ?_, Lib.hid (HBr.out.trans (Hb3.out.mono (by have := HBr.out.size; rw [boxT_size] at this; omega)))⟩
          rw [Hsz.out]
          exact congrArg (Value.int .i64) (by omega)
        case measure => simp [Go.RowKit.intOf]; omega
      · have hlt2 : ¬ (k : Int) < (l.length : Int) := by omega
        have hfull : tsizes (l.take k) = tsizes l := by rw [List.take_of_length_le (by omega)]
        rw [hfull] at hdk ⊢
        have Hfin : Hid (tsize (.mk op name sort n l vars pat) = 1 + tsizes l) := Lib.hid (by simp only [tsize])
        generalize tsizes l = dl at *
        go_wp2_with fail
        go_ret
        exact ⟨by rw [Hfin.out]; exact congrArg (fun x : Int => Ending.returned (Value.int .i64 x)) (by omega), Hbw.out⟩

set_option maxRecDepth 100000 in
set_option maxHeartbeats 2000000 in
theorem DepthR_any {w0 : World} {t : Tm} {v : Value} (h : TmV w0 t v) (hs : tsize t ≤ 1000000) : ∀ W, Below w0.heap.size w0 W → Calls Tryz.prog 24 #[v] W fun e w' => e = .returned (.int .i64 (tdepth t)) ∧ Below W.heap.size W w' := by
  induction h with
  | @mk op name sort n l vars pat A V P ca cv cp f g hbd hl hf hL hv hV hp hg hP ihL _ =>
    intro W hW
    have Hf := Lib.hid hf
    have HL := Lib.hid hL
    have Hih : Hid (∀ (j : Nat) (t : Tm), l[j]? = some t → tsize t ≤ 1000000 → ∀ W, Below w0.heap.size w0 W → Calls Tryz.prog 24 #[f j] W fun e w' => e = .returned (.int .i64 (tdepth t)) ∧ Below W.heap.size W w') := Lib.hid (fun j t h => ihL j t h)
    have HW := Lib.hid hW
    simp only [tsize] at hs
    have hlen : l.length ≤ 1000000 := by
      have := length_tsizes l
      omega
    have Hrow := Lib.hid (boxT_row W ⟨op, name, sort, n, A, l.length, ca, V, vars.length, cv, P, pat.length, cp⟩)
    have HB : Hid (Below W.heap.size W (boxT W ⟨op, name, sort, n, A, l.length, ca, V, vars.length, cv, P, pat.length, cp⟩)) := Lib.hid (below_boxT _ _)
    have Hd : Hid (∀ k, tdepths (l.take k) ≤ 1000000) := Lib.hid (fun k => by
      have h1 : tdepth (.mk 0 name 0 n (l.take k) [] []) ≤ tsize (.mk 0 name 0 n (l.take k) [] []) := tdepth_le _
      have h2 := tsizes_le l k
      simp only [tdepth, tsize] at h1
      omega)
    clear hf hL ihL hW hbd hV hg hP hl hv hp
    go_enter Tryz.func24, Tryz.ntmps24
    go_wp2_with fail
    go_loopw [3, 4] (fun v i wr => ∃ k : Nat, k ≤ l.length ∧ i = .int .i64 k ∧ v = .int .i64 (tdepths (l.take k) : Nat) ∧ Hid (Below (W.heap.size + 1) (boxT W ⟨op, name, sort, n, A, l.length, ca, V, vars.length, cv, P, pat.length, cp⟩) wr)) (fun _ i _ => l.length - (Go.RowKit.intOf i).toNat)
    case atStart => exact ⟨0, by omega, rfl, by simp [tdepths], Lib.hid (Below.refl _ _)⟩
    case round =>
      obtain ⟨k, hk, rfl, rfl, HBr⟩ := hrel
      have hdk := Hd.out k
      have Hbw : Hid (Below W.heap.size W wr) := Lib.hid (HB.out.trans (HBr.out.mono (by omega)))
      have hrow2 := below_keeps (by rw [boxT_size]; exact HBr.out) Hrow.out
      obtain ⟨x0, x1, x2, x3, x4, x5, x6⟩ := box_cells hrow2
      dsimp only at x0 x1 x2 x3 x4 x5 x6
      clear hrow2
      by_cases hlt : k < l.length
      · have Ht : Hid (l[k]? = some l[k]) := Lib.hid (List.getElem?_eq_getElem hlt)
        have Hsz := Lib.hid (tdepths_take hlt)
        have hds := Hd.out (k + 1)
        rw [tdepths_take hlt] at hds
        have hts : tsize l[k] ≤ 1000000 := by
          have h1 := tsizes_take hlt
          have h2 := tsizes_le l (k + 1)
          omega
        have Hv := Lib.hid (HL.out k _ Ht.out)
        obtain ⟨p, hp⟩ := Hv.out.parts
        have Hp := Lib.hid hp
        have hwr0 : Below w0.heap.size w0 wr := HW.out.trans (Hbw.out.mono HW.out.size)
        obtain ⟨b, o, rfl, e0, e1, e2, e3, e4, e5, e6⟩ := (Hf.out.below hwr0).get hlt hp
        have Hc : Hid (Calls Tryz.prog 24 #[.agg #[.int .i64 p.op, .string p.name, .int .i64 p.sort, .string p.n, .slice p.A p.la p.ca, .slice p.V p.lv p.cv, .slice p.P p.lp p.cp]] wr fun e w'' => e = .returned (.int .i64 (tdepth l[k])) ∧ Below wr.heap.size wr w'') := Lib.hid (by
          have h := Hih.out k _ Ht.out hts wr hwr0
          rw [Hp.out] at h
          exact h)
        have k1 : (0 : Int) ≤ (k : Int) := by omega
        have k2 : (k : Int) < (l.length : Int) := by omega
        clear hp hwr0 Ht Hv Hp hts
        generalize tdepth l[k] = d at *
        generalize tdepths (l.take k) = dk at *
        go_wp2_with (go_at_call 24; (with_reducible refine Calls.mono Hc.out ?_); rintro e w3 ⟨rfl, hb3⟩; have Hb3 := Lib.hid hb3; clear hb3)
        go_roundw
        case rel =>
          refine ⟨k + 1, by omega, by go_num, ?_, Lib.hid (HBr.out.trans (Hb3.out.mono (by have := HBr.out.size; rw [boxT_size] at this; omega)))⟩
          rw [Hsz.out]
          refine congrArg (Value.int .i64) ?_
          first | omega | (split <;> omega)
        case measure => simp [Go.RowKit.intOf]; omega
      · have hlt2 : ¬ (k : Int) < (l.length : Int) := by omega
        have hfull : tdepths (l.take k) = tdepths l := by rw [List.take_of_length_le (by omega)]
        rw [hfull] at hdk ⊢
        have Hfin : Hid (tdepth (.mk op name sort n l vars pat) = tdepths l + 1) := Lib.hid (by simp only [tdepth])
        generalize tdepths l = dl at *
        go_wp2_with fail
        go_ret
        exact ⟨by rw [Hfin.out]; exact congrArg (fun x : Int => Ending.returned (Value.int .i64 x)) (by omega), Hbw.out⟩
end Go.Proofs.YtlgbepamnkfpjaaGreatDoor

/- known, has, Bare, as the reference tells them. -/
set_option linter.unusedVariables false
set_option linter.unusedSimpArgs false
namespace Go.Proofs.YtlgbepamnkfpjaaGreatDoor
open Go.RowKit Go.Lib

theorem knownR_any (k : Int) (w : World) (_ : i64 k) : Calls Tryz.prog 52 #[.int .i64 k] w fun e w' => e = .returned (.bool (sortB k)) ∧ w = w' := by
  by_cases h1 : 1 ≤ k
  · have Hr : Hid (sortB k = decide (k ≤ 3)) := Lib.hid (by unfold sortB; rw [decide_eq_true h1, Bool.true_and])
    go_enter Tryz.func52, Tryz.ntmps52
    go_wp2_with fail
    go_ret
    exact ⟨by rw [Hr.out]; rfl, rfl⟩
  · have Hr : Hid (sortB k = false) := Lib.hid (by unfold sortB; rw [decide_eq_false h1, Bool.false_and])
    go_enter Tryz.func52, Tryz.ntmps52
    go_wp2_with fail
    go_ret
    exact ⟨by rw [Hr.out]; rfl, rfl⟩
theorem hasS_append (a b : List ByteArray) (x : ByteArray) : hasS (a ++ b) x = (hasS a x || hasS b x) := by simp [hasS]
theorem has_step (x : ByteArray) (l : List Tm) (k : Nat) (t : Tm) (h : l[k]? = some t) : hasS (tnamess (l.drop k)) x = (hasS (tnames t) x || hasS (tnamess (l.drop (k + 1))) x) := by
  obtain ⟨h1, h2⟩ := List.getElem?_eq_some_iff.1 h
  rw [List.drop_eq_getElem_cons h1, tnamess, h2, hasS_append]
theorem tbares_step (l : List Tm) (k : Nat) (t : Tm) (h : l[k]? = some t) : tbares (l.drop k) = (tbare t && tbares (l.drop (k + 1))) := by
  obtain ⟨h1, h2⟩ := List.getElem?_eq_some_iff.1 h
  rw [List.drop_eq_getElem_cons h1, tbares, h2]
theorem beq_bytes (a b : ByteArray) : (a.toList == b.toList) = (b.toList == a.toList) := by
  rw [Bool.eq_iff_iff, beq_iff_eq, beq_iff_eq]
  exact eq_comm

set_option maxRecDepth 100000 in
set_option maxHeartbeats 2000000 in
theorem hasR_any {w0 : World} {t : Tm} {v : Value} (h : TmV w0 t v) (x : ByteArray) : ∀ W, Below w0.heap.size w0 W → Calls Tryz.prog 76 #[v, .string x] W fun e w' => e = .returned (.bool (hasS (tnames t) x)) ∧ Below W.heap.size W w' := by
  induction h with
  | @mk op name sort n l vars pat A V P ca cv cp f g hbd hl hf hL hv hV hp hg hP ihL _ =>
    intro W hW
    have Hf := Lib.hid hf
    have HL := Lib.hid hL
    have Hih := Lib.hid ihL
    have HW := Lib.hid hW
    have hlen := hbd.l
    have Hrow := Lib.hid (boxT_row W ⟨op, name, sort, n, A, l.length, ca, V, vars.length, cv, P, pat.length, cp⟩)
    have HB : Hid (Below W.heap.size W (boxT W ⟨op, name, sort, n, A, l.length, ca, V, vars.length, cv, P, pat.length, cp⟩)) := Lib.hid (below_boxT _ _)
    obtain ⟨x0, x1, x2, x3, x4, x5, x6⟩ := box_cells Hrow.out
    dsimp only at x0 x1 x2 x3 x4 x5 x6
    unfold boxT at x0 x1 x2 x3 x4 x5 x6
    dsimp only at x0 x1 x2 x3 x4 x5 x6
    obtain ⟨WB, hWB⟩ : ∃ WB, WB = boxT W ⟨op, name, sort, n, A, l.length, ca, V, vars.length, cv, P, pat.length, cp⟩ := ⟨_, rfl⟩
    have HWB := Lib.hid hWB
    have HS : Hid (WB.heap.size = W.heap.size + 1) := Lib.hid (by rw [hWB]; exact boxT_size _ _)
    rw [← hWB] at Hrow HB
    clear hWB
    clear hf hL ihL hW hbd hV hg hP hl hv hp
    have hq : op ≠ 18 ∨ (op = 18 ∧ (name.toList == x.toList) = false) ∨ (op = 18 ∧ (name.toList == x.toList) = true) := by
      by_cases h18 : op = 18
      · cases hn : (name.toList == x.toList) <;> simp [h18]
      · exact .inl h18
    rcases or_assoc.2 hq with hq | ⟨h18, hn⟩
    rotate_left
    · have Hr : Hid (hasS (tnames (.mk op name sort n l vars pat)) x = true) := Lib.hid (by simp only [tnames, h18, if_true, hasS_append]; simp [hasS, beq_bytes x name, hn])
      subst h18
      go_enter Tryz.func76, Tryz.ntmps76
      go_wp2_with fail
      go_ret
      exact ⟨by rw [Hr.out]; rfl, by have := HB.out; rwa [HWB.out] at this⟩
    have Hr : Hid (hasS (tnames (.mk op name sort n l vars pat)) x = hasS (tnamess l) x) := Lib.hid (by
      simp only [tnames, hasS_append]
      rcases hq with hq | ⟨hq, hn⟩
      · rw [if_neg hq]; rfl
      · rw [if_pos hq]; simp [hasS, beq_bytes x name, hn])
    have hq : (op == 18) = false ∨ (op = 18 ∧ (name.toList == x.toList) = false) := hq.imp (fun h => by simpa using h) id
    rcases hq with hq | ⟨rfl, hq⟩
    all_goals
      go_enter Tryz.func76, Tryz.ntmps76
      go_wp2_with fail
      go_loopw [5] (fun i wr => ∃ k : Nat, k ≤ l.length ∧ i = .int .i64 k ∧ Hid (hasS (tnamess l) x = hasS (tnamess (l.drop k)) x) ∧ Hid (Below (W.heap.size + 1) WB wr)) (fun i _ => l.length - (Go.RowKit.intOf i).toNat)
      case atStart => exact ⟨0, by omega, rfl, Lib.hid rfl, Lib.hid (by rw [HWB.out]; exact Below.refl _ _)⟩
      case round =>
        obtain ⟨k, hk, rfl, HE, HBr⟩ := hrel
        clear x0 x1 x2 x3 x4 x5 x6
        have Hbw : Hid (Below W.heap.size W wr) := Lib.hid (HB.out.trans (HBr.out.mono (by omega)))
        have hrow2 := below_keeps (by rw [HS.out]; exact HBr.out) Hrow.out
        obtain ⟨x0, x1, x2, x3, x4, x5, x6⟩ := box_cells hrow2
        dsimp only at x0 x1 x2 x3 x4 x5 x6
        clear hrow2
        by_cases hlt : k < l.length
        · have Ht : Hid (l[k]? = some l[k]) := Lib.hid (List.getElem?_eq_getElem hlt)
          have HE2 := Lib.hid (has_step x l k _ Ht.out)
          have Hv := Lib.hid (HL.out k _ Ht.out)
          obtain ⟨p, hp⟩ := Hv.out.parts
          have Hp := Lib.hid hp
          have hwr0 : Below w0.heap.size w0 wr := HW.out.trans (Hbw.out.mono HW.out.size)
          obtain ⟨b, o, rfl, e0, e1, e2, e3, e4, e5, e6⟩ := (Hf.out.below hwr0).get hlt hp
          have Hc : Hid (Calls Tryz.prog 76 #[.agg #[.int .i64 p.op, .string p.name, .int .i64 p.sort, .string p.n, .slice p.A p.la p.ca, .slice p.V p.lv p.cv, .slice p.P p.lp p.cp], .string x] wr fun e w'' => e = .returned (.bool (hasS (tnames l[k]) x)) ∧ Below wr.heap.size wr w'') := Lib.hid (by
            have h := Hih.out k _ Ht.out wr hwr0
            rw [Hp.out] at h
            exact h)
          have k1 : (0 : Int) ≤ (k : Int) := by omega
          have k2 : (k : Int) < (l.length : Int) := by omega
          clear hp hwr0 Ht Hv Hp
          generalize hasS (tnames l[k]) x = r at *
          cases r
          all_goals go_wp2_with (go_at_call 76; (with_reducible refine Calls.mono Hc.out ?_); rintro e w3 ⟨rfl, hb3⟩; have Hb3 := Lib.hid hb3; clear hb3)
          rotate_left
          · go_ret
            exact ⟨by rw [Hr.out, HE.out, HE2.out]; rfl, Hbw.out.trans (Hb3.out.mono Hbw.out.size)⟩
          · go_roundw
            case rel => exact ⟨k + 1, by omega, by go_num, Lib.hid (by rw [HE.out, HE2.out, Bool.false_or]), Lib.hid (HBr.out.trans (Hb3.out.mono (by have := HBr.out.size; rw [HS.out] at this; omega)))⟩
            case measure => simp [Go.RowKit.intOf]; omega
        · have hlt2 : ¬ (k : Int) < (l.length : Int) := by omega
          have He : Hid (hasS (tnamess l) x = false) := Lib.hid (by rw [HE.out, List.drop_eq_nil_of_le (by omega)]; rfl)
          go_wp2_with fail
          go_ret
          exact ⟨by rw [Hr.out, He.out]; rfl, Hbw.out⟩

set_option maxRecDepth 100000 in
set_option maxHeartbeats 2000000 in
theorem BareR_any {w0 : World} {t : Tm} {v : Value} (h : TmV w0 t v) : ∀ W, Below w0.heap.size w0 W → Calls Tryz.prog 54 #[v] W fun e w' => e = .returned (.bool (tbare t)) ∧ Below W.heap.size W w' := by
  induction h with
  | @mk op name sort n l vars pat A V P ca cv cp f g hbd hl hf hL hv hV hp hg hP ihL _ =>
    intro W hW
    have Hf := Lib.hid hf
    have HL := Lib.hid hL
    have Hih := Lib.hid ihL
    have HW := Lib.hid hW
    have hlen := hbd.l
    have Hrow := Lib.hid (boxT_row W ⟨op, name, sort, n, A, l.length, ca, V, vars.length, cv, P, pat.length, cp⟩)
    have HB : Hid (Below W.heap.size W (boxT W ⟨op, name, sort, n, A, l.length, ca, V, vars.length, cv, P, pat.length, cp⟩)) := Lib.hid (below_boxT _ _)
    obtain ⟨x0, x1, x2, x3, x4, x5, x6⟩ := box_cells Hrow.out
    dsimp only at x0 x1 x2 x3 x4 x5 x6
    unfold boxT at x0 x1 x2 x3 x4 x5 x6
    dsimp only at x0 x1 x2 x3 x4 x5 x6
    obtain ⟨WB, hWB⟩ : ∃ WB, WB = boxT W ⟨op, name, sort, n, A, l.length, ca, V, vars.length, cv, P, pat.length, cp⟩ := ⟨_, rfl⟩
    have HWB := Lib.hid hWB
    have HS : Hid (WB.heap.size = W.heap.size + 1) := Lib.hid (by rw [hWB]; exact boxT_size _ _)
    rw [← hWB] at Hrow HB
    clear hWB
    clear hf hL ihL hW hbd hV hg hP hl hv hp
    have hq : bareOp op = false ∨ (op = 17 ∨ op = 18 ∨ op = 1 ∨ op = 12 ∨ op = 13 ∨ op = 14 ∨ op = 15) := by
      cases hb : bareOp op
      · exact .inl rfl
      · refine .inr ?_
        simp only [bareOp, Bool.or_eq_true, beq_iff_eq] at hb
        omega
    rcases hq with hq | hq
    · have Hr : Hid (tbare (.mk op name sort n l vars pat) = false) := Lib.hid (by simp [tbare, hq])
      simp only [bareOp, Bool.or_eq_false_iff] at hq
      obtain ⟨⟨⟨⟨⟨⟨b1, b2⟩, b3⟩, b4⟩, b5⟩, b6⟩, b7⟩ := hq
      go_enter Tryz.func54, Tryz.ntmps54
      go_wp2_with fail
      go_ret
      exact ⟨by rw [Hr.out]; rfl, by have := HB.out; rwa [HWB.out] at this⟩
    have Hr : Hid (tbare (.mk op name sort n l vars pat) = tbares l) := Lib.hid (by rcases hq with rfl | rfl | rfl | rfl | rfl | rfl | rfl <;> simp [tbare, bareOp])
    rcases hq with rfl | rfl | rfl | rfl | rfl | rfl | rfl
    all_goals
      go_enter Tryz.func54, Tryz.ntmps54
      go_wp2_with fail
      go_loopw [3] (fun i wr => ∃ k : Nat, k ≤ l.length ∧ i = .int .i64 k ∧ Hid (tbares l = tbares (l.drop k)) ∧ Hid (Below (W.heap.size + 1) WB wr)) (fun i _ => l.length - (Go.RowKit.intOf i).toNat)
      case atStart => exact ⟨0, by omega, rfl, Lib.hid rfl, Lib.hid (by rw [HWB.out]; exact Below.refl _ _)⟩
      case round =>
        obtain ⟨k, hk, rfl, HE, HBr⟩ := hrel
        clear x0 x1 x2 x3 x4 x5 x6
        have Hbw : Hid (Below W.heap.size W wr) := Lib.hid (HB.out.trans (HBr.out.mono (by omega)))
        have hrow2 := below_keeps (by rw [HS.out]; exact HBr.out) Hrow.out
        obtain ⟨x0, x1, x2, x3, x4, x5, x6⟩ := box_cells hrow2
        dsimp only at x0 x1 x2 x3 x4 x5 x6
        clear hrow2
        by_cases hlt : k < l.length
        · have Ht : Hid (l[k]? = some l[k]) := Lib.hid (List.getElem?_eq_getElem hlt)
          have HE2 := Lib.hid (tbares_step l k _ Ht.out)
          have Hv := Lib.hid (HL.out k _ Ht.out)
          obtain ⟨p, hp⟩ := Hv.out.parts
          have Hp := Lib.hid hp
          have hwr0 : Below w0.heap.size w0 wr := HW.out.trans (Hbw.out.mono HW.out.size)
          obtain ⟨b, o, rfl, e0, e1, e2, e3, e4, e5, e6⟩ := (Hf.out.below hwr0).get hlt hp
          have Hc : Hid (Calls Tryz.prog 54 #[.agg #[.int .i64 p.op, .string p.name, .int .i64 p.sort, .string p.n, .slice p.A p.la p.ca, .slice p.V p.lv p.cv, .slice p.P p.lp p.cp]] wr fun e w'' => e = .returned (.bool (tbare l[k])) ∧ Below wr.heap.size wr w'') := Lib.hid (by
            have h := Hih.out k _ Ht.out wr hwr0
            rw [Hp.out] at h
            exact h)
          have k1 : (0 : Int) ≤ (k : Int) := by omega
          have k2 : (k : Int) < (l.length : Int) := by omega
          clear hp hwr0 Ht Hv Hp
          generalize tbare l[k] = r at *
          cases r
          all_goals go_wp2_with (go_at_call 54; (with_reducible refine Calls.mono Hc.out ?_); rintro e w3 ⟨rfl, hb3⟩; have Hb3 := Lib.hid hb3; clear hb3)
          · go_ret
            exact ⟨by rw [Hr.out, HE.out, HE2.out]; rfl, Hbw.out.trans (Hb3.out.mono Hbw.out.size)⟩
          
          · go_roundw
            case rel => exact ⟨k + 1, by omega, by go_num, Lib.hid (by rw [HE.out, HE2.out, Bool.true_and]), Lib.hid (HBr.out.trans (Hb3.out.mono (by have := HBr.out.size; rw [HS.out] at this; omega)))⟩
            case measure => simp [Go.RowKit.intOf]; omega
        · have hlt2 : ¬ (k : Int) < (l.length : Int) := by omega
          have He : Hid (tbares l = true) := Lib.hid (by rw [HE.out, List.drop_eq_nil_of_le (by omega)]; rfl)
          go_wp2_with fail
          go_ret
          exact ⟨by rw [Hr.out, He.out]; rfl, Hbw.out⟩
end Go.Proofs.YtlgbepamnkfpjaaGreatDoor

/- A sort is told just where no error is. -/
set_option linter.unusedVariables false
set_option linter.unusedSimpArgs false
namespace Go.Proofs.YtlgbepamnkfpjaaGreatDoor
open Go.RowKit Go.Lib

def okSort (x : Int) : Prop := 1 ≤ x ∧ x ≤ 3
theorem sortB_ok {k : Int} (h : sortB k = true) : okSort k := by
  simp only [sortB, Bool.and_eq_true, decide_eq_true_eq] at h
  exact h
theorem bindTo_sorts {vars : Bd} {n k : Nat} (h : bindTo vars n = true) (hk : k < n) {v : ByteArray × Int} (hv : vars[k]? = some v) : okSort v.2 := by
  induction n with
  | zero => omega
  | succ n ih =>
    simp only [bindTo, Bool.and_eq_true] at h
    by_cases e : k = n
    · subst e
      rw [hv] at h
      simp only [Bool.and_eq_true] at h
      exact sortB_ok h.2.1.2
    · exact ih h.1 (by omega)
theorem bindsB_sorts {vars : Bd} (h : bindsB vars = true) : ∀ v ∈ vars, okSort v.2 := by
  intro v hv
  obtain ⟨k, hk, e⟩ := List.getElem_of_mem hv
  simp only [bindsB, Bool.and_eq_true] at h
  exact bindTo_sorts h.2 hk (by rw [List.getElem?_eq_getElem hk, e])
theorem checkS_fail (sig : List Fn) (t : Tm) (bd : Bd) (h : (checkS sig t bd).2 ≠ 0) : (checkS sig t bd).1 = 0 := by
  cases t with
  | mk op name sort n l vars pat =>
    revert h
    simp only [checkS]
    repeat' split
    all_goals simp_all
theorem lastVar_mem {bd : Bd} {x : ByteArray} {v : ByteArray × Int} (h : lastVar bd x = some v) : v ∈ bd := by
  unfold lastVar at h
  simpa using List.mem_of_find?_eq_some h
theorem pick {a x : Int} (h : ((if a ≠ 0 then ((0 : Int), a) else (x, 0)) : Int × Int).2 = 0) : ((if a ≠ 0 then ((0 : Int), a) else (x, 0)) : Int × Int).1 = x := by
  split <;> simp_all
mutual
theorem checkS_sorts (sig : List Fn) : ∀ (t : Tm) (bd : Bd), (∀ v ∈ bd, okSort v.2) → (checkS sig t bd).2 = 0 → okSort (checkS sig t bd).1
  | .mk op name sort n l vars pat, bd, hbd, h => by
    have ih := checksS_sorts sig l (if op = 19 then bd ++ vars else bd)
    have hl := checksS_length sig (if op = 19 then bd ++ vars else bd) l
    simp only [checkS] at h ⊢
    by_cases h1 : shapeB (.mk op name sort n l vars pat) = false
    · rw [if_pos h1] at h; cases h
    · rw [if_neg h1] at h ⊢
      by_cases h2 : ofE sig op name sort l.length bd ≠ 0
      · rw [if_pos h2] at h; exact absurd h h2
      · rw [if_neg h2] at h ⊢
        by_cases h3 : (checksS sig l (if op = 19 then bd ++ vars else bd)).2 ≠ 0
        · rw [if_pos h3] at h; exact absurd h h3
        · rw [if_neg h3] at h ⊢
          have hl := hl (by simpa using h3)
          have ih := ih (by
            intro v hv
            by_cases h19 : op = 19
            · rw [if_pos h19] at hv
              rcases List.mem_append.1 hv with hv | hv
              · exact hbd v hv
              · simp only [shapeB, h19] at h1
                simp at h1
                exact bindsB_sorts h1.2.1 v hv
            · rw [if_neg h19] at hv
              exact hbd v hv) (by simpa using h3)
          generalize (checksS sig l (if op = 19 then bd ++ vars else bd)).1 = xs at *
          have h5 : (nodeS sig op name sort xs).2 = 0 := by
            by_cases h5 : (nodeS sig op name sort xs).2 = 0
            · exact h5
            · exfalso
              rw [if_neg (c := op = 19 ∧ _) (by intro e; exact h5 e.2), if_pos h5] at h
              exact h5 h
          rw [pick h]
          clear h h3
          revert h5
          unfold nodeS
          by_cases o1 : op = 1
          · rw [if_pos o1]; intro _; exact ⟨by decide, by decide⟩
          rw [if_neg o1]
          by_cases o2 : op = 2 ∨ op = 3
          · rw [if_pos o2]; intro _; exact ⟨by decide, by decide⟩
          rw [if_neg o2]
          by_cases o3 : op = 9
          · rw [if_pos o3]; unfold equalS; split
            · intro _; exact ⟨by decide, by decide⟩
            · intro h; cases h
          rw [if_neg o3]
          by_cases o4 : op = 10 ∨ op = 11
          · rw [if_pos o4]; unfold fixedS; split
            · intro _; exact ⟨by decide, by decide⟩
            · intro h; cases h
          rw [if_neg o4]
          by_cases o5 : op = 12 ∨ op = 13 ∨ op = 14 ∨ op = 15
          · rw [if_pos o5]; unfold fixedS; split
            · intro _; exact ⟨by decide, by decide⟩
            · intro h; cases h
          rw [if_neg o5]
          by_cases o6 : op = 16
          · rw [if_pos o6]; unfold iteS; split
            · intro _
              have h16 : l.length = 3 := by
                subst o6
                simp [shapeB] at h1
                omega
              have hm : xs.getD 1 0 ∈ xs := by
                rw [List.getD_eq_getElem?_getD, List.getElem?_eq_getElem (by omega)]
                simp
              exact ih _ hm
            · intro h; cases h
          rw [if_neg o6]
          by_cases o7 : op = 18
          · rw [if_pos o7]
            intro _
            subst o7
            simp only [ofE, if_true, varV] at h2
            cases hv : lastVar bd name with
            | none => rw [hv] at h2; simp at h2
            | some v =>
              rw [hv] at h2
              simp only at h2
              by_cases hs : v.2 = sort
              · rw [← hs]; exact hbd v (lastVar_mem hv)
              · rw [if_neg hs] at h2; simp at h2
          rw [if_neg o7]
          by_cases o8 : op = 17
          · rw [if_pos o8]
            cases hf : foundFn sig name with
            | none => intro h; cases h
            | some f =>
              simp only [funS]
              split
              · rename_i h; intro _; exact sortB_ok h.2
              · intro h; cases h
          rw [if_neg o8]
          unfold fixedS
          split
          · intro _; exact ⟨by decide, by decide⟩
          · intro h; cases h
theorem checksS_sorts (sig : List Fn) : ∀ (l : List Tm) (bd : Bd), (∀ v ∈ bd, okSort v.2) → (checksS sig l bd).2 = 0 → ∀ x ∈ (checksS sig l bd).1, okSort x
  | [], _, _, _ => by simp [checksS]
  | t :: ts, bd, hbd, h => by
    have h1 := checkS_sorts sig t bd hbd
    have h2 := checksS_sorts sig ts bd hbd
    simp only [checksS] at h ⊢
    by_cases e1 : (checkS sig t bd).2 = 0
    · rw [if_neg (by simpa using e1)] at h ⊢
      by_cases e2 : (checksS sig ts bd).2 = 0
      · rw [if_neg (by simpa using e2)]
        intro x hx
        rcases List.mem_cons.1 hx with rfl | hx
        · exact h1 e1
        · exact h2 e2 x hx
      · rw [if_pos e2] at h
        exact absurd h e2
    · rw [if_pos e1] at h
      exact absurd h e1
end
theorem checkTop_sort (sig : List Fn) (t : Tm) : ((checkTop sig t).2 == 0) = !((checkTop sig t).1 == 0) := by
  unfold checkTop
  split
  · rfl
  · split
    · rfl
    · by_cases h : (checkS sig t []).2 = 0
      · have := checkS_sorts sig t [] (by simp) h
        unfold okSort at this
        rw [h, beq_eq_false_iff_ne.2 (show (checkS sig t []).1 ≠ 0 by omega)]
        rfl
      · rw [checkS_fail sig t [] h, beq_eq_false_iff_ne.2 h]
        rfl
end Go.Proofs.YtlgbepamnkfpjaaGreatDoor

/- binds, as the reference tells it. -/
set_option linter.unusedVariables false
set_option linter.unusedSimpArgs false
namespace Go.Proofs.YtlgbepamnkfpjaaGreatDoor
open Go.RowKit Go.Lib

def bindR : Tm → Bool
  | .mk _ _ _ _ l vars pat => ((l.length : Int) == 1) && bindsB vars && decide (0 < pat.length)
theorem hasName_take {vars : Bd} {k j : Nat} {s : ByteArray} (hjk : j < k) (hk : k ≤ vars.length) (v : ByteArray × Int) (hv : vars[j]? = some v) : hasName (vars.take (j + 1)) s = (hasName (vars.take j) s || (v.1.toList == s.toList)) := by
  have hj : j < vars.length := by omega
  rw [List.getElem?_eq_getElem hj] at hv
  rw [List.take_succ_eq_append_getElem hj]
  simp [hasName, Option.some.inj hv]
theorem hasName_more {vars : Bd} {k j : Nat} {s : ByteArray} (hjk : j < k) (v : ByteArray × Int) (hv : vars[j]? = some v) (h : (v.1.toList == s.toList) = true) : hasName (vars.take k) s = true := by
  unfold hasName
  rw [List.any_eq_true]
  exact ⟨v, List.mem_of_getElem? (i := j) (by rw [List.getElem?_take, if_pos hjk]; exact hv), h⟩
set_option maxRecDepth 100000 in
set_option maxHeartbeats 4000000 in
theorem bindsR_any {w0 : World} {t : Tm} {v : Value} (h : TmV w0 t v) : ∀ W, Below w0.heap.size w0 W → Calls Tryz.prog 53 #[v] W fun e w' => e = .returned (.bool (bindR t)) ∧ Below W.heap.size W w' := by
  cases h with
  | @mk op name sort n l vars pat A V P ca cv cp f g hbd hl hf hL hv hV hp hg hP =>
    intro W hW
    have HW := Lib.hid hW
    have hlen := hbd.l
    have hvl := hbd.v
    have Hvs := Lib.hid hbd.vs
    have HV : Hid (RowCells w0 V 2 vars.length (bval vars)) := Lib.hid hV
    have Hrow := Lib.hid (boxT_row W ⟨op, name, sort, n, A, l.length, ca, V, vars.length, cv, P, pat.length, cp⟩)
    have HB : Hid (Below W.heap.size W (boxT W ⟨op, name, sort, n, A, l.length, ca, V, vars.length, cv, P, pat.length, cp⟩)) := Lib.hid (below_boxT _ _)
    have HD : Hid (bindR (.mk op name sort n l vars pat) = (((l.length : Int) == 1) && bindsB vars && decide (0 < pat.length))) := Lib.hid rfl
    have HDv : Hid (bindsB vars = (decide (0 < vars.length) && bindTo vars vars.length)) := Lib.hid rfl
    obtain ⟨x0, x1, x2, x3, x4, x5, x6⟩ := box_cells Hrow.out
    dsimp only at x0 x1 x2 x3 x4 x5 x6
    unfold boxT at x0 x1 x2 x3 x4 x5 x6
    dsimp only at x0 x1 x2 x3 x4 x5 x6
    obtain ⟨WB, hWB⟩ : ∃ WB, WB = boxT W ⟨op, name, sort, n, A, l.length, ca, V, vars.length, cv, P, pat.length, cp⟩ := ⟨_, rfl⟩
    have HWB := Lib.hid hWB
    have HS : Hid (WB.heap.size = W.heap.size + 1) := Lib.hid (by rw [hWB]; exact boxT_size _ _)
    rw [← hWB] at Hrow HB
    clear hWB
    clear hf hL hW hbd hV hg hP hl hv hp
    generalize bindR (.mk op name sort n l vars pat) = res at *
    generalize l.length = ll at *
    generalize pat.length = lp at *
    obtain ⟨lv, hlv⟩ : ∃ lv, vars.length = lv := ⟨_, rfl⟩
    have Hlv := Lib.hid hlv
    rw [hlv] at HV Hrow HWB hvl HDv x5 ⊢
    clear hlv
    by_cases h1 : ll = 1
    rotate_left
    · have Hr : Hid (res = false) := Lib.hid (by rw [HD.out, beq_eq_false_iff_ne.2 (by omega)]; rfl)
      have h1' : ((ll : Int) != 1) = true := by rw [bne_iff_ne]; omega
      go_enter Tryz.func53, Tryz.ntmps53
      go_wp2_with fail
      go_ret
      exact ⟨by rw [Hr.out]; rfl, by have := HB.out; rwa [HWB.out] at this⟩
    subst h1
    by_cases h2 : lv = 0
    · have Hr : Hid (res = false) := Lib.hid (by rw [HD.out, HDv.out, h2]; simp)
      subst h2
      go_enter Tryz.func53, Tryz.ntmps53
      go_wp2_with fail
      go_ret
      exact ⟨by rw [Hr.out]; rfl, by have := HB.out; rwa [HWB.out] at this⟩
    by_cases h3 : lp = 0
    · have Hr : Hid (res = false) := Lib.hid (by rw [HD.out, h3]; simp)
      have h2' : ((lv : Int) == 0) = false := beq_eq_false_iff_ne.2 (by omega)
      subst h3
      go_enter Tryz.func53, Tryz.ntmps53
      go_wp2_with fail
      go_ret
      exact ⟨by rw [Hr.out]; rfl, by have := HB.out; rwa [HWB.out] at this⟩
    have HD2 : Hid (res = bindTo vars lv) := Lib.hid (by rw [HD.out, HDv.out, decide_eq_true (show 0 < lv by omega), decide_eq_true (show 0 < lp by omega)]; simp)
    have h2' : ((lv : Int) == 0) = false := beq_eq_false_iff_ne.2 (by omega)
    have h3' : ((lp : Int) == 0) = false := beq_eq_false_iff_ne.2 (by omega)
    clear HD HDv
    go_enter Tryz.func53, Tryz.ntmps53
    go_wp2_with fail
    go_loopw [3] (fun i wr => ∃ k : Nat, k ≤ lv ∧ i = .int .i64 k ∧ Hid (bindTo vars k = true) ∧ Hid (Below (W.heap.size + 1) WB wr)) (fun i _ => lv - (Go.RowKit.intOf i).toNat)
    case atStart => exact ⟨0, by omega, rfl, Lib.hid rfl, Lib.hid (by rw [HWB.out]; exact Below.refl _ _)⟩
    case round =>
      obtain ⟨k, hk, rfl, Hno, HBr⟩ := hrel
      clear x0 x1 x2 x3 x4 x5 x6
      have Hbw : Hid (Below W.heap.size W wr) := Lib.hid (HB.out.trans (HBr.out.mono (by omega)))
      have hrow2 := below_keeps (by rw [HS.out]; exact HBr.out) Hrow.out
      obtain ⟨x0, x1, x2, x3, x4, x5, x6⟩ := box_cells hrow2
      dsimp only at x0 x1 x2 x3 x4 x5 x6
      clear hrow2
      by_cases hlt : k < lv
      · have hkt : k < vars.length := by have := Hlv.out; omega
        have hx := List.getElem?_eq_getElem hkt
        obtain ⟨b, o, rfl, e0, e1⟩ := (rowL Hlv.out (HV.out.below (HW.out.trans (Hbw.out.mono HW.out.size)))).bound hx
        have Hs2 : Hid (i64 vars[k].2) := Lib.hid (Hvs.out _ (List.getElem_mem hkt)).2
        have Hstep : Hid (bindTo vars (k + 1) = (nameB vars[k].1 && sortB vars[k].2 && !hasName (vars.take k) vars[k].1)) := Lib.hid (by
          rw [bindTo, Hno.out, hx, Bool.true_and])
        have Hx := Lib.hid hx
        have Hfalse : Hid (bindTo vars (k + 1) = false → res = false) := Lib.hid (fun h => by rw [HD2.out]; exact bindTo_false hlt h)
        have k1 : (0 : Int) ≤ (k : Int) := by omega
        have k2 : (k : Int) < (lv : Int) := by omega
        have Hg : Hid (∀ w3, Below wr.heap.size wr w3 → w3.heap[W.heap.size]? = some (.cells (Parts.arr ⟨op, name, sort, n, A, 1, ca, some ⟨b, o, none⟩, lv, cv, P, lp, cp⟩) 26 (0, 0)) ∧ RowCells w3 (some ⟨b, o, none⟩) 2 lv (bval vars)) := Lib.hid (fun w3 h3 => ⟨below_keeps (by rw [HS.out]; exact HBr.out.trans (h3.mono (by have := HBr.out.size; rw [HS.out] at this; exact this))) Hrow.out, HV.out.below (HW.out.trans ((Hbw.out.trans (h3.mono Hbw.out.size)).mono HW.out.size))⟩)
        clear hx
        generalize vars[k] = v at *
        obtain ⟨s, so⟩ := v
        dsimp only at e0 e1 Hs2 Hstep
        have Hnm : Hid (Calls Tryz.prog 48 #[.string s] wr fun e w' => e = .returned (.bool (nameB s)) ∧ Below wr.heap.size wr w') := Lib.hid (wordR_any s wr)
        cases hA : nameB s with
        | false =>
          have Hr : Hid (res = false) := Lib.hid (Hfalse.out (by rw [Hstep.out, hA]; rfl))
          rw [hA] at Hnm
          clear hA
          go_wp2_with (go_at_call 48; (with_reducible refine Calls.mono Hnm.out ?_); rintro e w3 ⟨rfl, hb3⟩; have Hb3 := Lib.hid hb3; clear hb3)
          go_ret
          exact ⟨by rw [Hr.out]; rfl, Hbw.out.trans (Hb3.out.mono Hbw.out.size)⟩
        | true =>
          rw [hA] at Hnm
          cases hB : sortB so with
          | false =>
            have Hr : Hid (res = false) := Lib.hid (Hfalse.out (by rw [Hstep.out, hA, hB]; rfl))
            have HB2 := Lib.hid hB
            clear hA hB
            clear x0 x1 x2 x3 x4 x6 
            go_wp2_with (first
              | (go_at_call 48; (with_reducible refine Calls.mono Hnm.out ?_); rintro e w3 ⟨rfl, hb3⟩; have Hb3 := Lib.hid hb3; obtain ⟨_, _, _, _, _, y5, _⟩ := box_cells (Hg.out _ hb3).1; obtain ⟨_, _, he, f0, f1⟩ := (rowL Hlv.out (Hg.out _ hb3).2).bound Hx.out; cases he; dsimp only at y5 f0 f1; clear hb3)
              | (go_at_call 52; refine (knownR_any so _ Hs2.out).mono ?_; rintro e w4 ⟨rfl, rfl⟩; rw [HB2.out]))
            go_ret
            exact ⟨by rw [Hr.out]; rfl, Hbw.out.trans (Hb3.out.mono Hbw.out.size)⟩
          | true =>
            have Hst2 : Hid (bindTo vars (k + 1) = !hasName (vars.take k) s) := Lib.hid (by rw [Hstep.out, hA, hB]; rfl)
            have HB2 := Lib.hid hB
            clear hA hB
            clear x0 x1 x2 x3 x4 x6
            go_wp2_with (first
              | (go_at_call 48; (with_reducible refine Calls.mono Hnm.out ?_); rintro e w3 ⟨rfl, hb3⟩; have Hb3 := Lib.hid hb3; obtain ⟨_, _, _, _, _, y5, _⟩ := box_cells (Hg.out _ hb3).1; obtain ⟨_, _, he, f0, f1⟩ := (rowL Hlv.out (Hg.out _ hb3).2).bound Hx.out; cases he; dsimp only at y5 f0 f1; clear hb3)
              | (go_at_call 52; refine (knownR_any so _ Hs2.out).mono ?_; rintro e w4 ⟨rfl, rfl⟩; rw [HB2.out]))
            go_loopw [4] (fun i wq => ∃ j : Nat, j ≤ k ∧ i = .int .i64 j ∧ Hid (hasName (vars.take j) s = false) ∧ Hid (Below wr.heap.size wr wq)) (fun i _ => k - (Go.RowKit.intOf i).toNat)
            case atStart => exact ⟨0, by omega, rfl, Lib.hid rfl, Lib.hid Hb3.out⟩
            case round =>
              obtain ⟨j, hj, rfl, Hnj, HBq⟩ := hrel
              clear y5 f0 f1 x5 e0 e1
              obtain ⟨_, _, _, _, _, y5, _⟩ := box_cells (Hg.out _ HBq.out).1
              obtain ⟨_, _, he, f0, f1⟩ := (rowL Hlv.out (Hg.out _ HBq.out).2).bound Hx.out
              cases he
              dsimp only at y5 f0 f1
              by_cases hjk : j < k
              · have hjt : j < vars.length := by have := Hlv.out; omega
                have hxj := List.getElem?_eq_getElem hjt
                obtain ⟨_, _, he, g0, g1⟩ := (rowL Hlv.out (Hg.out _ HBq.out).2).bound hxj
                cases he
                have Hn1 := Lib.hid (hasName_take (s := s) hjk (by omega) _ hxj)
                have Hn2 := Lib.hid (hasName_more (s := s) hjk _ hxj)
                have j1 : (0 : Int) ≤ (j : Int) := by omega
                have j2 : (j : Int) < (lv : Int) := by omega
                have j3 : (j : Int) < (k : Int) := by omega
                clear hxj
                generalize vars[j] = vj at *
                obtain ⟨sj, soj⟩ := vj
                dsimp only at g0 g1 Hn1 Hn2
                cases hq : (sj.toList == s.toList) with
                | true =>
                  have Hr : Hid (res = false) := Lib.hid (Hfalse.out (by rw [Hst2.out, Hn2.out hq]; rfl))
                  go_wp2_with fail
                  go_region
                  go_wp2_with fail
                  go_ret
                  exact ⟨by rw [Hr.out]; rfl, (Hbw.out.trans (HBq.out.mono Hbw.out.size)).drew⟩
                | false =>
                  have Hn3 : Hid (hasName (vars.take (j + 1)) s = false) := Lib.hid (by rw [Hn1.out, Hnj.out, hq]; rfl)
                  go_wp2_with fail
                  go_region
                  go_wp2_with fail
                  go_roundw
                  case rel => exact ⟨j + 1, by omega, by go_num, Hn3, Lib.hid HBq.out.drew⟩
                  case measure => simp [Go.RowKit.intOf]; omega
              · have hjk2 : ¬ (j : Int) < (k : Int) := by omega
                have Hr3 : Hid (bindTo vars (k + 1) = true) := Lib.hid (by rw [Hst2.out, show k = j by omega, Hnj.out]; rfl)
                go_wp2_with fail
                go_roundw
                case rel => exact ⟨k + 1, by omega, by go_num, Hr3, Lib.hid (HBr.out.trans (HBq.out.mono (by have := HBr.out.size; rw [HS.out] at this; omega)))⟩
                case measure => simp [Go.RowKit.intOf]; omega
      · have Hr : Hid (res = true) := Lib.hid (by rw [HD2.out, show lv = k by omega, Hno.out])
        have hlt2 : ¬ (k : Int) < (lv : Int) := by omega
        go_wp2_with fail
        go_ret
        exact ⟨by rw [Hr.out]; rfl, Hbw.out⟩
end Go.Proofs.YtlgbepamnkfpjaaGreatDoor

/- Right (the reference's numbers), names, Find. -/
set_option linter.unusedVariables false
set_option linter.unusedSimpArgs false
namespace Go.Proofs.YtlgbepamnkfpjaaGreatDoor
open Go.RowKit Go.Lib

theorem digsTo_all (s : ByteArray) (n : Nat) : digsTo s n = true ↔ ∀ m, m < n → digAt s m = true := by
  induction n with
  | zero => simp [digsTo]
  | succ n ih =>
    simp only [digsTo, Bool.and_eq_true, ih]
    constructor
    · intro h m hm
      by_cases e : m = n
      · subst e; exact h.2
      · exact h.1 m (by omega)
    · intro h
      exact ⟨fun m hm => h m (by omega), h n (by omega)⟩
theorem ext_size (s : ByteArray) : (s.extract 1 s.size).size = s.size - 1 := by simp
theorem ext_data (s : ByteArray) (m : Nat) (h : m + 1 < s.size) : (s.extract 1 s.size).data[m]? = s.data[m + 1]? := by
  have h' : m + 1 < s.data.size := h
  rw [ByteArray.data_extract, Array.getElem?_extract, if_pos (by have := s.size_data; omega), Nat.add_comm]
theorem ext_dig (s : ByteArray) (m : Nat) (h : m + 1 < s.size) : digAt (s.extract 1 s.size) m = digAt s (m + 1) := by
  unfold digAt
  rw [ext_data s m h]
/-- Where the digits begin. -/
def dOff (s : ByteArray) : Nat := if s.data[0]? == some 45 then 1 else 0
theorem right_short (s : ByteArray) (h : s.size = dOff s) : rightB s = false := by
  unfold dOff at h
  unfold rightB
  cases hn : (s.data[0]? == some 45) with
  | true =>
    rw [hn] at h
    simp only [if_true] at h ⊢
    rw [ext_size, h]
    rfl
  | false =>
    rw [hn] at h
    simp only [Bool.false_eq_true, if_false] at h ⊢
    rw [h]
    rfl
theorem right_zero (s : ByteArray) (h0 : dOff s < s.size) (hz : s.data[dOff s]? = some 48) (h : s.size > dOff s + 1 ∨ dOff s = 1) : rightB s = false := by
  unfold dOff at h hz h0
  unfold rightB
  cases hn : (s.data[0]? == some 45) with
  | true =>
    rw [hn] at hz h0
    simp only [if_true] at hz h0 ⊢
    rw [ext_data s 0 h0, hz]
    simp
  | false =>
    rw [hn] at h hz h0
    simp only [Bool.false_eq_true, if_false] at h hz h0 ⊢
    rw [hz]
    have : 1 < s.size := by omega
    simp [this]
theorem right_all (s : ByteArray) (h0 : dOff s < s.size) (hz : ¬ s.data[dOff s]? = some 48 ∨ (¬ s.size > dOff s + 1 ∧ ¬ dOff s = 1)) : rightB s = true ↔ ∀ m, dOff s ≤ m → m < s.size → digAt s m = true := by
  unfold dOff at hz h0 ⊢
  unfold rightB
  cases hn : (s.data[0]? == some 45) with
  | true =>
    rw [hn] at hz h0
    simp only [if_true] at hz h0 ⊢
    have hz1 : ¬ s.data[1]? = some 48 := by
      rcases hz with hz | hz
      · exact hz
      · exact absurd trivial hz.2
    rw [ext_data s 0 h0, ext_size, beq_eq_false_iff_ne.2 hz1, decide_eq_true (show 0 < s.size - 1 by omega)]
    simp only [Bool.false_and, Bool.not_false, Bool.true_and]
    rw [digsTo_all]
    constructor
    · intro h m h1 h2
      have := h (m - 1) (by omega)
      rw [ext_dig s _ (by omega)] at this
      rwa [show m - 1 + 1 = m by omega] at this
    · intro h m hm
      rw [ext_dig s m (by omega)]
      exact h (m + 1) (by omega) (by omega)
  | false =>
    rw [hn] at hz h0
    simp only [Bool.false_eq_true, if_false] at hz h0 ⊢
    rw [decide_eq_true h0]
    have hz2 : (s.data[0]? == some 48 && (decide (1 < s.size) || false)) = false := by
      rcases hz with hz | hz
      · rw [beq_eq_false_iff_ne.2 hz, Bool.false_and]
      · rw [decide_eq_false (show ¬ 1 < s.size by omega)]
        simp
    rw [hz2]
    simp only [Bool.not_false, Bool.true_and]
    rw [digsTo_all]
    constructor
    · intro h m _ h2
      exact h m h2
    · intro h m hm
      exact h m (by omega) hm
theorem dig_get (s : ByteArray) (k : Nat) (h : k < s.size) : digAt s k = digitB (s[k]'h).toNat := by
  unfold digAt
  rw [show s.data[k]? = some (s[k]'h) from Array.getElem?_eq_getElem h]
set_option maxRecDepth 100000 in
set_option maxHeartbeats 2000000 in
theorem RightR_any (s : ByteArray) (hs : s.size ≤ 140737488355328) (w : World) : Calls Tryz.prog 49 #[.string s] w fun e w' => e = .returned (.bool (rightB s)) ∧ Below w.heap.size w w' := by
  by_cases hz : 0 < s.size
  rotate_left
  · have Hr : Hid (rightB s = false) := Lib.hid (right_short s (by
      unfold dOff
      have : s.data[0]? = none := Array.getElem?_eq_none (by have := s.size_data; omega)
      rw [this]
      simp only [show ((none : Option UInt8) == some 45) = false from rfl, Bool.false_eq_true, if_false]
      omega))
    have h0 : s.size = 0 := by omega
    go_enter Tryz.func49, Tryz.ntmps49
    go_wp2_with fail
    go_ret
    exact ⟨by rw [Hr.out]; rfl, Below.refl _ _⟩
  have f45 := first_is s hz 45
  have f45 : (s.data[0]? == some 45) = (((s[0]'hz).toNat : Int) == 45) := f45
  obtain ⟨o, ho⟩ : ∃ o, o = dOff s := ⟨_, rfl⟩
  have hoc : (o = 1 ∧ (((s[0]'hz).toNat : Int) == 45) = true) ∨ (o = 0 ∧ (((s[0]'hz).toNat : Int) == 45) = false) := by
    rw [ho]
    unfold dOff
    rw [f45]
    cases hc : (((s[0]'hz).toNat : Int) == 45) with
    | true => exact .inl ⟨rfl, rfl⟩
    | false => exact .inr ⟨rfl, rfl⟩
  clear f45
  by_cases hsh : s.size = o
  · have Hr : Hid (rightB s = false) := Lib.hid (right_short s (by rw [hsh, ho]))
    clear ho
    rcases hoc with ⟨rfl, hc⟩ | ⟨rfl, hc⟩
    all_goals
      go_enter Tryz.func49, Tryz.ntmps49
      go_wp2_with fail
      go_ret
      exact ⟨by rw [Hr.out]; rfl, Below.refl _ _⟩
  have hos : o < s.size := by
    rcases hoc with ⟨rfl, _⟩ | ⟨rfl, _⟩ <;> omega
  have Hno : Hid (¬ (o : Int) = (s.size : Int)) := Lib.hid (by omega)
  have hget : s.data[dOff s]? = some (s[o]'hos) := by subst ho; exact Array.getElem?_eq_getElem hos
  have h48 : s.data[dOff s]? = some 48 ↔ (((s[o]'hos).toNat : Int) == 48) = true := by
    rw [hget, beq_iff_eq]
    constructor
    · intro e; rw [Option.some.inj e]; rfl
    · intro e
      have : (s[o]'hos).toNat = (48 : UInt8).toNat := by
        have : (48 : UInt8).toNat = 48 := rfl
        omega
      rw [UInt8.toNat_inj.1 this]
  by_cases hze : (((s[o]'hos).toNat : Int) == 48) = true ∧ (s.size > o + 1 ∨ o = 1)
  · have Hr : Hid (rightB s = false) := Lib.hid (right_zero s (by rw [← ho]; exact hos) (h48.2 hze.1) (by rw [← ho]; exact hze.2))
    clear ho hget h48
    rcases hoc with ⟨rfl, hc⟩ | ⟨rfl, hc⟩
    · obtain ⟨hz1, _⟩ := hze
      have hn : ((1 : Int) == (s.size : Int)) = false := beq_eq_false_iff_ne.2 (by omega)
      go_enter Tryz.func49, Tryz.ntmps49
      go_wp2_with fail
      all_goals (go_ret; exact ⟨by rw [Hr.out]; rfl, Below.refl _ _⟩)
    · obtain ⟨hz1, hz2⟩ := hze
      have hz2 : (0 : Int) + 1 < (s.size : Int) := by omega
      have hz3 : (1 : Int) < (s.size : Int) := by omega
      have hn : ((0 : Int) == (s.size : Int)) = false := beq_eq_false_iff_ne.2 (by omega)
      go_enter Tryz.func49, Tryz.ntmps49
      go_wp2_with fail
      go_ret
      exact ⟨by rw [Hr.out]; rfl, Below.refl _ _⟩
  · have Hall : Hid (rightB s = true ↔ ∀ m, o ≤ m → m < s.size → digAt s m = true) := Lib.hid (by
      rw [ho]
      refine right_all s (by rw [← ho]; exact hos) ?_
      rw [h48, ← ho]
      rcases Classical.not_and_iff_not_or_not.1 hze with h | h
      · exact .inl h
      · exact .inr (not_or.1 h))
    clear ho hget h48
    have hgo : ((((s[o]'hos).toNat : Int) == 48) = false) ∨ ((((s[o]'hos).toNat : Int) == 48) = true ∧ s.size = 1 ∧ o = 0) := by
      cases hc : (((s[o]'hos).toNat : Int) == 48) with
      | false => exact .inl rfl
      | true =>
        rw [hc] at hze
        simp only [true_and, not_or] at hze
        refine .inr ⟨rfl, ?_, ?_⟩ <;> rcases hoc with ⟨h, _⟩ | ⟨h, _⟩ <;> omega
    clear hze
    have hnn : ((o : Int) == (s.size : Int)) = false := beq_eq_false_iff_ne.2 (by omega)
    obtain ⟨q, hq⟩ : ∃ q, q = o := ⟨_, rfl⟩
    rw [← hq] at Hall
    have Hq := Lib.hid hq
    clear hq f45
    rcases hoc with ⟨rfl, hc⟩ | ⟨rfl, hc⟩
    all_goals rcases hgo with h48 | ⟨h48, h1, h0⟩
    any_goals (first | (cases h0; done) | skip)
    all_goals
        try clear h0
        try rw [show ((0 : Nat) : Int) = 0 from rfl] at hnn
        try rw [show ((1 : Nat) : Int) = 1 from rfl] at hnn
        try (have h1' : ¬ (1 : Int) < (s.size : Int) := by omega)
        try clear h1
        go_enter Tryz.func49, Tryz.ntmps49
        go_wp2_with fail
        go_loop [3] (fun i => ∃ j : Nat, j ≤ s.size ∧ q ≤ j ∧ i = .int .i64 j ∧ Hid (∀ m, q ≤ m → m < j → digAt s m = true)) (fun i => s.size - (Go.RowKit.intOf i).toNat)
        case atStart =>
          refine ⟨q, ?_, Nat.le_refl _, ?_, Lib.hid (fun m h1 h2 => by omega)⟩
          · have := Hq.out; omega
          · rw [Hq.out]; rfl
        case round =>
          obtain ⟨j, hj, hqj, rfl, HD⟩ := hrel
          clear hc h48
          by_cases hlt : j < s.size
          · have Hg := Lib.hid (dig_get s j hlt)
            by_cases hd : 48 ≤ (s[j]'hlt).toNat ∧ (s[j]'hlt).toNat ≤ 57
            · obtain ⟨d1, d2⟩ := hd
              have d1 : ¬ ((s[j]'hlt).toNat : Int) < 48 := by omega
              have d2 : ¬ (57 : Int) < ((s[j]'hlt).toNat : Int) := by omega
              have Hd : Hid (digAt s j = true) := Lib.hid (by rw [Hg.out]; simp [digitB]; omega)
              have hlti : (j : Int) < (s.size : Int) := by omega
              go_wp2_with fail
              go_round
              case rel =>
                exact ⟨j + 1, by omega, by omega, by go_num, Lib.hid (fun m m1 m2 => by
                  by_cases e : m = j
                  · subst e; exact Hd.out
                  · exact HD.out m m1 (by omega))⟩
              case measure => simp [Go.RowKit.intOf]; omega
            · have Hr : Hid (rightB s = false) := Lib.hid (by
                cases hr : rightB s with
                | false => rfl
                | true =>
                  have := Hall.out.1 hr j hqj hlt
                  rw [Hg.out] at this
                  simp [digitB] at this
                  exact absurd this hd)
              have hlti : (j : Int) < (s.size : Int) := by omega
              by_cases h48 : ((s[j]'hlt).toNat : Int) < 48
              · go_wp2_with fail
                go_ret
                exact ⟨by rw [Hr.out]; rfl, Below.refl _ _⟩
              · have h57 : (57 : Int) < ((s[j]'hlt).toNat : Int) := by omega
                go_wp2_with fail
                go_ret
                exact ⟨by rw [Hr.out]; rfl, Below.refl _ _⟩
          · have Hr : Hid (rightB s = true) := Lib.hid (Hall.out.2 (fun m m1 m2 => HD.out m m1 (by omega)))
            have hlti : ¬ (j : Int) < (s.size : Int) := by omega
            go_wp2_with fail
            go_ret
            exact ⟨by rw [Hr.out]; rfl, Below.refl _ _⟩
end Go.Proofs.YtlgbepamnkfpjaaGreatDoor

/- names, as the reference tells it. -/
set_option linter.unusedVariables false
set_option linter.unusedSimpArgs false
namespace Go.Proofs.YtlgbepamnkfpjaaGreatDoor
open Go.RowKit Go.Lib

def namesR : Tm → Bool
  | .mk _ _ _ _ _ vars pat => namedAll vars (tnamess pat)
theorem namedAll_take {vars : Bd} {ns : List ByteArray} {k : Nat} (hk : k < vars.length) : namedAll (vars.take (k + 1)) ns = (namedAll (vars.take k) ns && hasS ns vars[k].1) := by
  rw [List.take_succ_eq_append_getElem hk]
  simp only [namedAll, List.all_append, List.all_cons, List.all_nil, Bool.and_true]
theorem namedAll_false {vars : Bd} {ns : List ByteArray} {k : Nat} (hk : k < vars.length) (h : hasS ns vars[k].1 = false) : namedAll vars ns = false := by
  unfold namedAll
  rw [List.all_eq_false]
  exact ⟨vars[k], List.getElem_mem hk, by simp [h]⟩
theorem hasS_take {l : List Tm} {k : Nat} {x : ByteArray} (hk : k < l.length) : hasS (tnamess (l.take (k + 1))) x = (hasS (tnamess (l.take k)) x || hasS (tnames l[k]) x) := by
  rw [tnamess_take hk, hasS_append]
theorem hasS_more {l : List Tm} {k : Nat} {x : ByteArray} (h : hasS (tnamess (l.take k)) x = true) : hasS (tnamess l) x = true := by
  induction l generalizing k with
  | nil => simpa using h
  | cons t l ih =>
    cases k with
    | zero => simp [tnamess, hasS] at h
    | succ k =>
      simp only [List.take_succ_cons, tnamess, hasS_append, Bool.or_eq_true] at h ⊢
      rcases h with h | h
      · exact .inl h
      · exact .inr (ih h)
set_option maxRecDepth 100000 in
set_option maxHeartbeats 4000000 in
theorem namesR_any {w0 : World} {t : Tm} {v : Value} (h : TmV w0 t v) : ∀ W, Below w0.heap.size w0 W → Calls Tryz.prog 55 #[v] W fun e w' => e = .returned (.bool (namesR t)) ∧ Below W.heap.size W w' := by
  cases h with
  | @mk op name sort n l vars pat A V P ca cv cp f g hbd hl hf hL hv hV hp hg hP =>
    intro W hW
    have HW := Lib.hid hW
    have hpl := hbd.p
    have hvl := hbd.v
    have HV : Hid (RowCells w0 V 2 vars.length (bval vars)) := Lib.hid hV
    have HG := Lib.hid hg
    have HP := Lib.hid hP
    have Hrow := Lib.hid (boxT_row W ⟨op, name, sort, n, A, l.length, ca, V, vars.length, cv, P, pat.length, cp⟩)
    have HB : Hid (Below W.heap.size W (boxT W ⟨op, name, sort, n, A, l.length, ca, V, vars.length, cv, P, pat.length, cp⟩)) := Lib.hid (below_boxT _ _)
    have HD : Hid (namesR (.mk op name sort n l vars pat) = namedAll vars (tnamess pat)) := Lib.hid rfl
    obtain ⟨x0, x1, x2, x3, x4, x5, x6⟩ := box_cells Hrow.out
    dsimp only at x0 x1 x2 x3 x4 x5 x6
    unfold boxT at x0 x1 x2 x3 x4 x5 x6
    dsimp only at x0 x1 x2 x3 x4 x5 x6
    obtain ⟨WB, hWB⟩ : ∃ WB, WB = boxT W ⟨op, name, sort, n, A, l.length, ca, V, vars.length, cv, P, pat.length, cp⟩ := ⟨_, rfl⟩
    have HWB := Lib.hid hWB
    have HS : Hid (WB.heap.size = W.heap.size + 1) := Lib.hid (by rw [hWB]; exact boxT_size _ _)
    rw [← hWB] at Hrow HB
    clear hWB
    clear hf hL hW hbd hV hg hP hl hv hp
    generalize namesR (.mk op name sort n l vars pat) = res at *
    generalize l.length = ll at *
    obtain ⟨lv, hlv⟩ : ∃ lv, vars.length = lv := ⟨_, rfl⟩
    have Hlv := Lib.hid hlv
    rw [hlv] at HV Hrow HWB hvl x5 ⊢
    clear hlv
    obtain ⟨lp, hlp⟩ : ∃ lp, pat.length = lp := ⟨_, rfl⟩
    have Hlp := Lib.hid hlp
    rw [hlp] at HG Hrow HWB hpl x6 ⊢
    clear hlp
    go_enter Tryz.func55, Tryz.ntmps55
    go_wp2_with fail
    go_loopw [3] (fun i wr => ∃ k : Nat, k ≤ lv ∧ i = .int .i64 k ∧ Hid (namedAll (vars.take k) (tnamess pat) = true) ∧ Hid (Below (W.heap.size + 1) WB wr)) (fun i _ => lv - (Go.RowKit.intOf i).toNat)
    case atStart => exact ⟨0, by omega, rfl, Lib.hid rfl, Lib.hid (by rw [HWB.out]; exact Below.refl _ _)⟩
    case round =>
      obtain ⟨k, hk, rfl, Hno, HBr⟩ := hrel
      clear x0 x1 x2 x3 x4 x5 x6
      have Hbw : Hid (Below W.heap.size W wr) := Lib.hid (HB.out.trans (HBr.out.mono (by omega)))
      have hrow2 := below_keeps (by rw [HS.out]; exact HBr.out) Hrow.out
      obtain ⟨x0, x1, x2, x3, x4, x5, x6⟩ := box_cells hrow2
      dsimp only at x0 x1 x2 x3 x4 x5 x6
      clear hrow2
      by_cases hlt : k < lv
      · have hkt : k < vars.length := by have := Hlv.out; omega
        have hx := List.getElem?_eq_getElem hkt
        have Hx := Lib.hid hx
        have Hst := Lib.hid (namedAll_take (ns := tnamess pat) hkt)
        have Hfl := Lib.hid (namedAll_false (ns := tnamess pat) hkt)
        have k1 : (0 : Int) ≤ (k : Int) := by omega
        have k2 : (k : Int) < (lv : Int) := by omega
        have Hg : Hid (∀ w3, Below wr.heap.size wr w3 → w3.heap[W.heap.size]? = some (.cells (Parts.arr ⟨op, name, sort, n, A, ll, ca, V, lv, cv, P, lp, cp⟩) 26 (0, 0)) ∧ RowCells w3 V 2 lv (bval vars)) := Lib.hid (fun w3 h3 => ⟨below_keeps (by rw [HS.out]; exact HBr.out.trans (h3.mono (by have := HBr.out.size; rw [HS.out] at this; exact this))) Hrow.out, HV.out.below (HW.out.trans ((Hbw.out.trans (h3.mono Hbw.out.size)).mono HW.out.size))⟩)
        clear hx
        generalize vars[k] = v at *
        obtain ⟨s, so⟩ := v
        dsimp only at Hst Hfl
        go_wp2_with fail
        go_loopw [4, 5] (fun b i wq => ∃ j : Nat, j ≤ lp ∧ i = .int .i64 j ∧ b = .bool (hasS (tnamess (pat.take j)) s) ∧ Hid (Below wr.heap.size wr wq)) (fun _ i _ => lp - (Go.RowKit.intOf i).toNat)
        case atStart => exact ⟨0, by omega, rfl, rfl, Lib.hid (Below.refl _ _)⟩
        case round =>
          obtain ⟨j, hj, rfl, rfl, HBq⟩ := hrel
          clear x0 x1 x2 x3 x4 x5 x6
          obtain ⟨_, _, _, _, _, y5, y6⟩ := box_cells (Hg.out _ HBq.out).1
          obtain ⟨b2, o2, rfl, f0, f1⟩ := (rowL Hlv.out (Hg.out _ HBq.out).2).bound Hx.out
          dsimp only at y5 y6 f0 f1
          by_cases hjp : j < lp
          · have hjt : j < pat.length := by have := Hlp.out; omega
            have Ht : Hid (pat[j]? = some pat[j]) := Lib.hid (List.getElem?_eq_getElem hjt)
            have Htk := Lib.hid (hasS_take (x := s) hjt)
            have Hv := Lib.hid (HP.out j _ Ht.out)
            obtain ⟨p, hp⟩ := Hv.out.parts
            have Hp := Lib.hid hp
            have hwq0 : Below w0.heap.size w0 wr := HW.out.trans ((Hbw.out.trans (HBq.out.mono Hbw.out.size)).mono HW.out.size)
            obtain ⟨b, o, rfl, e0, e1, e2, e3, e4, e5, e6⟩ := (HG.out.below hwq0).get hjp hp
            have Hc : Hid (Calls Tryz.prog 76 #[.agg #[.int .i64 p.op, .string p.name, .int .i64 p.sort, .string p.n, .slice p.A p.la p.ca, .slice p.V p.lv p.cv, .slice p.P p.lp p.cp], .string s] wr.drew fun e w'' => e = .returned (.bool (hasS (tnames pat[j]) s)) ∧ Below wr.heap.size wr.drew w'') := Lib.hid (by
              have h := hasR_any Hv.out s wr.drew hwq0.drew
              rw [Hp.out] at h
              exact h)
            have j1 : (0 : Int) ≤ (j : Int) := by omega
            have j2 : (j : Int) < (lp : Int) := by omega
            clear hp hwq0 Ht Hv Hp
            generalize hasS (tnames pat[j]) s = r at *
            cases hq : hasS (tnamess (pat.take j)) s with
            | true =>
              have Hn : Hid (hasS (tnamess (pat.take (j + 1))) s = true) := Lib.hid (by rw [Htk.out, hq]; rfl)
              go_wp2_with fail
              go_region
              go_wp2_with fail
              go_roundw
              case rel => exact ⟨j + 1, by omega, by go_num, by rw [Hn.out], Lib.hid HBq.out.drew⟩
              case measure => simp [Go.RowKit.intOf]; omega
            | false =>
              have Hn : Hid (hasS (tnamess (pat.take (j + 1))) s = r) := Lib.hid (by rw [Htk.out, hq]; rfl)
              go_wp2_with fail
              go_region_with (go_at_call 76; (with_reducible refine Calls.mono Hc.out ?_); rintro e w3 ⟨rfl, hb3⟩; have Hb3 : Hid (Below wr.heap.size wr w3) := Lib.hid ((Below.refl wr.heap.size wr).drew.trans hb3); clear hb3)
              all_goals
                go_wp2_with fail
                go_roundw
                case rel => exact ⟨j + 1, by omega, by go_num, by rw [Hn.out], Lib.hid (HBq.out.trans (Hb3.out.mono HBq.out.size))⟩
                case measure => simp [Go.RowKit.intOf]; omega
          · have hjk2 : ¬ (j : Int) < (lp : Int) := by omega
            have Hfull : Hid (hasS (tnamess (pat.take j)) s = hasS (tnamess pat) s) := Lib.hid (by rw [List.take_of_length_le (by have := Hlp.out; omega)])
            generalize hasS (tnamess (pat.take j)) s = r at *
            cases r with
            | true =>
              have Hr3 : Hid (namedAll (vars.take (k + 1)) (tnamess pat) = true) := Lib.hid (by rw [Hst.out, Hno.out, ← Hfull.out]; rfl)
              go_wp2_with fail
              go_roundw
              case rel => exact ⟨k + 1, by omega, by go_num, Hr3, Lib.hid (HBr.out.trans (HBq.out.mono (by have := HBr.out.size; rw [HS.out] at this; omega)))⟩
              case measure => simp [Go.RowKit.intOf]; omega
            | false =>
              have Hr : Hid (res = false) := Lib.hid (by rw [HD.out]; exact Hfl.out Hfull.out.symm)
              go_wp2_with fail
              go_ret
              exact ⟨by rw [Hr.out]; rfl, Hbw.out.trans (HBq.out.mono Hbw.out.size)⟩
      · have Hr : Hid (res = true) := Lib.hid (by rw [HD.out, ← Hno.out, List.take_of_length_le (by have := Hlv.out; omega)])
        have hlt2 : ¬ (k : Int) < (lv : Int) := by omega
        go_wp2_with fail
        go_ret
        exact ⟨by rw [Hr.out]; rfl, Hbw.out⟩
end Go.Proofs.YtlgbepamnkfpjaaGreatDoor
