/- TermChecks: the walk. -/
import Derived.Test.YtlgbepamnkfpjaaGreatDoorM40
import Derived.Test.YtlgbepamnkfpjaaGreatDoorM35
set_option linter.unusedSimpArgs false
set_option linter.unusedVariables false
set_option linter.unusedVariables false
set_option linter.unusedSimpArgs false
namespace Go.Proofs.YtlgbepamnkfpjaaGreatDoor
open Go.RowKit Go.Lib

/-- A signature that came in: where its list lies, how it is bounded. -/
structure SigIn (w : World) (S : Option Addr) (cs : Nat) (sig : List Fn) : Prop where
  at_ : SigAt w S cs sig
  cap : sig.length ≤ cs
  nil : S = none → cs = 0
theorem fnsAt_out {w : World} {S : Option Addr} {cs : Nat} {sig : List Fn} (h : SigAt w S cs sig) : sig.length ≤ 140737488355328 ∧ ∀ f ∈ sig, i64 f.out := ⟨h.len, h.out⟩
set_option maxRecDepth 100000 in
set_option maxHeartbeats 8000000 in
theorem termChecks_any {w : World} {sig : List Fn} {S : Option Addr} {cs : Nat} (hS : SigAt w S cs sig) {t : Tm} {v : Value} (h : TmV w t v) : Calls Tryz.prog 3 #[.slice S sig.length cs, v] w fun e w' => e = .returned (.bool true) ∧ Below w.heap.size w w' := by
  obtain ⟨⟨op, name, sort, n, A, la, ca, V, lv, cv, P, lp, cp⟩, rfl⟩ := h.parts
  have HT := Lib.hid h
  have HSg := Lib.hid hS
  have HB0 : Hid (Below w.heap.size w (boxT w ⟨op, name, sort, n, A, la, ca, V, lv, cv, P, lp, cp⟩)) := Lib.hid (below_boxT _ _)
  have HR0 := Lib.hid (boxT_row w ⟨op, name, sort, n, A, la, ca, V, lv, cv, P, lp, cp⟩)
  obtain ⟨b, hb⟩ : ∃ b, lightB 300 [t] = b := ⟨_, rfl⟩
  have Hlt : Hid (∀ W, Below w.heap.size w W → Calls Tryz.prog 7 #[.slice (some ⟨W.heap.size, 0, none⟩) 1 1, .int .i64 300] (W.alloc (.cells #[.int .i64 op, .string name, .int .i64 sort, .string n, .slice A la ca, .slice V lv cv, .slice P lp cp] 26)) fun e w' => e = .returned (.bool b) ∧ Below W.heap.size W w') := Lib.hid (fun W hW => by
    obtain ⟨A9, c9, e9, hc9, fl, hrow, hlt9⟩ := TsV.one (p := ⟨op, name, sort, n, A, la, ca, V, lv, cv, P, lp, cp⟩) (HT.out.mono hW) 26
    cases e9
    have hA : Below W.heap.size W (W.alloc (.cells #[.int .i64 op, .string name, .int .i64 sort, .string n, .slice A la ca, .slice V lv cv, .slice P lp cp] 26)) := (Below.refl _ _).alloc (Nat.le_refl _) _
    have h := light_any (c := 1) hrow hlt9 (by simp) (most := 300) (by omega) _ (Below.refl _ _)
    rw [hb] at h
    refine Calls.mono h ?_
    rintro e w' ⟨rfl, h2⟩
    exact ⟨rfl, hA.trans (h2.mono hA.size)⟩)
  unfold boxT at HB0
  unfold boxT at HR0
  simp only [Parts.arr] at HB0
  clear h hS
  unfold Parts.arr
  have hns := HSg.out.len
  cases b with
  | false =>
    generalize sig.length = ns at *
    go_enter Tryz.func3, Tryz.ntmps3
    go_wp2_with (first
      | (go_at_call 6; (with_reducible refine Calls.mono (known_any _) ?_); rintro e w1 ⟨rfl, hb1⟩; have Hb1 := Lib.hid (HB0.out.trans (hb1.mono HB0.out.size)); obtain ⟨x0, x1, x2, x3, x4, x5, x6⟩ := box_cells (below_keeps hb1 HR0.out); dsimp only at x0 x1 x2 x3 x4 x5 x6; clear hb1)
      | (go_at_call 7; (with_reducible refine Calls.mono (Hlt.out _ Hb1.out) ?_); rintro e w3 ⟨rfl, hb3⟩; have Hb3 := Lib.hid (Hb1.out.trans (hb3.mono Hb1.out.size)); clear hb3))
    go_ret
    exact ⟨rfl, Hb3.out⟩
  | true =>
    by_cases h40 : 40 < sig.length
    · generalize sig.length = ns at *
      have h40' : (40 : Int) < (ns : Int) := by omega
      go_enter Tryz.func3, Tryz.ntmps3
      go_wp2_with (first
        | (go_at_call 6; (with_reducible refine Calls.mono (known_any _) ?_); rintro e w1 ⟨rfl, hb1⟩; have Hb1 := Lib.hid (HB0.out.trans (hb1.mono HB0.out.size)); obtain ⟨x0, x1, x2, x3, x4, x5, x6⟩ := box_cells (below_keeps hb1 HR0.out); dsimp only at x0 x1 x2 x3 x4 x5 x6; clear hb1)
        | (go_at_call 7; (with_reducible refine Calls.mono (Hlt.out _ Hb1.out) ?_); rintro e w3 ⟨rfl, hb3⟩; have Hb3 := Lib.hid (Hb1.out.trans (hb3.mono Hb1.out.size)); clear hb3))
      go_ret
      exact ⟨rfl, Hb3.out⟩
    · obtain ⟨ht1, ht2, ht3⟩ := light_mem hb (t := t) (by simp)
      have h40' : ¬ (40 : Int) < (sig.length : Int) := by omega
      have HcP : Hid (∀ W, Below w.heap.size w W → Calls Tryz.prog 8 #[.slice S sig.length cs, .agg #[.int .i64 op, .string name, .int .i64 sort, .string n, .slice A la ca, .slice V lv cv, .slice P lp cp]] W (SortIs W (checkTop sig t))) := Lib.hid (fun W hW => Check_any HSg.out HT.out (by omega) ht2 W hW)
      have HcR : Hid (∀ W, Below w.heap.size w W → Calls Tryz.prog 9 #[.slice S sig.length cs, .agg #[.int .i64 op, .string name, .int .i64 sort, .string n, .slice A la ca, .slice V lv cv, .slice P lp cp]] W (SortIs W (checkTop sig t))) := Lib.hid (fun W hW => CheckR_any HSg.out.at_ HSg.out.len HSg.out.out HT.out (by omega) W hW)
      have Hq := Lib.hid (checkTop_sort sig t)
      clear hb ht1 ht2 ht3 HT
      generalize sig.length = ns at *
      generalize checkTop sig t = r at *
      obtain ⟨r1, r2⟩ := r
      go_enter Tryz.func3, Tryz.ntmps3
      go_wp2_with (first
        | (go_at_call 6; (with_reducible refine Calls.mono (known_any _) ?_); rintro e w1 ⟨rfl, hb1⟩; have Hk1 := Lib.hid (below_keeps hb1 HR0.out); have Hb1 := Lib.hid (HB0.out.trans (hb1.mono HB0.out.size)); obtain ⟨x0, x1, x2, x3, x4, x5, x6⟩ := box_cells Hk1.out; dsimp only at x0 x1 x2 x3 x4 x5 x6; clear hb1)
        | (go_at_call 7; (with_reducible refine Calls.mono (Hlt.out _ Hb1.out) ?_); rintro e w3 ⟨rfl, hb3⟩; have Hk3 := Lib.hid (below_keeps hb3 Hk1.out); have Hb3 := Lib.hid (Hb1.out.trans (hb3.mono Hb1.out.size)); obtain ⟨y0, y1, y2, y3, y4, y5, y6⟩ := box_cells Hk3.out; dsimp only at y0 y1 y2 y3 y4 y5 y6; clear hb3)
        | (go_at_call 8; (with_reducible refine Calls.mono (HcP.out _ Hb3.out) ?_); rintro e w4 ⟨rfl, hb4⟩; have Hk4 := Lib.hid (below_keeps hb4 Hk3.out); have Hb4 := Lib.hid (Hb3.out.trans (hb4.mono Hb3.out.size)); obtain ⟨z0, z1, z2, z3, z4, z5, z6⟩ := box_cells Hk4.out; dsimp only at z0 z1 z2 z3 z4 z5 z6; clear hb4)
        | (go_at_call 9; (with_reducible refine Calls.mono (HcR.out _ Hb4.out) ?_); rintro e w5 ⟨rfl, hb5⟩; have Hb5 := Lib.hid (Hb4.out.trans (hb5.mono Hb4.out.size)); clear hb5))
      have hfin : ((r2 == 0) == (r1 != 0)) = true := by
        have h : (r2 == 0) = !(r1 == 0) := Hq.out
        rw [h]
        show ((!(r1 == 0)) == (!(r1 == 0))) = true
        exact beq_self_eq_true _
      go_ret
      exact ⟨congrArg (fun b => Ending.returned (Value.bool b)) hfin, Hb5.out⟩
end Go.Proofs.YtlgbepamnkfpjaaGreatDoor
