/- The example's structure: what Value tells. -/
import Derived.Test.YtbnonccmlildnaaM36
set_option linter.unusedSimpArgs false
set_option linter.unusedVariables false
namespace Go.Proofs.Ytbnonccmlildnaa
open Go.RowKit

def tau0 : Nat → List UInt8 := fun _ => []
theorem ex_call {w0 : World} {S T : Option Addr} {tbs : List Tb} {n c : Nat} (hn : n = tbs.length) (hl : tbs.length ≤ 140737488355328) (hS : FnsAt w0 S exSig) (hT : TbsAt w0 T tbs) (ho : tabsL 1000000 tbs) {t : Tm} {v : Value} (ht : TmV w0 t v) (h1 : numsT 1000000 t = true) (h2 : tw t ≤ 1000000) (h3 : shortT t = true) (w : World) (hw : Below w0.heap.size w0 w) :
    Calls Try.prog 6 #[.slice S 1 1, .agg #[.slice T n c, .int .i64 0], v] w (ValueIs tau0 (valueS tau0 exSig tbs 0 t) w) := by
  subst hn
  have hM : MOk ⟨exSig, tbs, 0, 0, S, 1, T, c, w0⟩ tau0 1000000 := ⟨hS, hT, Nat.zero_le _, fun k hk => by exact absurd hk (Nat.not_lt_zero k), ho, by decide, (show exSig.length ≤ 140737488355328 by decide), hl⟩
  exact Value_any (M := ⟨exSig, tbs, 0, 0, S, 1, T, c, w0⟩) hM (fun f hf => by simp [exSig] at hf; subst hf; unfold i64; decide) (show ((0 : Nat) : Int) = min (max 0 0) 1000 by decide) ht h1 h2 h3 w hw
theorem ex_true {w0 : World} {S T : Option Addr} (hS : FnsAt w0 S exSig) (hT : TbsAt w0 T exTbs) {v : Value} (ht : TmV w0 exT v) (w : World) (hw : Below w0.heap.size w0 w) :
    Calls Try.prog 6 #[.slice S 1 1, .agg #[.slice T 1 1, .int .i64 0], v] w (TrueIs w) :=
  (ex_call (c := 1) rfl (by decide) hS hT (by intro tb h; simp [exTbs] at h; subst h; exact ⟨by decide, fun r hr => by simp at hr; subst hr; decide⟩) ht (by kernel_rfl) (by decide) (by kernel_rfl) w hw).mono fun e w' hp => by
    obtain ⟨hp, hb⟩ := hp
    rw [ex_value] at hp
    rcases hp with ⟨x, hx, he⟩ | ⟨er, z, hx, _⟩
    · cases hx; exact ⟨he, hb⟩
    · cases hx
theorem ex_trueT {w0 : World} {S T : Option Addr} (hS : FnsAt w0 S exSig) (hT : TbsAt w0 T exTbs) {v : Value} (ht : TmV w0 tT v) (w : World) (hw : Below w0.heap.size w0 w) :
    Calls Try.prog 6 #[.slice S 1 1, .agg #[.slice T 1 1, .int .i64 0], v] w (TrueIs w) :=
  (ex_call (c := 1) rfl (by decide) hS hT (by intro tb h; simp [exTbs] at h; subst h; exact ⟨by decide, fun r hr => by simp at hr; subst hr; decide⟩) ht (by kernel_rfl) (by decide) (by kernel_rfl) w hw).mono fun e w' hp => by
    obtain ⟨hp, hb⟩ := hp
    rw [ex_valueT] at hp
    rcases hp with ⟨x, hx, he⟩ | ⟨er, z, hx, _⟩
    · cases hx; exact ⟨he, hb⟩
    · cases hx
/-- That a table is missing. -/
def FortyIs (w : World) (e : Ending) (w' : World) : Prop := e = .returned (.tuple #[.string .empty, .int .i64 40]) ∧ Below w.heap.size w w'
theorem ex_forty {w0 : World} {S : Option Addr} (hS : FnsAt w0 S exSig) {v : Value} (ht : TmV w0 exT v) (w : World) (hw : Below w0.heap.size w0 w) :
    Calls Try.prog 6 #[.slice S 1 1, .agg #[.slice none 0 0, .int .i64 0], v] w (FortyIs w) :=
  (ex_call (tbs := []) (c := 0) rfl (by decide) hS ⟨fun _ => .nilFunc, .inl rfl, fun j t h => by simp at h⟩ (by intro tb h; simp at h) ht (by kernel_rfl) (by decide) (by kernel_rfl) w hw).mono fun e w' hp => by
    obtain ⟨hp, hb⟩ := hp
    rw [ex_none] at hp
    rcases hp with ⟨x, hx, _⟩ | ⟨er, z, hx, hz, _, he⟩
    · cases hx
    · cases hx
      have : z = 40 := by rcases hz with h | h <;> exact h
      subst this
      exact ⟨he, hb⟩
theorem arr_two (p q : Parts) : p.arr ++ q.arr = #[.int .i64 p.op, .string p.name, .int .i64 p.sort, .string p.n, .slice p.A p.la p.ca, .slice p.V p.lv p.cv, .slice p.P p.lp p.cp, .int .i64 q.op, .string q.name, .int .i64 q.sort, .string q.n, .slice q.A q.la q.ca, .slice q.V q.lv q.cv, .slice q.P q.lp q.cp] := by
  simp [Parts.arr]
theorem ex_made {w4 : World} {p q : Parts} (h : TmV w4 (appF (nB 50)) (.agg p.arr)) (h' : TmV w4 (appF (nB 49)) (.agg q.arr)) :
    TmV (w4.alloc (.cells #[.int .i64 p.op, .string p.name, .int .i64 p.sort, .string p.n, .slice p.A p.la p.ca, .slice p.V p.lv p.cv, .slice p.P p.lp p.cp, .int .i64 q.op, .string q.name, .int .i64 q.sort, .string q.n, .slice q.A q.la q.ca, .slice q.V q.lv q.cv, .slice q.P q.lp q.cp] 40)) exT (.agg #[.int .i64 11, .string eB, .int .i64 0, .string eB, .slice (some ⟨w4.heap.size, 0, none⟩) 2 2, .slice none 0 0, .slice none 0 0]) := by
  rw [← arr_two]
  exact TmV.make (bds_small (by omega) (by decide) (by decide) (by simp) (by simp)) (TsV.two h h' 40) (BsV.nil _) (TsV.nil _)
end Go.Proofs.Ytbnonccmlildnaa

/- The example's structure: what Holds tells. -/
namespace Go.Proofs.Ytbnonccmlildnaa
open Go.RowKit

theorem ex_sig {w : World} {S : Option Addr} (hS : FnsAt w S exSig) : SigAt w S 1 exSig := ⟨hS, by decide, fun f hf => by simp [exSig] at hf; subst hf; unfold i64; decide⟩
theorem ex_sort {w0 : World} {S : Option Addr} (hS : FnsAt w0 S exSig) {t : Tm} {v : Value} (ht : TmV w0 t v) (h1 : tw t ≤ 1000000) (h2 : shortT t = true) (hc : checkTop exSig t = (2, 0)) (w : World) (hw : Below w0.heap.size w0 w) : Calls Try.prog 9 #[.slice S 1 1, v] w (SortIs w (2, 0)) := by
  have := Check_any (cs := 1) (ex_sig hS) ht h1 h2 w hw
  rw [hc] at this
  exact this
theorem ex_holds {w6 : World} {S T : Option Addr} (hS : FnsAt w6 S exSig) (hT : TbsAt w6 T exTbs) {p q : Parts} (h : TmV w6 exT (.agg p.arr)) (h' : TmV w6 tT (.agg q.arr)) :
    Calls Try.prog 8 #[.slice S 1 1, .agg #[.slice T 1 1, .int .i64 0], .slice (some ⟨w6.heap.size, 0, none⟩) 2 2] (w6.alloc (.cells (p.arr ++ q.arr) 40)) (HoldsIs (w6.alloc (.cells (p.arr ++ q.arr) 40))) := by
  obtain ⟨A, c2, e, _, f, hf, hL⟩ := TsV.two h h' 40
  have hb : Below w6.heap.size w6 (w6.alloc (.cells (p.arr ++ q.arr) 40)) := (Below.refl _ _).alloc (Nat.le_refl _) _
  have hS' := hS.mono hb
  have hT' := hT.mono hb
  have hA : A = some ⟨w6.heap.size, 0, none⟩ := by cases e; rfl
  subst hA
  have h0 := hL 0 exT rfl
  have h1 := hL 1 tT rfl
  have hj : ∀ j, j < 2 → j = 0 ∨ j = 1 := fun j hj => by omega
  refine holds_true (len := 2) hf (fun j hlt => ?_) (by omega) (fun j hlt w hw => ?_) (fun j hlt w hw => ?_) _ (Below.refl _ _)
  · rcases hj j hlt with rfl | rfl
    · exact h0.parts
    · exact h1.parts
  · rcases hj j hlt with rfl | rfl
    · exact ex_true hS' hT' h0 w hw
    · exact ex_trueT hS' hT' h1 w hw
  · rcases hj j hlt with rfl | rfl
    · exact ex_sort hS' h0 (by decide) (by kernel_rfl) ex_check w hw
    · exact ex_sort hS' h1 (by decide) (by kernel_rfl) ex_checkT w hw
end Go.Proofs.Ytbnonccmlildnaa

/- known. -/
namespace Go.Proofs.Ytbnonccmlildnaa
open Go.RowKit

def BoolIs (b : Bool) (w : World) (e : Ending) (w' : World) : Prop := e = .returned (.bool b) ∧ Below w.heap.size w w'
theorem six_rows (w : World) (a b c d e f : Obj) : ∀ W, W = (((((w.alloc a).alloc b).alloc c).alloc d).alloc e).alloc f →
    W.heap[w.heap.size]? = some a ∧ W.heap[w.heap.size + 1]? = some b ∧ W.heap[w.heap.size + 1 + 1]? = some c ∧ W.heap[w.heap.size + 1 + 1 + 1]? = some d ∧ W.heap[w.heap.size + 1 + 1 + 1 + 1]? = some e ∧ W.heap[w.heap.size + 1 + 1 + 1 + 1 + 1]? = some f ∧ W.heap.size = w.heap.size + 6 ∧ Below w.heap.size w W := by
  rintro W rfl
  obtain ⟨h0, h1, h2, h3, h4⟩ := four_rows w a b c d
  have s5 : (((((w.alloc a).alloc b).alloc c).alloc d).alloc e).heap.size = w.heap.size + 1 + 1 + 1 + 1 + 1 := by simp
  have s4 : ((((w.alloc a).alloc b).alloc c).alloc d).heap.size = w.heap.size + 1 + 1 + 1 + 1 := by simp
  have hb : Below w.heap.size w (((((w.alloc a).alloc b).alloc c).alloc d).alloc e) :=
    (((((Below.refl _ _).alloc (Nat.le_refl _) _).alloc (by simp) _).alloc (by simp; omega) _).alloc (by simp; omega) _).alloc (by omega) _
  refine ⟨?_, ?_, ?_, ?_, ?_, ?_, by simp, hb.alloc hb.size _⟩
  · rw [Below.heap_alloc _ _ _ (by omega), Below.heap_alloc _ _ _ (by omega)]; exact h0
  · rw [Below.heap_alloc _ _ _ (by omega), Below.heap_alloc _ _ _ (by omega)]; exact h1
  · rw [Below.heap_alloc _ _ _ (by omega), Below.heap_alloc _ _ _ (by omega)]; exact h2
  · rw [Below.heap_alloc _ _ _ (by omega), Below.heap_alloc _ _ _ (by omega)]; exact h3
  · rw [Below.heap_alloc _ _ _ (by omega), ← s4]; exact heap_alloc_new _ e
  · rw [← s5]; exact heap_alloc_new _ f
/-- A row of one element of one, two, three cells. -/
theorem rowCells_one {w : World} {k t n : Nat} {cs : Array Value} (h : w.heap[k]? = some (.cells cs t (0, 0))) (hn : cs.size = n) : RowCells w (some ⟨k, 0, none⟩) n 1 (fun _ => .agg cs) := by
  refine .inr ⟨k, 0, rfl, fun j hj => ?_⟩
  obtain rfl : j = 0 := by omega
  refine ⟨hn, fun i hi => ?_⟩
  rw [cell_of_row w k _ _ t (0, 0) h]
  simp [Value.cells]
theorem ex_fns {W : World} {k0 k1 : Nat} (h0 : W.heap[k0]? = some (.cells #[.int .i64 1] 3 (0, 0))) (h1 : W.heap[k1]? = some (.cells #[.string fB, .slice (some ⟨k0, 0, none⟩) 1 1, .int .i64 1] 35 (0, 0))) : FnsAt W (some ⟨k1, 0, none⟩) exSig := by
  refine ⟨_, rowCells_one h1 rfl, fun j f hj => ?_⟩
  match j, hj with
  | 0, hj =>
    cases hj
    refine ⟨⟨_, 1, rfl, Nat.le_refl _, .inr (.inr ⟨k0, 0, rfl, fun i u hi => ?_⟩)⟩, by decide, by decide, by unfold i64; decide⟩
    match i, hi with
    | 0, hi => cases hi; rw [cell_of_row W k0 _ _ 3 (0, 0) h0]; rfl
    | i + 1, hi => simp at hi
  | j + 1, hj => simp [exSig] at hj
theorem ex_tbs {W : World} {k2 k3 k4 : Nat} (h2 : W.heap[k2]? = some (.cells #[.string (nB 49)] 9 (0, 0))) (h3 : W.heap[k3]? = some (.cells #[.slice (some ⟨k2, 0, none⟩) 1 1, .string (nB 53)] 32 (0, 0))) (h4 : W.heap[k4]? = some (.cells #[.string fB, .slice (some ⟨k3, 0, none⟩) 1 1, .string (nB 48)] 28 (0, 0))) : TbsAt W (some ⟨k4, 0, none⟩) exTbs := by
  refine ⟨_, rowCells_one h4 rfl, fun j t hj => ?_⟩
  match j, hj with
  | 0, hj =>
    cases hj
    refine ⟨⟨_, 1, rfl, ⟨_, rowCells_one h3 rfl, fun i r hi => ?_⟩, Nat.le_refl _⟩, by unfold small; decide, by unfold small; decide, by decide⟩
    match i, hi with
    | 0, hi =>
      cases hi
      refine ⟨⟨_, 1, rfl, .inr ⟨k2, 0, rfl, fun m x hm => ?_⟩, Nat.le_refl _⟩, by unfold small; decide, by decide, fun x hx => ?_⟩
      · match m, hm with
        | 0, hm => cases hm; rw [cell_of_row W k2 _ _ 9 (0, 0) h2]; rfl
        | m + 1, hm => simp at hm
      · simp at hx; subst hx; unfold small; decide
    | i + 1, hi => simp at hi
  | j + 1, hj => simp [exTbs] at hj
/-- The model's box, later. -/
theorem box25 {w w' : World} {k : Nat} {a b : Value} (h : w.heap[k]? = some (.cells #[a, b] 46 (0, 0))) (hb : Below w.heap.size w w') : w'.cell? ⟨k, 0, none⟩ = some a ∧ w'.cell? ⟨k, 1, none⟩ = some b ∧ k < w'.heap.size := by
  have hk := (Array.getElem?_eq_some_iff.1 h).1
  have h2 := (hb.block k hk).trans h
  exact ⟨by rw [cell_of_row _ _ 0 _ _ _ h2]; rfl, by rw [cell_of_row _ _ 1 _ _ _ h2]; rfl, (Array.getElem?_eq_some_iff.1 h2).1⟩
theorem box_after {w4 w5 : World} {cs ts : Array Value} (hb : Below ((w4.alloc (.cells cs 40)).alloc (.cells ts 40)).heap.size ((w4.alloc (.cells cs 40)).alloc (.cells ts 40)) w5) : w5.heap[w4.heap.size + 1]? = some (.cells ts 40 (0, 0)) ∧ w4.heap.size + 1 < w5.heap.size ∧ Below w4.heap.size w4 w5 := by
  have s1 : (w4.alloc (.cells cs 40)).heap.size = w4.heap.size + 1 := by simp
  have h1 := heap_alloc_new (w4.alloc (.cells cs 40)) (.cells ts 40)
  rw [s1] at h1
  have hlt := (Array.getElem?_eq_some_iff.1 h1).1
  have h2 := (hb.block _ hlt).trans h1
  have hb0 : Below w4.heap.size w4 ((w4.alloc (.cells cs 40)).alloc (.cells ts 40)) := ((Below.refl _ _).alloc (Nat.le_refl _) _).alloc (by omega) _
  exact ⟨h2, (Array.getElem?_eq_some_iff.1 h2).1, hb0.trans (hb.mono hb0.size)⟩
set_option maxRecDepth 100000 in
set_option maxHeartbeats 2000000 in
theorem known_any (w : World) : Calls Try.prog 4 #[] w (BoolIs true w) := by
  obtain ⟨W, hW⟩ : ∃ W, W = (((((w.alloc (.cells #[.int .i64 1] 3)).alloc (.cells #[.string ⟨#[102]⟩, .slice (some ⟨w.heap.size, 0, none⟩) 1 1, .int .i64 1] 35)).alloc (.cells #[.string ⟨#[49]⟩] 9)).alloc (.cells #[.slice (some ⟨w.heap.size + 1 + 1, 0, none⟩) 1 1, .string ⟨#[53]⟩] 32)).alloc (.cells #[.string ⟨#[102]⟩, .slice (some ⟨w.heap.size + 1 + 1 + 1, 0, none⟩) 1 1, .string ⟨#[48]⟩] 28)).alloc (.cells #[.slice (some ⟨w.heap.size + 1 + 1 + 1 + 1, 0, none⟩) 1 1, .int .i64 0] 46) := ⟨_, rfl⟩
  obtain ⟨r0, r1, r2, r3, r4, r5, hsz, hbW⟩ := six_rows w _ _ _ _ _ _ W hW
  have HW := Lib.hid hW
  have HbW := Lib.hid hbW
  have Hfns := Lib.hid (ex_fns r0 r1)
  have Htbs := Lib.hid (ex_tbs r2 r3 r4)
  have Hr5 := Lib.hid r5
  have Hsz := Lib.hid hsz
  clear hW hbW r0 r1 r2 r3 r4 r5 hsz
  go_enter Try.func4, Try.ntmps4
  go_wp2_with (first
    | (go_at_call 7; rw [← HW.out]; refine Calls.mono (appF_any ⟨#[50]⟩ (by decide) W) ?_; rintro e w3 ⟨v3, rfl, ht3, hb3⟩; obtain ⟨p3, rfl⟩ := ht3.parts; unfold Parts.arr at *; have Ht3 := Lib.hid ht3; have Hb3 := Lib.hid hb3; clear ht3 hb3)
    | (go_at_call 7; refine Calls.mono (appF_any ⟨#[49]⟩ (by decide) w3) ?_; rintro e w4 ⟨v4, rfl, ht4, hb4⟩; obtain ⟨p4, rfl⟩ := ht4.parts; unfold Parts.arr at *; obtain ⟨m0, m1, q0⟩ := box25 Hr5.out (Hb3.out.trans (hb4.mono Hb3.out.size)); have q1 : w.heap.size + 1 + 1 + 1 + 1 + 1 < w4.heap.size + 1 := (by omega); have n0 : ¬ w.heap.size + 1 + 1 + 1 + 1 + 1 = w4.heap.size := (by omega); have n1 : ¬ w.heap.size + 1 + 1 + 1 + 1 + 1 = w4.heap.size + 1 := (by omega); have Ht4 := Lib.hid ht4; have Hb4 := Lib.hid hb4; have HB4 := Lib.hid ((Hb3.out.trans (hb4.mono Hb3.out.size))); clear ht4 hb4))
  go_at_call 6
  refine Calls.mono (ex_true (Hfns.out.mono (HB4.out.alloc HB4.out.size _)) (Htbs.out.mono (HB4.out.alloc HB4.out.size _)) (ex_made (p := p3) (q := p4) (Ht3.out.mono Hb4.out) Ht4.out) _ ((Below.refl _ _).alloc (Nat.le_refl _) _)) ?_
  rintro e w5 ⟨rfl, hb5⟩
  obtain ⟨hr5, q5, hb45⟩ := box_after hb5
  obtain ⟨d0, d1, d2, d3, d4, d5, d6⟩ := box_cells (p := ⟨11, ⟨#[]⟩, 0, ⟨#[]⟩, some ⟨w4.heap.size, 0, none⟩, 2, 2, none, 0, 0, none, 0, 0⟩) hr5
  obtain ⟨m0, m1, q0⟩ := box25 Hr5.out (HB4.out.trans (hb45.mono HB4.out.size))
  have Hb5 := Lib.hid hb45
  have Hx5 := Lib.hid (TmV.mono (ex_made (p := p3) (q := p4) (Ht3.out.mono Hb4.out) Ht4.out) (((Below.refl _ _).alloc (Nat.le_refl _) _).trans (hb5.mono (by simp))))
  have Hr5t := Lib.hid hr5
  have HB5 := Lib.hid (HB4.out.trans (Hb5.out.mono HB4.out.size))
  clear hb5 hb45 hr5
  go_wp2_with fail
  go_at_call 6
  refine Calls.mono (ex_forty (Hfns.out.mono HB5.out) Hx5.out _ (Below.refl _ _)) ?_
  rintro e w6 ⟨rfl, hb6⟩
  clear d0 d1 d2 d3 d4 d5 d6 m0 m1
  obtain ⟨d0, d1, d2, d3, d4, d5, d6⟩ := box_cells (p := ⟨11, ⟨#[]⟩, 0, ⟨#[]⟩, some ⟨w4.heap.size, 0, none⟩, 2, 2, none, 0, 0, none, 0, 0⟩) ((hb6.block _ q5).trans Hr5t.out)
  obtain ⟨m0, m1, q6⟩ := box25 Hr5.out (HB5.out.trans (hb6.mono HB5.out.size))
  have HB6 := Lib.hid (HB5.out.trans (hb6.mono HB5.out.size))
  have Hx6 := Lib.hid (Hx5.out.mono hb6)
  clear hb6
  go_wp2_with fail
  go_at_call 8
  refine Calls.mono (ex_holds (p := ⟨11, ⟨#[]⟩, 0, ⟨#[]⟩, some ⟨w4.heap.size, 0, none⟩, 2, 2, none, 0, 0, none, 0, 0⟩) (q := ⟨2, ⟨#[]⟩, 0, ⟨#[]⟩, none, 0, 0, none, 0, 0, none, 0, 0⟩) (Hfns.out.mono HB6.out) (Htbs.out.mono HB6.out) Hx6.out (TmV.make (bds_small (by omega) (by decide) (by decide) (by simp) (by simp)) (TsV.nil _) (BsV.nil _) (TsV.nil _))) ?_
  rintro e w7 ⟨rfl, hb7⟩
  have Hb7 := Lib.hid hb7
  clear hb7
  go_wp2_with fail
  go_ret
  refine ⟨rfl, ?_⟩
  have hbA := HbW.out.trans (HB6.out.mono HbW.out.size)
  have hbC := hbA.trans (((Below.refl w6.heap.size w6).alloc (Nat.le_refl _) _ |>.trans (Hb7.out.mono (by simp))).mono hbA.size)
  exact hbC
end Go.Proofs.Ytbnonccmlildnaa

/- num: a number of eight bits, as a text. -/
namespace Go.Proofs.Ytbnonccmlildnaa
open Go.RowKit Go.Lib

/-- The digits still to come, and those that are there. -/
def tailD (k : Nat) (s : List UInt8) : List UInt8 := if 0 < k ∨ s = [] then dig3 k ++ s else s
theorem tailD_step {k : Nat} {s : List UInt8} (hk : k < 1000) (h : 0 < k ∨ s = []) : tailD (k / 10) (UInt8.ofNat (48 + k % 10) :: s) = tailD k s := by
  unfold tailD
  rw [if_pos h]
  unfold dig3
  by_cases h1 : k < 10
  · have h0 : k / 10 = 0 := by omega
    have hm : k % 10 = k := by omega
    rw [h0, hm, if_neg (by simp), if_pos h1]
    rfl
  · by_cases h2 : k < 100
    · rw [if_pos (by left; omega), if_neg h1, if_pos h2, if_pos (by omega : k / 10 < 10)]
      rfl
    · rw [if_pos (by left; omega), if_neg h1, if_neg h2, if_neg (by omega), if_pos (by omega)]
      rfl
theorem digit_at (d : Nat) (hd : d < 10) : (⟨#[48, 49, 50, 51, 52, 53, 54, 55, 56, 57]⟩ : ByteArray).extract d (d + 1) = ⟨#[UInt8.ofNat (48 + d)]⟩ := by
  have h : ((List.range 10).all fun d => decide ((⟨#[48, 49, 50, 51, 52, 53, 54, 55, 56, 57]⟩ : ByteArray).extract d (d + 1) = ⟨#[UInt8.ofNat (48 + d)]⟩)) = true := by kernel_rfl
  simpa using List.all_eq_true.1 h d (List.mem_range.2 hd)
theorem dig3_len (k : Nat) : (dig3 k).length ≤ 3 := by unfold dig3; split; simp; split <;> simp
theorem tailD_len {k m : Nat} {s : ByteArray} (h : tailD k s.data.toList = dig3 m) : s.size ≤ 3 := by
  have h1 := dig3_len m
  rw [← h] at h1
  unfold tailD at h1
  have : s.data.toList.length = s.size := by simp
  split at h1
  · simp only [List.length_append] at h1; omega
  · omega
theorem bytes_cons (c : UInt8) (s : ByteArray) : ((⟨#[c]⟩ : ByteArray) ++ s).data.toList = c :: s.data.toList := by
  simp
theorem bytes_size (c : UInt8) (s : ByteArray) : ((⟨#[c]⟩ : ByteArray) ++ s).size = s.size + 1 := by
  have h := congrArg List.length (bytes_cons c s)
  have e : ∀ x : ByteArray, x.data.toList.length = x.size := fun x => by rw [Array.length_toList]; rfl
  rw [e, List.length_cons, e] at h
  exact h
set_option maxRecDepth 100000 in
set_option maxHeartbeats 2000000 in
theorem num_any {n : Int} (h1 : -128 ≤ n) (h2 : n ≤ 127) (w : World) : Calls Try.prog 5 #[.int .i8 n] w fun e w' => e = .returned (.string (n8B n)) ∧ w = w' := by
  by_cases hneg : n < 0
  · go_enter Try.func5, Try.ntmps5
    go_wp2_with fail
    go_loop [3, 4] (fun sv kv => ∃ (s : ByteArray) (k : Nat), sv = .string s ∧ kv = .int .i64 k ∧ k ≤ 128 ∧ Hid (tailD k s.data.toList = dig3 n.natAbs)) (fun sv kv => (Go.RowKit.intOf kv).toNat + (match sv with | .string s => if s.size = 0 then 1 else 0 | _ => 0))
    case atStart => exact ⟨⟨#[]⟩, n.natAbs, rfl, by go_num, by omega, Lib.hid (by unfold tailD; simp)⟩
    case round =>
      obtain ⟨s, k, rfl, rfl, hk, HT⟩ := hrel
      have hs3 := tailD_len HT.out
      by_cases h0 : 0 < k ∨ s.data.toList = []
      · have Hst : Hid (tailD (k / 10) (((⟨#[48, 49, 50, 51, 52, 53, 54, 55, 56, 57]⟩ : ByteArray).extract (k % 10) (k % 10 + 1) ++ s).data.toList) = dig3 n.natAbs ∧ ¬ ((⟨#[48, 49, 50, 51, 52, 53, 54, 55, 56, 57]⟩ : ByteArray).extract (k % 10) (k % 10 + 1) ++ s).size = 0) := Lib.hid (by
          rw [digit_at (k % 10) (by omega)]
          refine ⟨?_, ?_⟩
          · rw [bytes_cons, tailD_step (by omega) h0]
            exact HT.out
          · rw [bytes_size]
            omega)
        have hk10 : k / 10 ≤ k := by omega
        by_cases h1 : 0 < k
        · have h1i : (0 : Int) < (k : Int) := by omega
          clear h0
          go_wp2_with fail
          go_round
          case rel => exact ⟨_, k / 10, rfl, by go_num, by omega, Lib.hid Hst.out.1⟩
          case measure =>
            have := Hst.out.2
            simp only [Go.RowKit.intOf]
            rw [if_neg this]
            split <;> omega
        · have h2 : s = ⟨#[]⟩ := by
            have := h0.resolve_left h1
            exact ByteArray.ext (Array.ext' (by simpa using this))
          have h3 : k = 0 := by omega
          subst h2 h3
          clear h0
          go_wp2_with fail
          go_round
          case rel => exact ⟨_, 0, rfl, by go_num, by omega, Lib.hid Hst.out.1⟩
          case measure =>
            have := Hst.out.2
            simp only [Go.RowKit.intOf]
            rw [if_neg this, if_pos (show (⟨#[]⟩ : ByteArray).size = 0 from rfl)]
            decide
      · have h1 : ¬ 0 < k := fun h => h0 (.inl h)
        have h2 : ¬ s.data.toList = [] := fun h => h0 (.inr h)
        have h3 : k = 0 := by omega
        subst h3
        have Hdone : Hid (s.data.toList = dig3 n.natAbs) := Lib.hid (by have := HT.out; unfold tailD at this; rwa [if_neg h0] at this)
        have hne : (s.toList == ([] : List UInt8)) = false := by
          rw [ByteArray.toList_eq, beq_eq_false_iff_ne]
          exact h2
        have hne2 : ¬ s = ⟨#[]⟩ := fun e => by rw [e] at h2; exact h2 rfl
        clear h0 h2
        go_wp2_with fail
        go_ret
        refine ⟨?_, rfl⟩
        show Ending.returned (.string ((⟨#[45]⟩ : ByteArray) ++ s)) = _
        have : (⟨#[45]⟩ : ByteArray) ++ s = n8B n := ByteArray.ext (Array.ext' (by rw [bytes_cons, Hdone.out]; unfold n8B num8; rw [if_pos hneg]))
        rw [this]
  · go_enter Try.func5, Try.ntmps5
    go_wp2_with fail
    go_loop [3, 4] (fun sv kv => ∃ (s : ByteArray) (k : Nat), sv = .string s ∧ kv = .int .i64 k ∧ k ≤ 128 ∧ Hid (tailD k s.data.toList = dig3 n.natAbs)) (fun sv kv => (Go.RowKit.intOf kv).toNat + (match sv with | .string s => if s.size = 0 then 1 else 0 | _ => 0))
    case atStart => exact ⟨⟨#[]⟩, n.natAbs, rfl, by go_num, by omega, Lib.hid (by unfold tailD; simp)⟩
    case round =>
      obtain ⟨s, k, rfl, rfl, hk, HT⟩ := hrel
      have hs3 := tailD_len HT.out
      by_cases h0 : 0 < k ∨ s.data.toList = []
      · have Hst : Hid (tailD (k / 10) (((⟨#[48, 49, 50, 51, 52, 53, 54, 55, 56, 57]⟩ : ByteArray).extract (k % 10) (k % 10 + 1) ++ s).data.toList) = dig3 n.natAbs ∧ ¬ ((⟨#[48, 49, 50, 51, 52, 53, 54, 55, 56, 57]⟩ : ByteArray).extract (k % 10) (k % 10 + 1) ++ s).size = 0) := Lib.hid (by
          rw [digit_at (k % 10) (by omega)]
          refine ⟨?_, ?_⟩
          · rw [bytes_cons, tailD_step (by omega) h0]
            exact HT.out
          · rw [bytes_size]
            omega)
        have hk10 : k / 10 ≤ k := by omega
        by_cases h1 : 0 < k
        · have h1i : (0 : Int) < (k : Int) := by omega
          clear h0
          go_wp2_with fail
          go_round
          case rel => exact ⟨_, k / 10, rfl, by go_num, by omega, Lib.hid Hst.out.1⟩
          case measure =>
            have := Hst.out.2
            simp only [Go.RowKit.intOf]
            rw [if_neg this]
            split <;> omega
        · have h2 : s = ⟨#[]⟩ := by
            have := h0.resolve_left h1
            exact ByteArray.ext (Array.ext' (by simpa using this))
          have h3 : k = 0 := by omega
          subst h2 h3
          clear h0
          go_wp2_with fail
          go_round
          case rel => exact ⟨_, 0, rfl, by go_num, by omega, Lib.hid Hst.out.1⟩
          case measure =>
            have := Hst.out.2
            simp only [Go.RowKit.intOf]
            rw [if_neg this, if_pos (show (⟨#[]⟩ : ByteArray).size = 0 from rfl)]
            decide
      · have h1 : ¬ 0 < k := fun h => h0 (.inl h)
        have h2 : ¬ s.data.toList = [] := fun h => h0 (.inr h)
        have h3 : k = 0 := by omega
        subst h3
        have Hdone : Hid (s.data.toList = dig3 n.natAbs) := Lib.hid (by have := HT.out; unfold tailD at this; rwa [if_neg h0] at this)
        have hne : (s.toList == ([] : List UInt8)) = false := by
          rw [ByteArray.toList_eq, beq_eq_false_iff_ne]
          exact h2
        have hne2 : ¬ s = ⟨#[]⟩ := fun e => by rw [e] at h2; exact h2 rfl
        clear h0 h2
        go_wp2_with fail
        go_ret
        refine ⟨?_, rfl⟩
        show Ending.returned (.string s) = _
        have : s = n8B n := ByteArray.ext (Array.ext' (by rw [Hdone.out]; unfold n8B num8; rw [if_neg (by omega)]))
        rw [this]
end Go.Proofs.Ytbnonccmlildnaa

/- Terms that lie in some blocks alone; lists of them that grow. -/
namespace Go.Proofs.Ytbnonccmlildnaa
open Go.RowKit Go.Lib

def zeroP : Parts := ⟨0, .empty, 0, .empty, none, 0, 0, none, 0, 0, none, 0, 0⟩
theorem cell_set_ne {w : World} {a b : Addr} {x : Value} (h : a.block ≠ b.block) : (w.setCell b x).cell? a = w.cell? a :=
  World.cell?_of_block (w := w) (Below.heap_setCell w b x a.block (Ne.symm h |> fun h e => h e.symm))
/-- The world with some blocks' cells alone. -/
def only (w : World) (p : Nat → Bool) : World := { w with heap := w.heap.mapIdx fun i o => if p i then o else .stringIter ⟨#[]⟩ 0 }
theorem only_cell (w : World) (p : Nat → Bool) (a : Addr) : (only w p).cell? a = if p a.block then w.cell? a else none := by
  unfold only World.cell?
  simp only [Array.getElem?_mapIdx]
  cases h : w.heap[a.block]? with
  | none => simp
  | some o =>
    simp only [Option.map_some]
    cases hp : p a.block <;> simp
/-- What is told of cells in one world holds in the other. -/
def Inc (w w' : World) : Prop := ∀ a v, w.cell? a = some v → w'.cell? a = some v
theorem Inc.trans {a b c : World} (h : Inc a b) (k : Inc b c) : Inc a c := fun x v hx => k x v (h x v hx)
theorem inc_below {w w' : World} (h : Below w.heap.size w w') : Inc w w' := fun a v hv => cell_of_below h (Nat.le_refl _) hv
theorem inc_only (w : World) (p : Nat → Bool) : Inc (only w p) w := fun a v hv => by
  rw [only_cell] at hv
  split at hv
  · exact hv
  · cases hv
theorem only_inc {w w' : World} {p q : Nat → Bool} (h : ∀ a v, p a.block = true → w.cell? a = some v → q a.block = true ∧ w'.cell? a = some v) : Inc (only w p) (only w' q) := fun a v hv => by
  rw [only_cell] at hv ⊢
  split at hv
  · rename_i hp
    obtain ⟨h1, h2⟩ := h a v hp hv
    rw [if_pos h1]
    exact h2
  · cases hv
theorem only_below {w w' : World} {p : Nat → Bool} (h : Below w.heap.size w w') : Inc (only w p) (only w' p) := only_inc fun a v hp hv => ⟨hp, cell_of_below h (Nat.le_refl _) hv⟩
theorem RowCells.inc {w w' : World} {A : Option Addr} {k n : Nat} {f : Nat → Value} (h : RowCells w A k n f) (hb : Inc w w') : RowCells w' A k n f := by
  rcases h with h | ⟨b, o, hA, h⟩
  · exact .inl h
  · refine .inr ⟨b, o, hA, fun j hj => ⟨(h j hj).1, fun i hi => ?_⟩⟩
    have h1 := (h j hj).2 i hi
    have h2 : (f j).cells[i]? = some ((f j).cells[i]'(by rw [(h j hj).1]; exact hi)) := Array.getElem?_eq_getElem _
    rw [h2] at h1 ⊢
    exact hb _ _ h1
theorem TmV.inc {w w' : World} {t : Tm} {v : Value} (h : TmV w t v) (hb : Inc w w') : TmV w' t v := by
  induction h with
  | mk f g hbd hl hf _ hv hV hp hg _ ihL ihP => exact .mk f g hbd hl (hf.inc hb) ihL hv (hV.inc hb) hp (hg.inc hb) ihP
/-- A slice of terms, all of it in some blocks. -/
structure TmsV (w : World) (ts : List Tm) (A : Option Addr) (n c : Nat) : Prop where
  len : n = ts.length
  cap : n ≤ c
  row : ∃ f, RowCells w A 7 ts.length f ∧ ∀ (j : Nat) (t : Tm), ts[j]? = some t → TmV w t (f j)
theorem TmsV.inc {w w' : World} {ts : List Tm} {A : Option Addr} {n c : Nat} (h : TmsV w ts A n c) (hb : Inc w w') : TmsV w' ts A n c := by
  obtain ⟨h1, h2, f, h3, h4⟩ := h
  exact ⟨h1, h2, f, h3.inc hb, fun j t hj => (h4 j t hj).inc hb⟩
/-- Blocks of the old world, and those from B on. -/
def inOld (N B : Nat) (b : Nat) : Bool := decide (b < N) || decide (B ≤ b)
theorem inOld_iff {N B b : Nat} : inOld N B b = true ↔ b < N ∨ B ≤ b := by simp [inOld]
def PutIs (N : Nat) (w : World) (t : Tm) (e : Ending) (w' : World) : Prop := ∃ pp : Parts, e = .returned (.agg pp.arr) ∧ TmV (only w' (inOld N w.heap.size)) t (.agg pp.arr) ∧ Below w.heap.size w w'
/-- What lay in the old world lies there still. -/
theorem TmV.old {w0 w : World} {t : Tm} {v : Value} (h : TmV w0 t v) (hb : Below w0.heap.size w0 w) (B : Nat) : TmV (only w (inOld w0.heap.size B)) t v :=
  h.inc fun a u hu => by
    rw [only_cell, if_pos (inOld_iff.2 (.inl (World.block_lt_of_cell? w0 a hu)))]
    exact cell_of_below hb (Nat.le_refl _) hu

/-- The cells of elements, one after the other. -/
def cellsOf (us : List Value) : List Value := us.flatMap fun u => u.cells.toList
theorem cellsOf_length {us : List Value} {k : Nat} (h : ∀ u ∈ us, u.cells.size = k) : (cellsOf us).length = us.length * k := by
  induction us with
  | nil => simp [cellsOf]
  | cons u us ih =>
    have h1 := h u (by simp)
    have h2 := ih fun v hv => h v (by simp [hv])
    simp only [cellsOf, List.flatMap_cons, List.length_append, Array.length_toList, List.length_cons] at h2 ⊢
    rw [h1, h2, Nat.succ_mul]
    omega
theorem cellsOf_get {us : List Value} {k : Nat} (h : ∀ u ∈ us, u.cells.size = k) {j : Nat} (hj : j < us.length) {i : Nat} (hi : i < k) : (cellsOf us)[j * k + i]? = (us[j]).cells[i]? := by
  induction us generalizing j with
  | nil => simp at hj
  | cons u us ih =>
    have h1 := h u (by simp)
    have h2 := fun hj => ih (fun v hv => h v (by simp [hv])) (j := j - 1) hj
    cases j with
    | zero =>
      simp only [cellsOf, List.flatMap_cons, Nat.zero_mul, Nat.zero_add, List.getElem_cons_zero]
      rw [List.getElem?_append_left (by simp [h1]; exact hi)]
      simp
    | succ j =>
      simp only [List.length_cons] at hj
      have h3 := h2 (by omega)
      simp only [Nat.add_sub_cancel] at h3
      simp only [cellsOf, List.flatMap_cons, List.getElem_cons_succ] at h3 ⊢
      rw [List.getElem?_append_right (by simp [h1]; rw [Nat.succ_mul]; omega)]
      have : (j + 1) * k + i - u.cells.toList.length = j * k + i := by simp [h1]; rw [Nat.succ_mul]; omega
      rw [this]
      exact h3
theorem ownsRow_cells {w : World} {base : Nat} {e : TypeId} {k : Nat} {A : Option Addr} {n c : Nat} {us : List Value} (h : w.ownsRow base e k (.slice A n c) n (cellsOf us)) (hu : ∀ u ∈ us, u.cells.size = k) (hn : us.length = n) (hk : 0 < k) :
    RowCells w A k n (fun j => us.getD j .nilFunc) ∧ n ≤ c ∧ (∀ b o, A = some ⟨b, o, none⟩ → base ≤ b) := by
  rcases h.2 with ⟨hv, h0⟩ | ⟨g, cap, cur, hv, hb, hh, hn2, hc, hcs, htake⟩
  · simp only [Value.slice.injEq] at hv
    obtain ⟨rfl, rfl, rfl⟩ := hv
    exact ⟨.inl rfl, Nat.le_refl _, by simp⟩
  · simp only [Value.slice.injEq] at hv
    obtain ⟨rfl, _, rfl⟩ := hv
    refine ⟨.inr ⟨g, 0, rfl, fun j hj => ?_⟩, hn2, fun b o e => by cases e; exact hb⟩
    have hj' : j < us.length := by omega
    have e1 : us.getD j .nilFunc = us[j] := by simp [hj']
    dsimp only
    refine ⟨by rw [e1]; exact hu _ (List.getElem_mem hj'), fun i hi => ?_⟩
    have h2 := cellsOf_get hu hj' hi
    rw [← htake, List.getElem?_take, if_pos (by
      have : (j + 1) * k ≤ n * k := Nat.mul_le_mul_right k (by omega)
      rw [Nat.succ_mul] at this
      omega)] at h2
    rw [row_at hh, e1, ← h2, Nat.zero_add]
    simp
theorem info29 : (Try.prog.info? 40).map (fun i => (i.zero, i.size, i.bytes)) = some (some (.agg zeroP.arr), 7, 120) := by kernel_rfl
/-- Those blocks, but one. -/
def fromBut (N B : Nat) (o : Option Nat) (b : Nat) : Bool := inOld N B b && !(some b == o)
theorem fromBut_iff {N B : Nat} {o : Option Nat} {b : Nat} : fromBut N B o b = true ↔ (b < N ∨ B ≤ b) ∧ some b ≠ o := by
  simp [fromBut, inOld]
structure PutL (N B : Nat) (wr : World) (ts : List Tm) (A : Option Addr) (k c : Nat) (us : List Value) : Prop where
  len : us.length = k
  own : wr.ownsRow B 40 7 (.slice A k c) k (cellsOf us)
  seven : ∀ u ∈ us, u.cells.size = 7
  data : ∀ (j : Nat) (t : Tm), j < k → ts[j]? = some t → TmV (only wr (fromBut N B (Value.slice A k c).ownBlock)) t (us.getD j .nilFunc)
  base : B ≤ wr.heap.size
  old : N ≤ B
theorem PutL.below {N B : Nat} {wr w' : World} {ts : List Tm} {A : Option Addr} {k c : Nat} {us : List Value} (h : PutL N B wr ts A k c us) (hb : Below wr.heap.size wr w') : PutL N B w' ts A k c us :=
  ⟨h.len, ownsRow_same h.own fun g hg => hb.block g (by obtain ⟨_, cur, hc⟩ := ownsRow_lt h.own g hg; exact (Array.getElem?_eq_some_iff.1 hc).1), h.seven, fun j t hj ht => (h.data j t hj ht).inc (only_below hb), Nat.le_trans h.base hb.size, h.old⟩
/-- One more term, appended. -/
theorem PutL.append {N B C : Nat} {W w9 : World} {ts : List Tm} {A : Option Addr} {k c g cap : Nat} {us : List Value} {t : Tm} {pp : Parts} (h : PutL N B W ts A k c us) (ht : ts[k]? = some t) (hnew : TmV (only W (inOld N C)) t (.agg pp.arr)) (hold : ∀ j, (Value.slice A k c).ownBlock = some j → j < C) (hB : B ≤ C)
    (hq : w9.ownsRow B 40 7 (.slice (some ⟨g, 0, none⟩) (k + 1) cap) (k + 1) (cellsOf us ++ pp.arr.toList)) (hg : W.grownBy w9 (Value.slice A k c).ownBlock) (hat : (Value.slice A k c).ownBlock = some g ∨ g = W.heap.size) : PutL N B w9 ts (some ⟨g, 0, none⟩) (k + 1) cap (us ++ [.agg pp.arr]) := by
  have hinc : ∀ p : Nat → Bool, (∀ b, p b = true → (b < N ∨ B ≤ b) ∧ some b ≠ (Value.slice A k c).ownBlock) → Inc (only W p) (only w9 (fromBut N B (some g))) := fun p hp => only_inc fun a v hpa hv => by
    obtain ⟨h1, h2⟩ := hp _ hpa
    have hlt := World.block_lt_of_cell? W a hv
    refine ⟨fromBut_iff.2 ⟨h1, fun e => ?_⟩, (World.cell?_of_block (w := W) (hg.block a.block hlt h2)).trans hv⟩
    rcases hat with e2 | e2
    · exact h2 (e.trans e2.symm)
    · cases e
      omega
  have hown : (Value.slice (some ⟨g, 0, none⟩) (k + 1) cap).ownBlock = some g := rfl
  refine ⟨by simp [h.len], ?_, ?_, ?_, Nat.le_trans h.base hg.size, h.old⟩
  · have : cellsOf (us ++ [.agg pp.arr]) = cellsOf us ++ pp.arr.toList := by simp [cellsOf, Value.cells]
    rw [this]
    exact hq
  · intro u hu
    rcases List.mem_append.1 hu with hu | hu
    · exact h.seven u hu
    · simp only [List.mem_singleton] at hu
      subst hu
      rfl
  · intro j t2 hj ht2
    rw [hown]
    by_cases hjk : j < k
    · have e : (us ++ [Value.agg pp.arr]).getD j .nilFunc = us.getD j .nilFunc := by simp [List.getElem?_append_left (show j < us.length by rw [h.len]; exact hjk)]
      rw [e]
      exact (h.data j t2 hjk ht2).inc (hinc _ fun b hb => fromBut_iff.1 hb)
    · have hjk2 : j = k := by omega
      subst hjk2
      rw [ht] at ht2
      cases ht2
      have e : (us ++ [Value.agg pp.arr]).getD us.length .nilFunc = .agg pp.arr := by simp
      rw [h.len] at e
      rw [e]
      exact hnew.inc (hinc _ fun b hb => by
        rcases inOld_iff.1 hb with hb | hb
        · exact ⟨.inl hb, fun e => by have := (ownsRow_lt h.own b e.symm).1; have := h.old; omega⟩
        · exact ⟨.inr (by omega), fun e => by have := hold b e.symm; omega⟩)
theorem PutL.done {N B : Nat} {wr : World} {ts : List Tm} {A : Option Addr} {c : Nat} {us : List Value} (h : PutL N B wr ts A ts.length c us) : TmsV (only wr (inOld N B)) ts A ts.length c := by
  obtain ⟨h1, h2, h3⟩ := ownsRow_cells h.own h.seven h.len (by decide)
  refine ⟨rfl, h2, _, ?_, fun j t ht => (h.data j t ?_ ht).inc (only_inc fun a v hp hv => ⟨inOld_iff.2 (fromBut_iff.1 hp).1, hv⟩)⟩
  · rcases h1 with h1 | ⟨b, o, rfl, h1⟩
    · exact .inl h1
    · refine .inr ⟨b, o, rfl, fun j hj => ⟨(h1 j hj).1, fun i hi => ?_⟩⟩
      rw [only_cell, if_pos (inOld_iff.2 (.inr (by simpa using h3 b o rfl)))]
      exact (h1 j hj).2 i hi
  · rcases Nat.lt_or_ge j ts.length with h | h
    · exact h
    · rw [List.getElem?_eq_none h] at ht
      cases ht
theorem step_append_row {P : Program} (w : World) {ops : Array Oper} {o : Oper} {a : Act} {K : Act → World → Prop} {Q : Exit → Act → World → Prop} {E : Prop} (hgd : o.guard = none) (s x : Operand) (t : TypeId)
    (ho : o.op = .call { callee := .builtin .append, args := #[s, x], argTypes := #[t, t] }) (base : Nat) (e : TypeId) (i : TypeInfo) (z : Value) (k bytes : Nat) (ht : P.underlying t = some (.slice e)) (hi : P.info? e = some i) (hz : i.zero = some z)
    (hsize : i.size = k) (hby : i.bytes = bytes) (hzs : z.cells.size = k) (hk : 0 < k) (v : Value) (n : Nat) (xs : List Value) (hs : a.eval s = v) (hown : w.ownsRow base e k v n xs) (ad : Addr) (c : Nat) (u : Array Value) (hx : a.eval x = .slice (some ad) 1 c)
    (hu : u.size = k) (hb : w.heap[ad.block]? = some (.cells u e (0, 0))) (h0 : ad.off = 0) (hsp : ad.spot = none) (h1 : ∀ y ∈ u.toList, y.oneCell' = true) (h63 : n + 1 ≤ maxLen) (hbytes : (n + 1) * bytes ≤ 140737488355328) (hbase : base ≤ w.heap.size)
    (h : ∀ g cap w', w'.ownsRow base e k (.slice (some ⟨g, 0, none⟩) (n + 1) cap) (n + 1) (xs ++ u.toList) → w.grownBy w' v.ownBlock → (v.ownBlock = some g ∨ g = w.heap.size) → K (a.put o.dst (.slice (some ⟨g, 0, none⟩) (n + 1) cap)) w') :
    if Region.wanted o (yielded ops a.tmps) = true then Oper.wp P o a w K Q else E := by
  have hw : Region.wanted o (yielded ops a.tmps) = true := by simp [Region.wanted, hgd]
  rw [if_pos hw]
  obtain ⟨v', w', hr, hq, hg, hnil, hat⟩ := run_append_own_at (P := P) w base t o.type e i z k bytes ht hi hz hsize hby hzs hk v n xs hown ad 1 c u.toList (by simp [hu]) (fun j y hj => by
    obtain ⟨ab, ao, asp⟩ := ad
    dsimp only at h0 hsp hb
    subst h0 hsp
    rw [Addr.add_lit, row_at hb, Nat.zero_add]
    simpa using hj) h1 h63 hbytes hbase
  rcases hq.2 with ⟨_, hn⟩ | ⟨g, cap, cur, rfl, r⟩
  · omega
  · unfold Oper.wp execOp
    simp only [ho, resolve, invoke, builtin, Sem.run_bind, Sem.run_pure, Result.andThen_ok, List.map_toArray, List.map_cons, List.map_nil, hs, hx, hr]
    refine h g cap w' hq hg ?_
    rcases hat with hat | hat
    · exact .inl hat.symm
    · exact .inr (by simpa [Value.ownBlock] using hat)
/-- A term written into a row. -/
def setL (w : World) (g o : Nat) (p : Parts) : World := ((((((w.setCell ⟨g, o, none⟩ (.int .i64 p.op)).setCell ⟨g, o + 1, none⟩ (.string p.name)).setCell ⟨g, o + 2, none⟩ (.int .i64 p.sort)).setCell ⟨g, o + 3, none⟩ (.string p.n)).setCell ⟨g, o + 4, none⟩ (.slice p.A p.la p.ca)).setCell ⟨g, o + 5, none⟩ (.slice p.V p.lv p.cv)).setCell ⟨g, o + 6, none⟩ (.slice p.P p.lp p.cp)
theorem row_kept_own {W w3 : World} {base k s n : Nat} {e t : TypeId} {c : Array Value} {v : Value} {xs : List Value} (h : W.heap[k]? = some (.cells c t (0, 0))) (hq : W.ownsRow base e s v n xs) (hg : W.grownBy w3 v.ownBlock) (hne : t ≠ e) : w3.heap[k]? = some (.cells c t (0, 0)) := by
  refine (hg.block k (Array.getElem?_eq_some_iff.1 h).1 fun e => ?_).trans h
  obtain ⟨_, cur, hc⟩ := ownsRow_lt hq k e.symm
  rw [h] at hc
  cases hc
  exact hne rfl
theorem Parts.one (p : Parts) : ∀ y ∈ p.arr.toList, y.oneCell' = true := by
  intro y hy
  simp only [Parts.arr, List.mem_cons, List.not_mem_nil, or_false] at hy
  rcases hy with rfl | rfl | rfl | rfl | rfl | rfl | rfl <;> rfl
end Go.Proofs.Ytbnonccmlildnaa

/- A drawn region whose last operations are held back, and write what others read. -/
namespace Go.Proofs.Ytbnonccmlildnaa
open Go.RowKit

def noDstBut (ops : Array Oper) (rest : List Nat) (t : Nat) : Bool := (List.range ops.size).all fun j => rest.contains j || match ops[j]? with
  | some o => !(o.dst == some t)
  | none => true
theorem noDstBut_spec {ops : Array Oper} {rest : List Nat} {t : Nat} (h : noDstBut ops rest t = true) (j : Nat) (o : Oper) (ho : ops[j]? = some o) (hr : j ∉ rest) : o.dst ≠ some t := by
  unfold noDstBut at h
  simp only [List.all_eq_true, List.mem_range] at h
  have := h j (Array.getElem?_eq_some_iff.1 ho).1
  simp only [ho, Bool.or_eq_true, List.contains_iff_mem] at this
  intro e
  rcases this with this | this
  · exact hr this
  · rw [e] at this
    simp at this
/-- Whatever the order: each operation that isn't held back makes what it should, and all of those that count are there when what is held back begins. -/
theorem wpAny_makesF {P : Program} {ops : Array Oper} {Q : Exit → Act → World → Prop} {J : World → Prop} {R : World → World → Prop} {spec : Nat → World → Value → Prop} {mk rest : List Nat} {nt : Nat} {a0 : Act} (hok : MakesOK ops mk rest nt) (hnt : a0.tmps.size = nt) (hkeep : ∀ i w w' v, spec i w v → R w w' → spec i w' v)
    (hstep : ∀ (i : Nat) (o : Oper), ops[i]? = some o → i ∉ rest → ∀ (a : Act) (w : World), J w → (∀ (t : Nat), noDstBut ops rest t = true → a.tmps.getD t undef = a0.tmps.getD t undef) →
      (∀ e ∈ o.after, Region.binds .any e = true → ∀ (o' : Oper) (d : Nat), ops[e.on]? = some o' → o'.dst = some d → spec e.on w (a.tmps.getD d undef)) →
      ∀ K : Act → World → Prop, (∀ v w', spec i w' v → R w w' → J w' → K (a.put o.dst v) w') → Oper.wp P o a w K Q)
    (hend : ∀ (fuel : Nat) (listed : Array Bool) (a : Act) (w : World), listed.toList.countP (fun b => !b) ≤ fuel → Makes ops J spec rest a0 listed a w → (∀ m ∈ mk, listed.getD m false = true) → wpAny P .any ops Q fuel listed a w) :
    ∀ (fuel : Nat) (listed : Array Bool) (a : Act) (w : World), listed.toList.countP (fun b => !b) ≤ fuel → Makes ops J spec rest a0 listed a w → wpAny P .any ops Q fuel listed a w := by
  intro fuel
  induction fuel with
  | zero =>
    intro listed a w hc hm
    refine hend _ _ _ _ hc hm fun m hmk => ?_
    have h1 : m < listed.size := by rw [hm.size]; exact hok.mkLt m hmk
    rw [getD_in h1]
    have h0 : listed.toList.countP (fun b => !b) = 0 := by omega
    have := List.countP_eq_zero.1 h0 listed[m] (by simp)
    simpa using this
  | succ fuel ih =>
    intro listed a w hc hm
    by_cases hall : ∀ m ∈ mk, listed.getD m false = true
    · exact hend _ _ _ _ hc hm hall
    · have hex : ∃ m ∈ mk, ¬ listed.getD m false = true := Classical.byContradiction fun hn => hall fun m hmk => Classical.byContradiction fun h2 => hn ⟨m, hmk, h2⟩
      obtain ⟨m, hmk, hml⟩ := hex
      have hmlt : m < listed.size := by rw [hm.size]; exact hok.mkLt m hmk
      refine ⟨fun hr => ?_, fun i hi => ?_⟩
      · obtain ⟨j, hj⟩ := unlisted_ready hok hm.size _ m rfl (hok.mkLt m hmk) (by rw [getD_in hmlt] at hml ⊢; simpa using hml)
        rw [hr] at hj
        cases hj
      · obtain ⟨hun, o, ho, hed⟩ := mem_ready.1 hi
        have hnr : i ∉ rest := fun hr => by
          rcases reaches_listed hm.closed _ i o ho hed (hok.block i hr m hmk) with h | ⟨r, hrr, h1⟩
          · exact hml h
          · have h2 := getD_both (hm.rest _ hrr)
            rw [h1] at h2
            cases h2
        unfold wpOp
        rw [ho]
        simp only [Region.wanted, hok.guard i o ho hnr, if_true]
        refine .inl (hstep i o ho hnr a w hm.inv (fun t ht => ?_) (fun e he hb o' d ho' hd => hm.held e.on o' d (hed e he hb) ho' hd) _ fun v w' hv hbw hJ => ih _ _ _ ?_ (hm.step hok hnt hkeep ho hnr hed hv hbw hJ))
        · rw [Array.getD_eq_getD_getElem?, Array.getD_eq_getD_getElem?, hm.frame t fun j o' hj ho' => noDstBut_spec ht j o' ho' fun hr => by have h2 := getD_both (hm.rest _ hr); rw [hj] at h2; cases h2]
        · have hlt : i < listed.size := by rw [hm.size]; exact (Array.getElem?_eq_some_iff.1 ho).1
          rw [getD_in hlt] at hun
          have := unlisted_set listed.toList i (by simp [hlt, hun])
          rw [Array.toList_setIfInBounds]
          omega
theorem wp_region_makesJF {P : Program} {ops : Array Oper} {Q : Exit → Act → World → Prop} {spec : Nat → World → Value → Prop} (mk rest : List Nat) (J : World → Prop) (R : World → World → Prop) {id : Nat} {a : Act} {w : World} (hm : P.follows .mixedOrders = true) (hk : makesOK ops mk rest a.tmps.size = true) (hkeep : ∀ i w w' v, spec i w v → R w w' → spec i w' v) (h0 : J w.drew)
    (hstep : ∀ (i : Nat) (o : Oper), ops[i]? = some o → i ∉ rest → ∀ (a' : Act) (w' : World), J w' → (∀ (t : Nat), noDstBut ops rest t = true → a'.tmps.getD t undef = a.tmps.getD t undef) →
      (∀ e ∈ o.after, Region.binds .any e = true → ∀ (o' : Oper) (d : Nat), ops[e.on]? = some o' → o'.dst = some d → spec e.on w' (a'.tmps.getD d undef)) →
      ∀ K : Act → World → Prop, (∀ v w'', spec i w'' v → R w' w'' → J w'' → K (a'.put o.dst v) w'') → Oper.wp P o a' w' K Q)
    (hend : ∀ (fuel : Nat) (listed : Array Bool) (a' : Act) (w' : World), listed.toList.countP (fun b => !b) ≤ fuel → Makes ops J spec rest a listed a' w' → (∀ m ∈ mk, listed.getD m false = true) → wpAny P .any ops Q fuel listed a' w') : (Code.region id ops true).wp P Q a w := by
  have hok := makesOK_spec hk
  refine wp_region_any hm (wpAny_makesF hok rfl hkeep hstep hend _ _ _ _ (by simp [List.countP_replicate]) ⟨by simp, h0, rfl, rfl, fun _ _ => rfl, fun i o d hi ho _ => ?_, fun i hi => ?_, fun j o hj ho => ?_⟩)
  · have hlt : i < ops.size := (Array.getElem?_eq_some_iff.1 ho).1
    rw [getD_in (by simpa using hlt)] at hi
    simp at hi
  · rw [getD_in (by simpa using hok.restLt i hi)]
    simp
  · have hlt : j < ops.size := (Array.getElem?_eq_some_iff.1 ho).1
    rw [getD_in (by simpa using hlt)] at hj
    simp at hj
/-- .. where nothing that was there is written. -/
theorem wp_region_makesF {P : Program} {ops : Array Oper} {Q : Exit → Act → World → Prop} {spec : Nat → World → Value → Prop} (mk rest : List Nat) {id : Nat} {a : Act} {w : World} (hm : P.follows .mixedOrders = true) (hk : makesOK ops mk rest a.tmps.size = true) (hkeep : ∀ i w w' v, spec i w v → Below w.heap.size w w' → spec i w' v)
    (hstep : ∀ (i : Nat) (o : Oper), ops[i]? = some o → i ∉ rest → ∀ (a' : Act) (w' : World), Below w.drew.heap.size w.drew w' → (∀ (t : Nat), noDstBut ops rest t = true → a'.tmps.getD t undef = a.tmps.getD t undef) →
      (∀ e ∈ o.after, Region.binds .any e = true → ∀ (o' : Oper) (d : Nat), ops[e.on]? = some o' → o'.dst = some d → spec e.on w' (a'.tmps.getD d undef)) →
      ∀ K : Act → World → Prop, (∀ v w'', spec i w'' v → Below w'.heap.size w' w'' → K (a'.put o.dst v) w'') → Oper.wp P o a' w' K Q)
    (hend : ∀ (fuel : Nat) (listed : Array Bool) (a' : Act) (w' : World), listed.toList.countP (fun b => !b) ≤ fuel → Makes ops (fun w' => Below w.drew.heap.size w.drew w') spec rest a listed a' w' → (∀ m ∈ mk, listed.getD m false = true) → wpAny P .any ops Q fuel listed a' w') : (Code.region id ops true).wp P Q a w :=
  wp_region_makesJF mk rest (fun w' => Below w.drew.heap.size w.drew w') (fun w w' => Below w.heap.size w w') hm hk hkeep (Below.refl _ _) (fun i o ho hi a' w' hJ hfr hd K hK => hstep i o ho hi a' w' hJ hfr hd K fun v w'' hv hb => hK v w'' hv hb (hJ.trans (hb.mono hJ.size))) hend
end Go.Proofs.Ytbnonccmlildnaa
