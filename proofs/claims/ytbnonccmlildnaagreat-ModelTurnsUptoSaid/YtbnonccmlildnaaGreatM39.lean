/- strconv.Itoa, whatever the library's table holds. -/
import Derived.Test.YtbnonccmlildnaaGreatM38
import Derived.Lib.AppendIntMem
import Derived.Test.YtbnonccmlildnaaGreatM37
set_option linter.unusedSimpArgs false
set_option linter.unusedVariables false
namespace Go.Proofs.YtbnonccmlildnaaGreat
open Go.RowKit Go.Lib Go.Shelf Go.Sort Go.Proofs

set_option maxRecDepth 100000 in
set_option maxHeartbeats 4000000 in
theorem fint_any {u : Nat} (h1 : 100 ≤ u) (h2 : u < 1000) {tab : Nat → Nat} {w : World} (hT : TabAt tab w) :
    Calls Tryz.prog 150 #[.int .i64 (u : Int), .int .i64 10] w fun e w' => e = .returned (.string ⟨(textN (ndT tab u) u).toArray⟩) ∧ Below w.heap.size w w' := by
  have mixed : Tryz.prog.follows .mixedOrders = true := by kernel_rfl
  have hn := ndT_three h1 h2 tab
  have hal0 : Below w.heap.size w (w.alloc (.cells Lib.zeros24 202)) := (Below.refl _ _).alloc (Nat.le_refl _) _
  have hT2 : TabAt tab (w.alloc (.cells Lib.zeros24 202)) := fun j hj => cell_of_below hal0 (Nat.le_refl _) (hT j hj)
  have Hnd := Lib.hid (numD_any h1 h2 hT2)
  generalize ndT tab u = nd at *
  have hal : Tryz.prog.arrayLen 202 = 24 := by kernel_rfl
  have hsl1 : ∀ W, (Instr.sliceAt 202 (.pointer (some ⟨w.heap.size, 0, none⟩)) (some (.int .i64 1)) (some (.int .i64 (1 + (nd : Int)))) none).run Tryz.prog W = .ok (.slice (some ⟨w.heap.size, 1, none⟩) nd 23) W := fun W => by
    rw [run_sliceAt_array_lh W 202 ⟨w.heap.size, 0, none⟩ (by simp [Program.arrayLen, Program.elem, Tryz.underlying202]) .i64 .i64 1 (1 + (nd : Int)) (by omega) (by omega) (by rw [hal]; omega)]
    go_simp
    omega
  have hH0 := Lib.holds_zero w 202 nd (by omega)
  have Hfmt := Lib.hid (fmt_any (cap := 23) h1 h2 hn hH0)
  have HH0 := Lib.hid hH0
  clear hH0 hal hT hT2 hal0
  go_enter Tryz.func150, Tryz.ntmps150
  go_wp2_with (go_at_call 152; refine Hnd.out.mono ?_; rintro e w' ⟨rfl, rfl⟩)
  go_at_call 153
  refine Hfmt.out.mono ?_
  rintro e w' ⟨rfl, k, dk, rfl, hdk⟩
  have hsz : dk.size = nd := by have := congrArg List.length hdk; rw [textN_len] at this; simpa using this
  have hcv : (convert 154 9 (.slice (some ⟨w.heap.size, 1, none⟩) nd 23)).run Tryz.prog ((putRow (fun (b : UInt8) => Value.int .u8 (b.toNat : Int)) (w.alloc (.cells Lib.zeros24 202)) w.heap.size 1 dk).drewN k) = .ok (.string ⟨(textN nd u).toArray⟩) ((putRow (fun (b : UInt8) => Value.int .u8 (b.toNat : Int)) (w.alloc (.cells Lib.zeros24 202)) w.heap.size 1 dk).drewN k) := by
    have h := run_convert_bytes_back (P := Tryz.prog) ((putRow (fun (b : UInt8) => Value.int .u8 (b.toNat : Int)) (w.alloc (.cells Lib.zeros24 202)) w.heap.size 1 dk).drewN k) 154 9 5 ⟨w.heap.size, 1, none⟩ 23 (textN nd u) Tryz.underlying154 Tryz.underlying5 Tryz.underlying9 (fun j hj => by
      have hj2 : j < dk.size := by rw [textN_len] at hj; omega
      have e : (textN nd u)[j] = dk[j]! := by
        rw [getElem!_pos dk j hj2]
        simp only [← hdk]
        simp
      rw [e, Lib.add_plain, World.cell?_drewN]
      exact cell?_putRow (fun (b : UInt8) => Value.int .u8 (b.toNat : Int)) _ w.heap.size 1 _ dk HH0.out (by rw [hsz, Array.size_replicate]) j hj2)
    rw [textN_len] at h
    exact h
  go_wp2
  go_ret
  obtain ⟨os, eo⟩ := Lib.fin_pos w (.cells Lib.zeros24 202) dk k
  refine ⟨rfl, ?_⟩
  rw [eo]
  exact Lib.below_grow _ w (Nat.le_refl _) k os
set_option maxRecDepth 100000 in
set_option maxHeartbeats 2000000 in
theorem itoa_any {u : Nat} (h1 : 100 ≤ u) (h2 : u < 1000) {tab : Nat → Nat} {w : World} (hT : TabAt tab w) :
    Calls Tryz.prog 148 #[.int .i64 (u : Int)] w fun e w' => e = .returned (.string ⟨(textN (ndT tab u) u).toArray⟩) ∧ Below w.heap.size w w' := by
  have H1 := Lib.hid (fint_any h1 h2 hT)
  generalize textN (ndT tab u) u = t at *
  have H2 : Hid (Calls Tryz.prog 149 #[.int .i64 (u : Int)] w fun e w' => e = .returned (.string ⟨t.toArray⟩) ∧ Below w.heap.size w w') := Lib.hid (by
    go_enter Tryz.func149, Tryz.ntmps149
    go_wp2_with (go_at_call 150; refine H1.out.mono ?_; rintro e w3 ⟨rfl, hb3⟩; have Hb3 := Lib.hid hb3; clear hb3)
    go_ret
    exact ⟨rfl, Hb3.out⟩)
  clear H1 hT
  go_enter Tryz.func148, Tryz.ntmps148
  go_wp2_with (go_at_call 149; refine H2.out.mono ?_; rintro e w3 ⟨rfl, hb3⟩; have Hb3 := Lib.hid hb3; clear hb3)
  go_ret
  exact ⟨rfl, Hb3.out⟩
/-- What strconv.Itoa tells, by the library's table. -/
def tauT (tab : Nat → Nat) (k : Nat) : List UInt8 := if k < 100 then Lib.decDigits k else textN (ndT tab k) k
theorem text_tab {M : Mdl} {tab : Nat → Nat} (hT : TabAt tab M.w0) (h : M.objs ≤ 1000) : ObjText M (tauT tab) := fun k hk => by
  unfold tauT
  by_cases h1 : k < 100
  · rw [if_pos h1]
    refine ⟨?_, fun w hw => (Tryz.strconv_Itoa_small k h1 w).mono ?_⟩
    · rw [Lib.decDigits]
      split
      · simp
      · rw [Lib.decDigits, dif_pos (by omega)]; simp
    · rintro e w' ⟨rfl, rfl⟩
      exact ⟨rfl, Below.refl _ _⟩
  · rw [if_neg h1]
    refine ⟨?_, fun w hw => itoa_any (by omega) (by omega) (fun j hj => cell_of_below hw (Nat.le_refl _) (hT j hj))⟩
    rw [textN_len]
    rcases ndT_three (u := k) (by omega) (by omega) tab with h | h | h <;> rw [h] <;> omega
end Go.Proofs.YtbnonccmlildnaaGreat

/- Place: a number below three. -/
namespace Go.Proofs.YtbnonccmlildnaaGreat
open Go.RowKit

def PlaceIs (w : World) (e : Ending) (w' : World) : Prop := ∃ k : Nat, k < 3 ∧ e = .returned (.int .i64 (k : Int)) ∧ w = w'
set_option maxRecDepth 100000 in
set_option maxHeartbeats 2000000 in
theorem place_any (o : Int) (ho : i64 o) (w : World) : Calls Tryz.prog 14 #[.int .i64 o, .int .i64 3] w (PlaceIs w) := by
  have hr : -3 < o.tmod 3 ∧ o.tmod 3 < 3 := by
    have h : (o.tmod 3).natAbs < 3 := by rw [Int.natAbs_tmod]; exact Nat.mod_lt _ (by decide)
    omega
  go_enter Tryz.func14, Tryz.ntmps14
  go_wp2_with fail
  · go_ret
    exact ⟨(o.tmod 3 + 3).toNat, by omega, by rw [Int.toNat_of_nonneg (by omega)]; rfl, rfl⟩
  · go_ret
    exact ⟨(o.tmod 3).toNat, by omega, by rw [Int.toNat_of_nonneg (by omega)]; rfl, rfl⟩
end Go.Proofs.YtbnonccmlildnaaGreat

/- uses: is a function named? -/
namespace Go.Proofs.YtbnonccmlildnaaGreat
open Go.RowKit

theorem usesXs_step {z : ByteArray} {l : List Tm} {k : Nat} (hk : k < l.length) : usesXs z (l.drop k) = (usesX z l[k] || usesXs z (l.drop (k + 1))) := by
  rw [List.drop_eq_getElem_cons hk]; simp [usesXs]
theorem usesXs_end {z : ByteArray} {l : List Tm} {k : Nat} (hk : ¬ k < l.length) : usesXs z (l.drop k) = false := by
  rw [List.drop_of_length_le (by omega)]; simp [usesXs]
set_option maxRecDepth 100000 in
set_option maxHeartbeats 2000000 in
theorem uses_any {w0 : World} {t : Tm} {v : Value} (h : TmV w0 t v) (z : ByteArray) : ∀ W, Below w0.heap.size w0 W → Calls Tryz.prog 16 #[v, .string z] W (BoolIs (usesX z t) W) := by
  induction h with
  | @mk op name sort n l vars pat A V P ca cv cp f g hbd hl hf hL hv hV hp hg hP ihL ihP =>
    intro W hW
    have hrow0 : Hid ((W.alloc (.cells (Parts.arr ⟨op, name, sort, n, A, l.length, ca, V, vars.length, cv, P, pat.length, cp⟩) 29)).heap[W.heap.size]? = some (.cells (Parts.arr ⟨op, name, sort, n, A, l.length, ca, V, vars.length, cv, P, pat.length, cp⟩) 29 (0, 0))) := Lib.hid (heap_alloc_new W _)
    have hb0 : Hid (Below W.heap.size W (W.alloc (.cells (Parts.arr ⟨op, name, sort, n, A, l.length, ca, V, vars.length, cv, P, pat.length, cp⟩) 29))) := Lib.hid ((Below.refl _ _).alloc (Nat.le_refl _) _)
    have HL := Lib.hid hL
    have HP := Lib.hid hP
    have Hf := Lib.hid hf
    have Hg := Lib.hid hg
    have Hih := Lib.hid ihL
    have HihP := Lib.hid ihP
    have HW := Lib.hid hW
    have hb1 := hbd.l
    have hb2 := hbd.v
    have hb3 := hbd.p
    have Hr : Hid (usesX z (.mk op name sort n l vars pat) = ((op == 17 && name.toList == z.toList) || usesXs z l || usesXs z pat)) := Lib.hid (by simp only [usesX])
    clear hf ihL ihP hL hP hg hV hW hbd hl hv hp
    generalize usesX z (.mk op name sort n l vars pat) = R at *
    have key : (op == 17 && name.toList == z.toList) = false → Calls Tryz.prog 16 #[.agg #[.int .i64 op, .string name, .int .i64 sort, .string n, .slice A l.length ca, .slice V vars.length cv, .slice P pat.length cp], .string z] W (BoolIs R W) := fun hno => by
      have Hno := Lib.hid hno
      clear hno
      have hop : (op == 17) = false ∨ ((op == 17) = true ∧ (name.toList == z.toList) = false) := by
        have := Hno.out
        cases h1 : (op == 17) with
        | false => exact .inl rfl
        | true => rw [h1] at this; exact .inr ⟨rfl, by simpa using this⟩
      have main : ∀ (W0 : World) (rest : Prop), True := fun _ _ => trivial
      rcases hop with h17 | ⟨h17, hnm⟩
      all_goals
        go_enter Tryz.func16, Tryz.ntmps16
        go_wp2_with fail
        go_loopw [5] (fun i wr => ∃ k : Nat, k ≤ l.length ∧ i = .int .i64 k ∧ Hid (usesXs z (l.drop k) = usesXs z l) ∧ Hid (wr.heap[W.heap.size]? = some (.cells (Parts.arr ⟨op, name, sort, n, A, l.length, ca, V, vars.length, cv, P, pat.length, cp⟩) 29 (0, 0))) ∧ Hid (Below W.heap.size W wr)) (fun i _ => l.length - (Go.RowKit.intOf i).toNat)
        case atStart => exact ⟨0, by omega, rfl, Lib.hid rfl, hrow0, hb0⟩
        case round =>
          obtain ⟨k, hk, rfl, HE, HR, HB⟩ := hrel
          obtain ⟨c0, c1, c2, c3, c4, c5, c6⟩ := box_cells HR.out
          dsimp only at c0 c1 c2 c3 c4 c5 c6
          by_cases hk1 : k < l.length
          · have hk2 : (k : Int) < (l.length : Int) := by omega
            have Ht : Hid (l[k]? = some l[k]) := Lib.hid (List.getElem?_eq_getElem hk1)
            have HE2 := Lib.hid ((usesXs_step (z := z) hk1).symm.trans HE.out)
            have Hv := Lib.hid (HL.out k _ Ht.out)
            obtain ⟨p, hp⟩ := Hv.out.parts
            have Hp := Lib.hid hp
            have hwr0 : Below w0.heap.size w0 wr := HW.out.trans (HB.out.mono HW.out.size)
            obtain ⟨b, o, rfl, e0, e1, e2, e3, e4, e5, e6⟩ := (Hf.out.below hwr0).get hk1 hp
            have Hc : Hid (Calls Tryz.prog 16 #[.agg #[.int .i64 p.op, .string p.name, .int .i64 p.sort, .string p.n, .slice p.A p.la p.ca, .slice p.V p.lv p.cv, .slice p.P p.lp p.cp], .string z] wr (BoolIs (usesX z l[k]) wr)) := Lib.hid (by
              have := Hih.out k _ Ht.out wr hwr0
              rw [Hp.out] at this
              exact this)
            clear hp hwr0
            generalize usesX z l[k] = q at *
            clear Hv Ht
            cases q with
            | true =>
              have Ht : Hid (R = true) := Lib.hid (by have h1 := Hr.out; rw [← HE2.out] at h1; rw [h1]; simp)
              go_wp2_with (go_at_call 16; (with_reducible refine Calls.mono Hc.out ?_); rintro e w3 ⟨rfl, hb3⟩; have Hb3 := Lib.hid hb3; clear hb3)
              go_ret
              exact ⟨by rw [Ht.out]; rfl, HB.out.trans (Hb3.out.mono HB.out.size)⟩
            | false =>
              go_wp2_with (go_at_call 16; (with_reducible refine Calls.mono Hc.out ?_); rintro e w3 ⟨rfl, hb3⟩; have Hb3 := Lib.hid hb3; clear hb3)
              go_roundw
              case rel => exact ⟨k + 1, by omega, by go_num, Lib.hid (by have := HE2.out; simpa using this), Lib.hid (below_keeps Hb3.out HR.out), Lib.hid (HB.out.trans (Hb3.out.mono HB.out.size))⟩
              case measure => simp [Go.RowKit.intOf]; omega
          · have hk2 : ¬ (k : Int) < (l.length : Int) := by omega
            have HX : Hid (R = usesXs z pat) := Lib.hid (by
              have h1 := Hr.out
              rw [← HE.out, usesXs_end hk1, Hno.out] at h1
              simpa using h1)
            clear hk1
            go_wp2_with fail
            go_loopw [6] (fun i wq => ∃ k : Nat, k ≤ pat.length ∧ i = .int .i64 k ∧ Hid (usesXs z (pat.drop k) = usesXs z pat) ∧ Hid (wq.heap[W.heap.size]? = some (.cells (Parts.arr ⟨op, name, sort, n, A, l.length, ca, V, vars.length, cv, P, pat.length, cp⟩) 29 (0, 0))) ∧ Hid (Below W.heap.size W wq)) (fun i _ => pat.length - (Go.RowKit.intOf i).toNat)
            case atStart => exact ⟨0, by omega, rfl, Lib.hid rfl, HR, HB⟩
            case round =>
              obtain ⟨j, hj, rfl, HE3, HR3, HB3⟩ := hrel
              clear c0 c1 c2 c3 c4 c5 c6
              obtain ⟨c0, c1, c2, c3, c4, c5, c6⟩ := box_cells HR3.out
              dsimp only at c0 c1 c2 c3 c4 c5 c6
              by_cases hj1 : j < pat.length
              · have hj2 : (j : Int) < (pat.length : Int) := by omega
                have Ht : Hid (pat[j]? = some pat[j]) := Lib.hid (List.getElem?_eq_getElem hj1)
                have HE2 := Lib.hid ((usesXs_step (z := z) hj1).symm.trans HE3.out)
                have Hv := Lib.hid (HP.out j _ Ht.out)
                obtain ⟨p, hp⟩ := Hv.out.parts
                have Hp := Lib.hid hp
                have hwr0 : Below w0.heap.size w0 wr := HW.out.trans (HB3.out.mono HW.out.size)
                obtain ⟨b, o, rfl, e0, e1, e2, e3, e4, e5, e6⟩ := (Hg.out.below hwr0).get hj1 hp
                have Hc : Hid (Calls Tryz.prog 16 #[.agg #[.int .i64 p.op, .string p.name, .int .i64 p.sort, .string p.n, .slice p.A p.la p.ca, .slice p.V p.lv p.cv, .slice p.P p.lp p.cp], .string z] wr (BoolIs (usesX z pat[j]) wr)) := Lib.hid (by
                  have := HihP.out j _ Ht.out wr hwr0
                  rw [Hp.out] at this
                  exact this)
                clear hp hwr0
                generalize usesX z pat[j] = q at *
                clear Hv Ht
                cases q with
                | true =>
                  have Ht : Hid (R = true) := Lib.hid (by have h1 := HX.out; rw [← HE2.out] at h1; rw [h1]; simp)
                  go_wp2_with (go_at_call 16; (with_reducible refine Calls.mono Hc.out ?_); rintro e w3 ⟨rfl, hb3⟩; have Hb3 := Lib.hid hb3; clear hb3)
                  go_ret
                  exact ⟨by rw [Ht.out]; rfl, HB3.out.trans (Hb3.out.mono HB3.out.size)⟩
                | false =>
                  go_wp2_with (go_at_call 16; (with_reducible refine Calls.mono Hc.out ?_); rintro e w3 ⟨rfl, hb3⟩; have Hb3 := Lib.hid hb3; clear hb3)
                  go_roundw
                  case rel => exact ⟨j + 1, by omega, by go_num, Lib.hid (by have := HE2.out; simpa using this), Lib.hid (below_keeps Hb3.out HR3.out), Lib.hid (HB3.out.trans (Hb3.out.mono HB3.out.size))⟩
                  case measure => simp [Go.RowKit.intOf]; omega
              · have hj2 : ¬ (j : Int) < (pat.length : Int) := by omega
                have Ht : Hid (R = false) := Lib.hid (by have h1 := HX.out; rw [← HE3.out, usesXs_end hj1] at h1; exact h1)
                clear hj1
                go_wp2_with fail
                go_ret
                exact ⟨by rw [Ht.out]; rfl, HB3.out⟩
    cases hno : (op == 17 && name.toList == z.toList) with
    | false => exact key hno
    | true =>
      have hh : (op == 17) = true ∧ (name.toList == z.toList) = true := by simpa using hno
      obtain ⟨h17, hnm⟩ := hh
      have Ht : Hid (R = true) := Lib.hid (by rw [Hr.out, hno]; rfl)
      clear key hno
      show Calls Tryz.prog 16 #[.agg #[.int .i64 op, .string name, .int .i64 sort, .string n, .slice A l.length ca, .slice V vars.length cv, .slice P pat.length cp], .string z] W _
      go_enter Tryz.func16, Tryz.ntmps16
      go_wp2_with fail
      go_ret
      exact ⟨by rw [Ht.out]; rfl, hb0.out⟩
end Go.Proofs.YtbnonccmlildnaaGreat

/- Terms that lie in some blocks alone; lists of them that grow. -/
namespace Go.Proofs.YtbnonccmlildnaaGreat
open Go.RowKit Go.Lib

def zeroP : Parts := ⟨0, .empty, 0, .empty, none, 0, 0, none, 0, 0, none, 0, 0⟩
theorem cell_set_ne {w : World} {a b : Addr} {x : Value} (h : a.block ≠ b.block) : (w.setCell b x).cell? a = w.cell? a :=
  World.cell?_of_block (w := w) (Below.heap_setCell w b x a.block (Ne.symm h |> fun h e => h e.symm))
/-- The world with some blocks' cells alone. -/
def only (w : World) (p : Nat → Bool) : World := { w with heap := w.heap.mapIdx fun i o => if p i then o else .stringIter ⟨#[]⟩ 0 }
theorem only_cell (w : World) (p : Nat → Bool) (a : Addr) : (only w p).cell? a = if p a.block then w.cell? a else none := by
  unfold only World.cell?
  simp only [Array.getElem?_mapIdx]
  cases h : w.heap[a.block]? with
  | none => simp
  | some o =>
    simp only [Option.map_some]
    cases hp : p a.block <;> simp
/-- What is told of cells in one world holds in the other. -/
def Inc (w w' : World) : Prop := ∀ a v, w.cell? a = some v → w'.cell? a = some v
theorem Inc.trans {a b c : World} (h : Inc a b) (k : Inc b c) : Inc a c := fun x v hx => k x v (h x v hx)
theorem inc_below {w w' : World} (h : Below w.heap.size w w') : Inc w w' := fun a v hv => cell_of_below h (Nat.le_refl _) hv
theorem inc_only (w : World) (p : Nat → Bool) : Inc (only w p) w := fun a v hv => by
  rw [only_cell] at hv
  split at hv
  · exact hv
  · cases hv
theorem only_inc {w w' : World} {p q : Nat → Bool} (h : ∀ a v, p a.block = true → w.cell? a = some v → q a.block = true ∧ w'.cell? a = some v) : Inc (only w p) (only w' q) := fun a v hv => by
  rw [only_cell] at hv ⊢
  split at hv
  · rename_i hp
    obtain ⟨h1, h2⟩ := h a v hp hv
    rw [if_pos h1]
    exact h2
  · cases hv
theorem only_below {w w' : World} {p : Nat → Bool} (h : Below w.heap.size w w') : Inc (only w p) (only w' p) := only_inc fun a v hp hv => ⟨hp, cell_of_below h (Nat.le_refl _) hv⟩
theorem RowCells.inc {w w' : World} {A : Option Addr} {k n : Nat} {f : Nat → Value} (h : RowCells w A k n f) (hb : Inc w w') : RowCells w' A k n f := by
  rcases h with h | ⟨b, o, hA, h⟩
  · exact .inl h
  · refine .inr ⟨b, o, hA, fun j hj => ⟨(h j hj).1, fun i hi => ?_⟩⟩
    have h1 := (h j hj).2 i hi
    have h2 : (f j).cells[i]? = some ((f j).cells[i]'(by rw [(h j hj).1]; exact hi)) := Array.getElem?_eq_getElem _
    rw [h2] at h1 ⊢
    exact hb _ _ h1
theorem TmV.inc {w w' : World} {t : Tm} {v : Value} (h : TmV w t v) (hb : Inc w w') : TmV w' t v := by
  induction h with
  | mk f g hbd hl hf _ hv hV hp hg _ ihL ihP => exact .mk f g hbd hl (hf.inc hb) ihL hv (hV.inc hb) hp (hg.inc hb) ihP
/-- A slice of terms, all of it in some blocks. -/
structure TmsV (w : World) (ts : List Tm) (A : Option Addr) (n c : Nat) : Prop where
  len : n = ts.length
  cap : n ≤ c
  row : ∃ f, RowCells w A 7 ts.length f ∧ ∀ (j : Nat) (t : Tm), ts[j]? = some t → TmV w t (f j)
theorem TmsV.inc {w w' : World} {ts : List Tm} {A : Option Addr} {n c : Nat} (h : TmsV w ts A n c) (hb : Inc w w') : TmsV w' ts A n c := by
  obtain ⟨h1, h2, f, h3, h4⟩ := h
  exact ⟨h1, h2, f, h3.inc hb, fun j t hj => (h4 j t hj).inc hb⟩
/-- Blocks of the old world, and those from B on. -/
def inOld (N B : Nat) (b : Nat) : Bool := decide (b < N) || decide (B ≤ b)
theorem inOld_iff {N B b : Nat} : inOld N B b = true ↔ b < N ∨ B ≤ b := by simp [inOld]
def PutIs (N : Nat) (w : World) (t : Tm) (e : Ending) (w' : World) : Prop := ∃ pp : Parts, e = .returned (.agg pp.arr) ∧ TmV (only w' (inOld N w.heap.size)) t (.agg pp.arr) ∧ Below w.heap.size w w'
/-- What lay in the old world lies there still. -/
theorem TmV.old {w0 w : World} {t : Tm} {v : Value} (h : TmV w0 t v) (hb : Below w0.heap.size w0 w) (B : Nat) : TmV (only w (inOld w0.heap.size B)) t v :=
  h.inc fun a u hu => by
    rw [only_cell, if_pos (inOld_iff.2 (.inl (World.block_lt_of_cell? w0 a hu)))]
    exact cell_of_below hb (Nat.le_refl _) hu

/-- The cells of elements, one after the other. -/
def cellsOf (us : List Value) : List Value := us.flatMap fun u => u.cells.toList
theorem cellsOf_length {us : List Value} {k : Nat} (h : ∀ u ∈ us, u.cells.size = k) : (cellsOf us).length = us.length * k := by
  induction us with
  | nil => simp [cellsOf]
  | cons u us ih =>
    have h1 := h u (by simp)
    have h2 := ih fun v hv => h v (by simp [hv])
    simp only [cellsOf, List.flatMap_cons, List.length_append, Array.length_toList, List.length_cons] at h2 ⊢
    rw [h1, h2, Nat.succ_mul]
    omega
theorem cellsOf_get {us : List Value} {k : Nat} (h : ∀ u ∈ us, u.cells.size = k) {j : Nat} (hj : j < us.length) {i : Nat} (hi : i < k) : (cellsOf us)[j * k + i]? = (us[j]).cells[i]? := by
  induction us generalizing j with
  | nil => simp at hj
  | cons u us ih =>
    have h1 := h u (by simp)
    have h2 := fun hj => ih (fun v hv => h v (by simp [hv])) (j := j - 1) hj
    cases j with
    | zero =>
      simp only [cellsOf, List.flatMap_cons, Nat.zero_mul, Nat.zero_add, List.getElem_cons_zero]
      rw [List.getElem?_append_left (by simp [h1]; exact hi)]
      simp
    | succ j =>
      simp only [List.length_cons] at hj
      have h3 := h2 (by omega)
      simp only [Nat.add_sub_cancel] at h3
      simp only [cellsOf, List.flatMap_cons, List.getElem_cons_succ] at h3 ⊢
      rw [List.getElem?_append_right (by simp [h1]; rw [Nat.succ_mul]; omega)]
      have : (j + 1) * k + i - u.cells.toList.length = j * k + i := by simp [h1]; rw [Nat.succ_mul]; omega
      rw [this]
      exact h3
theorem ownsRow_cells {w : World} {base : Nat} {e : TypeId} {k : Nat} {A : Option Addr} {n c : Nat} {us : List Value} (h : w.ownsRow base e k (.slice A n c) n (cellsOf us)) (hu : ∀ u ∈ us, u.cells.size = k) (hn : us.length = n) (hk : 0 < k) :
    RowCells w A k n (fun j => us.getD j .nilFunc) ∧ n ≤ c ∧ (∀ b o, A = some ⟨b, o, none⟩ → base ≤ b) := by
  rcases h.2 with ⟨hv, h0⟩ | ⟨g, cap, cur, hv, hb, hh, hn2, hc, hcs, htake⟩
  · simp only [Value.slice.injEq] at hv
    obtain ⟨rfl, rfl, rfl⟩ := hv
    exact ⟨.inl rfl, Nat.le_refl _, by simp⟩
  · simp only [Value.slice.injEq] at hv
    obtain ⟨rfl, _, rfl⟩ := hv
    refine ⟨.inr ⟨g, 0, rfl, fun j hj => ?_⟩, hn2, fun b o e => by cases e; exact hb⟩
    have hj' : j < us.length := by omega
    have e1 : us.getD j .nilFunc = us[j] := by simp [hj']
    dsimp only
    refine ⟨by rw [e1]; exact hu _ (List.getElem_mem hj'), fun i hi => ?_⟩
    have h2 := cellsOf_get hu hj' hi
    rw [← htake, List.getElem?_take, if_pos (by
      have : (j + 1) * k ≤ n * k := Nat.mul_le_mul_right k (by omega)
      rw [Nat.succ_mul] at this
      omega)] at h2
    rw [row_at hh, e1, ← h2, Nat.zero_add]
    simp
theorem info29 : (Tryz.prog.info? 29).map (fun i => (i.zero, i.size, i.bytes)) = some (some (.agg zeroP.arr), 7, 120) := by kernel_rfl
/-- Those blocks, but one. -/
def fromBut (N B : Nat) (o : Option Nat) (b : Nat) : Bool := inOld N B b && !(some b == o)
theorem fromBut_iff {N B : Nat} {o : Option Nat} {b : Nat} : fromBut N B o b = true ↔ (b < N ∨ B ≤ b) ∧ some b ≠ o := by
  simp [fromBut, inOld]
structure PutL (N B : Nat) (wr : World) (ts : List Tm) (A : Option Addr) (k c : Nat) (us : List Value) : Prop where
  len : us.length = k
  own : wr.ownsRow B 29 7 (.slice A k c) k (cellsOf us)
  seven : ∀ u ∈ us, u.cells.size = 7
  data : ∀ (j : Nat) (t : Tm), j < k → ts[j]? = some t → TmV (only wr (fromBut N B (Value.slice A k c).ownBlock)) t (us.getD j .nilFunc)
  base : B ≤ wr.heap.size
  old : N ≤ B
theorem PutL.below {N B : Nat} {wr w' : World} {ts : List Tm} {A : Option Addr} {k c : Nat} {us : List Value} (h : PutL N B wr ts A k c us) (hb : Below wr.heap.size wr w') : PutL N B w' ts A k c us :=
  ⟨h.len, ownsRow_same h.own fun g hg => hb.block g (by obtain ⟨_, cur, hc⟩ := ownsRow_lt h.own g hg; exact (Array.getElem?_eq_some_iff.1 hc).1), h.seven, fun j t hj ht => (h.data j t hj ht).inc (only_below hb), Nat.le_trans h.base hb.size, h.old⟩
/-- One more term, appended. -/
theorem PutL.append {N B C : Nat} {W w9 : World} {ts : List Tm} {A : Option Addr} {k c g cap : Nat} {us : List Value} {t : Tm} {pp : Parts} (h : PutL N B W ts A k c us) (ht : ts[k]? = some t) (hnew : TmV (only W (inOld N C)) t (.agg pp.arr)) (hold : ∀ j, (Value.slice A k c).ownBlock = some j → j < C) (hB : B ≤ C)
    (hq : w9.ownsRow B 29 7 (.slice (some ⟨g, 0, none⟩) (k + 1) cap) (k + 1) (cellsOf us ++ pp.arr.toList)) (hg : W.grownBy w9 (Value.slice A k c).ownBlock) (hat : (Value.slice A k c).ownBlock = some g ∨ g = W.heap.size) : PutL N B w9 ts (some ⟨g, 0, none⟩) (k + 1) cap (us ++ [.agg pp.arr]) := by
  have hinc : ∀ p : Nat → Bool, (∀ b, p b = true → (b < N ∨ B ≤ b) ∧ some b ≠ (Value.slice A k c).ownBlock) → Inc (only W p) (only w9 (fromBut N B (some g))) := fun p hp => only_inc fun a v hpa hv => by
    obtain ⟨h1, h2⟩ := hp _ hpa
    have hlt := World.block_lt_of_cell? W a hv
    refine ⟨fromBut_iff.2 ⟨h1, fun e => ?_⟩, (World.cell?_of_block (w := W) (hg.block a.block hlt h2)).trans hv⟩
    rcases hat with e2 | e2
    · exact h2 (e.trans e2.symm)
    · cases e
      omega
  have hown : (Value.slice (some ⟨g, 0, none⟩) (k + 1) cap).ownBlock = some g := rfl
  refine ⟨by simp [h.len], ?_, ?_, ?_, Nat.le_trans h.base hg.size, h.old⟩
  · have : cellsOf (us ++ [.agg pp.arr]) = cellsOf us ++ pp.arr.toList := by simp [cellsOf, Value.cells]
    rw [this]
    exact hq
  · intro u hu
    rcases List.mem_append.1 hu with hu | hu
    · exact h.seven u hu
    · simp only [List.mem_singleton] at hu
      subst hu
      rfl
  · intro j t2 hj ht2
    rw [hown]
    by_cases hjk : j < k
    · have e : (us ++ [Value.agg pp.arr]).getD j .nilFunc = us.getD j .nilFunc := by simp [List.getElem?_append_left (show j < us.length by rw [h.len]; exact hjk)]
      rw [e]
      exact (h.data j t2 hjk ht2).inc (hinc _ fun b hb => fromBut_iff.1 hb)
    · have hjk2 : j = k := by omega
      subst hjk2
      rw [ht] at ht2
      cases ht2
      have e : (us ++ [Value.agg pp.arr]).getD us.length .nilFunc = .agg pp.arr := by simp
      rw [h.len] at e
      rw [e]
      exact hnew.inc (hinc _ fun b hb => by
        rcases inOld_iff.1 hb with hb | hb
        · exact ⟨.inl hb, fun e => by have := (ownsRow_lt h.own b e.symm).1; have := h.old; omega⟩
        · exact ⟨.inr (by omega), fun e => by have := hold b e.symm; omega⟩)
theorem PutL.done {N B : Nat} {wr : World} {ts : List Tm} {A : Option Addr} {c : Nat} {us : List Value} (h : PutL N B wr ts A ts.length c us) : TmsV (only wr (inOld N B)) ts A ts.length c := by
  obtain ⟨h1, h2, h3⟩ := ownsRow_cells h.own h.seven h.len (by decide)
  refine ⟨rfl, h2, _, ?_, fun j t ht => (h.data j t ?_ ht).inc (only_inc fun a v hp hv => ⟨inOld_iff.2 (fromBut_iff.1 hp).1, hv⟩)⟩
  · rcases h1 with h1 | ⟨b, o, rfl, h1⟩
    · exact .inl h1
    · refine .inr ⟨b, o, rfl, fun j hj => ⟨(h1 j hj).1, fun i hi => ?_⟩⟩
      rw [only_cell, if_pos (inOld_iff.2 (.inr (by simpa using h3 b o rfl)))]
      exact (h1 j hj).2 i hi
  · rcases Nat.lt_or_ge j ts.length with h | h
    · exact h
    · rw [List.getElem?_eq_none h] at ht
      cases ht
theorem step_append_row {P : Program} (w : World) {ops : Array Oper} {o : Oper} {a : Act} {K : Act → World → Prop} {Q : Exit → Act → World → Prop} {E : Prop} (hgd : o.guard = none) (s x : Operand) (t : TypeId)
    (ho : o.op = .call { callee := .builtin .append, args := #[s, x], argTypes := #[t, t] }) (base : Nat) (e : TypeId) (i : TypeInfo) (z : Value) (k bytes : Nat) (ht : P.underlying t = some (.slice e)) (hi : P.info? e = some i) (hz : i.zero = some z)
    (hsize : i.size = k) (hby : i.bytes = bytes) (hzs : z.cells.size = k) (hk : 0 < k) (v : Value) (n : Nat) (xs : List Value) (hs : a.eval s = v) (hown : w.ownsRow base e k v n xs) (ad : Addr) (c : Nat) (u : Array Value) (hx : a.eval x = .slice (some ad) 1 c)
    (hu : u.size = k) (hb : w.heap[ad.block]? = some (.cells u e (0, 0))) (h0 : ad.off = 0) (hsp : ad.spot = none) (h1 : ∀ y ∈ u.toList, y.oneCell' = true) (h63 : n + 1 ≤ maxLen) (hbytes : (n + 1) * bytes ≤ 140737488355328) (hbase : base ≤ w.heap.size)
    (h : ∀ g cap w', w'.ownsRow base e k (.slice (some ⟨g, 0, none⟩) (n + 1) cap) (n + 1) (xs ++ u.toList) → w.grownBy w' v.ownBlock → (v.ownBlock = some g ∨ g = w.heap.size) → K (a.put o.dst (.slice (some ⟨g, 0, none⟩) (n + 1) cap)) w') :
    if Region.wanted o (yielded ops a.tmps) = true then Oper.wp P o a w K Q else E := by
  have hw : Region.wanted o (yielded ops a.tmps) = true := by simp [Region.wanted, hgd]
  rw [if_pos hw]
  obtain ⟨v', w', hr, hq, hg, hnil, hat⟩ := run_append_own_at (P := P) w base t o.type e i z k bytes ht hi hz hsize hby hzs hk v n xs hown ad 1 c u.toList (by simp [hu]) (fun j y hj => by
    obtain ⟨ab, ao, asp⟩ := ad
    dsimp only at h0 hsp hb
    subst h0 hsp
    rw [Addr.add_lit, row_at hb, Nat.zero_add]
    simpa using hj) h1 h63 hbytes hbase
  rcases hq.2 with ⟨_, hn⟩ | ⟨g, cap, cur, rfl, r⟩
  · omega
  · unfold Oper.wp execOp
    simp only [ho, resolve, invoke, builtin, Sem.run_bind, Sem.run_pure, Result.andThen_ok, List.map_toArray, List.map_cons, List.map_nil, hs, hx, hr]
    refine h g cap w' hq hg ?_
    rcases hat with hat | hat
    · exact .inl hat.symm
    · exact .inr (by simpa [Value.ownBlock] using hat)
/-- A term written into a row. -/
def setL (w : World) (g o : Nat) (p : Parts) : World := ((((((w.setCell ⟨g, o, none⟩ (.int .i64 p.op)).setCell ⟨g, o + 1, none⟩ (.string p.name)).setCell ⟨g, o + 2, none⟩ (.int .i64 p.sort)).setCell ⟨g, o + 3, none⟩ (.string p.n)).setCell ⟨g, o + 4, none⟩ (.slice p.A p.la p.ca)).setCell ⟨g, o + 5, none⟩ (.slice p.V p.lv p.cv)).setCell ⟨g, o + 6, none⟩ (.slice p.P p.lp p.cp)
theorem row_kept_own {W w3 : World} {base k s n : Nat} {e t : TypeId} {c : Array Value} {v : Value} {xs : List Value} (h : W.heap[k]? = some (.cells c t (0, 0))) (hq : W.ownsRow base e s v n xs) (hg : W.grownBy w3 v.ownBlock) (hne : t ≠ e) : w3.heap[k]? = some (.cells c t (0, 0)) := by
  refine (hg.block k (Array.getElem?_eq_some_iff.1 h).1 fun e => ?_).trans h
  obtain ⟨_, cur, hc⟩ := ownsRow_lt hq k e.symm
  rw [h] at hc
  cases hc
  exact hne rfl
theorem Parts.one (p : Parts) : ∀ y ∈ p.arr.toList, y.oneCell' = true := by
  intro y hy
  simp only [Parts.arr, List.mem_cons, List.not_mem_nil, or_false] at hy
  rcases hy with rfl | rfl | rfl | rfl | rfl | rfl | rfl <;> rfl
end Go.Proofs.YtbnonccmlildnaaGreat

/- A drawn region whose last operations are held back, and write what others read. -/
namespace Go.Proofs.YtbnonccmlildnaaGreat
open Go.RowKit

def noDstBut (ops : Array Oper) (rest : List Nat) (t : Nat) : Bool := (List.range ops.size).all fun j => rest.contains j || match ops[j]? with
  | some o => !(o.dst == some t)
  | none => true
theorem noDstBut_spec {ops : Array Oper} {rest : List Nat} {t : Nat} (h : noDstBut ops rest t = true) (j : Nat) (o : Oper) (ho : ops[j]? = some o) (hr : j ∉ rest) : o.dst ≠ some t := by
  unfold noDstBut at h
  simp only [List.all_eq_true, List.mem_range] at h
  have := h j (Array.getElem?_eq_some_iff.1 ho).1
  simp only [ho, Bool.or_eq_true, List.contains_iff_mem] at this
  intro e
  rcases this with this | this
  · exact hr this
  · rw [e] at this
    simp at this
/-- Whatever the order: each operation that isn't held back makes what it should, and all of those that count are there when what is held back begins. -/
theorem wpAny_makesF {P : Program} {ops : Array Oper} {Q : Exit → Act → World → Prop} {J : World → Prop} {R : World → World → Prop} {spec : Nat → World → Value → Prop} {mk rest : List Nat} {nt : Nat} {a0 : Act} (hok : MakesOK ops mk rest nt) (hnt : a0.tmps.size = nt) (hkeep : ∀ i w w' v, spec i w v → R w w' → spec i w' v)
    (hstep : ∀ (i : Nat) (o : Oper), ops[i]? = some o → i ∉ rest → ∀ (a : Act) (w : World), J w → (∀ (t : Nat), noDstBut ops rest t = true → a.tmps.getD t undef = a0.tmps.getD t undef) →
      (∀ e ∈ o.after, Region.binds .any e = true → ∀ (o' : Oper) (d : Nat), ops[e.on]? = some o' → o'.dst = some d → spec e.on w (a.tmps.getD d undef)) →
      ∀ K : Act → World → Prop, (∀ v w', spec i w' v → R w w' → J w' → K (a.put o.dst v) w') → Oper.wp P o a w K Q)
    (hend : ∀ (fuel : Nat) (listed : Array Bool) (a : Act) (w : World), listed.toList.countP (fun b => !b) ≤ fuel → Makes ops J spec rest a0 listed a w → (∀ m ∈ mk, listed.getD m false = true) → wpAny P .any ops Q fuel listed a w) :
    ∀ (fuel : Nat) (listed : Array Bool) (a : Act) (w : World), listed.toList.countP (fun b => !b) ≤ fuel → Makes ops J spec rest a0 listed a w → wpAny P .any ops Q fuel listed a w := by
  intro fuel
  induction fuel with
  | zero =>
    intro listed a w hc hm
    refine hend _ _ _ _ hc hm fun m hmk => ?_
    have h1 : m < listed.size := by rw [hm.size]; exact hok.mkLt m hmk
    rw [getD_in h1]
    have h0 : listed.toList.countP (fun b => !b) = 0 := by omega
    have := List.countP_eq_zero.1 h0 listed[m] (by simp)
    simpa using this
  | succ fuel ih =>
    intro listed a w hc hm
    by_cases hall : ∀ m ∈ mk, listed.getD m false = true
    · exact hend _ _ _ _ hc hm hall
    · have hex : ∃ m ∈ mk, ¬ listed.getD m false = true := Classical.byContradiction fun hn => hall fun m hmk => Classical.byContradiction fun h2 => hn ⟨m, hmk, h2⟩
      obtain ⟨m, hmk, hml⟩ := hex
      have hmlt : m < listed.size := by rw [hm.size]; exact hok.mkLt m hmk
      refine ⟨fun hr => ?_, fun i hi => ?_⟩
      · obtain ⟨j, hj⟩ := unlisted_ready hok hm.size _ m rfl (hok.mkLt m hmk) (by rw [getD_in hmlt] at hml ⊢; simpa using hml)
        rw [hr] at hj
        cases hj
      · obtain ⟨hun, o, ho, hed⟩ := mem_ready.1 hi
        have hnr : i ∉ rest := fun hr => by
          rcases reaches_listed hm.closed _ i o ho hed (hok.block i hr m hmk) with h | ⟨r, hrr, h1⟩
          · exact hml h
          · have h2 := getD_both (hm.rest _ hrr)
            rw [h1] at h2
            cases h2
        unfold wpOp
        rw [ho]
        simp only [Region.wanted, hok.guard i o ho hnr, if_true]
        refine .inl (hstep i o ho hnr a w hm.inv (fun t ht => ?_) (fun e he hb o' d ho' hd => hm.held e.on o' d (hed e he hb) ho' hd) _ fun v w' hv hbw hJ => ih _ _ _ ?_ (hm.step hok hnt hkeep ho hnr hed hv hbw hJ))
        · rw [Array.getD_eq_getD_getElem?, Array.getD_eq_getD_getElem?, hm.frame t fun j o' hj ho' => noDstBut_spec ht j o' ho' fun hr => by have h2 := getD_both (hm.rest _ hr); rw [hj] at h2; cases h2]
        · have hlt : i < listed.size := by rw [hm.size]; exact (Array.getElem?_eq_some_iff.1 ho).1
          rw [getD_in hlt] at hun
          have := unlisted_set listed.toList i (by simp [hlt, hun])
          rw [Array.toList_setIfInBounds]
          omega
theorem wp_region_makesJF {P : Program} {ops : Array Oper} {Q : Exit → Act → World → Prop} {spec : Nat → World → Value → Prop} (mk rest : List Nat) (J : World → Prop) (R : World → World → Prop) {id : Nat} {a : Act} {w : World} (hm : P.follows .mixedOrders = true) (hk : makesOK ops mk rest a.tmps.size = true) (hkeep : ∀ i w w' v, spec i w v → R w w' → spec i w' v) (h0 : J w.drew)
    (hstep : ∀ (i : Nat) (o : Oper), ops[i]? = some o → i ∉ rest → ∀ (a' : Act) (w' : World), J w' → (∀ (t : Nat), noDstBut ops rest t = true → a'.tmps.getD t undef = a.tmps.getD t undef) →
      (∀ e ∈ o.after, Region.binds .any e = true → ∀ (o' : Oper) (d : Nat), ops[e.on]? = some o' → o'.dst = some d → spec e.on w' (a'.tmps.getD d undef)) →
      ∀ K : Act → World → Prop, (∀ v w'', spec i w'' v → R w' w'' → J w'' → K (a'.put o.dst v) w'') → Oper.wp P o a' w' K Q)
    (hend : ∀ (fuel : Nat) (listed : Array Bool) (a' : Act) (w' : World), listed.toList.countP (fun b => !b) ≤ fuel → Makes ops J spec rest a listed a' w' → (∀ m ∈ mk, listed.getD m false = true) → wpAny P .any ops Q fuel listed a' w') : (Code.region id ops true).wp P Q a w := by
  have hok := makesOK_spec hk
  refine wp_region_any hm (wpAny_makesF hok rfl hkeep hstep hend _ _ _ _ (by simp [List.countP_replicate]) ⟨by simp, h0, rfl, rfl, fun _ _ => rfl, fun i o d hi ho _ => ?_, fun i hi => ?_, fun j o hj ho => ?_⟩)
  · have hlt : i < ops.size := (Array.getElem?_eq_some_iff.1 ho).1
    rw [getD_in (by simpa using hlt)] at hi
    simp at hi
  · rw [getD_in (by simpa using hok.restLt i hi)]
    simp
  · have hlt : j < ops.size := (Array.getElem?_eq_some_iff.1 ho).1
    rw [getD_in (by simpa using hlt)] at hj
    simp at hj
/-- .. where nothing that was there is written. -/
theorem wp_region_makesF {P : Program} {ops : Array Oper} {Q : Exit → Act → World → Prop} {spec : Nat → World → Value → Prop} (mk rest : List Nat) {id : Nat} {a : Act} {w : World} (hm : P.follows .mixedOrders = true) (hk : makesOK ops mk rest a.tmps.size = true) (hkeep : ∀ i w w' v, spec i w v → Below w.heap.size w w' → spec i w' v)
    (hstep : ∀ (i : Nat) (o : Oper), ops[i]? = some o → i ∉ rest → ∀ (a' : Act) (w' : World), Below w.drew.heap.size w.drew w' → (∀ (t : Nat), noDstBut ops rest t = true → a'.tmps.getD t undef = a.tmps.getD t undef) →
      (∀ e ∈ o.after, Region.binds .any e = true → ∀ (o' : Oper) (d : Nat), ops[e.on]? = some o' → o'.dst = some d → spec e.on w' (a'.tmps.getD d undef)) →
      ∀ K : Act → World → Prop, (∀ v w'', spec i w'' v → Below w'.heap.size w' w'' → K (a'.put o.dst v) w'') → Oper.wp P o a' w' K Q)
    (hend : ∀ (fuel : Nat) (listed : Array Bool) (a' : Act) (w' : World), listed.toList.countP (fun b => !b) ≤ fuel → Makes ops (fun w' => Below w.drew.heap.size w.drew w') spec rest a listed a' w' → (∀ m ∈ mk, listed.getD m false = true) → wpAny P .any ops Q fuel listed a' w') : (Code.region id ops true).wp P Q a w :=
  wp_region_makesJF mk rest (fun w' => Below w.drew.heap.size w.drew w') (fun w w' => Below w.heap.size w w') hm hk hkeep (Below.refl _ _) (fun i o ho hi a' w' hJ hfr hd K hK => hstep i o ho hi a' w' hJ hfr hd K fun v w'' hv hb => hK v w'' hv hb (hJ.trans (hb.mono hJ.size))) hend
end Go.Proofs.YtbnonccmlildnaaGreat

/- put: a term for a variable. -/
namespace Go.Proofs.YtbnonccmlildnaaGreat
open Go.RowKit Go.Lib

def putSpec (N B K fo : Nat) (t' : Tm) (lv la : Value) (iv : Int) (ea : Addr) (q : Parts) (z : ByteArray) (xq : Parts) : Nat → World → Value → Prop
  | 0, _, v => v = lv
  | 1, _, v => v = .pointer (some ⟨K, fo, none⟩)
  | 2, _, v => v = la
  | 3, _, v => v = .int .i64 iv
  | 4, _, v => v = .pointer (some ea)
  | 5, _, v => v = .agg q.arr
  | 6, _, v => v = .string z
  | 7, _, v => v = .agg xq.arr
  | 8, w, v => ∃ pp : Parts, v = .agg pp.arr ∧ TmV (only w (inOld N B)) t' (.agg pp.arr)
  | 9, w, v => ∃ (g : Nat) (pp : Parts), v = .slice (some ⟨g, 0, none⟩) 1 1 ∧ w.heap[g]? = some (.cells pp.arr 29 (0, 0)) ∧ TmV (only w (inOld N B)) t' (.agg pp.arr)
  | _, _, _ => True
theorem putSpec_keep (N B K fo : Nat) (t' : Tm) (lv la : Value) (iv : Int) (ea : Addr) (q : Parts) (z : ByteArray) (xq : Parts) (i : Nat) (w w' : World) (v : Value) (h : putSpec N B K fo t' lv la iv ea q z xq i w v) (hb : Below w.heap.size w w') : putSpec N B K fo t' lv la iv ea q z xq i w' v :=
  match i, h with
  | 0, h => h
  | 1, h => h
  | 2, h => h
  | 3, h => h
  | 4, h => h
  | 5, h => h
  | 6, h => h
  | 7, h => h
  | 8, ⟨pp, h1, h2⟩ => ⟨pp, h1, h2.inc (only_below hb)⟩
  | 9, ⟨g, pp, h1, h2, h3⟩ => ⟨g, pp, h1, (hb.block g (Array.getElem?_eq_some_iff.1 h2).1).trans h2, h3.inc (only_below hb)⟩
  | n + 10, _ => trivial
theorem putXs_map (x : ByteArray) (u : Tm) : ∀ l : List Tm, putXs x u l = l.map (putX x u)
  | [] => rfl
  | t :: ts => by simp [putXs, putXs_map x u ts]
theorem inc_old {N B C : Nat} {w : World} (h : C ≤ B) : Inc (only w (inOld N B)) (only w (inOld N C)) := only_inc fun a v hp hv => ⟨by rcases inOld_iff.1 hp with h1 | h1; exact inOld_iff.2 (.inl h1); exact inOld_iff.2 (.inr (by omega)), hv⟩
theorem tws_len : ∀ l : List Tm, l.length ≤ tws l
  | [] => by simp [tws]
  | .mk _ _ _ _ l vars pat :: ts => by have := tws_len ts; simp only [tws, tw, List.length_cons]; omega
theorem three_rows_at (w : World) (a b c : Obj) : (((w.alloc a).alloc b).alloc c).heap[w.heap.size]? = some a ∧ (((w.alloc a).alloc b).alloc c).heap[w.heap.size + 1]? = some b ∧ (((w.alloc a).alloc b).alloc c).heap[w.heap.size + 2]? = some c ∧ (((w.alloc a).alloc b).alloc c).heap.size = w.heap.size + 3 ∧ Below w.heap.size w (((w.alloc a).alloc b).alloc c) := by
  obtain ⟨h0, h1, h2, _⟩ := four_rows w a b c a
  have s3 : (((w.alloc a).alloc b).alloc c).heap.size = w.heap.size + 3 := by simp
  rw [Below.heap_alloc _ _ _ (by omega)] at h0 h1 h2
  exact ⟨h0, h1, h2, s3, (((Below.refl _ _).alloc (Nat.le_refl _) _).alloc (by simp) _).alloc (by simp; omega) _⟩
/-- All seven cells stored. -/
def set7 (w : World) (K : Nat) (p : Parts) : World := ((((((w.setCell ⟨K, 0, none⟩ (.int .i64 p.op)).setCell ⟨K, 1, none⟩ (.string p.name)).setCell ⟨K, 2, none⟩ (.int .i64 p.sort)).setCell ⟨K, 3, none⟩ (.string p.n)).setCell ⟨K, 4, none⟩ (.slice p.A p.la p.ca)).setCell ⟨K, 5, none⟩ (.slice p.V p.lv p.cv)).setCell ⟨K, 6, none⟩ (.slice p.P p.lp p.cp)
theorem set7_row {w : World} {K : Nat} {a0 a1 a2 a3 a4 a5 a6 : Value} (h : w.heap[K]? = some (.cells #[a0, a1, a2, a3, a4, a5, a6] 29 (0, 0))) (p : Parts) : (set7 w K p).heap[K]? = some (.cells p.arr 29 (0, 0)) := by
  have h0 : (w.setCell ⟨K, 0, none⟩ (.int .i64 p.op)).heap[K]? = some (.cells #[.int .i64 p.op, a1, a2, a3, a4, a5, a6] 29 (0, 0)) := heap_setCell_same w K 0 _ 29 _ h
  have h1 := heap_setCell_same _ K 1 _ 29 (.string p.name) h0
  have h2 := heap_setCell_same _ K 2 _ 29 (.int .i64 p.sort) h1
  have h3 := heap_setCell_same _ K 3 _ 29 (.string p.n) h2
  have h4 := heap_setCell_same _ K 4 _ 29 (.slice p.A p.la p.ca) h3
  have h5 := heap_setCell_same _ K 5 _ 29 (.slice p.V p.lv p.cv) h4
  have h6 := heap_setCell_same _ K 6 _ 29 (.slice p.P p.lp p.cp) h5
  exact h6
theorem set7_below {w w' : World} {B K : Nat} (h : Below B w w') (hK : B ≤ K) (p : Parts) : Below B w (set7 w' K p) :=
  ((((((h.setCell (p := ⟨K, 0, none⟩) hK _).setCell (p := ⟨K, 1, none⟩) hK _).setCell (p := ⟨K, 2, none⟩) hK _).setCell (p := ⟨K, 3, none⟩) hK _).setCell (p := ⟨K, 4, none⟩) hK _).setCell (p := ⟨K, 5, none⟩) hK _).setCell (p := ⟨K, 6, none⟩) hK _
theorem set7_cell {w : World} {K : Nat} {a : Addr} (h : a.block ≠ K) (p : Parts) : (set7 w K p).cell? a = w.cell? a := by
  unfold set7
  rw [cell_set_ne h, cell_set_ne h, cell_set_ne h, cell_set_ne h, cell_set_ne h, cell_set_ne h, cell_set_ne h]
theorem inc_sets {wr w' : World} {N B C : Nat} (h : ∀ a : Addr, (a.block < N ∨ B ≤ a.block) → w'.cell? a = wr.cell? a) (hC : C ≤ B) : Inc (only wr (inOld N B)) (only w' (inOld N C)) := only_inc fun a v hp hv => by
  have h1 := inOld_iff.1 hp
  exact ⟨inOld_iff.2 (h1.imp_right fun h2 => by omega), by rw [h a h1]; exact hv⟩
theorem inc_w0 {w0 w : World} (hb : Below w0.heap.size w0 w) (B : Nat) : Inc w0 (only w (inOld w0.heap.size B)) := fun a u hu => by
  rw [only_cell, if_pos (inOld_iff.2 (.inl (World.block_lt_of_cell? w0 a hu)))]
  exact cell_of_below hb (Nat.le_refl _) hu
theorem TmsV.ts {w : World} {ts : List Tm} {A : Option Addr} {n c : Nat} (h : TmsV w ts A n c) : TsV w ts (.slice A n c) := by
  obtain ⟨rfl, h2, h3⟩ := h
  exact ⟨A, c, rfl, h2, h3⟩
set_option maxRecDepth 100000 in
set_option maxHeartbeats 4000000 in
theorem put_any {w0 : World} {t : Tm} {v : Value} (h : TmV w0 t v) (z : ByteArray) {u : Tm} {xq : Parts} (hx : TmV w0 u (.agg xq.arr)) (hlim : tw t ≤ 1000000) : ∀ W, Below w0.heap.size w0 W → Calls Tryz.prog 15 #[v, .string z, .agg xq.arr] W (PutIs w0.heap.size W (putX z u t)) := by
  have Hx := Lib.hid hx
  clear hx
  induction h with
  | @mk op name sort n l vars pat A V P ca cv cp f g hbd hl hf hL hv hV hp hg hP ihL ihP =>
    intro W hW
    obtain ⟨i29, hi29, hz0, hz1, hz2⟩ := info_parts info29
    have hself : TmV w0 (.mk op name sort n l vars pat) (.agg (Parts.arr ⟨op, name, sort, n, A, l.length, ca, V, vars.length, cv, P, pat.length, cp⟩)) := .mk f g hbd hl hf hL hv hV hp hg hP
    have Hself := Lib.hid hself
    have Hln : Hid (l.length ≤ 1000000 ∧ pat.length ≤ 1000000) := Lib.hid (by have h1 := tws_len l; have h2 := tws_len pat; simp only [tw] at hlim; omega)
    obtain ⟨r0, r1, r2, hsz, hb0⟩ := three_rows_at W (.cells (Parts.arr ⟨op, name, sort, n, A, l.length, ca, V, vars.length, cv, P, pat.length, cp⟩) 29) (.cells xq.arr 29) (.cells zeroP.arr 29)
    have HL := Lib.hid hL
    have HP := Lib.hid hP
    have Hf := Lib.hid hf
    have Hg := Lib.hid hg
    have Hih := Lib.hid (fun j t ht => ihL j t ht (by have := tws_mem ht; simp only [tw] at hlim; omega))
    have HihP := Lib.hid (fun j t ht => ihP j t ht (by have := tws_mem ht; simp only [tw] at hlim; omega))
    have HW := Lib.hid hW
    have Hbd := Lib.hid hbd
    have HV := Lib.hid hV
    have Hcap := Lib.hid (show l.length ≤ ca ∧ vars.length ≤ cv ∧ pat.length ≤ cp from ⟨hl, hv, hp⟩)
    have Hp0 : Hid (putX z u (.mk op name sort n l vars pat) = if (op == 18 && name.toList == z.toList) = true then u else if (op == 19 && bindsX vars z) = true then .mk op name sort n l vars pat else .mk op name sort n (putXs z u l) vars (putXs z u pat)) := Lib.hid (by simp only [putX])
    generalize putX z u (.mk op name sort n l vars pat) = R at *
    clear hf ihL ihP hL hP hg hV hW hbd hl hv hp hlim hself
    obtain ⟨xop, xnm, xso, xn, xA, xla, xca, xV, xlv, xcv, xP, xlp, xcp⟩ := xq
    obtain ⟨W3, hW3⟩ : ∃ W3, W3 = ((W.alloc (.cells #[.int .i64 op, .string name, .int .i64 sort, .string n, .slice A l.length ca, .slice V vars.length cv, .slice P pat.length cp] 29)).alloc (.cells #[.int .i64 xop, .string xnm, .int .i64 xso, .string xn, .slice xA xla xca, .slice xV xlv xcv, .slice xP xlp xcp] 29)).alloc (.cells #[.int .i64 0, .string ⟨#[]⟩, .int .i64 0, .string ⟨#[]⟩, .slice none 0 0, .slice none 0 0, .slice none 0 0] 29) := ⟨_, rfl⟩
    have Hr0 : Hid (W3.heap[W.heap.size]? = some (.cells (Parts.arr ⟨op, name, sort, n, A, l.length, ca, V, vars.length, cv, P, pat.length, cp⟩) 29 (0, 0))) := Lib.hid (by rw [hW3]; exact r0)
    have Hr1 : Hid (W3.heap[W.heap.size + 1]? = some (.cells (Parts.arr ⟨xop, xnm, xso, xn, xA, xla, xca, xV, xlv, xcv, xP, xlp, xcp⟩) 29 (0, 0))) := Lib.hid (by rw [hW3]; exact r1)
    have Hr2 : Hid (W3.heap[W.heap.size + 1 + 1]? = some (.cells zeroP.arr 29 (0, 0))) := Lib.hid (by rw [hW3]; exact r2)
    have hsz3 : W3.heap.size = W.heap.size + 3 := by rw [hW3]; exact hsz
    have Hb0 : Hid (Below W.heap.size W W3) := Lib.hid (by rw [hW3]; exact hb0)
    have HW3 := Lib.hid hW3
    clear r0 r1 r2 hsz hb0 hW3
    obtain ⟨c0, c1, c2', c3, c4, c5, c6⟩ := box_cells Hr0.out
    obtain ⟨x0, x1, x2, x3, x4, x5, x6⟩ := box_cells Hr1.out
    obtain ⟨y0, y1, y2, y3, y4, y5, y6⟩ := box_cells Hr2.out
    have q0 : W.heap.size < W3.heap.size := by omega
    have q1 : W.heap.size + 1 < W3.heap.size := by omega
    have q2 : W.heap.size + 1 + 1 < W3.heap.size := by omega
    have fz : ∀ i, W3.frozen? ⟨W.heap.size + 1 + 1, i, none⟩ = false := fun i => frozen_of_row _ _ i _ 29 Hr2.out
    dsimp only at c0 c1 c2' c3 c4 c5 c6 x0 x1 x2 x3 x4 x5 x6
    show Calls Tryz.prog 15 #[.agg #[.int .i64 op, .string name, .int .i64 sort, .string n, .slice A l.length ca, .slice V vars.length cv, .slice P pat.length cp], .string z, .agg #[.int .i64 xop, .string xnm, .int .i64 xso, .string xn, .slice xA xla xca, .slice xV xlv xcv, .slice xP xlp xcp]] W _
    cases hvar : (op == 18 && name.toList == z.toList) with
    | true =>
      have HR : Hid (R = u) := Lib.hid (by rw [Hp0.out, if_pos hvar])
      obtain ⟨h18, hnm⟩ : (op == 18) = true ∧ (name.toList == z.toList) = true := by simpa using hvar
      clear hvar
      go_enter Tryz.func15, Tryz.ntmps15
      go_upto_region 1 with fail
      rw [← HW3.out]
      go_wp2_with fail
      exact bodyPost_ret (results_cell_row rfl _ _ (W.heap.size + 1 + 1) 29 _ (0, 0) _ rfl (set7_row Hr2.out ⟨xop, xnm, xso, xn, xA, xla, xca, xV, xlv, xcv, xP, xlp, xcp⟩) Tryz.underlying29 rfl (by kernel_rfl)) rfl ⟨⟨xop, xnm, xso, xn, xA, xla, xca, xV, xlv, xcv, xP, xlp, xcp⟩, rfl, by rw [HR.out]; exact Hx.out.old (HW.out.trans ((set7_below Hb0.out (by omega) ⟨xop, xnm, xso, xn, xA, xla, xca, xV, xlv, xcv, xP, xlp, xcp⟩).mono HW.out.size)) _, set7_below Hb0.out (by omega) ⟨xop, xnm, xso, xn, xA, xla, xca, xV, xlv, xcv, xP, xlp, xcp⟩⟩
    | false =>
      have hregion : ((op == 18) = false) ∨ ((op == 18) = true ∧ (name.toList == z.toList) = false) := by
        cases h1 : (op == 18) with
        | false => exact .inl rfl
        | true => rw [h1] at hvar; exact .inr ⟨rfl, by simpa using hvar⟩
      cases hbind : (op == 19 && bindsX vars z) with
      | true =>
        have HR : Hid (R = .mk op name sort n l vars pat) := Lib.hid (by rw [Hp0.out, hvar, hbind]; rfl)
        obtain ⟨h19, hb19⟩ : (op == 19) = true ∧ bindsX vars z = true := by simpa using hbind
        have h18 : (op == 18) = false := by simp at h19; subst h19; rfl
        have Hbn := Lib.hid hb19
        have hvl := Hbd.out.v
        clear hvar hbind hregion hb19
        go_enter Tryz.func15, Tryz.ntmps15
        go_upto_region 1 with fail
        rw [← HW3.out]
        go_wp2_with fail
        go_loop [7] (fun iv => ∃ k : Nat, k ≤ vars.length ∧ iv = .int .i64 k ∧ Hid (((vars.drop k).any fun v => v.1.toList == z.toList) = true)) (fun iv => vars.length - (Go.RowKit.intOf iv).toNat)
        case atStart => exact ⟨0, Nat.zero_le _, rfl, Lib.hid Hbn.out⟩
        case round =>
          obtain ⟨k, hk, rfl, HE⟩ := hrel
          by_cases hlt : k < vars.length
          · have hxk : vars[k]? = some vars[k] := List.getElem?_eq_getElem hlt
            have HE2 : Hid (((vars[k]).1.toList == z.toList || (vars.drop (k + 1)).any fun v => v.1.toList == z.toList) = true) := Lib.hid (by have := HE.out; rw [List.drop_eq_getElem_cons hlt, List.any_cons] at this; exact this)
            have hki : (k : Int) < (vars.length : Int) := by omega
            generalize vars[k] = vk at *
            obtain ⟨x, sx⟩ := vk
            obtain ⟨vb, vo, rfl, hv0, hv1⟩ := (HV.out.below (HW.out.trans (Hb0.out.mono HW.out.size))).bound hxk
            clear hxk
            dsimp only at HE2
            cases hc : (x.toList == z.toList) with
            | true =>
              go_wp2_with fail
              exact bodyPost_ret (results_cell_row rfl _ _ (W.heap.size + 1 + 1) 29 _ (0, 0) _ rfl (set7_row Hr2.out ⟨op, name, sort, n, A, l.length, ca, some ⟨vb, vo, none⟩, vars.length, cv, P, pat.length, cp⟩) Tryz.underlying29 rfl (by kernel_rfl)) rfl ⟨⟨op, name, sort, n, A, l.length, ca, some ⟨vb, vo, none⟩, vars.length, cv, P, pat.length, cp⟩, rfl, by rw [HR.out]; exact Hself.out.old (HW.out.trans ((set7_below Hb0.out (by omega) ⟨op, name, sort, n, A, l.length, ca, some ⟨vb, vo, none⟩, vars.length, cv, P, pat.length, cp⟩).mono HW.out.size)) _, set7_below Hb0.out (by omega) ⟨op, name, sort, n, A, l.length, ca, some ⟨vb, vo, none⟩, vars.length, cv, P, pat.length, cp⟩⟩
            | false =>
              go_wp2_with fail
              go_round
              case rel => exact ⟨k + 1, by omega, by go_num, Lib.hid (by have := HE2.out; rw [hc] at this; simpa using this)⟩
              case measure => simp [Go.RowKit.intOf]; omega
          · have : ((vars.drop k).any fun v => v.1.toList == z.toList) = true := HE.out
            rw [List.drop_of_length_le (by omega)] at this
            cases this
      | false =>
        have HR0 : Hid (R = .mk op name sort n (putXs z u l) vars (putXs z u pat)) := Lib.hid (by rw [Hp0.out, hvar, hbind]; rfl)
        have Hh19 : Hid (op = 19 → bindsX vars z = false) := Lib.hid (fun e => by rw [e] at hbind; simpa using hbind)
        have hvl := Hbd.out.v
        have hll := Hbd.out.l
        have hpl := Hbd.out.p
        clear hbind hvar Hp0
        go_enter Tryz.func15, Tryz.ntmps15
        go_upto_region 1 with fail
        rw [← HW3.out]
        go_cut [20] from 12 (fun s20 wx => s20 = .bool false ∧ Hid (W3 = wx))
        case first =>
          rcases hregion with h18 | ⟨h18, hnm⟩
          · go_wp2_with fail
            go_meet
            case rel => exact ⟨rfl, Lib.hid rfl⟩
          · go_wp2_with fail
            go_meet
            case rel => exact ⟨rfl, Lib.hid rfl⟩
        case rest =>
          obtain ⟨rfl, HWx⟩ := hcut
          rw [← HWx.out]
          clear HWx hregion
          go_upto_if 24 with fail
          go_cut [] from 7 (fun wx => Hid (W3 = wx))
          case first =>
            by_cases h19 : (op == 19) = true
            · have Hbn := Lib.hid (Hh19.out (by simpa using h19))
              clear Hh19
              go_wp2_with fail
              go_loop [7] (fun iv => ∃ k : Nat, k ≤ vars.length ∧ iv = .int .i64 k ∧ Hid (((vars.drop k).any fun v => v.1.toList == z.toList) = false)) (fun iv => vars.length - (Go.RowKit.intOf iv).toNat)
              case atStart => exact ⟨0, Nat.zero_le _, rfl, Lib.hid Hbn.out⟩
              case round =>
                obtain ⟨k, hk, rfl, HE⟩ := hrel
                by_cases hlt : k < vars.length
                · have hxk : vars[k]? = some vars[k] := List.getElem?_eq_getElem hlt
                  have HE2 : Hid (((vars[k]).1.toList == z.toList || (vars.drop (k + 1)).any fun v => v.1.toList == z.toList) = false) := Lib.hid (by have := HE.out; rw [List.drop_eq_getElem_cons hlt, List.any_cons] at this; exact this)
                  have hki : (k : Int) < (vars.length : Int) := by omega
                  generalize vars[k] = vk at *
                  obtain ⟨x, sx⟩ := vk
                  obtain ⟨vb, vo, rfl, hv0, hv1⟩ := (HV.out.below (HW.out.trans (Hb0.out.mono HW.out.size))).bound hxk
                  clear hxk
                  dsimp only at HE2
                  obtain ⟨hc, hrest⟩ := Bool.or_eq_false_iff.1 HE2.out
                  have Hrest := Lib.hid hrest
                  clear hrest HE2
                  go_wp2_with fail
                  go_round
                  case rel => exact ⟨k + 1, by omega, by go_num, Lib.hid Hrest.out⟩
                  case measure => simp [Go.RowKit.intOf]; omega
                · have hki : ¬ (k : Int) < (vars.length : Int) := by omega
                  go_wp2_with fail
                  go_meet
                  case rel => exact Lib.hid rfl
            · have h19' : (op == 19) = false := by simpa using h19
              clear Hh19 h19
              go_wp2_with fail
              go_meet
              case rel => exact Lib.hid rfl
          case rest =>
            rw [← hcut.out]
            clear hcut Hh19
            go_wp2_with fail
            have hN0 : w0.heap.size ≤ W3.heap.size := by have := HW.out.size; omega
            go_loopw [8, 10] (fun lv iv wr => ∃ (k c2 : Nat) (A2 : Option Addr), k ≤ l.length ∧ iv = .int .i64 k ∧ lv = .slice A2 k c2 ∧ Hid (∃ us, PutL w0.heap.size W3.heap.size wr (putXs z u l) A2 k c2 us) ∧ Hid (Below W3.heap.size W3 wr)) (fun _ iv _ => l.length - (Go.RowKit.intOf iv).toNat)
            case atStart => exact ⟨0, 0, none, Nat.zero_le _, rfl, rfl, Lib.hid ⟨[], rfl, World.ownsRow_nil _ _ _ _, by simp, fun j t hj => absurd hj (Nat.not_lt_zero _), Nat.le_refl _, hN0⟩, Lib.hid (Below.refl _ _)⟩
            case round =>
              obtain ⟨k, c2, A2, hk, rfl, rfl, HPL, HB⟩ := hrel
              have HR9 : Hid (wr.heap[W.heap.size]? = some (.cells (Parts.arr ⟨op, name, sort, n, A, l.length, ca, V, vars.length, cv, P, pat.length, cp⟩) 29 (0, 0)) ∧ wr.heap[W.heap.size + 1]? = some (.cells (Parts.arr ⟨xop, xnm, xso, xn, xA, xla, xca, xV, xlv, xcv, xP, xlp, xcp⟩) 29 (0, 0)) ∧ wr.heap[W.heap.size + 1 + 1]? = some (.cells zeroP.arr 29 (0, 0))) := Lib.hid ⟨(HB.out.block _ q0).trans Hr0.out, (HB.out.block _ q1).trans Hr1.out, (HB.out.block _ q2).trans Hr2.out⟩
              have HR := HR9
              have HBB : Hid (Below W.heap.size W wr) := Lib.hid (Hb0.out.trans (HB.out.mono Hb0.out.size))
              clear c0 c1 c2' c3 c4 c5 c6 x0 x1 x2 x3 x4 x5 x6
              obtain ⟨c0, c1, c2', c3, c4, c5, c6⟩ := box_cells HR9.out.1
              dsimp only at c0 c1 c2' c3 c4 c5 c6
              by_cases hk1 : k < l.length
              · have hk2 : (k : Int) < (l.length : Int) := by omega
                have Ht : Hid (l[k]? = some l[k]) := Lib.hid (List.getElem?_eq_getElem hk1)
                have Ht2 : Hid ((putXs z u l)[k]? = some (putX z u l[k])) := Lib.hid (by rw [putXs_map, List.getElem?_map, Ht.out]; rfl)
                have Hv := Lib.hid (HL.out k _ Ht.out)
                obtain ⟨p, hp⟩ := Hv.out.parts
                have hwr0 : Below w0.heap.size w0 wr := HW.out.trans (HBB.out.mono HW.out.size)
                obtain ⟨b, o, rfl, e0, e1, e2, e3, e4, e5, e6⟩ := (Hf.out.below hwr0).get hk1 hp
                have Hcells : Hid (∀ w', Below wr.heap.size wr w' → w'.cell? ⟨b, o + k * 7, none⟩ = some (.int .i64 p.op) ∧ w'.cell? ⟨b, o + k * 7 + 1, none⟩ = some (.string p.name) ∧ w'.cell? ⟨b, o + k * 7 + 2, none⟩ = some (.int .i64 p.sort) ∧ w'.cell? ⟨b, o + k * 7 + 3, none⟩ = some (.string p.n) ∧ w'.cell? ⟨b, o + k * 7 + 4, none⟩ = some (.slice p.A p.la p.ca) ∧ w'.cell? ⟨b, o + k * 7 + 5, none⟩ = some (.slice p.V p.lv p.cv) ∧ w'.cell? ⟨b, o + k * 7 + 6, none⟩ = some (.slice p.P p.lp p.cp)) := Lib.hid (fun w' hb => ⟨cell_of_below hb (Nat.le_refl _) e0, cell_of_below hb (Nat.le_refl _) e1, cell_of_below hb (Nat.le_refl _) e2, cell_of_below hb (Nat.le_refl _) e3, cell_of_below hb (Nat.le_refl _) e4, cell_of_below hb (Nat.le_refl _) e5, cell_of_below hb (Nat.le_refl _) e6⟩)
                have Hc : Hid (∀ w', Below wr.heap.size wr w' → Calls Tryz.prog 15 #[.agg p.arr, .string z, .agg (Parts.arr ⟨xop, xnm, xso, xn, xA, xla, xca, xV, xlv, xcv, xP, xlp, xcp⟩)] w' (PutIs w0.heap.size w' (putX z u l[k]))) := Lib.hid (fun w' hb => by
                  have := Hih.out k _ Ht.out w' (hwr0.trans (hb.mono hwr0.size))
                  rw [hp] at this
                  exact this)
                clear hp hwr0 Hv e0 e1 e2 e3 e4 e5 e6
                generalize l[k] = tk at *
                clear Ht
                go_wp2_with fail
                refine wp_region_makesF [0,1,2,3,4,5,6,7,8,9] [10,11] (by kernel_rfl) (by kernel_rfl) (putSpec_keep w0.heap.size wr.heap.size W.heap.size 4 (putX z u tk) (.slice A2 k c2) (.slice (some ⟨b, o, none⟩) l.length ca) k ⟨b, o + k * 7, none⟩ p z ⟨xop, xnm, xso, xn, xA, xla, xca, xV, xlv, xcv, xP, xlp, xcp⟩) ?_ ?_
                · generalize Exit.then _ _ = Q2
                  intro i o9 ho hi a' w' hb hfr hd K hK
                  have hbd : Below wr.heap.size wr w' := (Below.refl wr.heap.size wr).drew.trans hb
                  obtain ⟨c0, c1, c2', c3, c4, c5, c6⟩ := box_cells ((hbd.block _ (Array.getElem?_eq_some_iff.1 HR.out.1).1).trans HR.out.1)
                  obtain ⟨x0, x1, x2, x3, x4, x5, x6⟩ := box_cells ((hbd.block _ (Array.getElem?_eq_some_iff.1 HR.out.2.1).1).trans HR.out.2.1)
                  obtain ⟨e0, e1, e2, e3, e4, e5, e6⟩ := Hcells.out w' hbd
                  have hv1 : a'.tmps.getD 1 undef = .string z := hfr 1 (by kernel_rfl)
                  have hv3 : a'.tmps.getD 3 undef = .pointer (some ⟨W.heap.size, 0, none⟩) := hfr 3 (by kernel_rfl)
                  have hv5 : a'.tmps.getD 5 undef = .pointer (some ⟨W.heap.size + 1, 0, none⟩) := hfr 5 (by kernel_rfl)
                  have hvL : a'.tmps.getD 8 undef = .slice A2 k c2 := hfr 8 (by kernel_rfl)
                  have hvI : a'.tmps.getD 10 undef = .int .i64 k := hfr 10 (by kernel_rfl)
                  rw [Array.getD_eq_getD_getElem?] at hv1 hv3 hv5 hvL hvI
                  have HK := Lib.hid hK
                  have Hbd := Lib.hid hbd
                  have Hbs : Hid (wr.heap.size ≤ w'.heap.size) := Lib.hid hbd.size
                  dsimp only at c0 c1 c2' c3 c4 c5 c6 x0 x1 x2 x3 x4 x5 x6
                  clear hb hK hfr hbd
                  match i, ho with
                  | 0, ho => cases ho; clear hd; go_simp; exact HK.out _ _ rfl (Below.refl _ _)
                  | 1, ho => cases ho; clear hd; go_simp; exact HK.out _ _ rfl (Below.refl _ _)
                  | 2, ho =>
                    cases ho
                    have f1 := hd ⟨1, .data⟩ (by simp) rfl _ _ rfl rfl
                    simp only [putSpec, Array.getD_eq_getD_getElem?] at f1
                    clear hd
                    go_simp
                    exact HK.out _ _ rfl (Below.refl _ _)
                  | 3, ho => cases ho; clear hd; go_simp; exact HK.out _ _ rfl (Below.refl _ _)
                  | 4, ho =>
                    cases ho
                    have f1 := hd ⟨2, .data⟩ (by simp) rfl _ _ rfl rfl
                    have f2 := hd ⟨3, .data⟩ (by simp) rfl _ _ rfl rfl
                    simp only [putSpec, Array.getD_eq_getD_getElem?] at f1 f2
                    clear hd
                    go_simp
                    exact HK.out _ _ rfl (Below.refl _ _)
                  | 5, ho =>
                    cases ho
                    have f1 := hd ⟨4, .data⟩ (by simp) rfl _ _ rfl rfl
                    simp only [putSpec, Array.getD_eq_getD_getElem?] at f1
                    clear hd
                    go_simp
                    exact HK.out _ _ rfl (Below.refl _ _)
                  | 6, ho => cases ho; clear hd; go_simp; exact HK.out _ _ rfl (Below.refl _ _)
                  | 7, ho => cases ho; clear hd; go_simp; exact HK.out _ _ rfl (Below.refl _ _)
                  | 8, ho =>
                    cases ho
                    have f1 := hd ⟨5, .data⟩ (by simp) rfl _ _ rfl rfl
                    have f2 := hd ⟨6, .data⟩ (by simp) rfl _ _ rfl rfl
                    have f3 := hd ⟨7, .data⟩ (by simp) rfl _ _ rfl rfl
                    simp only [putSpec, Array.getD_eq_getD_getElem?] at f1 f2 f3
                    clear hd
                    go_simp
                    refine (Hc.out w' Hbd.out).mono ?_
                    rintro e8 w8 ⟨pp, rfl, ht8, hb8⟩
                    exact HK.out _ _ ⟨pp, rfl, ht8.inc (inc_old Hbs.out)⟩ hb8
                  | 9, ho =>
                    cases ho
                    obtain ⟨⟨op8, nm8, so8, n8, A8, la8, ca8, V8, lv8, cv8, P8, lp8, cp8⟩, f1, ht8⟩ := hd ⟨8, .data⟩ (by simp) rfl _ _ rfl rfl
                    simp only [Parts.arr, Array.getD_eq_getD_getElem?] at f1
                    have Ht8 := Lib.hid ht8
                    clear hd ht8
                    go_simp
                    exact HK.out _ _ ⟨w'.heap.size, ⟨op8, nm8, so8, n8, A8, la8, ca8, V8, lv8, cv8, P8, lp8, cp8⟩, rfl, heap_alloc_new w' _, Ht8.out.inc (only_below ((Below.refl _ _).alloc (Nat.le_refl _) _))⟩ ((Below.refl _ _).alloc (Nat.le_refl _) _)
                  | 10, ho => exact absurd (by simp) hi
                  | 11, ho => exact absurd (by simp) hi
                  | n + 12, ho => simp at ho
                · intro fuel listed a' w8 hc hm hall
                  obtain ⟨g, ha, hh⟩ := hm.act (ds := [48,49,50,51,52,53,54,55,56,57]) (by kernel_rfl)
                  have hl : listed = #[true,true,true,true,true,true,true,true,true,true,false,false] := by
                    have hs : listed.size = 12 := hm.size
                    have n10 := getD_both (hm.rest 10 (by simp))
                    have n11 := getD_both (hm.rest 11 (by simp))
                    rw [listed_all listed, hs]
                    simp only [List.range, List.range.loop, List.map, n10, n11, hall 0 (by simp), hall 1 (by simp), hall 2 (by simp), hall 3 (by simp), hall 4 (by simp), hall 5 (by simp), hall 6 (by simp), hall 7 (by simp), hall 8 (by simp), hall 9 (by simp)]
                  have eL : g 48 = .slice A2 k c2 := hh 0 _ _ (hall 0 (by simp)) rfl rfl
                  obtain ⟨z9, ⟨op8, nm8, so8, n8, A8, la8, ca8, V8, lv8, cv8, P8, lp8, cp8⟩, e9, hz9, ht9⟩ := hh 9 _ _ (hall 9 (by simp)) rfl rfl
                  have hbd : Below wr.heap.size wr w8 := (Below.refl wr.heap.size wr).drew.trans hm.inv
                  have HB8 := Lib.hid hbd
                  have HZ9 := Lib.hid hz9
                  have HT9 := Lib.hid ht9
                  subst hl
                  clear hm hall hh hz9 ht9 hbd
                  subst ha
                  simp only [setAll]
                  rw [eL, e9]
                  clear eL e9
                  generalize g 49 = g49, g 50 = g50, g 51 = g51, g 52 = g52, g 53 = g53, g 54 = g54, g 55 = g55, g 56 = g56
                  simp only [Act.put, List.setIfInBounds_toArray, List.set_cons_zero, List.set_cons_succ]
                  obtain ⟨f2, rfl⟩ : ∃ f2, fuel = f2 + 2 := ⟨fuel - 2, by simp at hc; omega⟩
                  clear hc
                  obtain ⟨us, HU⟩ : ∃ us, Hid (PutL w0.heap.size W3.heap.size wr (putXs z u l) A2 k c2 us) := by obtain ⟨us, hu⟩ := HPL.out; exact ⟨us, Lib.hid hu⟩
                  have HU8 := Lib.hid (HU.out.below HB8.out)
                  refine wpAny_ready (rs := [10]) (by kernel_rfl) (by simp) ?_
                  refine AllReady.cons rfl (fun K3 hK3 => ?_) AllReady.nil
                  refine step_append_row _ (by rfl) _ _ 26 (by rfl) W3.heap.size 29 i29 _ 7 120 Tryz.underlying26 hi29 hz0 hz1 hz2 rfl (by decide) (.slice A2 k c2) k (cellsOf us) (by rfl) HU8.out.own ⟨z9, 0, none⟩ 1 (Parts.arr ⟨op8, nm8, so8, n8, A8, la8, ca8, V8, lv8, cv8, P8, lp8, cp8⟩) (by rfl) rfl HZ9.out rfl rfl (Parts.one _) (by have := Hln.out.1; have := Hln.out.2; simp only [maxLen]; omega) (by have := Hln.out.1; have := Hln.out.2; omega) HU8.out.base ?_
                  intro g9 cap9 w9 hq9 hg9 hat9
                  have HU9 := Lib.hid (HU8.out.append (C := wr.heap.size) Ht2.out HT9.out (fun j hj => by obtain ⟨_, cur, hcu⟩ := ownsRow_lt HU.out.own j hj; exact (Array.getElem?_eq_some_iff.1 hcu).1) HU.out.base hq9 hg9 hat9)
                  have HG9 := Lib.hid hg9
                  have HO9 := Lib.hid (fun j hj => (ownsRow_lt HU8.out.own j hj).1)
                  clear hq9 hg9 hat9
                  refine hK3 _ _ ?_
                  clear hK3 K3
                  try simp only [Act.put, List.setIfInBounds_toArray, List.set_cons_zero, List.set_cons_succ]
                  refine wpAny_ready (rs := [11]) (by kernel_rfl) (by simp) ?_
                  refine AllReady.cons rfl (fun K3 hK3 => ?_) AllReady.nil
                  go_simp
                  refine hK3 _ _ (wpAny_done (by kernel_rfl) ?_ _)
                  clear hK3 K3
                  try dsimp only [Exit.then]
                  go_wp2_with fail
                  go_roundw
                  case rel =>
                    have h89 : Below W3.heap.size wr w9 := (HB8.out.mono HU.out.base).grown HG9.out (Nat.le_trans HU.out.base HB8.out.size) HO9.out
                    exact ⟨k + 1, cap9, some ⟨g9, 0, none⟩, by omega, by go_num, rfl, Lib.hid ⟨_, HU9.out⟩, Lib.hid (HB.out.trans h89)⟩
                  case measure => simp [Go.RowKit.intOf]; omega
              · have hkl : k = l.length := by omega
                subst hkl
                have hkl2 : ¬ (l.length : Int) < (l.length : Int) := by omega
                obtain ⟨us1, hus1⟩ := HPL.out
                have Hdone1 := Lib.hid (show TmsV (only wr (inOld w0.heap.size W3.heap.size)) (putXs z u l) A2 (putXs z u l).length c2 from PutL.done (by rw [show (putXs z u l).length = l.length by rw [putXs_map, List.length_map]]; exact hus1))
                have hq3 : W3.heap.size ≤ wr.heap.size := HB.out.size
                clear hus1 HPL hk1
                generalize A2 = A1 at *
                generalize c2 = cc1 at *
                go_wp2_with fail
                obtain ⟨wq, hwq⟩ : ∃ wq, wq = wr := ⟨_, rfl⟩
                rw [← hwq]
                rw [← hwq] at HR9 HR HBB HB Hdone1 hq3 c0 c1 c2' c3 c4 c5 c6
                have HBq := HB
                have HRq := HR9
                clear hwq HB HR HR9
                go_loopw [9, 11] (fun lv iv wr => ∃ (k c2 : Nat) (A2 : Option Addr), k ≤ pat.length ∧ iv = .int .i64 k ∧ lv = .slice A2 k c2 ∧ Hid (∃ us, PutL w0.heap.size wq.heap.size wr (putXs z u pat) A2 k c2 us) ∧ Hid (Below wq.heap.size wq wr)) (fun _ iv _ => pat.length - (Go.RowKit.intOf iv).toNat)
                case atStart => exact ⟨0, 0, none, Nat.zero_le _, rfl, rfl, Lib.hid ⟨[], rfl, World.ownsRow_nil _ _ _ _, by simp, fun j t hj => absurd hj (Nat.not_lt_zero _), Nat.le_refl _, by omega⟩, Lib.hid (Below.refl _ _)⟩
                case round =>
                  obtain ⟨k, c2, A2, hk, rfl, rfl, HPL, HB⟩ := hrel
                  have HR9 : Hid (wr.heap[W.heap.size]? = some (.cells (Parts.arr ⟨op, name, sort, n, A, l.length, ca, V, vars.length, cv, P, pat.length, cp⟩) 29 (0, 0)) ∧ wr.heap[W.heap.size + 1]? = some (.cells (Parts.arr ⟨xop, xnm, xso, xn, xA, xla, xca, xV, xlv, xcv, xP, xlp, xcp⟩) 29 (0, 0)) ∧ wr.heap[W.heap.size + 1 + 1]? = some (.cells zeroP.arr 29 (0, 0))) := Lib.hid ⟨(HB.out.block _ (by omega)).trans HRq.out.1, (HB.out.block _ (by omega)).trans HRq.out.2.1, (HB.out.block _ (by omega)).trans HRq.out.2.2⟩
                  have HR := HR9
                  have HBBq := HBB
                  have HBB : Hid (Below W.heap.size W wr) := Lib.hid (HBBq.out.trans (HB.out.mono HBBq.out.size))
                  clear c0 c1 c2' c3 c4 c5 c6
                  obtain ⟨c0, c1, c2', c3, c4, c5, c6⟩ := box_cells HR9.out.1
                  dsimp only at c0 c1 c2' c3 c4 c5 c6
                  by_cases hk1 : k < pat.length
                  · have hk2 : (k : Int) < (pat.length : Int) := by omega
                    have Ht : Hid (pat[k]? = some pat[k]) := Lib.hid (List.getElem?_eq_getElem hk1)
                    have Ht2 : Hid ((putXs z u pat)[k]? = some (putX z u pat[k])) := Lib.hid (by rw [putXs_map, List.getElem?_map, Ht.out]; rfl)
                    have Hv := Lib.hid (HP.out k _ Ht.out)
                    obtain ⟨p, hp⟩ := Hv.out.parts
                    have hwr0 : Below w0.heap.size w0 wr := HW.out.trans (HBB.out.mono HW.out.size)
                    obtain ⟨b, o, rfl, e0, e1, e2, e3, e4, e5, e6⟩ := (Hg.out.below hwr0).get hk1 hp
                    have Hcells : Hid (∀ w', Below wr.heap.size wr w' → w'.cell? ⟨b, o + k * 7, none⟩ = some (.int .i64 p.op) ∧ w'.cell? ⟨b, o + k * 7 + 1, none⟩ = some (.string p.name) ∧ w'.cell? ⟨b, o + k * 7 + 2, none⟩ = some (.int .i64 p.sort) ∧ w'.cell? ⟨b, o + k * 7 + 3, none⟩ = some (.string p.n) ∧ w'.cell? ⟨b, o + k * 7 + 4, none⟩ = some (.slice p.A p.la p.ca) ∧ w'.cell? ⟨b, o + k * 7 + 5, none⟩ = some (.slice p.V p.lv p.cv) ∧ w'.cell? ⟨b, o + k * 7 + 6, none⟩ = some (.slice p.P p.lp p.cp)) := Lib.hid (fun w' hb => ⟨cell_of_below hb (Nat.le_refl _) e0, cell_of_below hb (Nat.le_refl _) e1, cell_of_below hb (Nat.le_refl _) e2, cell_of_below hb (Nat.le_refl _) e3, cell_of_below hb (Nat.le_refl _) e4, cell_of_below hb (Nat.le_refl _) e5, cell_of_below hb (Nat.le_refl _) e6⟩)
                    have Hc : Hid (∀ w', Below wr.heap.size wr w' → Calls Tryz.prog 15 #[.agg p.arr, .string z, .agg (Parts.arr ⟨xop, xnm, xso, xn, xA, xla, xca, xV, xlv, xcv, xP, xlp, xcp⟩)] w' (PutIs w0.heap.size w' (putX z u pat[k]))) := Lib.hid (fun w' hb => by
                      have := HihP.out k _ Ht.out w' (hwr0.trans (hb.mono hwr0.size))
                      rw [hp] at this
                      exact this)
                    clear hp hwr0 Hv e0 e1 e2 e3 e4 e5 e6
                    generalize pat[k] = tk at *
                    clear Ht
                    go_wp2_with fail
                    refine wp_region_makesF [0,1,2,3,4,5,6,7,8,9] [10,11] (by kernel_rfl) (by kernel_rfl) (putSpec_keep w0.heap.size wr.heap.size W.heap.size 6 (putX z u tk) (.slice A2 k c2) (.slice (some ⟨b, o, none⟩) pat.length cp) k ⟨b, o + k * 7, none⟩ p z ⟨xop, xnm, xso, xn, xA, xla, xca, xV, xlv, xcv, xP, xlp, xcp⟩) ?_ ?_
                    · generalize Exit.then _ _ = Q2
                      intro i o9 ho hi a' w' hb hfr hd K hK
                      have hbd : Below wr.heap.size wr w' := (Below.refl wr.heap.size wr).drew.trans hb
                      obtain ⟨c0, c1, c2', c3, c4, c5, c6⟩ := box_cells ((hbd.block _ (Array.getElem?_eq_some_iff.1 HR.out.1).1).trans HR.out.1)
                      obtain ⟨x0, x1, x2, x3, x4, x5, x6⟩ := box_cells ((hbd.block _ (Array.getElem?_eq_some_iff.1 HR.out.2.1).1).trans HR.out.2.1)
                      obtain ⟨e0, e1, e2, e3, e4, e5, e6⟩ := Hcells.out w' hbd
                      have hv1 : a'.tmps.getD 1 undef = .string z := hfr 1 (by kernel_rfl)
                      have hv3 : a'.tmps.getD 3 undef = .pointer (some ⟨W.heap.size, 0, none⟩) := hfr 3 (by kernel_rfl)
                      have hv5 : a'.tmps.getD 5 undef = .pointer (some ⟨W.heap.size + 1, 0, none⟩) := hfr 5 (by kernel_rfl)
                      have hvL : a'.tmps.getD 9 undef = .slice A2 k c2 := hfr 9 (by kernel_rfl)
                      have hvI : a'.tmps.getD 11 undef = .int .i64 k := hfr 11 (by kernel_rfl)
                      rw [Array.getD_eq_getD_getElem?] at hv1 hv3 hv5 hvL hvI
                      have HK := Lib.hid hK
                      have Hbd := Lib.hid hbd
                      have Hbs : Hid (wr.heap.size ≤ w'.heap.size) := Lib.hid hbd.size
                      dsimp only at c0 c1 c2' c3 c4 c5 c6 x0 x1 x2 x3 x4 x5 x6
                      clear hb hK hfr hbd
                      match i, ho with
                      | 0, ho => cases ho; clear hd; go_simp; exact HK.out _ _ rfl (Below.refl _ _)
                      | 1, ho => cases ho; clear hd; go_simp; exact HK.out _ _ rfl (Below.refl _ _)
                      | 2, ho =>
                        cases ho
                        have f1 := hd ⟨1, .data⟩ (by simp) rfl _ _ rfl rfl
                        simp only [putSpec, Array.getD_eq_getD_getElem?] at f1
                        clear hd
                        go_simp
                        exact HK.out _ _ rfl (Below.refl _ _)
                      | 3, ho => cases ho; clear hd; go_simp; exact HK.out _ _ rfl (Below.refl _ _)
                      | 4, ho =>
                        cases ho
                        have f1 := hd ⟨2, .data⟩ (by simp) rfl _ _ rfl rfl
                        have f2 := hd ⟨3, .data⟩ (by simp) rfl _ _ rfl rfl
                        simp only [putSpec, Array.getD_eq_getD_getElem?] at f1 f2
                        clear hd
                        go_simp
                        exact HK.out _ _ rfl (Below.refl _ _)
                      | 5, ho =>
                        cases ho
                        have f1 := hd ⟨4, .data⟩ (by simp) rfl _ _ rfl rfl
                        simp only [putSpec, Array.getD_eq_getD_getElem?] at f1
                        clear hd
                        go_simp
                        exact HK.out _ _ rfl (Below.refl _ _)
                      | 6, ho => cases ho; clear hd; go_simp; exact HK.out _ _ rfl (Below.refl _ _)
                      | 7, ho => cases ho; clear hd; go_simp; exact HK.out _ _ rfl (Below.refl _ _)
                      | 8, ho =>
                        cases ho
                        have f1 := hd ⟨5, .data⟩ (by simp) rfl _ _ rfl rfl
                        have f2 := hd ⟨6, .data⟩ (by simp) rfl _ _ rfl rfl
                        have f3 := hd ⟨7, .data⟩ (by simp) rfl _ _ rfl rfl
                        simp only [putSpec, Array.getD_eq_getD_getElem?] at f1 f2 f3
                        clear hd
                        go_simp
                        refine (Hc.out w' Hbd.out).mono ?_
                        rintro e8 w8 ⟨pp, rfl, ht8, hb8⟩
                        exact HK.out _ _ ⟨pp, rfl, ht8.inc (inc_old Hbs.out)⟩ hb8
                      | 9, ho =>
                        cases ho
                        obtain ⟨⟨op8, nm8, so8, n8, A8, la8, ca8, V8, lv8, cv8, P8, lp8, cp8⟩, f1, ht8⟩ := hd ⟨8, .data⟩ (by simp) rfl _ _ rfl rfl
                        simp only [Parts.arr, Array.getD_eq_getD_getElem?] at f1
                        have Ht8 := Lib.hid ht8
                        clear hd ht8
                        go_simp
                        exact HK.out _ _ ⟨w'.heap.size, ⟨op8, nm8, so8, n8, A8, la8, ca8, V8, lv8, cv8, P8, lp8, cp8⟩, rfl, heap_alloc_new w' _, Ht8.out.inc (only_below ((Below.refl _ _).alloc (Nat.le_refl _) _))⟩ ((Below.refl _ _).alloc (Nat.le_refl _) _)
                      | 10, ho => exact absurd (by simp) hi
                      | 11, ho => exact absurd (by simp) hi
                      | n + 12, ho => simp at ho
                    · intro fuel listed a' w8 hc hm hall
                      obtain ⟨g, ha, hh⟩ := hm.act (ds := [66,67,68,69,70,71,72,73,74,75]) (by kernel_rfl)
                      have hl : listed = #[true,true,true,true,true,true,true,true,true,true,false,false] := by
                        have hs : listed.size = 12 := hm.size
                        have n10 := getD_both (hm.rest 10 (by simp))
                        have n11 := getD_both (hm.rest 11 (by simp))
                        rw [listed_all listed, hs]
                        simp only [List.range, List.range.loop, List.map, n10, n11, hall 0 (by simp), hall 1 (by simp), hall 2 (by simp), hall 3 (by simp), hall 4 (by simp), hall 5 (by simp), hall 6 (by simp), hall 7 (by simp), hall 8 (by simp), hall 9 (by simp)]
                      have eL : g 66 = .slice A2 k c2 := hh 0 _ _ (hall 0 (by simp)) rfl rfl
                      obtain ⟨z9, ⟨op8, nm8, so8, n8, A8, la8, ca8, V8, lv8, cv8, P8, lp8, cp8⟩, e9, hz9, ht9⟩ := hh 9 _ _ (hall 9 (by simp)) rfl rfl
                      have hbd : Below wr.heap.size wr w8 := (Below.refl wr.heap.size wr).drew.trans hm.inv
                      have HB8 := Lib.hid hbd
                      have HZ9 := Lib.hid hz9
                      have HT9 := Lib.hid ht9
                      subst hl
                      clear hm hall hh hz9 ht9 hbd
                      subst ha
                      simp only [setAll]
                      rw [eL, e9]
                      clear eL e9
                      generalize g 67 = g67, g 68 = g68, g 69 = g69, g 70 = g70, g 71 = g71, g 72 = g72, g 73 = g73, g 74 = g74
                      simp only [Act.put, List.setIfInBounds_toArray, List.set_cons_zero, List.set_cons_succ]
                      obtain ⟨f2, rfl⟩ : ∃ f2, fuel = f2 + 2 := ⟨fuel - 2, by simp at hc; omega⟩
                      clear hc
                      obtain ⟨us, HU⟩ : ∃ us, Hid (PutL w0.heap.size wq.heap.size wr (putXs z u pat) A2 k c2 us) := by obtain ⟨us, hu⟩ := HPL.out; exact ⟨us, Lib.hid hu⟩
                      have HU8 := Lib.hid (HU.out.below HB8.out)
                      refine wpAny_ready (rs := [10]) (by kernel_rfl) (by simp) ?_
                      refine AllReady.cons rfl (fun K3 hK3 => ?_) AllReady.nil
                      refine step_append_row _ (by rfl) _ _ 26 (by rfl) wq.heap.size 29 i29 _ 7 120 Tryz.underlying26 hi29 hz0 hz1 hz2 rfl (by decide) (.slice A2 k c2) k (cellsOf us) (by rfl) HU8.out.own ⟨z9, 0, none⟩ 1 (Parts.arr ⟨op8, nm8, so8, n8, A8, la8, ca8, V8, lv8, cv8, P8, lp8, cp8⟩) (by rfl) rfl HZ9.out rfl rfl (Parts.one _) (by have := Hln.out.1; have := Hln.out.2; simp only [maxLen]; omega) (by have := Hln.out.1; have := Hln.out.2; omega) HU8.out.base ?_
                      intro g9 cap9 w9 hq9 hg9 hat9
                      have HU9 := Lib.hid (HU8.out.append (C := wr.heap.size) Ht2.out HT9.out (fun j hj => by obtain ⟨_, cur, hcu⟩ := ownsRow_lt HU.out.own j hj; exact (Array.getElem?_eq_some_iff.1 hcu).1) HU.out.base hq9 hg9 hat9)
                      have HG9 := Lib.hid hg9
                      have HO9 := Lib.hid (fun j hj => (ownsRow_lt HU8.out.own j hj).1)
                      clear hq9 hg9 hat9
                      refine hK3 _ _ ?_
                      clear hK3 K3
                      try simp only [Act.put, List.setIfInBounds_toArray, List.set_cons_zero, List.set_cons_succ]
                      refine wpAny_ready (rs := [11]) (by kernel_rfl) (by simp) ?_
                      refine AllReady.cons rfl (fun K3 hK3 => ?_) AllReady.nil
                      go_simp
                      refine hK3 _ _ (wpAny_done (by kernel_rfl) ?_ _)
                      clear hK3 K3
                      try dsimp only [Exit.then]
                      go_wp2_with fail
                      go_roundw
                      case rel =>
                        have h89 : Below wq.heap.size wr w9 := (HB8.out.mono HU.out.base).grown HG9.out (Nat.le_trans HU.out.base HB8.out.size) HO9.out
                        exact ⟨k + 1, cap9, some ⟨g9, 0, none⟩, by omega, by go_num, rfl, Lib.hid ⟨_, HU9.out⟩, Lib.hid (HB.out.trans h89)⟩
                      case measure => simp [Go.RowKit.intOf]; omega
                  · have hkl : k = pat.length := by omega
                    subst hkl
                    have hkl2 : ¬ (pat.length : Int) < (pat.length : Int) := by omega
                    have p0 : W.heap.size < wr.heap.size := by have := HB.out.size; omega
                    have fz4 : ∀ i, wr.frozen? ⟨W.heap.size, i, none⟩ = false := fun i => frozen_of_row _ _ i _ 29 HR9.out.1
                    have fz6 : ∀ i, wr.frozen? ⟨W.heap.size + 1 + 1, i, none⟩ = false := fun i => frozen_of_row _ _ i _ 29 HR9.out.2.2
                    obtain ⟨y0, y1, y2, y3, y4, y5, y6⟩ := box_cells HR9.out.2.2
                    go_wp2_with fail
                    obtain ⟨us2, hus2⟩ := HPL.out
                    have hl1 : (putXs z u l).length = l.length := by rw [putXs_map, List.length_map]
                    have hl2 : (putXs z u pat).length = pat.length := by rw [putXs_map, List.length_map]
                    have hd1 := Hdone1.out
                    have hd2 : TmsV (only wr (inOld w0.heap.size wq.heap.size)) (putXs z u pat) A2 (putXs z u pat).length c2 := PutL.done (by rw [hl2]; exact hus2)
                    rw [hl1] at hd1
                    rw [hl2] at hd2
                    obtain ⟨w9, hw9⟩ : ∃ w9, w9 = (wr.setCell ⟨W.heap.size, 4, none⟩ (.slice A1 l.length cc1)).setCell ⟨W.heap.size, 6, none⟩ (.slice A2 pat.length c2) := ⟨_, rfl⟩
                    have hrow : w9.heap[W.heap.size + 1 + 1]? = some (.cells zeroP.arr 29 (0, 0)) := by
                      rw [hw9, Below.heap_setCell _ _ _ _ (show W.heap.size + 1 + 1 ≠ W.heap.size by omega), Below.heap_setCell _ _ _ _ (show W.heap.size + 1 + 1 ≠ W.heap.size by omega)]
                      exact HR9.out.2.2
                    have hNW := HW.out.size
                    have hc9 : ∀ a : Addr, a.block ≠ W.heap.size → w9.cell? a = wr.cell? a := fun a h => by rw [hw9, cell_set_ne h, cell_set_ne h]
                    have hb9 : Below W.heap.size W w9 := by
                      rw [hw9]
                      exact (HBB.out.setCell (p := ⟨W.heap.size, 4, none⟩) (Nat.le_refl _) _).setCell (p := ⟨W.heap.size, 6, none⟩) (Nat.le_refl _) _
                    show bodyPost Tryz.prog Tryz.f15 (PutIs w0.heap.size W R) Exit.ret _ (set7 ((wr.setCell ⟨W.heap.size, 4, none⟩ (.slice A1 l.length cc1)).setCell ⟨W.heap.size, 6, none⟩ (.slice A2 pat.length c2)) (W.heap.size + 1 + 1) ⟨op, name, sort, n, A1, l.length, cc1, V, vars.length, cv, A2, pat.length, c2⟩)
                    rw [← hw9]
                    have hbw := set7_below hb9 (show W.heap.size ≤ W.heap.size + 1 + 1 by omega) ⟨op, name, sort, n, A1, l.length, cc1, V, vars.length, cv, A2, pat.length, c2⟩
                    have hcw : ∀ a : Addr, (a.block < w0.heap.size ∨ W3.heap.size ≤ a.block) → (set7 w9 (W.heap.size + 1 + 1) ⟨op, name, sort, n, A1, l.length, cc1, V, vars.length, cv, A2, pat.length, c2⟩).cell? a = wr.cell? a := fun a h => by
                      rw [set7_cell (by omega), hc9 a (by omega)]
                    refine bodyPost_ret (results_cell_row rfl _ _ (W.heap.size + 1 + 1) 29 _ (0, 0) _ rfl (set7_row hrow ⟨op, name, sort, n, A1, l.length, cc1, V, vars.length, cv, A2, pat.length, c2⟩) Tryz.underlying29 rfl (by kernel_rfl)) rfl ⟨⟨op, name, sort, n, A1, l.length, cc1, V, vars.length, cv, A2, pat.length, c2⟩, rfl, ?_, hbw⟩
                    rw [HR0.out]
                    have t1 := (hd1.inc ((only_below HB.out).trans (inc_sets (C := W.heap.size) hcw (by omega)))).ts
                    have t2 := (hd2.inc (inc_sets (C := W.heap.size) (fun a h => hcw a (by omega)) (by omega))).ts
                    have t3 : BsV (only (set7 w9 (W.heap.size + 1 + 1) ⟨op, name, sort, n, A1, l.length, cc1, V, vars.length, cv, A2, pat.length, c2⟩) (inOld w0.heap.size W.heap.size)) vars (.slice V vars.length cv) := ⟨V, cv, rfl, Hcap.out.2.1, HV.out.inc (inc_w0 (HW.out.trans (hbw.mono HW.out.size)) _)⟩
                    exact TmV.make (by rw [hl1, hl2]; exact Hbd.out) t1 t3 t2
end Go.Proofs.YtbnonccmlildnaaGreat
