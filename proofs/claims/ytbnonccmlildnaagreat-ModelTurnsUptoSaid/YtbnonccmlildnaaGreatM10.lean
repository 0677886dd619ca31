/- patterns, walked. -/
import Derived.Test.YtbnonccmlildnaaGreatM9
set_option linter.unusedSimpArgs false
set_option linter.unusedVariables false
namespace Go.Proofs.YtbnonccmlildnaaGreat
open Go.RowKit Go.Lib

theorem tnames_room {l : List Tm} {k : Nat} (hk : k < l.length) : (tnamess (l.take k)).length + tsize l[k] ≤ tws l := by
  have e1 := tnamess_length (l.take k)
  have e2 := tsizes_le l (k + 1)
  rw [tsizes_take hk] at e2
  have := tsizes_tws l
  omega
/-- One pattern: what is wrong with it. -/
theorem pat_one (sig : List Fn) (p : Tm) (bd : Bd) : patsS sig [p] bd = if 200 < tdepth p then 33 else if 50000 < tsize p then 34 else if opOf p ≠ 17 ∨ tbare p = false then 30 else (checkS sig p bd).2 := by
  simp only [patsS]
  split
  · rfl
  · split
    · rfl
    · split
      · rfl
      · by_cases h : (checkS sig p bd).2 = 0 <;> simp [h]

set_option maxRecDepth 100000 in
set_option maxHeartbeats 4000000 in
theorem patterns_any {w : World} {sig : List Fn} {S V P : Option Addr} {cs cv cp : Nat} {op ts : Int} {name tn : ByteArray} {A : Option Addr} {la ca : Nat} {vars : Bd} {pat : List Tm} {g : Nat → Value} (hvl : vars.length ≤ 1000000)
    (hg : RowCells w P 7 pat.length g) (hP : ∀ (j : Nat) (t : Tm), pat[j]? = some t → TmV w t (g j)) (hV : RowCells w V 2 vars.length (bval vars)) (hck : ∀ (j : Nat) (t : Tm), pat[j]? = some t → CkOK w sig S cs t (g j)) :
    ∀ (K : Nat) (bd : Bd) (w' : World), Below w.heap.size w w' → w.heap.size ≤ K → K < w'.heap.size → ChkAt w' K S sig.length cs bd → bd.length + tws pat ≤ 1000000 → shortTs pat = true →
    Calls Tryz.prog 63 #[.pointer (some ⟨K, 0, none⟩), .agg #[.int .i64 op, .string name, .int .i64 ts, .string tn, .slice A la ca, .slice V vars.length cv, .slice P pat.length cp]] w' (PatsIs w' K S sig.length cs bd (patternsS sig pat bd vars)) := by
  intro K bd w' hb hwK hK hchk hsz hsh
  obtain ⟨P0, hP0⟩ : ∃ P0 : Parts, P0 = ⟨op, name, ts, tn, A, la, ca, V, vars.length, cv, P, pat.length, cp⟩ := ⟨_, rfl⟩
  have hinv : PInv w' ((boxT w' P0).alloc (.cells #[.slice none 0 0] 55)) K S sig.length cs bd P0 [] := by
    have h1 : Below w'.heap.size w' ((boxT w' P0).alloc (.cells #[.slice none 0 0] 55)) := (below_boxT w' P0).alloc (by rw [boxT_size]; omega) _
    refine ⟨h1.mono (by omega), kept33_below h1, ⟨by omega, by simp [boxT_size], none, 0, ?_, OwnQ.nil _ _ _⟩, hchk.below h1, ?_⟩
    · have := heap_alloc_new (boxT w' P0) (.cells #[.slice none 0 0] 55)
      rw [boxT_size] at this
      exact this
    · rw [Below.heap_alloc _ _ _ (by rw [boxT_size]; omega)]
      exact boxT_row w' P0
  have Hinv := Lib.hid hinv
  have HP0 := Lib.hid hP0
  have HW : Hid ((boxT w' P0).alloc (.cells #[.slice none 0 0] 55) = (w'.alloc (.cells #[.int .i64 op, .string name, .int .i64 ts, .string tn, .slice A la ca, .slice V vars.length cv, .slice P pat.length cp] 29)).alloc (.cells #[.slice none 0 0] 55)) := Lib.hid (by rw [hP0]; rfl)
  rw [HW.out] at Hinv
  have Hg := Lib.hid hg
  have HPs := Lib.hid hP
  have HV := Lib.hid hV
  have Hck := Lib.hid hck
  have Hb := Lib.hid hb
  have Hsz := Lib.hid hsz
  have Hsh := Lib.hid hsh
  have hpl : pat.length ≤ 1000000 := by
    have := length_tsizes pat
    have := tsizes_tws pat
    omega
  clear hinv hP0 hg hP hV hck hb hsz hsh hchk HW
  go_enter Tryz.func63, Tryz.ntmps63
  go_wp2_with fail
  go_loopw [15] (fun i wr => ∃ k : Nat, k ≤ pat.length ∧ i = .int .i64 k ∧ Hid (patsS sig (pat.take k) bd = 0) ∧ Hid (PInv w' wr K S sig.length cs bd P0 (tnamess (pat.take k)))) (fun i _ => pat.length - (intOf i).toNat)
  case atStart => exact ⟨0, Nat.zero_le _, rfl, Lib.hid rfl, Hinv⟩
  case round =>
    obtain ⟨k, hk, rfl, Hok, HI⟩ := hrel
    by_cases hlt : k < pat.length
    · have Ht : Hid (pat[k]? = some pat[k]) := Lib.hid (List.getElem?_eq_getElem hlt)
      have Hv := Lib.hid (HPs.out k _ Ht.out)
      obtain ⟨p, hp⟩ := Hv.out.parts
      have hwr : Below w.heap.size w wr := Hb.out.trans (HI.out.below.mono hwK)
      obtain ⟨b, o, rfl, h0, h1, h2, h3, h4, h5, h6⟩ := (Hg.out.below hwr).get hlt hp
      have Hop : Hid (p.op = opOf pat[k]) := Lib.hid (Hv.out.op hp)
      have HbW : Hid (Below w.heap.size w (boxT wr p)) := Lib.hid (hwr.trans ((below_boxT wr p).mono hwr.size))
      have HIb : Hid (PInv w' (boxT wr p) K S sig.length cs bd P0 (tnamess (pat.take k))) := Lib.hid (HI.out.low (below_boxT wr p) hK)
      have Hst := Lib.hid (patsS_take sig bd hlt Hok.out)
      rw [pat_one] at Hst
      have Hdeep : Hid (∀ W, Below w.heap.size w W → Calls Tryz.prog 28 #[.agg p.arr, .int .i64 (200 : Nat)] W fun e w'' => e = .returned (.bool (decide (200 < tdepth pat[k]))) ∧ Below W.heap.size W w'') := Lib.hid (fun W hW => by
        have := deeper_any Hv.out 200 (by omega) W hW
        rw [hp] at this
        exact this)
      have Hsize : Hid (∀ W, Below w.heap.size w W → Calls Tryz.prog 29 #[.agg p.arr, .int .i64 (50000 : Nat)] W fun e w'' => e = .returned (.int .i64 (min (tsize pat[k]) (50000 + 1) : Nat)) ∧ Below W.heap.size W w'') := Lib.hid (fun W hW => by
        have := size_any Hv.out 50000 (by omega) W hW
        rw [hp] at this
        exact this)
      have Hbare : Hid (∀ W, PInv w' W K S sig.length cs bd P0 (tnamess (pat.take k)) → Calls Tryz.prog 98 #[.agg p.arr, .pointer (some ⟨w'.heap.size + 1, 0, none⟩)] W (BareIs W (w'.heap.size + 1) (w'.heap.size + 2) (tbare pat[k]) (tnamess (pat.take k)) (tnames pat[k]))) := Lib.hid (fun W hW => by
        have := bare_any Hv.out (w'.heap.size + 1) (w'.heap.size + 2) (tnamess (pat.take k)) W (Hb.out.trans (hW.below.mono hwK)) (by have := Hb.out.size; omega) hW.found (by have := tnames_room hlt; have := Hsz.out; omega)
        rw [hp] at this
        exact this)
      have Hcheck : Hid (∀ W names, PInv w' W K S sig.length cs bd P0 names → Calls Tryz.prog 30 #[.pointer (some ⟨K, 0, none⟩), .agg p.arr] W (CheckIs W K S sig.length cs bd (checkS sig pat[k] bd))) := Lib.hid (fun W names hW => by
        have := Hck.out k _ Ht.out K bd W (Hb.out.trans (hW.below.mono hwK)) hwK hW.chk (by have := tws_mem Ht.out; have := Hsz.out; omega) (shortTs_mem Ht.out Hsh.out)
        rw [hp] at this
        exact this)
      have Hnm := Lib.hid (tnamess_take hlt)
      have Hrow : Hid (∀ W, Below (boxT wr p).heap.size (boxT wr p) W → W.heap[wr.heap.size]? = some (.cells p.arr 29 (0, 0))) := Lib.hid (fun W hW => below_keeps hW (boxT_row wr p))
      have HW : Hid (boxT wr p = wr.alloc (.cells #[.int .i64 p.op, .string p.name, .int .i64 p.sort, .string p.n, .slice p.A p.la p.ca, .slice p.V p.lv p.cv, .slice p.P p.lp p.cp] 29)) := Lib.hid rfl
      clear hp hwr
      generalize pat[k] = t at *
      by_cases hd : 200 < tdepth t
      · have Hr : Hid (patternsS sig pat bd vars = 33) := Lib.hid (by
          have := Hst.out.2 (by rw [if_pos hd]; decide)
          rw [if_pos hd] at this
          simp [patternsS, this])
        rw [decide_eq_true hd] at Hdeep
        clear hd
        go_wp2_with (go_at_call 28; rw [← HW.out]; refine Calls.mono (Hdeep.out _ HbW.out) ?_; rintro e w5 ⟨rfl, hb5⟩; have HI5 := Lib.hid (HIb.out.low hb5 hK); clear hb5)
        go_ret
        exact ⟨by rw [Hr.out]; rfl, HI5.out.below, HI5.out.kept, [], by rw [List.append_nil]; exact HI5.out.chk, fun _ => rfl⟩
      · rw [if_neg hd] at Hst
        rw [decide_eq_false hd] at Hdeep
        clear hd
        have Hsz5 : Hid (w'.heap.size + 1 < wr.heap.size) := Lib.hid (by
          have h1 := HI.out.found.1
          have h2 := HI.out.found.2.1
          omega)
        by_cases hs : 50000 < tsize t
        · have Hr : Hid (patternsS sig pat bd vars = 34) := Lib.hid (by
            have := Hst.out.2 (by rw [if_pos hs]; decide)
            rw [if_pos hs] at this
            simp [patternsS, this])
          have hm : (50000 : Int) < ((min (tsize t) (50000 + 1) : Nat) : Int) := by omega
          generalize ((min (tsize t) (50000 + 1) : Nat) : Int) = m at *
          clear hs
          go_wp2_with (first
            | (go_at_call 28; rw [← HW.out]; refine Calls.mono (Hdeep.out _ HbW.out) ?_; rintro e w5 ⟨rfl, hb5⟩; have HI5 := Lib.hid (HIb.out.low hb5 hK); have Hb5 := Lib.hid hb5; obtain ⟨c0, c1, c2, c3, c4, c5, c6⟩ := box_cells (Hrow.out _ hb5); clear hb5)
            | (go_at_call 29; refine Calls.mono (Hsize.out _ (HbW.out.trans (Hb5.out.mono HbW.out.size))) ?_; rintro e w6 ⟨rfl, hb6⟩; have HI6 := Lib.hid (HI5.out.low hb6 hK); have Hb6 : Hid (Below (boxT wr p).heap.size (boxT wr p) w6) := Lib.hid (Hb5.out.trans (hb6.mono Hb5.out.size)); obtain ⟨d0, d1, d2, d3, d4, d5, d6⟩ := box_cells (Hrow.out _ Hb6.out); clear hb6))
          go_ret
          exact ⟨by rw [Hr.out]; rfl, HI6.out.below, HI6.out.kept, [], by rw [List.append_nil]; exact HI6.out.chk, fun _ => rfl⟩
        · rw [if_neg hs] at Hst
          have hm : ((min (tsize t) (50000 + 1) : Nat) : Int) ≤ 50000 := by omega
          generalize ((min (tsize t) (50000 + 1) : Nat) : Int) = m at *
          clear hs
          have Hop2 := Lib.hid Hop.out
          by_cases ho : p.op = 17
          · have ho17 : (p.op != 17) = false := by rw [ho]; rfl
            have Ho : Hid (opOf t = 17) := Lib.hid (by rw [← Hop.out]; exact ho)
            clear ho
            cases hbt : tbare t with
            | false =>
              have Hr : Hid (patternsS sig pat bd vars = 30) := Lib.hid (by
                have := Hst.out.2 (by rw [if_pos (Or.inr hbt)]; decide)
                rw [if_pos (Or.inr hbt)] at this
                simp [patternsS, this])
              rw [hbt] at Hbare
              clear hbt
              go_wp2_with (first
                | (go_at_call 28; rw [← HW.out]; refine Calls.mono (Hdeep.out _ HbW.out) ?_; rintro e w5 ⟨rfl, hb5⟩; have HI5 := Lib.hid (HIb.out.low hb5 hK); have Hb5 := Lib.hid hb5; obtain ⟨c0, c1, c2, c3, c4, c5, c6⟩ := box_cells (Hrow.out _ hb5); clear hb5)
                | (go_at_call 29; refine Calls.mono (Hsize.out _ (HbW.out.trans (Hb5.out.mono HbW.out.size))) ?_; rintro e w6 ⟨rfl, hb6⟩; have HI6 := Lib.hid (HI5.out.low hb6 hK); have Hb6 : Hid (Below (boxT wr p).heap.size (boxT wr p) w6) := Lib.hid (Hb5.out.trans (hb6.mono Hb5.out.size)); obtain ⟨d0, d1, d2, d3, d4, d5, d6⟩ := box_cells (Hrow.out _ Hb6.out); clear hb6)
                | (go_at_call 98; refine Calls.mono (Hbare.out _ HI6.out) ?_; intro e w7 hb7; obtain ⟨he7, ns7, hI7, hn7⟩ := HI6.out.bare hb7 hK; subst he7; have HI7 := Lib.hid hI7; have Hn7 := Lib.hid hn7; obtain ⟨_, hbb, hkk, _⟩ := hb7; obtain ⟨f0, f1, f2, f3, f4, f5, f6⟩ := box_cells (row_kept9 (Hrow.out _ Hb6.out) hkk (by have := Hsz5.out; omega) (by decide)); clear hI7 hn7 hbb hkk))
              go_ret
              exact ⟨by rw [Hr.out]; rfl, HI7.out.below, HI7.out.kept, [], by rw [List.append_nil]; exact HI7.out.chk, fun _ => rfl⟩
            | true =>
              have Hif : Hid (¬ (opOf t ≠ 17 ∨ tbare t = false)) := Lib.hid (by rw [hbt, Ho.out]; simp)
              rw [if_neg Hif.out] at Hst
              rw [hbt] at Hbare
              clear hbt
              obtain ⟨r, hr⟩ : ∃ r, r = checkS sig t bd := ⟨_, rfl⟩
              rw [← hr] at Hcheck Hst
              clear hr
              obtain ⟨r1, r2⟩ := r
              dsimp only at Hst
              by_cases he : r2 = 0
              · subst he
                go_wp2_with (first
                  | (go_at_call 28; rw [← HW.out]; refine Calls.mono (Hdeep.out _ HbW.out) ?_; rintro e w5 ⟨rfl, hb5⟩; have HI5 := Lib.hid (HIb.out.low hb5 hK); have Hb5 := Lib.hid hb5; obtain ⟨c0, c1, c2, c3, c4, c5, c6⟩ := box_cells (Hrow.out _ hb5); clear hb5)
                  | (go_at_call 29; refine Calls.mono (Hsize.out _ (HbW.out.trans (Hb5.out.mono HbW.out.size))) ?_; rintro e w6 ⟨rfl, hb6⟩; have HI6 := Lib.hid (HI5.out.low hb6 hK); have Hb6 : Hid (Below (boxT wr p).heap.size (boxT wr p) w6) := Lib.hid (Hb5.out.trans (hb6.mono Hb5.out.size)); obtain ⟨d0, d1, d2, d3, d4, d5, d6⟩ := box_cells (Hrow.out _ Hb6.out); clear hb6)
                  | (go_at_call 98; refine Calls.mono (Hbare.out _ HI6.out) ?_; intro e w7 hb7; obtain ⟨he7, ns7, hI7, hn7⟩ := HI6.out.bare hb7 hK; subst he7; have HI7 := Lib.hid hI7; have Hn7 := Lib.hid hn7; obtain ⟨_, hbb, hkk, _⟩ := hb7; obtain ⟨f0, f1, f2, f3, f4, f5, f6⟩ := box_cells (row_kept9 (Hrow.out _ Hb6.out) hkk (by have := Hsz5.out; omega) (by decide)); clear hI7 hn7 hbb hkk)
                  | (go_at_call 30; refine Calls.mono (Hcheck.out _ _ HI7.out) ?_; intro e w8 hb8; obtain ⟨he8, hm8, hI8⟩ := HI7.out.check hb8 hK; subst he8; have Hm8 := Lib.hid hm8; have HI8 := Lib.hid hI8; clear hb8 hm8 hI8))
                go_roundw
                case rel => exact ⟨k + 1, by omega, by go_num, Lib.hid Hst.out.1, Lib.hid (by rw [Hnm.out, ← Hn7.out (by trivial)]; exact HI8.out (by trivial))⟩
                case measure => simp [intOf]; omega
              · have Hr : Hid (patternsS sig pat bd vars = r2) := Lib.hid (by
                  have := Hst.out.2 he
                  simp only [patternsS, this]
                  rw [if_pos he])
                have hne : (r2 != 0) = true := by simpa using he
                clear he
                go_wp2_with (first
                  | (go_at_call 28; rw [← HW.out]; refine Calls.mono (Hdeep.out _ HbW.out) ?_; rintro e w5 ⟨rfl, hb5⟩; have HI5 := Lib.hid (HIb.out.low hb5 hK); have Hb5 := Lib.hid hb5; obtain ⟨c0, c1, c2, c3, c4, c5, c6⟩ := box_cells (Hrow.out _ hb5); clear hb5)
                  | (go_at_call 29; refine Calls.mono (Hsize.out _ (HbW.out.trans (Hb5.out.mono HbW.out.size))) ?_; rintro e w6 ⟨rfl, hb6⟩; have HI6 := Lib.hid (HI5.out.low hb6 hK); have Hb6 : Hid (Below (boxT wr p).heap.size (boxT wr p) w6) := Lib.hid (Hb5.out.trans (hb6.mono Hb5.out.size)); obtain ⟨d0, d1, d2, d3, d4, d5, d6⟩ := box_cells (Hrow.out _ Hb6.out); clear hb6)
                  | (go_at_call 98; refine Calls.mono (Hbare.out _ HI6.out) ?_; intro e w7 hb7; obtain ⟨he7, ns7, hI7, hn7⟩ := HI6.out.bare hb7 hK; subst he7; have HI7 := Lib.hid hI7; have Hn7 := Lib.hid hn7; obtain ⟨_, hbb, hkk, _⟩ := hb7; obtain ⟨f0, f1, f2, f3, f4, f5, f6⟩ := box_cells (row_kept9 (Hrow.out _ Hb6.out) hkk (by have := Hsz5.out; omega) (by decide)); clear hI7 hn7 hbb hkk)
                  | (go_at_call 30; refine Calls.mono (Hcheck.out _ _ HI7.out) ?_; intro e w8 hb8; obtain ⟨he8, hm8, hI8⟩ := HI7.out.check hb8 hK; subst he8; have Hm8 := Lib.hid hm8; have HI8 := Lib.hid hI8; clear hb8 hm8 hI8))
                go_ret
                obtain ⟨more, m1, m2, m3, m4⟩ := Hm8.out
                exact ⟨by rw [Hr.out]; rfl, m1, m2, more, m3, by rw [Hr.out]; exact m4⟩
          · have ho17 : (p.op != 17) = true := by simpa using ho
            have Hr : Hid (patternsS sig pat bd vars = 30) := Lib.hid (by
              have h17 : opOf t ≠ 17 := by rw [← Hop.out]; exact ho
              have := Hst.out.2 (by rw [if_pos (Or.inl h17)]; decide)
              rw [if_pos (Or.inl h17)] at this
              simp [patternsS, this])
            clear ho
            go_wp2_with (first
              | (go_at_call 28; rw [← HW.out]; refine Calls.mono (Hdeep.out _ HbW.out) ?_; rintro e w5 ⟨rfl, hb5⟩; have HI5 := Lib.hid (HIb.out.low hb5 hK); have Hb5 := Lib.hid hb5; obtain ⟨c0, c1, c2, c3, c4, c5, c6⟩ := box_cells (Hrow.out _ hb5); clear hb5)
              | (go_at_call 29; refine Calls.mono (Hsize.out _ (HbW.out.trans (Hb5.out.mono HbW.out.size))) ?_; rintro e w6 ⟨rfl, hb6⟩; have HI6 := Lib.hid (HI5.out.low hb6 hK); have Hb6 : Hid (Below (boxT wr p).heap.size (boxT wr p) w6) := Lib.hid (Hb5.out.trans (hb6.mono Hb5.out.size)); obtain ⟨d0, d1, d2, d3, d4, d5, d6⟩ := box_cells (Hrow.out _ Hb6.out); clear hb6))
            go_ret
            exact ⟨by rw [Hr.out]; rfl, HI6.out.below, HI6.out.kept, [], by rw [List.append_nil]; exact HI6.out.chk, fun _ => rfl⟩
    · have Hp0 : Hid (patsS sig pat bd = 0) := Lib.hid (by
        have := Hok.out
        rwa [List.take_of_length_le (by omega)] at this)
      have HI2 : Hid (PInv w' wr K S sig.length cs bd P0 (tnamess pat)) := Lib.hid (by
        have := HI.out
        rwa [List.take_of_length_le (by omega)] at this)
      have hv5 : wr.cell? ⟨w'.heap.size, 5, none⟩ = some (.slice V vars.length cv) := by
        have := (box_cells HI2.out.box).2.2.2.2.2.1
        rwa [HP0.out] at this
      obtain ⟨wo, rfl⟩ : ∃ wo : World, wo = wr := ⟨_, rfl⟩
      clear HI Hok
      go_wp2_with fail
      go_loopw [45] (fun i wr => ∃ j : Nat, j ≤ vars.length ∧ i = .int .i64 j ∧ Hid (namedAll (vars.take j) (tnamess pat) = true) ∧ Hid (PInv w' wr K S sig.length cs bd P0 (tnamess pat))) (fun i _ => vars.length - (intOf i).toNat)
      case atStart => exact ⟨0, Nat.zero_le _, rfl, Lib.hid rfl, HI2⟩
      case round =>
        obtain ⟨j, hj, rfl, Hna, HJ⟩ := hrel
        by_cases hlt2 : j < vars.length
        · obtain ⟨b, o, rfl, h0, h1⟩ := (HV.out.below (Hb.out.trans (HJ.out.below.mono hwK))).bound (List.getElem?_eq_getElem hlt2)
          have Hst : Hid (namedAll (vars.take (j + 1)) (tnamess pat) = hasS (tnamess pat) vars[j].1 ∧ (hasS (tnamess pat) vars[j].1 = false → namedAll vars (tnamess pat) = false)) := Lib.hid ⟨by
            have := Hna.out
            unfold namedAll at this ⊢
            rw [List.take_succ_eq_append_getElem hlt2, List.all_append, this]
            simp, fun h => by
            unfold namedAll
            rw [List.all_eq_false]
            exact ⟨vars[j], List.getElem_mem hlt2, by rw [h]; simp⟩⟩
          generalize vars[j] = x at *
          obtain ⟨xs, xk⟩ := x
          dsimp only at h0 h1 Hst
          obtain ⟨A2, c2, hh2, _, _, hq2, _, _⟩ := HJ.out.found.cell
          obtain ⟨A3, c3, hv3, _, hcells⟩ := hq2.cells
          have Hb33 : Hid (Below wr.heap.size wr (wr.alloc (.cells #[.string xs, .int .i64 xk] 53))) := Lib.hid ((Below.refl _ _).alloc (Nat.le_refl _) _)
          have HJ2 := Lib.hid (HJ.out.low Hb33.out hK)
          simp only [List.length_map, Value.slice.injEq] at hv3
          obtain ⟨rfl, _, rfl⟩ := hv3
          have hq0 : (wr.alloc (.cells #[.string xs, .int .i64 xk] 53)).cell? ⟨w'.heap.size + 1, 0, none⟩ = some (.slice A2 (tnamess pat).length c2) := (row1 (below_keeps Hb33.out hh2)).1
          have Hcon : Hid (Calls Tryz.prog 99 #[.slice A2 (tnamess pat).length c2, .string xs] (wr.alloc (.cells #[.string xs, .int .i64 xk] 53)) fun e w' => e = .returned (.bool (hasS (tnamess pat) xs)) ∧ wr.alloc (.cells #[.string xs, .int .i64 xk] 53) = w') := Lib.hid (strContains_any (by have := tnamess_length pat; have := tsizes_tws pat; have := Hsz.out; omega) (hcells.mono Hb33.out))
          clear hh2 hq2 hcells
          generalize (tnamess pat).length = nn at *
          cases hhs : hasS (tnamess pat) xs with
          | true =>
            rw [hhs] at Hcon
            have Hhs := Lib.hid hhs
            clear hhs
            go_wp2_with (go_at_call 99; refine Calls.mono Hcon.out ?_; rintro e w9 ⟨rfl, rfl⟩)
            go_roundw
            case rel => exact ⟨j + 1, by omega, by go_num, Lib.hid (by rw [Hst.out.1, Hhs.out]), HJ2⟩
            case measure => simp [intOf]; omega
          | false =>
            have Hr : Hid (patternsS sig pat bd vars = 30) := Lib.hid (by simp [patternsS, Hp0.out, Hst.out.2 hhs])
            rw [hhs] at Hcon
            clear hhs
            go_wp2_with (go_at_call 99; refine Calls.mono Hcon.out ?_; rintro e w9 ⟨rfl, rfl⟩)
            go_ret
            exact ⟨by rw [Hr.out]; rfl, HJ2.out.below, HJ2.out.kept, [], by rw [List.append_nil]; exact HJ2.out.chk, fun _ => rfl⟩
        · have Hr : Hid (patternsS sig pat bd vars = 0) := Lib.hid (by
            have := Hna.out
            rw [List.take_of_length_le (by omega)] at this
            simp [patternsS, Hp0.out, this])
          go_wp2_with fail
          go_ret
          exact ⟨by rw [Hr.out]; rfl, HJ.out.below, HJ.out.kept, [], by rw [List.append_nil]; exact HJ.out.chk, fun _ => rfl⟩
end Go.Proofs.YtbnonccmlildnaaGreat

/- What a term's operator asks: all operators. -/
namespace Go.Proofs.YtbnonccmlildnaaGreat
open Go.RowKit Go.Lib

theorem flat_two (bd : Bd) : ∀ j, (flat bd)[j * 2]? = (bd[j]?).map (fun v => .string v.1) ∧ (flat bd)[j * 2 + 1]? = (bd[j]?).map (fun v => .int .i64 v.2) := by
  induction bd with
  | nil => intro j; simp [flat]
  | cons v bd ih =>
    intro j
    have e : flat (v :: bd) = .string v.1 :: .int .i64 v.2 :: flat bd := by simp [flat]
    rw [e]
    cases j with
    | zero => simp
    | succ j =>
      have := ih j
      have e1 : (j + 1) * 2 = j * 2 + 1 + 1 := by omega
      rw [e1]
      simp only [List.getElem?_cons_succ]
      exact this
theorem flat_append (a b : Bd) : flat (a ++ b) = flat a ++ flat b := by simp [flat]
/-- Variables that lie in a row, cell by cell. -/
theorem RowCells.flat {w : World} {b o : Nat} {vars : Bd} (h : RowCells w (some ⟨b, o, none⟩) 2 vars.length (bval vars)) : ∀ j u, (flat vars)[j]? = some u → w.cell? ⟨b, o + j, none⟩ = some u := by
  intro j u hj
  have hl : j < (YtbnonccmlildnaaGreat.flat vars).length := by
    rcases Nat.lt_or_ge j (YtbnonccmlildnaaGreat.flat vars).length with h | h
    · exact h
    · rw [List.getElem?_eq_none h] at hj
      cases hj
  rw [flat_length] at hl
  have hi : j / 2 < vars.length := by omega
  obtain ⟨b', o', hA, h1, h2⟩ := h.bound (List.getElem?_eq_getElem hi)
  cases hA
  obtain ⟨f1, f2⟩ := flat_two vars (j / 2)
  rw [List.getElem?_eq_getElem hi] at f1 f2
  rcases Nat.mod_two_eq_zero_or_one j with hm | hm
  · have e : j / 2 * 2 = j := by omega
    rw [e] at f1 h1
    rw [f1] at hj
    cases hj
    exact h1
  · have e : j / 2 * 2 + 1 = j := by omega
    rw [e] at f2
    rw [f2] at hj
    cases hj
    have : o + j / 2 * 2 + 1 = o + j := by omega
    rw [this] at h2
    exact h2
theorem ChkAt.row {w : World} {K : Nat} {S : Option Addr} {ns cs : Nat} {bd : Bd} (h : ChkAt w K S ns cs bd) : ∃ B cb, CheckerAt w K S ns cs B bd.length cb ∧ RowCells w B 2 bd.length (bval bd) ∧ (∀ b o, B = some ⟨b, o, none⟩ → b < w.heap.size) := by
  obtain ⟨h0, B, cb, h1, h2⟩ := h
  refine ⟨B, cb, h1, ?_, ?_⟩
  · rcases h2.2 with ⟨_, hn⟩ | ⟨g, cap, cur, hv, hb, hh, hn, hc, hcs, htake⟩
    · exact .inl hn
    · simp only [Value.slice.injEq] at hv
      obtain ⟨rfl, _, rfl⟩ := hv
      refine .inr ⟨g, 0, rfl, fun j hj => ?_⟩
      have hbv : bval bd j = .agg #[.string bd[j].1, .int .i64 bd[j].2] := by unfold bval; rw [List.getElem?_eq_getElem hj]
      obtain ⟨f1, f2⟩ := flat_two bd j
      rw [List.getElem?_eq_getElem hj] at f1 f2
      rw [← htake, List.getElem?_take, if_pos (by omega)] at f1 f2
      rw [hbv]
      refine ⟨by simp [Value.cells], fun i hi => ?_⟩
      rw [row_at hh]
      simp only [Value.cells]
      match i, hi with
      | 0, _ => simpa using f1
      | 1, _ => simpa using f2
  · intro b o e
    subst e
    obtain ⟨_, cur, hc⟩ := ownsRow_lt h2 b (by simp [Value.ownBlock])
    exact (Array.getElem?_eq_some_iff.1 hc).1

/-- A node's value, by its operator. -/
def NodeV (w0 : World) (sig : List Fn) (op : Int) (name : ByteArray) (sort : Int) (nl : Nat) (nv : Value) : Prop :=
  (op = 17 ∧ ∃ f, foundFn sig name = some f ∧ nl = f.args.length ∧ FunIs w0 f nv) ∨ (op = 18 ∧ nv = .iface 157 (.agg #[.int .i64 sort])) ∨ (op ≠ 17 ∧ op ≠ 18 ∧ nv = opV op)
def OfIs (w0 w : World) (sig : List Fn) (op : Int) (name : ByteArray) (sort : Int) (nl : Nat) (bd : Bd) (e : Ending) (w' : World) : Prop :=
  ∃ nv, e = .returned (.tuple #[nv, .int .i64 (ofE sig op name sort nl bd)]) ∧ (ofE sig op name sort nl bd = 0 → NodeV w0 sig op name sort nl nv) ∧ Below w.heap.size w w'
theorem varV_leaf {bd : Bd} {x : ByteArray} {s : Int} (h : (varV bd x s).2 = 0) : (varV bd x s).1 = .iface 157 (.agg #[.int .i64 s]) := by
  unfold varV at h ⊢
  split at h
  · cases h
  · split at h
    · rename_i v hv hs
      simp [hs]
    · cases h
theorem of_any {w0 w : World} {sig : List Fn} {K : Nat} {nm tn : ByteArray} {op ts : Int} {A V P S : Option Addr} {la ca lv cv lp cp cs : Nat} {bd : Bd} (hw0 : Below w0.heap.size w0 w) (hS : FnsAt w0 S sig) (hn : sig.length ≤ 140737488355328) (hK : ChkAt w K S sig.length cs bd) (hbd : bd.length ≤ 140737488355328) (hla : la ≤ 140737488355328) (h1 : 1 ≤ op) (h2 : op ≤ 19) :
    Calls Tryz.prog 62 #[.pointer (some ⟨K, 0, none⟩), .agg #[.int .i64 op, .string nm, .int .i64 ts, .string tn, .slice A la ca, .slice V lv cv, .slice P lp cp]] w (OfIs w0 w sig op nm ts la bd) := by
  obtain ⟨B, cb, k1, k2, k3⟩ := hK.row
  by_cases h17 : op = 17
  · subst h17
    refine (of_app (tn := tn) (ts := ts) (V := V) (P := P) (ca := ca) (lv := lv) (cv := cv) (lp := lp) (cp := cp) (A := A) (nm := nm) k1 hn hw0 hS hla).mono ?_
    rintro e w' ⟨v, rfl, hv, hb⟩
    have ee : ofE sig 17 nm ts la bd = appE sig nm la := by unfold ofE; rw [if_neg (by decide), if_pos rfl]
    refine ⟨v, by rw [ee], fun h0 => ?_, hb⟩
    rw [ee] at h0
    obtain ⟨k, f, e1, e2, e3, e4⟩ := hv h0
    exact .inl ⟨rfl, f, by unfold foundFn; rw [e1]; exact e2, e3, e4⟩
  · by_cases h18 : op = 18
    · subst h18
      refine (callsIn_wide.1 (of_var_in Fence.wide 3 trivial trivial trivial rfl (Nat.le_refl _) (nm := nm) (tn := tn) (ts := ts) (A := A) (V := V) (P := P) (la := la) (ca := ca) (lv := lv) (cv := cv) (lp := lp) (cp := cp) k1 hbd k2 k3)).mono ?_
      rintro e w' ⟨rfl, hb⟩
      have ee : ofE sig 18 nm ts la bd = (varV bd nm ts).2 := by unfold ofE; rw [if_pos rfl]
      refine ⟨_, by rw [ee], fun h0 => ?_, hb⟩
      rw [ee] at h0
      exact .inr (.inl ⟨rfl, varV_leaf h0⟩)
    · have ee : ofE sig op nm ts la bd = 0 := by unfold ofE; rw [if_neg h18, if_neg h17]
      refine (of_plain (w := w) (q := some ⟨K, 0, none⟩) (op := op) (nm := nm) (tn := tn) (ts := ts) (A := A) (V := V) (P := P) (la := la) (ca := ca) (lv := lv) (cv := cv) (lp := lp) (cp := cp) ?_).mono ?_
      · simp only [List.mem_cons, List.not_mem_nil, or_false]
        omega
      · rintro e w' ⟨rfl, hb⟩
        exact ⟨_, by rw [ee], fun _ => .inr (.inr ⟨h17, h18, rfl⟩), hb⟩
end Go.Proofs.YtbnonccmlildnaaGreat

/- check: a term out of form, of an unknown name. -/
namespace Go.Proofs.YtbnonccmlildnaaGreat
open Go.RowKit Go.Lib

/-- What a check stands on: the checker, the term's parts and its box, what shape and of come to. -/
structure CkPre (w0 w' : World) (sig : List Fn) (K : Nat) (S : Option Addr) (cs : Nat) (bd : Bd) (op ts : Int) (name tn : ByteArray) (l : List Tm) (vars : Bd) (pat : List Tm) (p : Parts) : Prop where
  parts : p.op = op ∧ p.la = l.length ∧ p.lv = vars.length ∧ p.lp = pat.length
  data : Below w0.heap.size w0 w'
  low : w0.heap.size ≤ K
  chk : ChkAt w' K S sig.length cs bd
  shape : ∀ W, Below w0.heap.size w0 W → Calls Tryz.prog 61 #[.agg p.arr] W fun e w'' => e = .returned (.bool (shapeB (.mk op name ts tn l vars pat))) ∧ Below W.heap.size W w''
  ask : shapeB (.mk op name ts tn l vars pat) = true → ∀ W, Below w0.heap.size w0 W → ChkAt W K S sig.length cs bd → Calls Tryz.prog 62 #[.pointer (some ⟨K, 0, none⟩), .agg p.arr] W (OfIs w0 W sig op name ts l.length bd)

theorem shapeB_op {op ts : Int} {name tn : ByteArray} {l : List Tm} {vars : Bd} {pat : List Tm} (h : shapeB (.mk op name ts tn l vars pat) = true) : 1 ≤ op ∧ op ≤ 19 := by
  rcases Decidable.em (1 ≤ op ∧ op ≤ 19) with h1 | h1
  · exact h1
  · unfold shapeB at h
    dsimp only at h
    rw [if_neg (by omega), if_neg (by omega), if_neg (by omega), if_neg (by omega), if_neg (by omega), if_neg (by omega), if_neg (by omega), if_neg (by omega), if_neg (by omega), if_neg (by omega)] at h
    cases h
theorem ckPre {w0 w' : World} {sig : List Fn} {K : Nat} {S : Option Addr} {cs : Nat} {bd : Bd} {op ts : Int} {name tn : ByteArray} {l : List Tm} {vars : Bd} {pat : List Tm} {p : Parts} (h : TmV w0 (.mk op name ts tn l vars pat) (.agg p.arr)) (hn : tn.size ≤ 1000000) (hS : FnsAt w0 S sig) (hsl : sig.length ≤ 140737488355328) (hb : Below w0.heap.size w0 w') (hK : w0.heap.size ≤ K) (hc : ChkAt w' K S sig.length cs bd) (hbd : bd.length ≤ 140737488355328) (hll : l.length ≤ 140737488355328) :
    CkPre w0 w' sig K S cs bd op ts name tn l vars pat p := by
  have hp : p.op = op ∧ p.la = l.length ∧ p.lv = vars.length ∧ p.lp = pat.length ∧ p.name = name ∧ p.sort = ts ∧ p.n = tn := by
    generalize hv : Value.agg p.arr = v at h
    cases h with
    | mk f g =>
      simp only [Parts.arr, Value.agg.injEq, Array.mk.injEq, List.cons.injEq, Value.int.injEq, Value.string.injEq, Value.slice.injEq, and_true, true_and] at hv
      obtain ⟨h1, h2, h3, h4, ⟨_, h5, _⟩, ⟨_, h6, _⟩, _, h7, _⟩ := hv
      exact ⟨h1, h5, h6, h7, h2, h3, h4⟩
  refine ⟨⟨hp.1, hp.2.1, hp.2.2.1, hp.2.2.2.1⟩, hb, hK, hc, fun W hW => shape_any (h.mono hW) hn, fun hs W hW hcW => ?_⟩
  obtain ⟨o1, o2⟩ := shapeB_op hs
  have := of_any (w := W) (K := K) (S := S) (cs := cs) (bd := bd) (nm := name) (tn := tn) (op := op) (ts := ts) (A := p.A) (la := l.length) (ca := p.ca) (V := p.V) (lv := p.lv) (cv := p.cv) (P := p.P) (lp := p.lp) (cp := p.cp) hW hS hsl hcW hbd hll o1 o2
  have e : p.arr = #[.int .i64 op, .string name, .int .i64 ts, .string tn, .slice p.A l.length p.ca, .slice p.V p.lv p.cv, .slice p.P p.lp p.cp] := by
    unfold Parts.arr
    rw [hp.1, hp.2.1, hp.2.2.2.2.1, hp.2.2.2.2.2.1, hp.2.2.2.2.2.2]
  rw [e]
  exact this
/-- Behind calls that leave all as it was. -/
structure CkLow (w' W : World) (K : Nat) (S : Option Addr) (ns cs : Nat) (bd : Bd) (p : Parts) : Prop where
  below : Below w'.heap.size w' W
  chk : ChkAt W K S ns cs bd
  box : W.heap[w'.heap.size]? = some (.cells p.arr 29 (0, 0))
theorem CkLow.next {w' W W2 : World} {K : Nat} {S : Option Addr} {ns cs : Nat} {bd : Bd} {p : Parts} (h : CkLow w' W K S ns cs bd p) (hb : Below W.heap.size W W2) : CkLow w' W2 K S ns cs bd p :=
  ⟨h.below.trans (hb.mono h.below.size), h.chk.below hb, below_keeps hb h.box⟩
theorem CkLow.is {w' W : World} {K : Nat} {S : Option Addr} {ns cs : Nat} {bd : Bd} {p : Parts} (h : CkLow w' W K S ns cs bd p) (hK : K ≤ w'.heap.size) (r : Int × Int) : CheckIs w' K S ns cs bd r (.returned (.tuple #[.int .i64 r.1, .int .i64 r.2])) W :=
  ⟨rfl, h.below.mono hK, kept33_below h.below, [], by rw [List.append_nil]; exact h.chk, fun _ => rfl⟩
theorem CkPre.start {w0 w' : World} {sig : List Fn} {K : Nat} {S : Option Addr} {cs : Nat} {bd : Bd} {op ts : Int} {name tn : ByteArray} {l : List Tm} {vars : Bd} {pat : List Tm} {p : Parts} (h : CkPre w0 w' sig K S cs bd op ts name tn l vars pat p) : CkLow w' (boxT w' p) K S sig.length cs bd p :=
  ⟨below_boxT _ _, h.chk.below (below_boxT _ _), boxT_row _ _⟩

set_option maxRecDepth 100000 in
set_option maxHeartbeats 2000000 in
theorem check_form {w0 w' : World} {sig : List Fn} {K : Nat} {S : Option Addr} {cs : Nat} {bd : Bd} {op ts : Int} {name tn : ByteArray} {l : List Tm} {vars : Bd} {pat : List Tm} {p : Parts} (h : CkPre w0 w' sig K S cs bd op ts name tn l vars pat p) (hs : shapeB (.mk op name ts tn l vars pat) = false) :
    Calls Tryz.prog 30 #[.pointer (some ⟨K, 0, none⟩), .agg p.arr] w' (CheckIs w' K S sig.length cs bd (checkS sig (.mk op name ts tn l vars pat) bd)) := by
  have Hr : Hid (checkS sig (.mk op name ts tn l vars pat) bd = (0, 30)) := Lib.hid (by rw [checkS]; rw [if_pos hs])
  have Hst := Lib.hid h.start
  have HK : Hid (K ≤ w'.heap.size) := Lib.hid (by have := h.chk.1; omega)
  have Hsh := Lib.hid (h.shape _ (h.data.trans (h.start.below.mono h.data.size)))
  rw [hs] at Hsh
  have HW : Hid (boxT w' p = w'.alloc (.cells #[.int .i64 p.op, .string p.name, .int .i64 p.sort, .string p.n, .slice p.A p.la p.ca, .slice p.V p.lv p.cv, .slice p.P p.lp p.cp] 29)) := Lib.hid rfl
  clear h hs
  unfold Parts.arr
  go_enter Tryz.func30, Tryz.ntmps30
  go_wp2_with (go_at_call 61; rw [← HW.out]; refine Calls.mono Hsh.out ?_; rintro e w5 ⟨rfl, hb5⟩; have H5 := Lib.hid (Hst.out.next hb5); clear hb5)
  go_ret2
  rw [Hr.out]
  exact H5.out.is HK.out (0, 30)

set_option maxRecDepth 100000 in
set_option maxHeartbeats 2000000 in
theorem check_name {w0 w' : World} {sig : List Fn} {K : Nat} {S : Option Addr} {cs : Nat} {bd : Bd} {op ts : Int} {name tn : ByteArray} {l : List Tm} {vars : Bd} {pat : List Tm} {p : Parts} (h : CkPre w0 w' sig K S cs bd op ts name tn l vars pat p) (hs : shapeB (.mk op name ts tn l vars pat) = true) (he : ofE sig op name ts l.length bd ≠ 0) :
    Calls Tryz.prog 30 #[.pointer (some ⟨K, 0, none⟩), .agg p.arr] w' (CheckIs w' K S sig.length cs bd (checkS sig (.mk op name ts tn l vars pat) bd)) := by
  have Hr : Hid (checkS sig (.mk op name ts tn l vars pat) bd = (0, ofE sig op name ts l.length bd)) := Lib.hid (by rw [checkS]; rw [if_neg (by rw [hs]; simp), if_pos he])
  have Hst := Lib.hid h.start
  have HK : Hid (K ≤ w'.heap.size) := Lib.hid (by have := h.chk.1; omega)
  have Hsh := Lib.hid (h.shape _ (h.data.trans (h.start.below.mono h.data.size)))
  have Hask := Lib.hid (h.ask hs)
  have Hdata : Hid (∀ W, Below w'.heap.size w' W → Below w0.heap.size w0 W) := Lib.hid (fun W hW => h.data.trans (hW.mono h.data.size))
  rw [hs] at Hsh
  have HW : Hid (boxT w' p = w'.alloc (.cells #[.int .i64 p.op, .string p.name, .int .i64 p.sort, .string p.n, .slice p.A p.la p.ca, .slice p.V p.lv p.cv, .slice p.P p.lp p.cp] 29)) := Lib.hid rfl
  have hne : (ofE sig op name ts l.length bd != 0) = true := by simpa using he
  clear h hs he
  unfold OfIs at Hask
  generalize ofE sig op name ts l.length bd = er at *
  unfold Parts.arr
  go_enter Tryz.func30, Tryz.ntmps30
  go_wp2_with (first
    | (go_at_call 61; rw [← HW.out]; refine Calls.mono Hsh.out ?_; rintro e w5 ⟨rfl, hb5⟩; have H5 := Lib.hid (Hst.out.next hb5); obtain ⟨c0, c1, c2, c3, c4, c5, c6⟩ := box_cells H5.out.box; clear hb5)
    | (go_at_call 62; refine Calls.mono (Hask.out _ (Hdata.out _ H5.out.below) H5.out.chk) ?_; rintro e w6 ⟨nv, rfl, _, hb6⟩; have H6 := Lib.hid (H5.out.next hb6); clear hb6))
  go_ret2
  rw [Hr.out]
  exact H6.out.is HK.out (0, er)
end Go.Proofs.YtbnonccmlildnaaGreat

/- The loop over a term's operands: what holds at each round. -/
namespace Go.Proofs.YtbnonccmlildnaaGreat
open Go.RowKit Go.Lib

structure LInv (w' wr : World) (K : Nat) (S : Option Addr) (ns cs : Nat) (bd : Bd) (p : Parts) (A3 : Option Addr) (k c : Nat) (xs : List Int) : Prop where
  below : Below K w' wr
  kept : OthersKept 53 (some K) w' wr
  chk : ChkAt wr K S ns cs bd
  box : wr.heap[w'.heap.size]? = some (.cells p.arr 29 (0, 0))
  own : OwnQ wr w'.heap.size 3 (.slice A3 k c) (xs.map (Value.int .i64))
  len : xs.length = k
  base : w'.heap.size ≤ wr.heap.size
theorem OwnQ.low {w w' : World} {base : Nat} {e : TypeId} {v : Value} {xs : List Value} (h : OwnQ w base e v xs) (hb : Below w.heap.size w w') : OwnQ w' base e v xs := h.same fun g hg => hb.block g (h.lt g hg).2
theorem OwnQ.kept33 {w w' : World} {K base : Nat} {e : TypeId} {v : Value} {xs : List Value} (h : OwnQ w base e v xs) (hK : K < base) (he : e ≠ 53) (hk : OthersKept 53 (some K) w w') : OwnQ w' base e v xs := h.same fun g hg => by
  obtain ⟨cur, hc⟩ := h.typed g hg
  have hl := (h.lt g hg).1
  rw [hc]
  exact row_kept33 hc hk (by omega) he
theorem LInv.low {w' wr wx : World} {K : Nat} {S : Option Addr} {ns cs : Nat} {bd : Bd} {p : Parts} {A3 : Option Addr} {k c : Nat} {xs : List Int} (h : LInv w' wr K S ns cs bd p A3 k c xs) (hb : Below wr.heap.size wr wx) (hK : K < w'.heap.size) : LInv w' wx K S ns cs bd p A3 k c xs :=
  ⟨h.below.trans (hb.mono (by have := h.below.size; omega)), kept_via h.kept hb h.base, h.chk.below hb, below_keeps hb h.box, h.own.low hb, h.len, Nat.le_trans h.base hb.size⟩
theorem LInv.check {w' wr wx : World} {K : Nat} {S : Option Addr} {ns cs : Nat} {bd : Bd} {p : Parts} {A3 : Option Addr} {k c : Nat} {xs : List Int} {r : Int × Int} {e : Ending} (h : LInv w' wr K S ns cs bd p A3 k c xs) (hb : CheckIs wr K S ns cs bd r e wx) (hK : K < w'.heap.size) :
    e = .returned (.tuple #[.int .i64 r.1, .int .i64 r.2]) ∧ (∃ more, Below K w' wx ∧ OthersKept 53 (some K) w' wx ∧ ChkAt wx K S ns cs (bd ++ more)) ∧ (r.2 = 0 → LInv w' wx K S ns cs bd p A3 k c xs) ∧ wr.heap.size ≤ wx.heap.size := by
  obtain ⟨h1, h2, h3, more, h4, h5⟩ := hb
  refine ⟨h1, ⟨more, h.below.trans h2, h.kept.trans h3, h4⟩, fun h0 => ⟨h.below.trans h2, h.kept.trans h3, ?_, row_kept33 h.box h3 (by omega) (by decide), h.own.kept33 hK (by decide) h3, h.len, Nat.le_trans h.base h2.size⟩, h2.size⟩
  rw [h5 h0, List.append_nil] at h4
  exact h4
theorem LInv.append {w' W w9 : World} {K : Nat} {S : Option Addr} {ns cs : Nat} {bd : Bd} {p : Parts} {A3 : Option Addr} {k c : Nat} {xs : List Int} {s : Int} {g o cap n : Nat} (h : LInv w' W K S ns cs bd p A3 k c xs) (hK : K < w'.heap.size) (hn : n = k + 1)
    (hq : OwnQ w9 w'.heap.size 3 (.slice (some ⟨g, o, none⟩) n cap) (xs.map (Value.int .i64) ++ [.int .i64 s])) (hg : W.grownBy w9 (Value.slice A3 k c).ownBlock) : LInv w' w9 K S ns cs bd p (some ⟨g, o, none⟩) (k + 1) cap (xs ++ [s]) := by
  subst hn
  have hb : Below w'.heap.size W w9 := (Below.refl _ _).grown hg h.base (fun j hj => (h.own.lt j hj).1)
  obtain ⟨h0, B, cb, h1, h2⟩ := h.chk
  refine ⟨h.below.trans (hb.mono (by omega)), kept_via h.kept hb (Nat.le_refl _), ⟨by have := hb.size; omega, B, cb, (hb.block K hK).trans h1, ownsRow_same h2 fun j hj => ?_⟩, row_kept_q h.box h.own hg (by decide), by simpa using hq, by simp [h.len], Nat.le_trans h.base hb.size⟩
  obtain ⟨_, cur, hc⟩ := ownsRow_lt h2 j hj
  rw [hc]
  exact row_kept_q hc h.own hg (by decide)
theorem LInv.ints {w' wr : World} {K : Nat} {S : Option Addr} {ns cs : Nat} {bd : Bd} {p : Parts} {A3 : Option Addr} {k c : Nat} {xs : List Int} (h : LInv w' wr K S ns cs bd p A3 k c xs) : IntsAt wr A3 c xs := by
  obtain ⟨A', c', hv, hc, hcells⟩ := h.own.cells
  simp only [Value.slice.injEq] at hv
  obtain ⟨rfl, _, rfl⟩ := hv
  exact ⟨by simpa using hc, .inr hcells⟩
theorem info3 : (Tryz.prog.info? 3).map (fun i => (i.zero, i.size, i.bytes)) = some (some (.int .i64 0), 1, 8) := by kernel_rfl
/-- Cutting the list of variables to what it was. -/
theorem ChkAt.cut {w : World} {K : Nat} {S : Option Addr} {ns cs : Nat} {bd2 : Bd} (h : ChkAt w K S ns cs bd2) (bd more : Bd) (hp : bd2 = bd ++ more) : ∃ B cb, w.cell? ⟨K, 0, none⟩ = some (.slice S ns cs) ∧ w.cell? ⟨K, 1, none⟩ = some (.slice B bd2.length cb) ∧ w.frozen? ⟨K, 0, none⟩ = false ∧ w.frozen? ⟨K, 1, none⟩ = false ∧ (∀ W, (Instr.sliceAt 27 (.slice B bd2.length cb) none (some (.int .i64 (bd.length : Int))) none).run Tryz.prog W = .ok (.slice B bd.length cb) W) ∧
    ChkAt (w.setCell ⟨K, 1, none⟩ (.slice B bd.length cb)) K S ns cs bd := by
  obtain ⟨h0, B, cb, h1, h2⟩ := h
  have hle : bd.length ≤ bd2.length := by rw [hp]; simp
  have hrow : w.ownsRow (K + 1) 53 2 (.slice B bd.length cb) bd.length (flat bd) ∧ bd2.length ≤ cb ∧ (∀ b o, B = some ⟨b, o, none⟩ → b ≠ K) ∧ (B = none ∨ ∃ b, B = some ⟨b, 0, none⟩) := by
    rcases h2.2 with ⟨hv, hn⟩ | ⟨g, cap, cur, hv, hb, hh, hn, hc, hcs, htake⟩
    · simp only [Value.slice.injEq] at hv
      obtain ⟨rfl, hl, rfl⟩ := hv
      have : bd = [] := List.eq_nil_of_length_eq_zero (by omega)
      subst this
      exact ⟨World.ownsRow_nil _ _ _ _, by omega, by simp, .inl rfl⟩
    · simp only [Value.slice.injEq] at hv
      obtain ⟨rfl, _, rfl⟩ := hv
      refine ⟨⟨flat_length bd, .inr ⟨g, cb, cur, rfl, hb, hh, by omega, hc, hcs, ?_⟩⟩, hn, fun b o e => by cases e; omega, .inr ⟨g, rfl⟩⟩
      have : flat bd = (flat bd2).take (bd.length * 2) := by
        rw [hp, flat_append, List.take_append_of_le_length (by rw [flat_length]; omega), List.take_of_length_le (by rw [flat_length]; omega)]
      rw [this, ← htake, List.take_take, Nat.min_eq_left (by omega)]
  obtain ⟨g1, g2, g3, g4⟩ := hrow
  have hset : (w.setCell ⟨K, 1, none⟩ (.slice B bd.length cb)).heap[K]? = some (.cells #[.slice S ns cs, .slice B bd.length cb] 84 (0, 0)) := by
    simp [World.setCell, Array.getElem?_modify, show w.heap[K]? = _ from h1]
  refine ⟨B, cb, h1.cells.1, h1.cells.2, by simp [World.frozen?, show w.heap[K]? = _ from h1], by simp [World.frozen?, show w.heap[K]? = _ from h1], fun W => ?_, ⟨by simp [World.setCell]; omega, B, cb, hset, ownsRow_same g1 fun b hb => ?_⟩⟩
  · have hb1 : (0 : Int) ≤ (bd.length : Int) := by omega
    have hb2 : (bd.length : Int) ≤ (cb : Int) := by omega
    rcases g4 with rfl | ⟨b, rfl⟩
    · go_simp
    · go_simp
  · refine Below.heap_setCell _ _ _ _ (fun e => ?_)
    have := (ownsRow_lt g1 b hb).1
    simp at e
    omega
/-- How an operator's method tells its sort. -/
def SortOK (w0 : World) (sig : List Fn) (op ts : Int) (name : ByteArray) (n : Nat) (M : Nat) (X : Value) : Prop :=
  ∀ (W : World) (A3 : Option Addr) (c : Nat) (xs : List Int), Below w0.heap.size w0 W → IntsAt W A3 c xs → xs.length = n → Calls Tryz.prog M #[X, .slice A3 n c] W (SortIs W (nodeS sig op name ts xs))
theorem checkS_ok {sig : List Fn} {bd : Bd} {op ts : Int} {name tn : ByteArray} {l : List Tm} {vars : Bd} {pat : List Tm} (hs : shapeB (.mk op name ts tn l vars pat) = true) (he : ofE sig op name ts l.length bd = 0) (h19 : op ≠ 19) :
    ((checksS sig l bd).2 ≠ 0 → checkS sig (.mk op name ts tn l vars pat) bd = (0, (checksS sig l bd).2)) ∧
    ((checksS sig l bd).2 = 0 → checkS sig (.mk op name ts tn l vars pat) bd = if (nodeS sig op name ts (checksS sig l bd).1).2 ≠ 0 then (0, (nodeS sig op name ts (checksS sig l bd).1).2) else ((nodeS sig op name ts (checksS sig l bd).1).1, 0)) := by
  constructor
  · intro h
    rw [checkS]
    rw [if_neg (by rw [hs]; simp), if_neg (by rw [he]; simp), if_neg h19, if_pos h]
  · intro h
    rw [checkS]
    rw [if_neg (by rw [hs]; simp), if_neg (by rw [he]; simp), if_neg h19, if_neg (by rw [h]; simp)]
    simp only [h19, false_and, if_false]
end Go.Proofs.YtbnonccmlildnaaGreat

/- check of an operator that is of one sort. -/
namespace Go.Proofs.YtbnonccmlildnaaGreat
open Go.RowKit Go.Lib

set_option maxRecDepth 100000 in
set_option maxHeartbeats 4000000 in
theorem check_fixed {w0 w' : World} {sig : List Fn} {K : Nat} {S : Option Addr} {cs : Nat} {bd : Bd} {op ts : Int} {name tn : ByteArray} {l : List Tm} {vars : Bd} {pat : List Tm} {p : Parts} {f : Nat → Value} (h : CkPre w0 w' sig K S cs bd op ts name tn l vars pat p) (hs : shapeB (.mk op name ts tn l vars pat) = true) (he : ofE sig op name ts l.length bd = 0) (h19 : op ≠ 19)
    (hnv : ∀ nv, NodeV w0 sig op name ts l.length nv → ∃ (i o : Int), nv = .iface 121 (.agg #[.int .i64 i, .int .i64 o]) ∧ SortOK w0 sig op ts name l.length 140 (.agg #[.int .i64 i, .int .i64 o]))
    (hf : RowCells w0 p.A 7 l.length f) (hL : ∀ (j : Nat) (t : Tm), l[j]? = some t → TmV w0 t (f j)) (hck : ∀ (j : Nat) (t : Tm), l[j]? = some t → CkOK w0 sig S cs t (f j)) (hsz : bd.length + tws l ≤ 1000000) (hsh : shortTs l = true) :
    Calls Tryz.prog 30 #[.pointer (some ⟨K, 0, none⟩), .agg p.arr] w' (CheckIs w' K S sig.length cs bd (checkS sig (.mk op name ts tn l vars pat) bd)) := by
  have hcl := h.start
  obtain ⟨r1, r2⟩ := checkS_ok (vars := vars) (pat := pat) hs he h19
  have Hr1 := Lib.hid r1
  have Hr2 := Lib.hid r2
  have Hst := Lib.hid hcl
  have hK : K < w'.heap.size := by have := h.chk.1; omega
  have hla := h.parts.2.1
  have hwK := h.low
  have Hsp := Lib.hid (h.shape _ (h.data.trans (hcl.below.mono h.data.size)))
  have Hask : Hid (∀ W, Below w0.heap.size w0 W → ChkAt W K S sig.length cs bd → Calls Tryz.prog 62 #[.pointer (some ⟨K, 0, none⟩), .agg p.arr] W fun e w' => ∃ (i o : Int), e = .returned (.tuple #[.iface 121 (.agg #[.int .i64 i, .int .i64 o]), .int .i64 0]) ∧ SortOK w0 sig op ts name l.length 140 (.agg #[.int .i64 i, .int .i64 o]) ∧ Below W.heap.size W w') := Lib.hid (fun W hW hc => (h.ask hs W hW hc).mono fun e w'' ⟨nv, h1, h2, h3⟩ => by
    obtain ⟨i, o, e1, e2⟩ := hnv nv (h2 he)
    rw [he, e1] at h1
    exact ⟨i, o, h1, e2, h3⟩)
  have Hdata : Hid (∀ W, Below K w' W → Below w0.heap.size w0 W) := Lib.hid (fun W hW => h.data.trans (hW.mono h.low))
  rw [hs] at Hsp
  have HW : Hid (boxT w' p = w'.alloc (.cells #[.int .i64 p.op, .string p.name, .int .i64 p.sort, .string p.n, .slice p.A p.la p.ca, .slice p.V p.lv p.cv, .slice p.P p.lp p.cp] 29)) := Lib.hid rfl
  have Hf := Lib.hid hf
  have HL := Lib.hid hL
  have Hck := Lib.hid hck
  have Hsz := Lib.hid hsz
  have Hsh := Lib.hid hsh
  have hll : l.length ≤ 1000000 := by
    have := length_tsizes l
    have := tsizes_tws l
    omega
  clear h hs he hnv hf hL hck hsz hsh hcl r1 r2
  obtain ⟨op', nm', so', n', A', la', ca', V', lv', cv', P', lp', cp'⟩ := p
  dsimp only at hla
  subst hla
  dsimp only at HW Hf
  obtain ⟨i3, hi3, hz0, hz1, hz2⟩ := info_parts info3
  have hm : ∀ (i o : Int) w, (method 315 121 (.agg #[.int .i64 i, .int .i64 o]) "avow/term.sort").run Tryz.prog w = .ok (140, .agg #[.int .i64 i, .int .i64 o]) w := fun _ _ _ => by kernel_rfl
  have hta : ∀ (i o : Int) w, (Instr.typeAssert (.iface 121 (.agg #[.int .i64 i, .int .i64 o])) 117 123 true).run Tryz.prog w = .ok (.tuple #[.agg #[.int .i64 0, .int .i64 0], .bool false]) w := fun _ _ _ => by kernel_rfl
  unfold Parts.arr
  dsimp only
  go_enter Tryz.func30, Tryz.ntmps30
  go_wp2_with (first
    | (go_at_call 61; rw [← HW.out]; refine Calls.mono Hsp.out ?_; rintro e w5 ⟨rfl, hb5⟩; have H5 := Lib.hid (Hst.out.next hb5); obtain ⟨c0, c1, c2, c3, c4, c5, c6⟩ := box_cells H5.out.box; dsimp only at c0 c1 c2 c3 c4 c5 c6; clear hb5)
    | (go_at_call 62; refine Calls.mono (Hask.out _ (Hdata.out _ (H5.out.below.mono (by omega))) H5.out.chk) ?_; rintro e w6 ⟨i, o, rfl, hso, hb6⟩; have H6 := Lib.hid (H5.out.next hb6); have Hso := Lib.hid hso; obtain ⟨B6, cb6, hck6, _⟩ := H6.out.chk.row; obtain ⟨k0, k1⟩ := hck6.cells; obtain ⟨d0, d1, d2, d3, d4, d5, d6⟩ := box_cells H6.out.box; dsimp only at d0 d1 d2 d3 d4 d5 d6; have g4 : (w6.alloc (.cells #[.int .i64 0, .int .i64 0] 123)).cell? ⟨w'.heap.size, 4, none⟩ = some (.slice A' l.length ca') := cell_of_below ((Below.refl _ _).alloc (Nat.le_refl _) _) (Nat.le_refl _) d4; clear hb6 hso hck6))
  go_loopw [11, 55] (fun lv i wr => ∃ (k c : Nat) (A3 : Option Addr), k ≤ l.length ∧ i = .int .i64 k ∧ lv = .slice A3 k c ∧ Hid ((checksS sig (l.take k) bd).2 = 0) ∧ Hid (LInv w' wr K S sig.length cs bd ⟨op', nm', so', n', A', l.length, ca', V', lv', cv', P', lp', cp'⟩ A3 k c (checksS sig (l.take k) bd).1)) (fun _ i _ => l.length - (intOf i).toNat)
  case atStart =>
    refine ⟨0, 0, none, Nat.zero_le _, rfl, rfl, Lib.hid rfl, Lib.hid ?_⟩
    have H7 := H6.out.next ((Below.refl w6.heap.size w6).alloc (Nat.le_refl _) (.cells #[.int .i64 0, .int .i64 0] 123))
    exact ⟨H7.below.mono (by omega), kept33_below H7.below, H7.chk, H7.box, OwnQ.nil _ _ _, rfl, H7.below.size⟩
  case round =>
    obtain ⟨k, c, A3, hk, rfl, rfl, Hok, HI⟩ := hrel
    by_cases hlt : k < l.length
    · have Ht : Hid (l[k]? = some l[k]) := Lib.hid (List.getElem?_eq_getElem hlt)
      have Hv := Lib.hid (HL.out k _ Ht.out)
      obtain ⟨p, hp⟩ := Hv.out.parts
      have hwr : Below w0.heap.size w0 wr := Hdata.out _ HI.out.below
      obtain ⟨b, of, rfl, h0, h1, h2, h3, h4, h5, h6⟩ := (Hf.out.below hwr).get hlt hp
      have HIb : Hid (LInv w' (boxT wr p) K S sig.length cs bd ⟨op', nm', so', n', some ⟨b, of, none⟩, l.length, ca', V', lv', cv', P', lp', cp'⟩ A3 k c (checksS sig (l.take k) bd).1) := Lib.hid (HI.out.low (below_boxT wr p) hK)
      have Hcheck : Hid (Calls Tryz.prog 30 #[.pointer (some ⟨K, 0, none⟩), .agg p.arr] (boxT wr p) (CheckIs (boxT wr p) K S sig.length cs bd (checkS sig l[k] bd))) := Lib.hid (by
        have := Hck.out k _ Ht.out K bd (boxT wr p) (Hdata.out _ HIb.out.below) hwK HIb.out.chk (by have := tws_mem Ht.out; have := Hsz.out; omega) (shortTs_mem Ht.out Hsh.out)
        rw [hp] at this
        exact this)
      have Hst2 := Lib.hid (checksS_take sig bd hlt Hok.out)
      have HW2 : Hid (boxT wr p = wr.alloc (.cells #[.int .i64 p.op, .string p.name, .int .i64 p.sort, .string p.n, .slice p.A p.la p.ca, .slice p.V p.lv p.cv, .slice p.P p.lp p.cp] 29)) := Lib.hid rfl
      clear hp hwr
      obtain ⟨r, hr⟩ : ∃ r, r = checkS sig l[k] bd := ⟨_, rfl⟩
      rw [← hr] at Hcheck Hst2
      clear hr
      generalize l[k] = t at *
      obtain ⟨rs, re⟩ := r
      dsimp only at Hst2
      by_cases he : re = 0
      · have Hst3 := Lib.hid (Hst2.out.1 he)
        subst he
        clear Hst2
        go_wp2_with (first
          | (go_at_call 30; rw [← HW2.out]; refine Calls.mono Hcheck.out ?_; intro e w8 hb8; obtain ⟨he8, _, hI8, hs8⟩ := HIb.out.check hb8 hK; subst he8; have HI8 := Lib.hid (hI8 rfl); have Hs8 := Lib.hid hs8; clear hb8 hI8 hs8)
          | (at_builtin; refine wpList_append_q _ rfl (.tmp 68) (.tmp 70) 48 rfl w'.heap.size 3 i3 (.int .i64 0) 8 Tryz.underlying48 hi3 hz0 hz1 hz2 rfl (.slice A3 k c) ((checksS sig (l.take k) bd).1.map (Value.int .i64)) rfl (HI8.out.own.alloc _) ⟨w8.heap.size, 0, none⟩ 1 (.int .i64 rs) rfl (by simp) rfl (by rw [List.length_map, HI8.out.len]; simp only [maxLen]; omega) (by rw [List.length_map, HI8.out.len]; omega) (by have := HI8.out.base; simp; omega) ?_; intro g9 o9 cap9 w9 hq9 hg9 _; have HI9 := Lib.hid (LInv.append (HI8.out.low ((Below.refl _ _).alloc (Nat.le_refl _) (.cells #[.int .i64 rs] 3)) hK) hK (by rw [List.length_map, HI8.out.len]) hq9 hg9); have hn9 : ((checksS sig (l.take k) bd).1.map (Value.int .i64)).length + 1 = k + 1 := (by rw [List.length_map, HI8.out.len]); rw [hn9]; clear hq9 hg9 hn9))
        go_roundw
        case rel => exact ⟨k + 1, cap9, some ⟨g9, o9, none⟩, by omega, by go_num, rfl, Lib.hid (by rw [Hst3.out]), Lib.hid (by rw [Hst3.out]; exact HI9.out)⟩
        case measure => simp [intOf]; omega
      · have Hst3 := Lib.hid (Hst2.out.2 he)
        have Hre := Lib.hid he
        have hne : (re != 0) = true := by simpa using he
        clear Hst2 he
        go_wp2_with (go_at_call 30; rw [← HW2.out]; refine Calls.mono Hcheck.out ?_; intro e w8 hb8; obtain ⟨he8, hm8, _, _⟩ := HIb.out.check hb8 hK; subst he8; have Hm8 := Lib.hid hm8; clear hb8 hm8)
        go_ret2
        obtain ⟨more, m1, m2, m3⟩ := Hm8.out
        rw [Hr1.out (by rw [Hst3.out]; exact Hre.out), Hst3.out]
        exact ⟨rfl, m1, m2, more, m3, fun h => absurd h Hre.out⟩
    · have Hall : Hid ((checksS sig l bd).2 = 0) := Lib.hid (by
        have := Hok.out
        rwa [List.take_of_length_le (by omega)] at this)
      have HIl : Hid (LInv w' wr K S sig.length cs bd ⟨op', nm', so', n', A', l.length, ca', V', lv', cv', P', lp', cp'⟩ A3 k c (checksS sig l bd).1) := Lib.hid (by
        have := HI.out
        rwa [List.take_of_length_le (by omega)] at this)
      have Hrr := Lib.hid (Hr2.out Hall.out)
      have hkl : k = l.length := by omega
      subst hkl
      have Hsort := Lib.hid (Hso.out wr A3 c _ (Hdata.out _ HIl.out.below) HIl.out.ints HIl.out.len)
      obtain ⟨r, hr⟩ : ∃ r, r = nodeS sig op name ts (checksS sig l bd).1 := ⟨_, rfl⟩
      rw [← hr] at Hsort Hrr
      clear hr
      obtain ⟨r1, r2⟩ := r
      have hr2 : r2 = 0 ∨ (r2 != 0) = true := by
        by_cases h : r2 = 0
        · exact .inl h
        · exact .inr (by simpa using h)
      rcases hr2 with hr2 | hr2
      · subst hr2
        go_wp2_with (go_at_call 140; refine Calls.mono Hsort.out ?_; rintro e w8 ⟨rfl, hb8⟩; have HI8 := Lib.hid ((HIl.out.low hb8 hK).low ((Below.refl w8.heap.size w8).alloc (Nat.le_refl _) (.cells #[.int .i64 0, .int .i64 0] 123)) hK); obtain ⟨B8, cb8, hk0, hk1, hf0, hf1, hsl, hck8⟩ := HI8.out.chk.cut bd [] (by simp); have Hck8 := Lib.hid hck8; clear hb8 hck8)
        go_ret2
        rw [Hrr.out]
        exact ⟨rfl, HI8.out.below.setCell (p := ⟨K, 1, none⟩) (Nat.le_refl _) _, HI8.out.kept.setCell ⟨K, 1, none⟩ rfl _, [], by rw [List.append_nil]; exact Hck8.out, fun _ => rfl⟩
      · have Hr2 : Hid (r2 ≠ 0) := Lib.hid (by simpa using hr2)
        go_wp2_with (go_at_call 140; refine Calls.mono Hsort.out ?_; rintro e w8 ⟨rfl, hb8⟩; have HI8 := Lib.hid ((HIl.out.low hb8 hK).low ((Below.refl w8.heap.size w8).alloc (Nat.le_refl _) (.cells #[.int .i64 0, .int .i64 0] 123)) hK); obtain ⟨B8, cb8, hk0, hk1, hf0, hf1, hsl, hck8⟩ := HI8.out.chk.cut bd [] (by simp); have Hck8 := Lib.hid hck8; clear hb8 hck8)
        go_ret2
        rw [Hrr.out, if_pos Hr2.out]
        exact ⟨rfl, HI8.out.below.setCell (p := ⟨K, 1, none⟩) (Nat.le_refl _) _, HI8.out.kept.setCell ⟨K, 1, none⟩ rfl _, [], by rw [List.append_nil]; exact Hck8.out, fun _ => rfl⟩
end Go.Proofs.YtbnonccmlildnaaGreat

/- check of an operator that is its own. -/
namespace Go.Proofs.YtbnonccmlildnaaGreat
open Go.RowKit Go.Lib

set_option maxRecDepth 100000 in
set_option maxHeartbeats 4000000 in
theorem check_leaf {w0 w' : World} {sig : List Fn} {K : Nat} {S : Option Addr} {cs : Nat} {bd : Bd} {op ts : Int} {name tn : ByteArray} {l : List Tm} {vars : Bd} {pat : List Tm} {p : Parts} {f : Nat → Value} (h : CkPre w0 w' sig K S cs bd op ts name tn l vars pat p) (hs : shapeB (.mk op name ts tn l vars pat) = true) (he : ofE sig op name ts l.length bd = 0) (h19 : op ≠ 19)
    (hnv : ∀ nv, NodeV w0 sig op name ts l.length nv → ∃ (s : Int), nv = .iface 157 (.agg #[.int .i64 s]) ∧ SortOK w0 sig op ts name l.length 142 (.agg #[.int .i64 s]))
    (hf : RowCells w0 p.A 7 l.length f) (hL : ∀ (j : Nat) (t : Tm), l[j]? = some t → TmV w0 t (f j)) (hck : ∀ (j : Nat) (t : Tm), l[j]? = some t → CkOK w0 sig S cs t (f j)) (hsz : bd.length + tws l ≤ 1000000) (hsh : shortTs l = true) :
    Calls Tryz.prog 30 #[.pointer (some ⟨K, 0, none⟩), .agg p.arr] w' (CheckIs w' K S sig.length cs bd (checkS sig (.mk op name ts tn l vars pat) bd)) := by
  have hcl := h.start
  obtain ⟨r1, r2⟩ := checkS_ok (vars := vars) (pat := pat) hs he h19
  have Hr1 := Lib.hid r1
  have Hr2 := Lib.hid r2
  have Hst := Lib.hid hcl
  have hK : K < w'.heap.size := by have := h.chk.1; omega
  have hla := h.parts.2.1
  have hwK := h.low
  have Hsp := Lib.hid (h.shape _ (h.data.trans (hcl.below.mono h.data.size)))
  have Hask : Hid (∀ W, Below w0.heap.size w0 W → ChkAt W K S sig.length cs bd → Calls Tryz.prog 62 #[.pointer (some ⟨K, 0, none⟩), .agg p.arr] W fun e w' => ∃ (s : Int), e = .returned (.tuple #[.iface 157 (.agg #[.int .i64 s]), .int .i64 0]) ∧ SortOK w0 sig op ts name l.length 142 (.agg #[.int .i64 s]) ∧ Below W.heap.size W w') := Lib.hid (fun W hW hc => (h.ask hs W hW hc).mono fun e w'' ⟨nv, h1, h2, h3⟩ => by
    obtain ⟨s, e1, e2⟩ := hnv nv (h2 he)
    rw [he, e1] at h1
    exact ⟨s, h1, e2, h3⟩)
  have Hdata : Hid (∀ W, Below K w' W → Below w0.heap.size w0 W) := Lib.hid (fun W hW => h.data.trans (hW.mono h.low))
  rw [hs] at Hsp
  have HW : Hid (boxT w' p = w'.alloc (.cells #[.int .i64 p.op, .string p.name, .int .i64 p.sort, .string p.n, .slice p.A p.la p.ca, .slice p.V p.lv p.cv, .slice p.P p.lp p.cp] 29)) := Lib.hid rfl
  have Hf := Lib.hid hf
  have HL := Lib.hid hL
  have Hck := Lib.hid hck
  have Hsz := Lib.hid hsz
  have Hsh := Lib.hid hsh
  have hll : l.length ≤ 1000000 := by
    have := length_tsizes l
    have := tsizes_tws l
    omega
  clear h hs he hnv hf hL hck hsz hsh hcl r1 r2
  obtain ⟨op', nm', so', n', A', la', ca', V', lv', cv', P', lp', cp'⟩ := p
  dsimp only at hla
  subst hla
  dsimp only at HW Hf
  obtain ⟨i3, hi3, hz0, hz1, hz2⟩ := info_parts info3
  have hm : ∀ (s : Int) w, (method 315 157 (.agg #[.int .i64 s]) "avow/term.sort").run Tryz.prog w = .ok (142, .agg #[.int .i64 s]) w := fun _ _ => by kernel_rfl
  have hta : ∀ (s : Int) w, (Instr.typeAssert (.iface 157 (.agg #[.int .i64 s])) 117 123 true).run Tryz.prog w = .ok (.tuple #[.agg #[.int .i64 0, .int .i64 0], .bool false]) w := fun _ _ => by kernel_rfl
  unfold Parts.arr
  dsimp only
  go_enter Tryz.func30, Tryz.ntmps30
  go_wp2_with (first
    | (go_at_call 61; rw [← HW.out]; refine Calls.mono Hsp.out ?_; rintro e w5 ⟨rfl, hb5⟩; have H5 := Lib.hid (Hst.out.next hb5); obtain ⟨c0, c1, c2, c3, c4, c5, c6⟩ := box_cells H5.out.box; dsimp only at c0 c1 c2 c3 c4 c5 c6; clear hb5)
    | (go_at_call 62; refine Calls.mono (Hask.out _ (Hdata.out _ (H5.out.below.mono (by omega))) H5.out.chk) ?_; rintro e w6 ⟨s, rfl, hso, hb6⟩; have H6 := Lib.hid (H5.out.next hb6); have Hso := Lib.hid hso; obtain ⟨B6, cb6, hck6, _⟩ := H6.out.chk.row; obtain ⟨k0, k1⟩ := hck6.cells; obtain ⟨d0, d1, d2, d3, d4, d5, d6⟩ := box_cells H6.out.box; dsimp only at d0 d1 d2 d3 d4 d5 d6; have g4 : (w6.alloc (.cells #[.int .i64 0, .int .i64 0] 123)).cell? ⟨w'.heap.size, 4, none⟩ = some (.slice A' l.length ca') := cell_of_below ((Below.refl _ _).alloc (Nat.le_refl _) _) (Nat.le_refl _) d4; clear hb6 hso hck6))
  go_loopw [11, 55] (fun lv i wr => ∃ (k c : Nat) (A3 : Option Addr), k ≤ l.length ∧ i = .int .i64 k ∧ lv = .slice A3 k c ∧ Hid ((checksS sig (l.take k) bd).2 = 0) ∧ Hid (LInv w' wr K S sig.length cs bd ⟨op', nm', so', n', A', l.length, ca', V', lv', cv', P', lp', cp'⟩ A3 k c (checksS sig (l.take k) bd).1)) (fun _ i _ => l.length - (intOf i).toNat)
  case atStart =>
    refine ⟨0, 0, none, Nat.zero_le _, rfl, rfl, Lib.hid rfl, Lib.hid ?_⟩
    have H7 := H6.out.next ((Below.refl w6.heap.size w6).alloc (Nat.le_refl _) (.cells #[.int .i64 0, .int .i64 0] 123))
    exact ⟨H7.below.mono (by omega), kept33_below H7.below, H7.chk, H7.box, OwnQ.nil _ _ _, rfl, H7.below.size⟩
  case round =>
    obtain ⟨k, c, A3, hk, rfl, rfl, Hok, HI⟩ := hrel
    by_cases hlt : k < l.length
    · have Ht : Hid (l[k]? = some l[k]) := Lib.hid (List.getElem?_eq_getElem hlt)
      have Hv := Lib.hid (HL.out k _ Ht.out)
      obtain ⟨p, hp⟩ := Hv.out.parts
      have hwr : Below w0.heap.size w0 wr := Hdata.out _ HI.out.below
      obtain ⟨b, of, rfl, h0, h1, h2, h3, h4, h5, h6⟩ := (Hf.out.below hwr).get hlt hp
      have HIb : Hid (LInv w' (boxT wr p) K S sig.length cs bd ⟨op', nm', so', n', some ⟨b, of, none⟩, l.length, ca', V', lv', cv', P', lp', cp'⟩ A3 k c (checksS sig (l.take k) bd).1) := Lib.hid (HI.out.low (below_boxT wr p) hK)
      have Hcheck : Hid (Calls Tryz.prog 30 #[.pointer (some ⟨K, 0, none⟩), .agg p.arr] (boxT wr p) (CheckIs (boxT wr p) K S sig.length cs bd (checkS sig l[k] bd))) := Lib.hid (by
        have := Hck.out k _ Ht.out K bd (boxT wr p) (Hdata.out _ HIb.out.below) hwK HIb.out.chk (by have := tws_mem Ht.out; have := Hsz.out; omega) (shortTs_mem Ht.out Hsh.out)
        rw [hp] at this
        exact this)
      have Hst2 := Lib.hid (checksS_take sig bd hlt Hok.out)
      have HW2 : Hid (boxT wr p = wr.alloc (.cells #[.int .i64 p.op, .string p.name, .int .i64 p.sort, .string p.n, .slice p.A p.la p.ca, .slice p.V p.lv p.cv, .slice p.P p.lp p.cp] 29)) := Lib.hid rfl
      clear hp hwr
      obtain ⟨r, hr⟩ : ∃ r, r = checkS sig l[k] bd := ⟨_, rfl⟩
      rw [← hr] at Hcheck Hst2
      clear hr
      generalize l[k] = t at *
      obtain ⟨rs, re⟩ := r
      dsimp only at Hst2
      by_cases he : re = 0
      · have Hst3 := Lib.hid (Hst2.out.1 he)
        subst he
        clear Hst2
        go_wp2_with (first
          | (go_at_call 30; rw [← HW2.out]; refine Calls.mono Hcheck.out ?_; intro e w8 hb8; obtain ⟨he8, _, hI8, hs8⟩ := HIb.out.check hb8 hK; subst he8; have HI8 := Lib.hid (hI8 rfl); have Hs8 := Lib.hid hs8; clear hb8 hI8 hs8)
          | (at_builtin; refine wpList_append_q _ rfl (.tmp 68) (.tmp 70) 48 rfl w'.heap.size 3 i3 (.int .i64 0) 8 Tryz.underlying48 hi3 hz0 hz1 hz2 rfl (.slice A3 k c) ((checksS sig (l.take k) bd).1.map (Value.int .i64)) rfl (HI8.out.own.alloc _) ⟨w8.heap.size, 0, none⟩ 1 (.int .i64 rs) rfl (by simp) rfl (by rw [List.length_map, HI8.out.len]; simp only [maxLen]; omega) (by rw [List.length_map, HI8.out.len]; omega) (by have := HI8.out.base; simp; omega) ?_; intro g9 o9 cap9 w9 hq9 hg9 _; have HI9 := Lib.hid (LInv.append (HI8.out.low ((Below.refl _ _).alloc (Nat.le_refl _) (.cells #[.int .i64 rs] 3)) hK) hK (by rw [List.length_map, HI8.out.len]) hq9 hg9); have hn9 : ((checksS sig (l.take k) bd).1.map (Value.int .i64)).length + 1 = k + 1 := (by rw [List.length_map, HI8.out.len]); rw [hn9]; clear hq9 hg9 hn9))
        go_roundw
        case rel => exact ⟨k + 1, cap9, some ⟨g9, o9, none⟩, by omega, by go_num, rfl, Lib.hid (by rw [Hst3.out]), Lib.hid (by rw [Hst3.out]; exact HI9.out)⟩
        case measure => simp [intOf]; omega
      · have Hst3 := Lib.hid (Hst2.out.2 he)
        have Hre := Lib.hid he
        have hne : (re != 0) = true := by simpa using he
        clear Hst2 he
        go_wp2_with (go_at_call 30; rw [← HW2.out]; refine Calls.mono Hcheck.out ?_; intro e w8 hb8; obtain ⟨he8, hm8, _, _⟩ := HIb.out.check hb8 hK; subst he8; have Hm8 := Lib.hid hm8; clear hb8 hm8)
        go_ret2
        obtain ⟨more, m1, m2, m3⟩ := Hm8.out
        rw [Hr1.out (by rw [Hst3.out]; exact Hre.out), Hst3.out]
        exact ⟨rfl, m1, m2, more, m3, fun h => absurd h Hre.out⟩
    · have Hall : Hid ((checksS sig l bd).2 = 0) := Lib.hid (by
        have := Hok.out
        rwa [List.take_of_length_le (by omega)] at this)
      have HIl : Hid (LInv w' wr K S sig.length cs bd ⟨op', nm', so', n', A', l.length, ca', V', lv', cv', P', lp', cp'⟩ A3 k c (checksS sig l bd).1) := Lib.hid (by
        have := HI.out
        rwa [List.take_of_length_le (by omega)] at this)
      have Hrr := Lib.hid (Hr2.out Hall.out)
      have hkl : k = l.length := by omega
      subst hkl
      have Hsort := Lib.hid (Hso.out wr A3 c _ (Hdata.out _ HIl.out.below) HIl.out.ints HIl.out.len)
      obtain ⟨r, hr⟩ : ∃ r, r = nodeS sig op name ts (checksS sig l bd).1 := ⟨_, rfl⟩
      rw [← hr] at Hsort Hrr
      clear hr
      obtain ⟨r1, r2⟩ := r
      have hr2 : r2 = 0 ∨ (r2 != 0) = true := by
        by_cases h : r2 = 0
        · exact .inl h
        · exact .inr (by simpa using h)
      rcases hr2 with hr2 | hr2
      · subst hr2
        go_wp2_with (go_at_call 142; refine Calls.mono Hsort.out ?_; rintro e w8 ⟨rfl, hb8⟩; have HI8 := Lib.hid ((HIl.out.low hb8 hK).low ((Below.refl w8.heap.size w8).alloc (Nat.le_refl _) (.cells #[.int .i64 0, .int .i64 0] 123)) hK); obtain ⟨B8, cb8, hk0, hk1, hf0, hf1, hsl, hck8⟩ := HI8.out.chk.cut bd [] (by simp); have Hck8 := Lib.hid hck8; clear hb8 hck8)
        go_ret2
        rw [Hrr.out]
        exact ⟨rfl, HI8.out.below.setCell (p := ⟨K, 1, none⟩) (Nat.le_refl _) _, HI8.out.kept.setCell ⟨K, 1, none⟩ rfl _, [], by rw [List.append_nil]; exact Hck8.out, fun _ => rfl⟩
      · have Hr2 : Hid (r2 ≠ 0) := Lib.hid (by simpa using hr2)
        go_wp2_with (go_at_call 142; refine Calls.mono Hsort.out ?_; rintro e w8 ⟨rfl, hb8⟩; have HI8 := Lib.hid ((HIl.out.low hb8 hK).low ((Below.refl w8.heap.size w8).alloc (Nat.le_refl _) (.cells #[.int .i64 0, .int .i64 0] 123)) hK); obtain ⟨B8, cb8, hk0, hk1, hf0, hf1, hsl, hck8⟩ := HI8.out.chk.cut bd [] (by simp); have Hck8 := Lib.hid hck8; clear hb8 hck8)
        go_ret2
        rw [Hrr.out, if_pos Hr2.out]
        exact ⟨rfl, HI8.out.below.setCell (p := ⟨K, 1, none⟩) (Nat.le_refl _) _, HI8.out.kept.setCell ⟨K, 1, none⟩ rfl _, [], by rw [List.append_nil]; exact Hck8.out, fun _ => rfl⟩
end Go.Proofs.YtbnonccmlildnaaGreat
