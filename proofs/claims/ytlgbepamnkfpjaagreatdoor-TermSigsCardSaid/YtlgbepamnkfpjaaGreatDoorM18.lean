/- put: no variable. -/
import Derived.Test.YtlgbepamnkfpjaaGreatDoorM17
import Derived.Deep.DeepCutAuto
set_option linter.unusedSimpArgs false
set_option linter.unusedVariables false
set_option linter.unusedVariables false
set_option linter.unusedSimpArgs false
namespace Go.Proofs.YtlgbepamnkfpjaaGreatDoor
open Go.RowKit Go.Lib

set_option maxRecDepth 100000 in
set_option maxHeartbeats 16000000 in
theorem put_stepA {w0 : World} {op : Int} {name : ByteArray} {sort : Int} {n : ByteArray} {ts : List Tm} {vs : Bd} {pat : List Tm} {A V P : Option Addr} {ca cv cp : Nat} {vars : Bd} {l : List Tm} (hbd : Bds op sort name n ts.length vs pat.length) (htw : ts.length ≤ 1000000 ∧ vs.length ≤ 1000000 ∧ pat.length ≤ 1000000)
    (hV : RowCells w0 V 2 vs.length (bval vs)) (hcv : vs.length ≤ cv) (h18 : (op == 18) = false) (hc : op ≠ 19 ∨ vars = []) (hno : op = 18 → instOf vars l name = none)
    (hts : ∀ (wi : World) (ip : IParts), InsV wi vars l ip → ∀ w, Below w0.heap.size w0 w → Below wi.heap.size wi w → Calls Tryz.prog 62 #[.agg ip.arr, .slice A ts.length ca] w (PutsIs w (tputs vars l ts)))
    (hps : ∀ (wi : World) (ip : IParts), InsV wi vars l ip → ∀ w, Below w0.heap.size w0 w → Below wi.heap.size wi w → Calls Tryz.prog 62 #[.agg ip.arr, .slice P pat.length cp] w (PutsIs w (tputs vars l pat))) :
    ∀ (wi : World) (ip : IParts), InsV wi vars l ip → ∀ w, Below w0.heap.size w0 w → Below wi.heap.size wi w →
    Calls Tryz.prog 35 #[.agg ip.arr, .agg (Parts.arr ⟨op, name, sort, n, A, ts.length, ca, V, vs.length, cv, P, pat.length, cp⟩)] w (PutIs w (tput vars l (.mk op name sort n ts vs pat))) := by
  intro wi ip hi w hb hbi
  have Htp : Hid (tput vars l (.mk op name sort n ts vs pat) = .mk op name sort n (tputs vars l ts) vs (tputs vars l pat)) := Lib.hid (tput_not hno)
  have Hof : Hid (op = 18 → ∀ W, Below wi.heap.size wi W → Calls Tryz.prog 58 #[.agg ip.arr, .string name] W (OfName wi W none)) := Lib.hid (fun h18 W hW => by rw [← hno h18]; exact instOf_any hi hW name)
  have Hin : Hid (∀ W, Below wi.heap.size wi W → Calls Tryz.prog 59 #[.agg ip.arr, .agg (Parts.arr ⟨op, name, sort, n, A, ts.length, ca, V, vs.length, cv, P, pat.length, cp⟩)] W (InnerIs W vars l)) := Lib.hid (fun W hW => inner_any (hi.below hW) hc)
  have Hcl : Hid (∀ W, Below w0.heap.size w0 W → Calls Tryz.prog 61 #[.slice V vs.length cv] W (CloneIs W vs)) := Lib.hid (fun W hW => clone_any (hV.below hW) htw.2.1)
  obtain ⟨W1, hW1⟩ : ∃ W1, W1 = ((w.alloc (.cells ip.arr 64)).alloc (.cells (Parts.arr ⟨op, name, sort, n, A, ts.length, ca, V, vs.length, cv, P, pat.length, cp⟩) 26)).alloc (.cells #[.int .i64 0, .string ⟨#[]⟩, .int .i64 0, .string ⟨#[]⟩, .slice none 0 0, .slice none 0 0, .slice none 0 0] 26) := ⟨_, rfl⟩
  have HB : Hid (Below w.heap.size w W1) := Lib.hid (by rw [hW1]; exact (((Below.refl _ _).alloc (Nat.le_refl _) _).alloc (by simp) _).alloc (by simp; omega) _)
  have HT : Hid (W1.heap[w.heap.size + 1]? = some (.cells (Parts.arr ⟨op, name, sort, n, A, ts.length, ca, V, vs.length, cv, P, pat.length, cp⟩) 26 (0, 0))) := Lib.hid (by rw [hW1, Below.heap_alloc _ _ _ (by simp)]; simpa using heap_alloc_new (w.alloc (.cells ip.arr 64)) (.cells (Parts.arr ⟨op, name, sort, n, A, ts.length, ca, V, vs.length, cv, P, pat.length, cp⟩) 26))
  have HI : Hid (W1.heap[w.heap.size]? = some (.cells ip.arr 64 (0, 0))) := Lib.hid (by rw [hW1, Below.heap_alloc _ _ _ (by simp; omega), Below.heap_alloc _ _ _ (by simp)]; exact heap_alloc_new _ _)
  have HZ : Hid (W1.heap[w.heap.size + 1 + 1]? = some (.cells zeroP.arr 26 (0, 0))) := Lib.hid (by
    rw [hW1]
    have e : ((w.alloc (.cells ip.arr 64)).alloc (.cells (Parts.arr ⟨op, name, sort, n, A, ts.length, ca, V, vs.length, cv, P, pat.length, cp⟩) 26)).heap.size = w.heap.size + 1 + 1 := by simp
    have h : (((w.alloc (.cells ip.arr 64)).alloc (.cells (Parts.arr ⟨op, name, sort, n, A, ts.length, ca, V, vs.length, cv, P, pat.length, cp⟩) 26)).alloc (.cells #[.int .i64 0, .string ⟨#[]⟩, .int .i64 0, .string ⟨#[]⟩, .slice none 0 0, .slice none 0 0, .slice none 0 0] 26)).heap[((w.alloc (.cells ip.arr 64)).alloc (.cells (Parts.arr ⟨op, name, sort, n, A, ts.length, ca, V, vs.length, cv, P, pat.length, cp⟩) 26)).heap.size]? = some (.cells zeroP.arr 26 (0, 0)) := heap_alloc_new _ _
    rw [e] at h
    exact h)
  have Hts : Hid (∀ (wi : World) (I : Option Addr) (a b : Nat) (J : Option Addr) (c d : Nat), InsV wi vars l ⟨I, a, b, J, c, d⟩ → ∀ w, Below w0.heap.size w0 w → Below wi.heap.size wi w → Calls Tryz.prog 62 #[.agg #[.slice I a b, .slice J c d], .slice A ts.length ca] w (PutsIs w (tputs vars l ts))) := Lib.hid (fun wi I a b J c d => hts wi ⟨I, a, b, J, c, d⟩)
  have Hps : Hid (∀ (wi : World) (I : Option Addr) (a b : Nat) (J : Option Addr) (c d : Nat), InsV wi vars l ⟨I, a, b, J, c, d⟩ → ∀ w, Below w0.heap.size w0 w → Below wi.heap.size wi w → Calls Tryz.prog 62 #[.agg #[.slice I a b, .slice J c d], .slice P pat.length cp] w (PutsIs w (tputs vars l pat))) := Lib.hid (fun wi I a b J c d => hps wi ⟨I, a, b, J, c, d⟩)
  have Hb := Lib.hid hb
  have Hbi := Lib.hid hbi
  have Hbd := Lib.hid hbd
  have Hl1 : Hid ((tputs vars l ts).length = ts.length ∧ (tputs vars l pat).length = pat.length) := Lib.hid (And.intro (tputs_length vars l ts) (tputs_length vars l pat))
  clear hts hps hb hbi hi hc hno hV hcv htw hbd
  obtain ⟨IV, nv, icv, IL, nl, icl⟩ := ip
  simp only [IParts.arr, Parts.arr] at Hof Hin HT HI hW1 ⊢
  have HW1 := Lib.hid hW1
  clear hW1
  generalize hts' : tputs vars l ts = ts' at *
  generalize hps' : tputs vars l pat = ps' at *
  generalize ts.length = lt at *
  generalize pat.length = lp at *
  have HBc := HB
  have HTc := HT
  have HZc := HZ
  clear Hof
  go_enter Tryz.func35, Tryz.ntmps35
  go_wp2_with (go_at_call 59; rw [← HW1.out]; refine Calls.mono (Hin.out _ (Hbi.out.trans (HBc.out.mono Hbi.out.size))) ?_; rintro e w6 ⟨⟨IV6, nv6, icv6, IL6, nl6, icl6⟩, rfl, hi6, hb6⟩; unfold IParts.arr; dsimp only; have Hi6 := Lib.hid hi6; have Hb6 := Lib.hid hb6; clear hb6 hi6)

  have hA : Below w6.heap.size w6 (w6.alloc (.cells #[.slice IV6 nv6 icv6, .slice IL6 nl6 icl6] 64)) := (Below.refl _ _).alloc (Nat.le_refl _) _
  have H6 : Hid (Below w.heap.size w w6) := Lib.hid (HBc.out.trans (Hb6.out.mono HBc.out.size))
  have H7 : Hid (Below w.heap.size w (w6.alloc (.cells #[.slice IV6 nv6 icv6, .slice IL6 nl6 icl6] 64)).drew) := Lib.hid (H6.out.trans (hA.mono H6.out.size)).drew
  have HT7 : Hid ((w6.alloc (.cells #[.slice IV6 nv6 icv6, .slice IL6 nl6 icl6] 64)).drew.heap[w.heap.size + 1]? = some (.cells (Parts.arr ⟨op, name, sort, n, A, lt, ca, V, vs.length, cv, P, lp, cp⟩) 26 (0, 0))) := Lib.hid (below_keeps hA (below_keeps Hb6.out HTc.out))
  have HZ7 : Hid ((w6.alloc (.cells #[.slice IV6 nv6 icv6, .slice IL6 nl6 icl6] 64)).drew.heap[w.heap.size + 1 + 1]? = some (.cells zeroP.arr 26 (0, 0))) := Lib.hid (below_keeps hA (below_keeps Hb6.out HZc.out))
  have HI7 : Hid ((w6.alloc (.cells #[.slice IV6 nv6 icv6, .slice IL6 nl6 icl6] 64)).drew.heap[w6.heap.size]? = some (.cells (IParts.arr ⟨IV6, nv6, icv6, IL6, nl6, icl6⟩) 64 (0, 0))) := Lib.hid (heap_alloc_new w6 _)
  have H67 : Hid (Below w6.heap.size w6 (w6.alloc (.cells #[.slice IV6 nv6 icv6, .slice IL6 nl6 icl6] 64)).drew) := Lib.hid hA.drew
  clear hA
  obtain ⟨y0, y1⟩ := boxI_cells HI7.out
  obtain ⟨x0, x1, x2, x3, x4, x5, x6⟩ := box_cells (p := ⟨op, name, sort, n, A, lt, ca, V, vs.length, cv, P, lp, cp⟩) (below_keeps Hb6.out HTc.out)
  dsimp only at x0 x1 x2 x3 x4 x5 x6 y0 y1
  have q6 : w.heap.size + 1 < w6.heap.size := (Array.getElem?_eq_some_iff.1 (below_keeps Hb6.out HTc.out)).1
  have HW7 : Hid (w.heap.size + 1 + 1 < (w6.alloc (.cells #[.slice IV6 nv6 icv6, .slice IL6 nl6 icl6] 64)).drew.heap.size) := Lib.hid ((Array.getElem?_eq_some_iff.1 HZ7.out).1)
  have Hbd2 : Hid (Bds op sort name n ts'.length vs ps'.length) := Lib.hid (by rw [Hl1.out.1, Hl1.out.2]; exact Hbd.out)
  clear x0 x1 x2 x3 HW1 HI HT HZ Hin HTc HZc Hbi Hbd Hl1
  go_cut [] from 24 to 37 (fun wx => Hid (Done3 w (w.heap.size + 1) op sort name n ts' vs ps' wx))
  case first =>
    refine wp_region_makes [0,1,2,3,4,5,6,7,8,9,10,11] [12,13,14,15,16] (by kernel_rfl) (by kernel_rfl) (putSpec_keep (w6.alloc (.cells #[.slice IV6 nv6 icv6, .slice IL6 nl6 icl6] 64)).drew.heap.size (w.heap.size + 1) vs ts' ps' V A P vs.length cv lt ca lp cp ⟨IV6, nv6, icv6, IL6, nl6, icl6⟩) ?_ ?_
    · rename_i K1 h1 J1 K2 h2 h3
      generalize Exit.then K2 _ = Q2
      clear h3 h2 J1 K2 h1 K1
      intro i o ho hi a' w' hb hfr hd K hK
      obtain ⟨x0, x1, x2, x3, x4, x5, x6⟩ := box_cells (p := ⟨op, name, sort, n, A, lt, ca, V, vs.length, cv, P, lp, cp⟩) (below_keeps hb HT7.out)
      obtain ⟨y0, y1⟩ := boxI_cells (p := ⟨IV6, nv6, icv6, IL6, nl6, icl6⟩) (below_keeps hb HI7.out)
      have hv3 : a'.tmps.getD 3 undef = .pointer (some ⟨w.heap.size + 1, 0, none⟩) := hfr 3 (by kernel_rfl)
      have hv7 : a'.tmps.getD 7 undef = .pointer (some ⟨w6.heap.size, 0, none⟩) := hfr 7 (by kernel_rfl)
      rw [Array.getD_eq_getD_getElem?] at hv3 hv7
      have HwW : Hid (Below w.heap.size w w') := Lib.hid (H7.out.trans (hb.mono H7.out.size))
      have Hb0 : Hid (Below w0.heap.size w0 w') := Lib.hid (Hb.out.trans (HwW.out.mono Hb.out.size))
      have H6w : Hid (Below w6.heap.size w6 w') := Lib.hid (H67.out.trans (hb.mono H67.out.size))
      have Hbs : Hid ((w6.alloc (.cells #[.slice IV6 nv6 icv6, .slice IL6 nl6 icl6] 64)).drew.heap.size ≤ w'.heap.size) := Lib.hid hb.size
      have HK := Lib.hid hK
      dsimp only at x0 x1 x2 x3 x4 x5 x6 y0 y1
      clear hb hK hfr
      match i, ho with
      | 0, ho => cases ho; clear hd; go_simp; exact HK.out _ _ rfl (Below.refl _ _)
      | 1, ho =>
        cases ho
        have e := hd ⟨0, .data⟩ (by simp) rfl _ _ rfl rfl
        simp only [putSpec, Array.getD_eq_getD_getElem?] at e
        clear hd
        go_simp
        exact HK.out _ _ rfl (Below.refl _ _)
      | 2, ho =>
        cases ho
        have e := hd ⟨1, .data⟩ (by simp) rfl _ _ rfl rfl
        simp only [putSpec, Array.getD_eq_getD_getElem?] at e
        clear hd
        go_simp
        refine Calls.mono (Hcl.out _ Hb0.out) ?_
        rintro e8 w8 ⟨A8, c8, rfl, hc8, hr8, hb8⟩
        exact HK.out _ _ ⟨A8, c8, rfl, hc8, hr8.inc (fromB_less Hbs.out)⟩ hb8
      | 3, ho => cases ho; clear hd; go_simp; exact HK.out _ _ rfl (Below.refl _ _)
      | 4, ho => cases ho; clear hd; go_simp; exact HK.out _ _ rfl (Below.refl _ _)
      | 5, ho =>
        cases ho
        have e := hd ⟨4, .data⟩ (by simp) rfl _ _ rfl rfl
        simp only [putSpec, Array.getD_eq_getD_getElem?] at e
        clear hd
        go_simp
        exact HK.out _ _ rfl (Below.refl _ _)
      | 6, ho =>
        cases ho
        have e := hd ⟨3, .data⟩ (by simp) rfl _ _ rfl rfl
        have e2 := hd ⟨5, .data⟩ (by simp) rfl _ _ rfl rfl
        simp only [putSpec, IParts.arr, Array.getD_eq_getD_getElem?] at e e2
        clear hd
        go_simp
        refine Calls.mono (Hts.out w6 IV6 nv6 icv6 IL6 nl6 icl6 Hi6.out w' Hb0.out H6w.out) ?_
        rintro e9 w9 ⟨A9, n9, c9, rfl, hr9, hb9⟩
        exact HK.out _ _ ⟨A9, n9, c9, rfl, hr9.inc (fromB_less Hbs.out)⟩ hb9
      | 7, ho => cases ho; clear hd; go_simp; exact HK.out _ _ rfl (Below.refl _ _)
      | 8, ho => cases ho; clear hd; go_simp; exact HK.out _ _ rfl (Below.refl _ _)
      | 9, ho =>
        cases ho
        have e := hd ⟨8, .data⟩ (by simp) rfl _ _ rfl rfl
        simp only [putSpec, Array.getD_eq_getD_getElem?] at e
        clear hd
        go_simp
        exact HK.out _ _ rfl (Below.refl _ _)
      | 10, ho =>
        cases ho
        have e := hd ⟨7, .data⟩ (by simp) rfl _ _ rfl rfl
        have e2 := hd ⟨9, .data⟩ (by simp) rfl _ _ rfl rfl
        simp only [putSpec, IParts.arr, Array.getD_eq_getD_getElem?] at e e2
        clear hd
        go_simp
        refine Calls.mono (Hps.out w6 IV6 nv6 icv6 IL6 nl6 icl6 Hi6.out w' Hb0.out H6w.out) ?_
        rintro e9 w9 ⟨A9, n9, c9, rfl, hr9, hb9⟩
        exact HK.out _ _ ⟨A9, n9, c9, rfl, hr9.inc (fromB_less Hbs.out)⟩ hb9
      | 11, ho => cases ho; clear hd; go_simp; exact HK.out _ _ rfl (Below.refl _ _)
      | 12, ho => exact absurd (by simp) hi
      | 13, ho => exact absurd (by simp) hi
      | 15, ho => exact absurd (by simp) hi
      | 14, ho => exact absurd (by simp) hi
      | 16, ho => exact absurd (by simp) hi
      | n + 17, ho => simp at ho
    · rename_i K1 h1 J1 K2 h2 h3
      intro fuel listed a' w' hc hm hall
      obtain ⟨g, ha, hh⟩ := hm.act (ds := [24,25,26,27,28,29,30,31,32,33,34,35]) (by kernel_rfl)
      have hl : listed = #[true,true,true,true,true,true,true,true,true,true,true,true,false,false,false,false,false] := by
        have hs : listed.size = 17 := hm.size
        have n12 := getD_both (hm.rest 12 (by simp))
        have n13 := getD_both (hm.rest 13 (by simp))
        have n15 := getD_both (hm.rest 15 (by simp))
        have n14 := getD_both (hm.rest 14 (by simp))
        have n16 := getD_both (hm.rest 16 (by simp))
        rw [listed_all listed, hs]
        simp only [List.range, List.range.loop, List.map, n12, n13, n14, n15, n16, hall 0 (by simp), hall 1 (by simp), hall 2 (by simp), hall 3 (by simp), hall 4 (by simp), hall 5 (by simp), hall 6 (by simp), hall 7 (by simp), hall 8 (by simp), hall 9 (by simp), hall 10 (by simp), hall 11 (by simp)]
      obtain ⟨A8, c8, e26, hc8, hr8⟩ := hh 2 _ _ (hall 2 (by simp)) rfl rfl
      obtain ⟨A9, n9, c9, e30, hr9⟩ := hh 6 _ _ (hall 6 (by simp)) rfl rfl
      obtain ⟨A10, n10, c10, e34, hr10⟩ := hh 10 _ _ (hall 10 (by simp)) rfl rfl
      have e35 : g 35 = .pointer (some ⟨w.heap.size + 1, 5, none⟩) := hh 11 _ _ (hall 11 (by simp)) rfl rfl
      have hbw := hm.inv
      have HT10 := Lib.hid (below_keeps hbw HT7.out)
      have HZ10 := Lib.hid (below_keeps hbw HZ7.out)
      have H10 : Hid (Below w.heap.size w w') := Lib.hid (H7.out.trans (hbw.mono H7.out.size))
      obtain ⟨xa0, xa1, xa2, xa3, xa4, xa5, xa6⟩ := box_cells HT10.out
      dsimp only at xa0 xa1 xa2 xa3 xa4 xa5 xa6
      have xa7 : ∀ i, w'.frozen? ⟨w.heap.size + 1, i, none⟩ = false := (fun i => by simp [World.frozen?, HT10.out])
      have qkb : w.heap.size + 1 < w'.heap.size := (Array.getElem?_eq_some_iff.1 HT10.out).1
      have Hc8 := Lib.hid hc8
      have Hr8 := Lib.hid hr8
      have Hr9 := Lib.hid hr9
      have Hr10 := Lib.hid hr10
      subst hl
      clear hm hall hh hc8 hr8 hr9 hr10 hbw
      subst ha
      simp only [setAll]
      rw [e26, e30, e34, e35]
      clear e26 e30 e34 e35
      generalize g 24 = g24, g 25 = g25, g 27 = g27, g 28 = g28, g 29 = g29, g 31 = g31, g 32 = g32, g 33 = g33
      simp only [List.setIfInBounds_toArray, List.set_cons_zero, List.set_cons_succ]
      obtain ⟨f, rfl⟩ : ∃ f, fuel = f + 5 := ⟨fuel - 5, by simp at hc; omega⟩
      clear hc
      refine wpAny_ready (rs := [12]) (by kernel_rfl) (by simp) ?_
      refine AllReady.cons rfl (fun K3 hK3 => ?_) AllReady.nil
      go_simp
      refine hK3 _ _ ?_
      clear hK3 K3
      refine wpAny_ready (rs := [13]) (by kernel_rfl) (by simp) ?_
      refine AllReady.cons rfl (fun K3 hK3 => ?_) AllReady.nil
      go_simp
      refine hK3 _ _ ?_
      clear hK3 K3
      refine wpAny_ready (rs := [14]) (by kernel_rfl) (by simp) ?_
      refine AllReady.cons rfl (fun K3 hK3 => ?_) AllReady.nil
      go_simp
      refine hK3 _ _ ?_
      clear hK3 K3
      refine wpAny_ready (rs := [15]) (by kernel_rfl) (by simp) ?_
      refine AllReady.cons rfl (fun K3 hK3 => ?_) AllReady.nil
      go_simp
      refine hK3 _ _ ?_
      clear hK3 K3
      refine wpAny_ready (rs := [16]) (by kernel_rfl) (by simp) ?_
      refine AllReady.cons rfl (fun K3 hK3 => ?_) AllReady.nil
      go_simp
      refine hK3 _ _ (wpAny_done (by kernel_rfl) ?_ _)
      show K2 _ _
      go_wp2_with fail
      go_meet
      exact Lib.hid ⟨A8, c8, A9, n9, c9, A10, n10, c10, _, HW7.out, set3_row HT10.out A8 vs.length c8 A9 n9 c9 A10 n10 c10, (set3_other _ _ _ (by omega)).trans HZ10.out, set3_below H10.out (by omega) _ _ _, put_done Hbd2.out Hc8.out Hr8.out Hr9.out Hr10.out (fun a v ha hv => (set3_cell (k := w.heap.size + 1) (by have := HW7.out; omega)).trans hv)⟩
  case rest =>
    obtain ⟨A8, c8, A9, n9, c9, A10, n10, c10, m, hm, hT, hZ, hB, hTm⟩ := hcut.out
    have Hm := Lib.hid hm
    have HT := Lib.hid hT
    have HZ := Lib.hid hZ
    have HB2 := Lib.hid hB
    have HTm := Lib.hid hTm
    obtain ⟨xa0, xa1, xa2, xa3, xa4, xa5, xa6⟩ := box_cells hT
    obtain ⟨za0, za1, za2, za3, za4, za5, za6⟩ := box_cells hZ
    have za7 : ∀ i, wc.frozen? ⟨w.heap.size + 1 + 1, i, none⟩ = false := (fun i => by simp [World.frozen?, HZ.out])
    clear hcut hm hT hZ hB hTm
    go_wp2_with fail
    refine bodyPost_ret (results_cell_row rfl _ _ (w.heap.size + 1 + 1) 26 (Parts.arr ⟨op, name, sort, n, A9, n9, c9, A8, vs.length, c8, A10, n10, c10⟩) (0, 0) _ rfl (setT_row (p := ⟨op, name, sort, n, A9, n9, c9, A8, vs.length, c8, A10, n10, c10⟩) HZ.out) Tryz.underlying26 rfl size27) rfl ?_
    refine ⟨_, rfl, ?_, setT_below (k := w.heap.size + 1 + 1) HB2.out (by omega) ⟨op, name, sort, n, A9, n9, c9, A8, vs.length, c8, A10, n10, c10⟩⟩
    rw [Htp.out]
    exact HTm.out.inc (inc_setT (k := w.heap.size + 1 + 1) (pp := ⟨op, name, sort, n, A9, n9, c9, A8, vs.length, c8, A10, n10, c10⟩) fun b hb => by
      have := Hm.out
      simp only [decide_eq_true_eq] at hb ⊢
      omega)
end Go.Proofs.YtlgbepamnkfpjaaGreatDoor
