/- How great a term will be. -/
import Derived.Test.YtlgbepamnkfpjaaGreatDoorM13
import Derived.IntWalk
set_option linter.unusedSimpArgs false
set_option linter.unusedVariables false
set_option linter.unusedVariables false
set_option linter.unusedSimpArgs false
namespace Go.Proofs.YtlgbepamnkfpjaaGreatDoor
open Go.RowKit Go.Lib

set_option maxRecDepth 100000 in
set_option maxHeartbeats 4000000 in
theorem isize_any {t : Tm} {v : Value} {w0 : World} (h : TmV w0 t v) {vars : Bd} {l : List Tm} (hok : OkIn vars t) : ∀ (wi : World) (ip : IParts), InsV wi vars l ip → ∀ (most : Nat), most ≤ 1000000 → ∀ w, Below w0.heap.size w0 w → Below wi.heap.size wi w →
    Calls Tryz.prog 33 #[.agg ip.arr, v, .int .i64 most] w (SizeIs w (min (tsize (tput vars l t)) (most + 1))) := by
  induction h with
  | @mk op name sort n ts vs pat A V P ca cv cp f g hbd hl hf hL hv hV hp hg hP ihL _ =>
    intro wi ip hi most hm w hb hbi
    by_cases hy : ∃ y, op = 18 ∧ instOf vars l name = some y
    · obtain ⟨y, h18, hy⟩ := hy
      rw [tput_var h18 hy]
      exact isize_var (p := ⟨op, name, sort, n, A, ts.length, ca, V, vs.length, cv, P, pat.length, cp⟩) hi h18 hy most hm w hbi
    · have hno : op = 18 → instOf vars l name = none := fun h18 => by
        cases h : instOf vars l name with
        | none => rfl
        | some y => exact absurd ⟨y, h18, h⟩ hy
      have Htp : Hid (tsize (tput vars l (.mk op name sort n ts vs pat)) = 1 + psizes vars l ts) := Lib.hid (by rw [tput_not hno]; simp only [tsize, psizes])
      obtain ⟨hc, hsub, _⟩ := hok.sub
      have Hih : Hid (∀ (j : Nat) (t : Tm), ts[j]? = some t → ∀ (wi : World) (ip : IParts), InsV wi vars l ip → ∀ (most : Nat), most ≤ 1000000 → ∀ w, Below w0.heap.size w0 w → Below wi.heap.size wi w → Calls Tryz.prog 33 #[.agg ip.arr, f j, .int .i64 most] w (SizeIs w (min (tsize (tput vars l t)) (most + 1)))) := Lib.hid (fun j t ht => ihL j t ht (hsub j t ht))
      have Hof : Hid (op = 18 → ∀ W, Below wi.heap.size wi W → Calls Tryz.prog 58 #[.agg ip.arr, .string name] W (OfName wi W none)) := Lib.hid (fun h18 W hW => by rw [← hno h18]; exact instOf_any hi hW name)
      have Hin : Hid (∀ W, Below wi.heap.size wi W → Calls Tryz.prog 59 #[.agg ip.arr, .agg (Parts.arr ⟨op, name, sort, n, A, ts.length, ca, V, vs.length, cv, P, pat.length, cp⟩)] W (InnerIs W vars l)) := Lib.hid (fun W hW => inner_any (hi.below hW) hc)
      have HB : Hid (Below w.heap.size w ((w.alloc (.cells ip.arr 64)).alloc (.cells (Parts.arr ⟨op, name, sort, n, A, ts.length, ca, V, vs.length, cv, P, pat.length, cp⟩) 26))) := Lib.hid (((Below.refl _ _).alloc (Nat.le_refl _) _).alloc (by simp) _)
      have HT : Hid (((w.alloc (.cells ip.arr 64)).alloc (.cells (Parts.arr ⟨op, name, sort, n, A, ts.length, ca, V, vs.length, cv, P, pat.length, cp⟩) 26)).heap[w.heap.size + 1]? = some (.cells (Parts.arr ⟨op, name, sort, n, A, ts.length, ca, V, vs.length, cv, P, pat.length, cp⟩) 26 (0, 0))) := Lib.hid (by simpa using heap_alloc_new (w.alloc (.cells ip.arr 64)) (.cells (Parts.arr ⟨op, name, sort, n, A, ts.length, ca, V, vs.length, cv, P, pat.length, cp⟩) 26))
      have HI : Hid (((w.alloc (.cells ip.arr 64)).alloc (.cells (Parts.arr ⟨op, name, sort, n, A, ts.length, ca, V, vs.length, cv, P, pat.length, cp⟩) 26)).heap[w.heap.size]? = some (.cells ip.arr 64 (0, 0))) := Lib.hid (by rw [Below.heap_alloc _ _ _ (by simp)]; exact heap_alloc_new _ _)
      have Hf := Lib.hid hf
      have HL := Lib.hid hL
      have Hb := Lib.hid hb
      have Hbi := Lib.hid hbi
      have hlen := hbd.l
      clear hf ihL hL hP hg hV hb hbd hbi hi hok hc hsub hy hno
      obtain ⟨IV, nv, icv, IL, nl, icl⟩ := ip
      simp only [IParts.arr, Parts.arr] at Hof Hin HB HT HI ⊢
      have h18d : op = 18 ∨ (op == 18) = false := by
        by_cases h : op = 18
        · exact .inl h
        · exact .inr (by simpa using h)
      rcases h18d with h18 | h18
      · subst h18
        go_enter Tryz.func33, Tryz.ntmps33
        go_wp2_with (first
          | (go_at_call 58; refine Calls.mono (Hof.out rfl _ (Hbi.out.trans (HB.out.mono Hbi.out.size))) ?_; rintro e w5 ⟨⟨op5, nm5, so5, n5, A5, la5, ca5, V5, lv5, cv5, P5, lp5, cp5⟩, rfl, hb5, _⟩; unfold Parts.arr; dsimp only [Option.isSome]; have Hb5 : Hid (Below ((w.alloc (.cells #[.slice IV nv icv, .slice IL nl icl] 64)).alloc (.cells #[.int .i64 18, .string name, .int .i64 sort, .string n, .slice A ts.length ca, .slice V vs.length cv, .slice P pat.length cp] 26)).heap.size ((w.alloc (.cells #[.slice IV nv icv, .slice IL nl icl] 64)).alloc (.cells #[.int .i64 18, .string name, .int .i64 sort, .string n, .slice A ts.length ca, .slice V vs.length cv, .slice P pat.length cp] 26)) (w5.alloc (.cells #[.int .i64 op5, .string nm5, .int .i64 so5, .string n5, .slice A5 la5 ca5, .slice V5 lv5 cv5, .slice P5 lp5 cp5] 26))) := Lib.hid (hb5.alloc hb5.size _); obtain ⟨y0, y1⟩ := boxI_cells (p := ⟨IV, nv, icv, IL, nl, icl⟩) (below_keeps Hb5.out HI.out); obtain ⟨x0, x1, x2, x3, x4, x5, x6⟩ := box_cells (p := ⟨18, name, sort, n, A, ts.length, ca, V, vs.length, cv, P, pat.length, cp⟩) (below_keeps Hb5.out HT.out); dsimp only at x0 x1 x2 x3 x4 x5 x6 y0 y1; clear hb5)
          | (go_at_call 59; refine Calls.mono (Hin.out _ (Hbi.out.trans ((HB.out.trans (Hb5.out.mono HB.out.size)).mono Hbi.out.size))) ?_; rintro e w6 ⟨⟨IV6, nv6, icv6, IL6, nl6, icl6⟩, rfl, hi6, hb6⟩; unfold IParts.arr; dsimp only; have Hi6 := Lib.hid hi6; have H6 : Hid (Below w.heap.size w w6) := Lib.hid ((HB.out.trans (Hb5.out.mono HB.out.size)).trans (hb6.mono (HB.out.trans (Hb5.out.mono HB.out.size)).size)); have HT6 := Lib.hid (below_keeps hb6 (below_keeps Hb5.out HT.out)); clear hb6))
        have Hc4 : Hid ((w6.alloc (.cells #[.slice IV6 nv6 icv6, .slice IL6 nl6 icl6] 64)).cell? ⟨w.heap.size + 1, 4, none⟩ = some (.slice A ts.length ca)) := Lib.hid (by rw [row_at (below_keeps ((Below.refl w6.heap.size w6).alloc (Nat.le_refl _) _) HT6.out)]; rfl)
        obtain ⟨W7, hW7⟩ : ∃ W7, W7 = w6.alloc (.cells #[.slice IV6 nv6 icv6, .slice IL6 nl6 icl6] 64) := ⟨_, rfl⟩
        have H67 : Hid (Below w6.heap.size w6 W7) := Lib.hid (by rw [hW7]; exact (Below.refl _ _).alloc (Nat.le_refl _) _)
        have HX7 : Hid (W7.heap[w6.heap.size]? = some (.cells (IParts.arr ⟨IV6, nv6, icv6, IL6, nl6, icl6⟩) 64 (0, 0))) := Lib.hid (by rw [hW7]; exact heap_alloc_new _ _)
        rw [← hW7] at Hc4 ⊢
        clear hW7 HT6
        go_loopw [9, 11] (fun v i wr => ∃ k m : Nat, k ≤ ts.length ∧ i = .int .i64 k ∧ v = .int .i64 m ∧ m ≤ most + 1 ∧ Hid (m = min (1 + psizes vars l (ts.take k)) (most + 1)) ∧ Hid (Below W7.heap.size W7 wr)) (fun _ i _ => ts.length - (intOf i).toNat)
        case atStart => exact ⟨0, 1, Nat.zero_le _, rfl, rfl, by omega, Lib.hid (by simp [psizes, tputs, tsizes]), Lib.hid (Below.refl _ _)⟩
        case round =>
          obtain ⟨k, m, hk, rfl, rfl, hm2, Hm, Hbr⟩ := hrel
          have hc4 := cell_of_below Hbr.out (Nat.le_refl _) Hc4.out
          obtain ⟨y0, y1⟩ := boxI_cells (below_keeps Hbr.out HX7.out)
          dsimp only at y0 y1
          have Hwr : Hid (Below w.heap.size w wr) := Lib.hid (H6.out.trans ((H67.out.trans (Hbr.out.mono H67.out.size)).mono H6.out.size))
          by_cases hlt : k < ts.length
          · by_cases hmm : m ≤ most
            · have Ht : Hid (ts[k]? = some ts[k]) := Lib.hid (List.getElem?_eq_getElem hlt)
              have Hsz := Lib.hid (psizes_take (vars := vars) (l := l) hlt)
              have Hv := Lib.hid (HL.out k _ Ht.out)
              obtain ⟨p, hp⟩ := Hv.out.parts
              have hwr0 : Below w0.heap.size w0 wr := Hb.out.trans (Hwr.out.mono Hb.out.size)
              obtain ⟨b, o, rfl, h0, h1, h2, h3, h4, h5, h6⟩ := (Hf.out.below hwr0).get hlt hp
              have hsub : ((most : Int) - (m : Int)) = ((most - m : Nat) : Int) := by omega
              have Hc : Hid (Calls Tryz.prog 33 #[.agg #[.slice IV6 nv6 icv6, .slice IL6 nl6 icl6], .agg #[.int .i64 p.op, .string p.name, .int .i64 p.sort, .string p.n, .slice p.A p.la p.ca, .slice p.V p.lv p.cv, .slice p.P p.lp p.cp], .int .i64 ((most : Int) - (m : Int))] wr.drew (SizeIs wr.drew (min (tsize (tput vars l ts[k])) (most - m + 1)))) := Lib.hid (by
                have := Hih.out k _ Ht.out w6 ⟨IV6, nv6, icv6, IL6, nl6, icl6⟩ Hi6.out (most - m) (by omega) wr.drew hwr0.drew (H67.out.trans (Hbr.out.mono H67.out.size)).drew
                rw [hp] at this
                rw [hsub]
                exact this)
              clear hsub hp hwr0
              generalize ts[k] = t at *
              obtain ⟨x, hx⟩ : ∃ x, x = min (tsize (tput vars l t)) (most - m + 1) := ⟨_, rfl⟩
              rw [← hx] at Hc
              have hx2 : x ≤ most - m + 1 := by omega
              have Hx := Lib.hid hx
              clear hx
              unfold SizeIs at Hc
              have hw1 : IntKind.i64.wrap ((most : Int) - (m : Int)) = (most : Int) - (m : Int) := IntWalk.i64_in _ (by omega)
              have hw2 : IntKind.i64.wrap ((m : Int) + (x : Int)) = (m : Int) + (x : Int) := IntWalk.i64_in _ (by omega)
              go_wp2_with fail
              go_region_with (go_at_call 33; (with_reducible refine Calls.mono Hc.out ?_); rintro e w8 ⟨rfl, hb8⟩; have H8 : Hid (Below W7.heap.size W7 w8) := Lib.hid (Hbr.out.drew.trans (hb8.mono Hbr.out.size)); clear hb8)
              clear hw1 hw2
              all_goals
                go_wp2_with fail
                go_roundw
                case rel =>
                  refine ⟨k + 1, m + x, by omega, by go_num, by go_num, by omega, Lib.hid ?_, H8⟩
                  have e1 := Hm.out
                  have e2 := Hx.out
                  rw [Hsz.out]
                  omega
                case measure => simp [intOf]; omega
            · have Hr : Hid (min (tsize (tput vars l (.mk 18 name sort n ts vs pat))) (most + 1) = m) := Lib.hid (by
                have e1 := Hm.out
                have e2 := psizes_le vars l ts k
                rw [Htp.out]
                omega)
              go_wp2_with fail
              go_ret
              exact ⟨by rw [Hr.out]; congr 1, Hwr.out⟩
          · have Hr : Hid (min (tsize (tput vars l (.mk 18 name sort n ts vs pat))) (most + 1) = m) := Lib.hid (by
              have e1 := Hm.out
              rw [List.take_of_length_le (by omega)] at e1
              rw [Htp.out]
              omega)
            go_wp2_with fail
            go_ret
            exact ⟨by rw [Hr.out]; congr 1, Hwr.out⟩
      ·
        go_enter Tryz.func33, Tryz.ntmps33
        go_wp2_with (first
          | (go_at_call 59; refine Calls.mono (Hin.out _ (Hbi.out.trans (HB.out.mono Hbi.out.size))) ?_; rintro e w6 ⟨⟨IV6, nv6, icv6, IL6, nl6, icl6⟩, rfl, hi6, hb6⟩; unfold IParts.arr; dsimp only; have Hi6 := Lib.hid hi6; have H6 : Hid (Below w.heap.size w w6) := Lib.hid (HB.out.trans (hb6.mono HB.out.size)); have HT6 := Lib.hid (below_keeps hb6 HT.out); clear hb6))
        have Hc4 : Hid ((w6.alloc (.cells #[.slice IV6 nv6 icv6, .slice IL6 nl6 icl6] 64)).cell? ⟨w.heap.size + 1, 4, none⟩ = some (.slice A ts.length ca)) := Lib.hid (by rw [row_at (below_keeps ((Below.refl w6.heap.size w6).alloc (Nat.le_refl _) _) HT6.out)]; rfl)
        obtain ⟨W7, hW7⟩ : ∃ W7, W7 = w6.alloc (.cells #[.slice IV6 nv6 icv6, .slice IL6 nl6 icl6] 64) := ⟨_, rfl⟩
        have H67 : Hid (Below w6.heap.size w6 W7) := Lib.hid (by rw [hW7]; exact (Below.refl _ _).alloc (Nat.le_refl _) _)
        have HX7 : Hid (W7.heap[w6.heap.size]? = some (.cells (IParts.arr ⟨IV6, nv6, icv6, IL6, nl6, icl6⟩) 64 (0, 0))) := Lib.hid (by rw [hW7]; exact heap_alloc_new _ _)
        rw [← hW7] at Hc4 ⊢
        clear hW7 HT6
        go_loopw [9, 11] (fun v i wr => ∃ k m : Nat, k ≤ ts.length ∧ i = .int .i64 k ∧ v = .int .i64 m ∧ m ≤ most + 1 ∧ Hid (m = min (1 + psizes vars l (ts.take k)) (most + 1)) ∧ Hid (Below W7.heap.size W7 wr)) (fun _ i _ => ts.length - (intOf i).toNat)
        case atStart => exact ⟨0, 1, Nat.zero_le _, rfl, rfl, by omega, Lib.hid (by simp [psizes, tputs, tsizes]), Lib.hid (Below.refl _ _)⟩
        case round =>
          obtain ⟨k, m, hk, rfl, rfl, hm2, Hm, Hbr⟩ := hrel
          have hc4 := cell_of_below Hbr.out (Nat.le_refl _) Hc4.out
          obtain ⟨y0, y1⟩ := boxI_cells (below_keeps Hbr.out HX7.out)
          dsimp only at y0 y1
          have Hwr : Hid (Below w.heap.size w wr) := Lib.hid (H6.out.trans ((H67.out.trans (Hbr.out.mono H67.out.size)).mono H6.out.size))
          by_cases hlt : k < ts.length
          · by_cases hmm : m ≤ most
            · have Ht : Hid (ts[k]? = some ts[k]) := Lib.hid (List.getElem?_eq_getElem hlt)
              have Hsz := Lib.hid (psizes_take (vars := vars) (l := l) hlt)
              have Hv := Lib.hid (HL.out k _ Ht.out)
              obtain ⟨p, hp⟩ := Hv.out.parts
              have hwr0 : Below w0.heap.size w0 wr := Hb.out.trans (Hwr.out.mono Hb.out.size)
              obtain ⟨b, o, rfl, h0, h1, h2, h3, h4, h5, h6⟩ := (Hf.out.below hwr0).get hlt hp
              have hsub : ((most : Int) - (m : Int)) = ((most - m : Nat) : Int) := by omega
              have Hc : Hid (Calls Tryz.prog 33 #[.agg #[.slice IV6 nv6 icv6, .slice IL6 nl6 icl6], .agg #[.int .i64 p.op, .string p.name, .int .i64 p.sort, .string p.n, .slice p.A p.la p.ca, .slice p.V p.lv p.cv, .slice p.P p.lp p.cp], .int .i64 ((most : Int) - (m : Int))] wr.drew (SizeIs wr.drew (min (tsize (tput vars l ts[k])) (most - m + 1)))) := Lib.hid (by
                have := Hih.out k _ Ht.out w6 ⟨IV6, nv6, icv6, IL6, nl6, icl6⟩ Hi6.out (most - m) (by omega) wr.drew hwr0.drew (H67.out.trans (Hbr.out.mono H67.out.size)).drew
                rw [hp] at this
                rw [hsub]
                exact this)
              clear hsub hp hwr0
              generalize ts[k] = t at *
              obtain ⟨x, hx⟩ : ∃ x, x = min (tsize (tput vars l t)) (most - m + 1) := ⟨_, rfl⟩
              rw [← hx] at Hc
              have hx2 : x ≤ most - m + 1 := by omega
              have Hx := Lib.hid hx
              clear hx
              unfold SizeIs at Hc
              have hw1 : IntKind.i64.wrap ((most : Int) - (m : Int)) = (most : Int) - (m : Int) := IntWalk.i64_in _ (by omega)
              have hw2 : IntKind.i64.wrap ((m : Int) + (x : Int)) = (m : Int) + (x : Int) := IntWalk.i64_in _ (by omega)
              go_wp2_with fail
              go_region_with (go_at_call 33; (with_reducible refine Calls.mono Hc.out ?_); rintro e w8 ⟨rfl, hb8⟩; have H8 : Hid (Below W7.heap.size W7 w8) := Lib.hid (Hbr.out.drew.trans (hb8.mono Hbr.out.size)); clear hb8)
              clear hw1 hw2
              all_goals
                go_wp2_with fail
                go_roundw
                case rel =>
                  refine ⟨k + 1, m + x, by omega, by go_num, by go_num, by omega, Lib.hid ?_, H8⟩
                  have e1 := Hm.out
                  have e2 := Hx.out
                  rw [Hsz.out]
                  omega
                case measure => simp [intOf]; omega
            · have Hr : Hid (min (tsize (tput vars l (.mk op name sort n ts vs pat))) (most + 1) = m) := Lib.hid (by
                have e1 := Hm.out
                have e2 := psizes_le vars l ts k
                rw [Htp.out]
                omega)
              go_wp2_with fail
              go_ret
              exact ⟨by rw [Hr.out]; congr 1, Hwr.out⟩
          · have Hr : Hid (min (tsize (tput vars l (.mk op name sort n ts vs pat))) (most + 1) = m) := Lib.hid (by
              have e1 := Hm.out
              rw [List.take_of_length_le (by omega)] at e1
              rw [Htp.out]
              omega)
            go_wp2_with fail
            go_ret
            exact ⟨by rw [Hr.out]; congr 1, Hwr.out⟩
end Go.Proofs.YtlgbepamnkfpjaaGreatDoor

/- How deep a term will be. -/
set_option linter.unusedVariables false
set_option linter.unusedSimpArgs false
namespace Go.Proofs.YtlgbepamnkfpjaaGreatDoor
open Go.RowKit Go.Lib

def DeepIs (w : World) (b : Bool) (e : Ending) (w' : World) : Prop := e = .returned (.bool b) ∧ Below w.heap.size w w'
set_option maxRecDepth 100000 in
set_option maxHeartbeats 2000000 in
theorem ideeper_var {w0 : World} {vars : Bd} {l : List Tm} {ip : IParts} (hi : InsV w0 vars l ip) {p : Parts} {y : Tm} (h18 : p.op = 18) (hy : instOf vars l p.name = some y) (most : Nat) (hm : most ≤ 1000000) (w : World) (hb : Below w0.heap.size w0 w) :
    Calls Tryz.prog 34 #[.agg ip.arr, .agg p.arr, .int .i64 most] w (DeepIs w (decide (most < tdepth y))) := by
  have HB : Hid (Below w.heap.size w (((w.alloc (.cells ip.arr 64)).alloc (.cells p.arr 26)).alloc (.cells #[.int .i64 most] 3))) := Lib.hid ((((Below.refl _ _).alloc (Nat.le_refl _) _).alloc (by simp) _).alloc (by simp; omega) _)
  have HM : Hid ((((w.alloc (.cells ip.arr 64)).alloc (.cells p.arr 26)).alloc (.cells #[.int .i64 most] 3)).heap[w.heap.size + 1 + 1]? = some (.cells #[.int .i64 most] 3 (0, 0))) := Lib.hid (by simpa using heap_alloc_new ((w.alloc (.cells ip.arr 64)).alloc (.cells p.arr 26)) (.cells #[.int .i64 most] 3))
  have Hof : Hid (Calls Tryz.prog 58 #[.agg ip.arr, .string p.name] (((w.alloc (.cells ip.arr 64)).alloc (.cells p.arr 26)).alloc (.cells #[.int .i64 most] 3)) (OfName w0 (((w.alloc (.cells ip.arr 64)).alloc (.cells p.arr 26)).alloc (.cells #[.int .i64 most] 3)) (some y))) := Lib.hid (by
    rw [← hy]
    exact instOf_any hi (hb.trans (HB.out.mono hb.size)) p.name)
  have Hsz : Hid (∀ (pp : Parts) (W : World), TmV w0 y (.agg pp.arr) → Below w0.heap.size w0 W → Calls Tryz.prog 21 #[.agg pp.arr, .int .i64 most] W (DeepIs W (decide (most < tdepth y)))) := Lib.hid (fun pp W h hW => deeper_any h most hm W hW)
  have Hb := Lib.hid hb
  obtain ⟨V, nv, cv, L, nl, cl⟩ := ip
  obtain ⟨op, nm, so, n, A, la, ca, V2, lv, cvv, P, lp, cp⟩ := p
  dsimp only at h18
  subst h18
  clear hi hy hb
  simp only [IParts.arr, Parts.arr] at HB Hof HM ⊢
  go_enter Tryz.func34, Tryz.ntmps34
  go_wp2_with (first
    | (go_at_call 58; refine Calls.mono Hof.out ?_; rintro e w5 ⟨⟨op5, nm5, so5, n5, A5, la5, ca5, V5, lv5, cv5, P5, lp5, cp5⟩, rfl, hb5, ht5⟩; unfold Parts.arr; dsimp only [Option.isSome]; have Ht5 := Lib.hid (ht5 y rfl); have H5 : Hid (Below w.heap.size w w5) := Lib.hid (HB.out.trans (hb5.mono HB.out.size)); obtain ⟨m0, _⟩ := row1 (below_keeps (hb5.alloc hb5.size (.cells #[.int .i64 op5, .string nm5, .int .i64 so5, .string n5, .slice A5 la5 ca5, .slice V5 lv5 cv5, .slice P5 lp5 cp5] 26)) HM.out); clear hb5 ht5)
    | (go_at_call 21; refine Calls.mono (Hsz.out ⟨op5, nm5, so5, n5, A5, la5, ca5, V5, lv5, cv5, P5, lp5, cp5⟩ _ Ht5.out ((Hb.out.trans (H5.out.mono Hb.out.size)).alloc (by have := Hb.out.size; have := H5.out.size; omega) _)) ?_; rintro e w6 ⟨rfl, hb6⟩; have H6 : Hid (Below w.heap.size w w6) := Lib.hid ((H5.out.alloc H5.out.size _).trans (hb6.mono (by have := H5.out.size; simp; omega))); clear hb6))
  go_ret
  exact ⟨rfl, H6.out⟩
/-- The closure: one deeper. -/
theorem ideeper1_any {w : World} {p : Parts} {ip : IParts} {q0 q1 : Nat} {most : Int} {b : Bool} (h1 : 1 ≤ most) (h2 : most ≤ 1000000) (hq0 : w.heap[q0]? = some (.cells ip.arr 64 (0, 0))) (hq1 : w.cell? ⟨q1, 0, none⟩ = some (.int .i64 most))
    (hc : Calls Tryz.prog 34 #[.agg ip.arr, .agg p.arr, .int .i64 (most - 1)] (boxT w p) (DeepIs (boxT w p) b)) :
    Calls Tryz.prog 60 #[.agg p.arr, .pointer (some ⟨q0, 0, none⟩), .pointer (some ⟨q1, 0, none⟩)] w fun e w'' => e = .returned (.bool b) ∧ Below w.heap.size w w'' := by
  have Hc := Lib.hid hc
  obtain ⟨a0, a1⟩ := boxI_cells hq0
  have g0 := World.block_lt_of_cell? w _ a0
  have g1 := World.block_lt_of_cell? w _ hq1
  dsimp only at g0 g1
  clear hc hq0
  obtain ⟨V, nv, cv, L, nl, cl⟩ := ip
  dsimp only at a0 a1
  simp only [IParts.arr] at Hc
  show Calls Tryz.prog 60 #[.agg #[.int .i64 p.op, .string p.name, .int .i64 p.sort, .string p.n, .slice p.A p.la p.ca, .slice p.V p.lv p.cv, .slice p.P p.lp p.cp], .pointer (some ⟨q0, 0, none⟩), .pointer (some ⟨q1, 0, none⟩)] w _
  have HW : Hid (boxT w p = w.alloc (.cells #[.int .i64 p.op, .string p.name, .int .i64 p.sort, .string p.n, .slice p.A p.la p.ca, .slice p.V p.lv p.cv, .slice p.P p.lp p.cp] 26)) := Lib.hid rfl
  go_enter Tryz.func60, Tryz.ntmps60
  go_wp2_with (go_at_call 34; rw [← HW.out]; refine Calls.mono Hc.out ?_; rintro e w3 ⟨rfl, hb3⟩; have Hb3 := Lib.hid hb3; clear hb3)
  go_ret
  exact ⟨rfl, (below_boxT w p).trans (Hb3.out.mono (by rw [boxT_size]; omega))⟩
end Go.Proofs.YtlgbepamnkfpjaaGreatDoor

/- .. whole. -/
set_option linter.unusedVariables false
set_option linter.unusedSimpArgs false
namespace Go.Proofs.YtlgbepamnkfpjaaGreatDoor
open Go.RowKit Go.Lib

theorem anyTo_put (vars : Bd) (l ts : List Tm) (m : Nat) : anyTo (at? ts fun t => decide (m < tdepth (tput vars l t))) ts.length = decide (m < tdepths (tputs vars l ts)) := by
  rw [anyTo_at, ← anyTo_deeper, tputs_map, List.any_map]
  rfl
set_option maxRecDepth 100000 in
set_option maxHeartbeats 2000000 in
theorem ideeper_any {t : Tm} {v : Value} {w0 : World} (h : TmV w0 t v) {vars : Bd} {l : List Tm} (hok : OkIn vars t) : ∀ (wi : World) (ip : IParts), InsV wi vars l ip → ∀ (most : Nat), most ≤ 1000000 → ∀ w, Below w0.heap.size w0 w → Below wi.heap.size wi w →
    Calls Tryz.prog 34 #[.agg ip.arr, v, .int .i64 most] w (DeepIs w (decide (most < tdepth (tput vars l t)))) := by
  induction h with
  | @mk op name sort n ts vs pat A V P ca cv cp f g hbd hl hf hL hv hV hp hg hP ihL _ =>
    intro wi ip hi most hm w hb hbi
    by_cases hy : ∃ y, op = 18 ∧ instOf vars l name = some y
    · obtain ⟨y, h18, hy⟩ := hy
      rw [tput_var h18 hy]
      exact ideeper_var (p := ⟨op, name, sort, n, A, ts.length, ca, V, vs.length, cv, P, pat.length, cp⟩) hi h18 hy most hm w hbi
    · have hno : op = 18 → instOf vars l name = none := fun h18 => by
        cases h : instOf vars l name with
        | none => rfl
        | some y => exact absurd ⟨y, h18, h⟩ hy
      have Htp : Hid (tdepth (tput vars l (.mk op name sort n ts vs pat)) = tdepths (tputs vars l ts) + 1) := Lib.hid (by rw [tput_not hno]; simp only [tdepth])
      obtain ⟨hc, hsub, _⟩ := hok.sub
      have Hih : Hid (∀ (j : Nat) (t : Tm), ts[j]? = some t → ∀ (wi : World) (ip : IParts), InsV wi vars l ip → ∀ (most : Nat), most ≤ 1000000 → ∀ w, Below w0.heap.size w0 w → Below wi.heap.size wi w → Calls Tryz.prog 34 #[.agg ip.arr, f j, .int .i64 most] w (DeepIs w (decide (most < tdepth (tput vars l t))))) := Lib.hid (fun j t ht => ihL j t ht (hsub j t ht))
      have Hof : Hid (op = 18 → ∀ W, Below wi.heap.size wi W → Calls Tryz.prog 58 #[.agg ip.arr, .string name] W (OfName wi W none)) := Lib.hid (fun h18 W hW => by rw [← hno h18]; exact instOf_any hi hW name)
      have Hin : Hid (∀ W, Below wi.heap.size wi W → Calls Tryz.prog 59 #[.agg ip.arr, .agg (Parts.arr ⟨op, name, sort, n, A, ts.length, ca, V, vs.length, cv, P, pat.length, cp⟩)] W (InnerIs W vars l)) := Lib.hid (fun W hW => inner_any (hi.below hW) hc)
      obtain ⟨W1, hW1⟩ : ∃ W1, W1 = ((w.alloc (.cells ip.arr 64)).alloc (.cells (Parts.arr ⟨op, name, sort, n, A, ts.length, ca, V, vs.length, cv, P, pat.length, cp⟩) 26)).alloc (.cells #[.int .i64 most] 3) := ⟨_, rfl⟩
      have HB : Hid (Below w.heap.size w W1) := Lib.hid (by rw [hW1]; exact (((Below.refl _ _).alloc (Nat.le_refl _) _).alloc (by simp) _).alloc (by simp; omega) _)
      have HT : Hid (W1.heap[w.heap.size + 1]? = some (.cells (Parts.arr ⟨op, name, sort, n, A, ts.length, ca, V, vs.length, cv, P, pat.length, cp⟩) 26 (0, 0))) := Lib.hid (by rw [hW1, Below.heap_alloc _ _ _ (by simp)]; simpa using heap_alloc_new (w.alloc (.cells ip.arr 64)) (.cells (Parts.arr ⟨op, name, sort, n, A, ts.length, ca, V, vs.length, cv, P, pat.length, cp⟩) 26))
      have HI : Hid (W1.heap[w.heap.size]? = some (.cells ip.arr 64 (0, 0))) := Lib.hid (by rw [hW1, Below.heap_alloc _ _ _ (by simp; omega), Below.heap_alloc _ _ _ (by simp)]; exact heap_alloc_new _ _)
      have HM : Hid (W1.heap[w.heap.size + 1 + 1]? = some (.cells #[.int .i64 most] 3 (0, 0))) := Lib.hid (by rw [hW1]; simpa using heap_alloc_new ((w.alloc (.cells ip.arr 64)).alloc (.cells (Parts.arr ⟨op, name, sort, n, A, ts.length, ca, V, vs.length, cv, P, pat.length, cp⟩) 26)) (.cells #[.int .i64 most] 3))
      have Hf := Lib.hid hf
      have HL := Lib.hid hL
      have Hb := Lib.hid hb
      have Hbi := Lib.hid hbi
      have hlen := hbd.l
      clear hf ihL hL hP hg hV hb hbd hbi hi hok hc hsub hy hno
      obtain ⟨IV, nv, icv, IL, nl, icl⟩ := ip
      simp only [IParts.arr, Parts.arr] at Hof Hin HT HI hW1 ⊢
      have HW1 := Lib.hid hW1
      clear hW1
      have h18d : op = 18 ∨ (op == 18) = false := by
        by_cases h : op = 18
        · exact .inl h
        · exact .inr (by simpa using h)
      rcases h18d with h18 | h18
      · subst h18
        by_cases h1 : most < 1
        · have h10 : (most : Int) < 1 := by omega
          have Hr : Hid (decide (most < tdepth (tput vars l (.mk 18 name sort n ts vs pat))) = true) := Lib.hid (by rw [Htp.out]; simp; omega)
          go_enter Tryz.func34, Tryz.ntmps34
          go_wp2_with (first
            | (go_at_call 58; rw [← HW1.out]; refine Calls.mono (Hof.out rfl _ (Hbi.out.trans (HB.out.mono Hbi.out.size))) ?_; rintro e w5 ⟨⟨op5, nm5, so5, n5, A5, la5, ca5, V5, lv5, cv5, P5, lp5, cp5⟩, rfl, hb5, _⟩; unfold Parts.arr; dsimp only [Option.isSome]; have Hb5 : Hid (Below W1.heap.size W1 (w5.alloc (.cells #[.int .i64 op5, .string nm5, .int .i64 so5, .string n5, .slice A5 la5 ca5, .slice V5 lv5 cv5, .slice P5 lp5 cp5] 26))) := Lib.hid (hb5.alloc hb5.size _); obtain ⟨y0, y1⟩ := boxI_cells (p := ⟨IV, nv, icv, IL, nl, icl⟩) (below_keeps Hb5.out HI.out); obtain ⟨x0, x1, x2, x3, x4, x5, x6⟩ := box_cells (p := ⟨18, name, sort, n, A, ts.length, ca, V, vs.length, cv, P, pat.length, cp⟩) (below_keeps Hb5.out HT.out); dsimp only at x0 x1 x2 x3 x4 x5 x6 y0 y1; clear hb5)
            | (go_at_call 59; refine Calls.mono (Hin.out _ (Hbi.out.trans (((HB.out.trans (Hb5.out.mono HB.out.size))).mono Hbi.out.size))) ?_; rintro e w6 ⟨⟨IV6, nv6, icv6, IL6, nl6, icl6⟩, rfl, hi6, hb6⟩; unfold IParts.arr; dsimp only; have Hi6 := Lib.hid hi6; have Hb56 := Lib.hid hb6; have H6 : Hid (Below w.heap.size w w6) := Lib.hid ((HB.out.trans (Hb5.out.mono HB.out.size)).trans (hb6.mono ((HB.out.trans (Hb5.out.mono HB.out.size))).size)); obtain ⟨m0, _⟩ := row1 (below_keeps (hb6.alloc hb6.size (.cells #[.slice IV6 nv6 icv6, .slice IL6 nl6 icl6] 64)) (below_keeps Hb5.out HM.out)); have t4 : (w6.alloc (.cells #[.slice IV6 nv6 icv6, .slice IL6 nl6 icl6] 64)).cell? ⟨w.heap.size + 1, 4, none⟩ = some (.slice A ts.length ca) := (by rw [row_at (below_keeps (hb6.alloc hb6.size (.cells #[.slice IV6 nv6 icv6, .slice IL6 nl6 icl6] 64)) (below_keeps Hb5.out HT.out))]; rfl); clear hb6))
          go_ret
          exact ⟨by rw [Hr.out]; rfl, H6.out.alloc H6.out.size _⟩
        · have h10 : ¬ (most : Int) < 1 := by omega
          have Hr : Hid (anyTo (at? ts fun t => decide (most - 1 < tdepth (tput vars l t))) ts.length = decide (most < tdepth (tput vars l (.mk 18 name sort n ts vs pat)))) := Lib.hid (by
            rw [anyTo_put, Htp.out]
            simp
            omega)
          go_enter Tryz.func34, Tryz.ntmps34
          go_wp2_with (first
            | (go_at_call 58; rw [← HW1.out]; refine Calls.mono (Hof.out rfl _ (Hbi.out.trans (HB.out.mono Hbi.out.size))) ?_; rintro e w5 ⟨⟨op5, nm5, so5, n5, A5, la5, ca5, V5, lv5, cv5, P5, lp5, cp5⟩, rfl, hb5, _⟩; unfold Parts.arr; dsimp only [Option.isSome]; have Hb5 : Hid (Below W1.heap.size W1 (w5.alloc (.cells #[.int .i64 op5, .string nm5, .int .i64 so5, .string n5, .slice A5 la5 ca5, .slice V5 lv5 cv5, .slice P5 lp5 cp5] 26))) := Lib.hid (hb5.alloc hb5.size _); obtain ⟨y0, y1⟩ := boxI_cells (p := ⟨IV, nv, icv, IL, nl, icl⟩) (below_keeps Hb5.out HI.out); obtain ⟨x0, x1, x2, x3, x4, x5, x6⟩ := box_cells (p := ⟨18, name, sort, n, A, ts.length, ca, V, vs.length, cv, P, pat.length, cp⟩) (below_keeps Hb5.out HT.out); dsimp only at x0 x1 x2 x3 x4 x5 x6 y0 y1; clear hb5)
            | (go_at_call 59; refine Calls.mono (Hin.out _ (Hbi.out.trans (((HB.out.trans (Hb5.out.mono HB.out.size))).mono Hbi.out.size))) ?_; rintro e w6 ⟨⟨IV6, nv6, icv6, IL6, nl6, icl6⟩, rfl, hi6, hb6⟩; unfold IParts.arr; dsimp only; have Hi6 := Lib.hid hi6; have Hb56 := Lib.hid hb6; have H6 : Hid (Below w.heap.size w w6) := Lib.hid ((HB.out.trans (Hb5.out.mono HB.out.size)).trans (hb6.mono ((HB.out.trans (Hb5.out.mono HB.out.size))).size)); obtain ⟨m0, _⟩ := row1 (below_keeps (hb6.alloc hb6.size (.cells #[.slice IV6 nv6 icv6, .slice IL6 nl6 icl6] 64)) (below_keeps Hb5.out HM.out)); have t4 : (w6.alloc (.cells #[.slice IV6 nv6 icv6, .slice IL6 nl6 icl6] 64)).cell? ⟨w.heap.size + 1, 4, none⟩ = some (.slice A ts.length ca) := (by rw [row_at (below_keeps (hb6.alloc hb6.size (.cells #[.slice IV6 nv6 icv6, .slice IL6 nl6 icl6] 64)) (below_keeps Hb5.out HT.out))]; rfl); clear hb6)
            | (go_at_call 42; refine Calls.mono (instDeeperF_contains (q := at? ts fun t => decide (most - 1 < tdepth (tput vars l t))) w6.heap.size (w.heap.size + 1 + 1) hlen (Hf.out.below (Hb.out.trans ((H6.out.alloc H6.out.size _).mono Hb.out.size))) (fun j hj => (HL.out j _ (List.getElem?_eq_getElem hj)).parts) (fun j hj w2 hw2 => by
                have ht : ts[j]? = some ts[j] := List.getElem?_eq_getElem hj
                obtain ⟨p, hpp⟩ := (HL.out j _ ht).parts
                have b1 : Below w.heap.size w w2 := (H6.out.alloc H6.out.size _).trans (hw2.mono (by have := H6.out.size; simp; omega))
                have b2 : Below w6.heap.size w6 w2 := ((Below.refl w6.heap.size w6).alloc (Nat.le_refl _) _).trans (hw2.mono (by simp))
                have hcm : w2.cell? ⟨w.heap.size + 1 + 1, 0, none⟩ = some (.int .i64 most) := cell_of_below hw2 (Nat.le_refl _) m0
                have hi := Hih.out j _ ht w6 ⟨IV6, nv6, icv6, IL6, nl6, icl6⟩ Hi6.out (most - 1) (by omega) (boxT w2 p) (Hb.out.trans ((b1.trans ((below_boxT w2 p).mono b1.size)).mono Hb.out.size)) (b2.trans ((below_boxT w2 p).mono b2.size))
                rw [hpp] at hi ⊢
                have hs : ((most - 1 : Nat) : Int) = (most : Int) - 1 := by omega
                rw [hs] at hi
                have hq : at? ts (fun t => decide (most - 1 < tdepth (tput vars l t))) j = decide (most - 1 < tdepth (tput vars l ts[j])) := by rw [at?, ht]
                rw [hq]
                exact ideeper1_any (ip := ⟨IV6, nv6, icv6, IL6, nl6, icl6⟩) (by omega) (by omega) (below_keeps hw2 (heap_alloc_new w6 _)) hcm hi)) ?_; rintro e w8 ⟨rfl, hb8⟩; have H8 : Hid (Below w.heap.size w w8) := Lib.hid ((H6.out.alloc H6.out.size _).trans (hb8.mono (by have := H6.out.size; simp; omega))); clear hb8))
          go_ret
          exact ⟨by rw [← Hr.out]; rfl, H8.out⟩
      ·
        by_cases h1 : most < 1
        · have h10 : (most : Int) < 1 := by omega
          have Hr : Hid (decide (most < tdepth (tput vars l (.mk op name sort n ts vs pat))) = true) := Lib.hid (by rw [Htp.out]; simp; omega)
          go_enter Tryz.func34, Tryz.ntmps34
          go_wp2_with (first
            | (go_at_call 59; rw [← HW1.out]; refine Calls.mono (Hin.out _ (Hbi.out.trans ((HB.out).mono Hbi.out.size))) ?_; rintro e w6 ⟨⟨IV6, nv6, icv6, IL6, nl6, icl6⟩, rfl, hi6, hb6⟩; unfold IParts.arr; dsimp only; have Hi6 := Lib.hid hi6; have Hb56 := Lib.hid hb6; have H6 : Hid (Below w.heap.size w w6) := Lib.hid (HB.out.trans (hb6.mono (HB.out).size)); obtain ⟨m0, _⟩ := row1 (below_keeps (hb6.alloc hb6.size (.cells #[.slice IV6 nv6 icv6, .slice IL6 nl6 icl6] 64)) HM.out); have t4 : (w6.alloc (.cells #[.slice IV6 nv6 icv6, .slice IL6 nl6 icl6] 64)).cell? ⟨w.heap.size + 1, 4, none⟩ = some (.slice A ts.length ca) := (by rw [row_at (below_keeps (hb6.alloc hb6.size (.cells #[.slice IV6 nv6 icv6, .slice IL6 nl6 icl6] 64)) HT.out)]; rfl); clear hb6))
          go_ret
          exact ⟨by rw [Hr.out]; rfl, H6.out.alloc H6.out.size _⟩
        · have h10 : ¬ (most : Int) < 1 := by omega
          have Hr : Hid (anyTo (at? ts fun t => decide (most - 1 < tdepth (tput vars l t))) ts.length = decide (most < tdepth (tput vars l (.mk op name sort n ts vs pat)))) := Lib.hid (by
            rw [anyTo_put, Htp.out]
            simp
            omega)
          go_enter Tryz.func34, Tryz.ntmps34
          go_wp2_with (first
            | (go_at_call 59; rw [← HW1.out]; refine Calls.mono (Hin.out _ (Hbi.out.trans ((HB.out).mono Hbi.out.size))) ?_; rintro e w6 ⟨⟨IV6, nv6, icv6, IL6, nl6, icl6⟩, rfl, hi6, hb6⟩; unfold IParts.arr; dsimp only; have Hi6 := Lib.hid hi6; have Hb56 := Lib.hid hb6; have H6 : Hid (Below w.heap.size w w6) := Lib.hid (HB.out.trans (hb6.mono (HB.out).size)); obtain ⟨m0, _⟩ := row1 (below_keeps (hb6.alloc hb6.size (.cells #[.slice IV6 nv6 icv6, .slice IL6 nl6 icl6] 64)) HM.out); have t4 : (w6.alloc (.cells #[.slice IV6 nv6 icv6, .slice IL6 nl6 icl6] 64)).cell? ⟨w.heap.size + 1, 4, none⟩ = some (.slice A ts.length ca) := (by rw [row_at (below_keeps (hb6.alloc hb6.size (.cells #[.slice IV6 nv6 icv6, .slice IL6 nl6 icl6] 64)) HT.out)]; rfl); clear hb6)
            | (go_at_call 42; refine Calls.mono (instDeeperF_contains (q := at? ts fun t => decide (most - 1 < tdepth (tput vars l t))) w6.heap.size (w.heap.size + 1 + 1) hlen (Hf.out.below (Hb.out.trans ((H6.out.alloc H6.out.size _).mono Hb.out.size))) (fun j hj => (HL.out j _ (List.getElem?_eq_getElem hj)).parts) (fun j hj w2 hw2 => by
                have ht : ts[j]? = some ts[j] := List.getElem?_eq_getElem hj
                obtain ⟨p, hpp⟩ := (HL.out j _ ht).parts
                have b1 : Below w.heap.size w w2 := (H6.out.alloc H6.out.size _).trans (hw2.mono (by have := H6.out.size; simp; omega))
                have b2 : Below w6.heap.size w6 w2 := ((Below.refl w6.heap.size w6).alloc (Nat.le_refl _) _).trans (hw2.mono (by simp))
                have hcm : w2.cell? ⟨w.heap.size + 1 + 1, 0, none⟩ = some (.int .i64 most) := cell_of_below hw2 (Nat.le_refl _) m0
                have hi := Hih.out j _ ht w6 ⟨IV6, nv6, icv6, IL6, nl6, icl6⟩ Hi6.out (most - 1) (by omega) (boxT w2 p) (Hb.out.trans ((b1.trans ((below_boxT w2 p).mono b1.size)).mono Hb.out.size)) (b2.trans ((below_boxT w2 p).mono b2.size))
                rw [hpp] at hi ⊢
                have hs : ((most - 1 : Nat) : Int) = (most : Int) - 1 := by omega
                rw [hs] at hi
                have hq : at? ts (fun t => decide (most - 1 < tdepth (tput vars l t))) j = decide (most - 1 < tdepth (tput vars l ts[j])) := by rw [at?, ht]
                rw [hq]
                exact ideeper1_any (ip := ⟨IV6, nv6, icv6, IL6, nl6, icl6⟩) (by omega) (by omega) (below_keeps hw2 (heap_alloc_new w6 _)) hcm hi)) ?_; rintro e w8 ⟨rfl, hb8⟩; have H8 : Hid (Below w.heap.size w w8) := Lib.hid ((H6.out.alloc H6.out.size _).trans (hb8.mono (by have := H6.out.size; simp; omega))); clear hb8))
          go_ret
          exact ⟨by rw [← Hr.out]; rfl, H8.out⟩
end Go.Proofs.YtlgbepamnkfpjaaGreatDoor

/- Terms that lie in some blocks alone. -/
set_option linter.unusedVariables false
set_option linter.unusedSimpArgs false
namespace Go.Proofs.YtlgbepamnkfpjaaGreatDoor
open Go.RowKit Go.Lib

/-- The world with some blocks' cells alone. -/
def only (w : World) (p : Nat → Bool) : World := { w with heap := w.heap.mapIdx fun i o => if p i then o else .stringIter ⟨#[]⟩ 0 }
theorem only_cell (w : World) (p : Nat → Bool) (a : Addr) : (only w p).cell? a = if p a.block then w.cell? a else none := by
  unfold only World.cell?
  simp only [Array.getElem?_mapIdx]
  cases h : w.heap[a.block]? with
  | none => simp
  | some o =>
    simp only [Option.map_some]
    cases hp : p a.block <;> simp
/-- What is told of cells in one world holds in the other. -/
def Inc (w w' : World) : Prop := ∀ a v, w.cell? a = some v → w'.cell? a = some v
theorem Inc.trans {a b c : World} (h : Inc a b) (k : Inc b c) : Inc a c := fun x v hx => k x v (h x v hx)
theorem inc_below {w w' : World} (h : Below w.heap.size w w') : Inc w w' := fun a v hv => cell_of_below h (Nat.le_refl _) hv
theorem inc_only (w : World) (p : Nat → Bool) : Inc (only w p) w := fun a v hv => by
  rw [only_cell] at hv
  split at hv
  · exact hv
  · cases hv
theorem only_inc {w w' : World} {p q : Nat → Bool} (h : ∀ a v, p a.block = true → w.cell? a = some v → q a.block = true ∧ w'.cell? a = some v) : Inc (only w p) (only w' q) := fun a v hv => by
  rw [only_cell] at hv ⊢
  split at hv
  · rename_i hp
    obtain ⟨h1, h2⟩ := h a v hp hv
    rw [if_pos h1]
    exact h2
  · cases hv
theorem only_below {w w' : World} {p : Nat → Bool} (h : Below w.heap.size w w') : Inc (only w p) (only w' p) := only_inc fun a v hp hv => ⟨hp, cell_of_below h (Nat.le_refl _) hv⟩
theorem RowCells.inc {w w' : World} {A : Option Addr} {k n : Nat} {f : Nat → Value} (h : RowCells w A k n f) (hb : Inc w w') : RowCells w' A k n f := by
  rcases h with h | ⟨b, o, hA, h⟩
  · exact .inl h
  · refine .inr ⟨b, o, hA, fun j hj => ⟨(h j hj).1, fun i hi => ?_⟩⟩
    have h1 := (h j hj).2 i hi
    have h2 : (f j).cells[i]? = some ((f j).cells[i]'(by rw [(h j hj).1]; exact hi)) := Array.getElem?_eq_getElem _
    rw [h2] at h1 ⊢
    exact hb _ _ h1
theorem TmV.inc {w w' : World} {t : Tm} {v : Value} (h : TmV w t v) (hb : Inc w w') : TmV w' t v := by
  induction h with
  | mk f g hbd hl hf _ hv hV hp hg _ ihL ihP => exact .mk f g hbd hl (hf.inc hb) ihL hv (hV.inc hb) hp (hg.inc hb) ihP
/-- A slice of terms, all of it in some blocks. -/
structure TmsV (w : World) (ts : List Tm) (A : Option Addr) (n c : Nat) : Prop where
  len : n = ts.length
  cap : n ≤ c
  row : ∃ f, RowCells w A 7 ts.length f ∧ ∀ (j : Nat) (t : Tm), ts[j]? = some t → TmV w t (f j)
theorem TmsV.inc {w w' : World} {ts : List Tm} {A : Option Addr} {n c : Nat} (h : TmsV w ts A n c) (hb : Inc w w') : TmsV w' ts A n c := by
  obtain ⟨h1, h2, f, h3, h4⟩ := h
  exact ⟨h1, h2, f, h3.inc hb, fun j t hj => (h4 j t hj).inc hb⟩
def PutIs (w : World) (t : Tm) (e : Ending) (w' : World) : Prop := ∃ pp : Parts, e = .returned (.agg pp.arr) ∧ TmV (only w' fun b => decide (w.heap.size ≤ b)) t (.agg pp.arr) ∧ Below w.heap.size w w'
def PutsIs (w : World) (ts : List Tm) (e : Ending) (w' : World) : Prop := ∃ A n c, e = .returned (.slice A n c) ∧ TmsV (only w' fun b => decide (w.heap.size ≤ b)) ts A n c ∧ Below w.heap.size w w'

/-- The cells of elements, one after the other. -/
def cellsOf (us : List Value) : List Value := us.flatMap fun u => u.cells.toList
theorem cellsOf_length {us : List Value} {k : Nat} (h : ∀ u ∈ us, u.cells.size = k) : (cellsOf us).length = us.length * k := by
  induction us with
  | nil => simp [cellsOf]
  | cons u us ih =>
    have h1 := h u (by simp)
    have h2 := ih fun v hv => h v (by simp [hv])
    simp only [cellsOf, List.flatMap_cons, List.length_append, Array.length_toList, List.length_cons] at h2 ⊢
    rw [h1, h2, Nat.succ_mul]
    omega
theorem cellsOf_get {us : List Value} {k : Nat} (h : ∀ u ∈ us, u.cells.size = k) {j : Nat} (hj : j < us.length) {i : Nat} (hi : i < k) : (cellsOf us)[j * k + i]? = (us[j]).cells[i]? := by
  induction us generalizing j with
  | nil => simp at hj
  | cons u us ih =>
    have h1 := h u (by simp)
    have h2 := fun hj => ih (fun v hv => h v (by simp [hv])) (j := j - 1) hj
    cases j with
    | zero =>
      simp only [cellsOf, List.flatMap_cons, Nat.zero_mul, Nat.zero_add, List.getElem_cons_zero]
      rw [List.getElem?_append_left (by simp [h1]; exact hi)]
      simp
    | succ j =>
      simp only [List.length_cons] at hj
      have h3 := h2 (by omega)
      simp only [Nat.add_sub_cancel] at h3
      simp only [cellsOf, List.flatMap_cons, List.getElem_cons_succ] at h3 ⊢
      rw [List.getElem?_append_right (by simp [h1]; rw [Nat.succ_mul]; omega)]
      have : (j + 1) * k + i - u.cells.toList.length = j * k + i := by simp [h1]; rw [Nat.succ_mul]; omega
      rw [this]
      exact h3
theorem ownsRow_cells {w : World} {base : Nat} {e : TypeId} {k : Nat} {A : Option Addr} {n c : Nat} {us : List Value} (h : w.ownsRow base e k (.slice A n c) n (cellsOf us)) (hu : ∀ u ∈ us, u.cells.size = k) (hn : us.length = n) (hk : 0 < k) :
    RowCells w A k n (fun j => us.getD j .nilFunc) ∧ n ≤ c ∧ (∀ b o, A = some ⟨b, o, none⟩ → base ≤ b) := by
  rcases h.2 with ⟨hv, h0⟩ | ⟨g, cap, cur, hv, hb, hh, hn2, hc, hcs, htake⟩
  · simp only [Value.slice.injEq] at hv
    obtain ⟨rfl, rfl, rfl⟩ := hv
    exact ⟨.inl rfl, Nat.le_refl _, by simp⟩
  · simp only [Value.slice.injEq] at hv
    obtain ⟨rfl, _, rfl⟩ := hv
    refine ⟨.inr ⟨g, 0, rfl, fun j hj => ?_⟩, hn2, fun b o e => by cases e; exact hb⟩
    have hj' : j < us.length := by omega
    have e1 : us.getD j .nilFunc = us[j] := by simp [hj']
    dsimp only
    refine ⟨by rw [e1]; exact hu _ (List.getElem_mem hj'), fun i hi => ?_⟩
    have h2 := cellsOf_get hu hj' hi
    rw [← htake, List.getElem?_take, if_pos (by
      have : (j + 1) * k ≤ n * k := Nat.mul_le_mul_right k (by omega)
      rw [Nat.succ_mul] at this
      omega)] at h2
    rw [row_at hh, e1, ← h2, Nat.zero_add]
    simp
end Go.Proofs.YtlgbepamnkfpjaaGreatDoor

/- Terms made ground, one by one. -/
set_option linter.unusedVariables false
set_option linter.unusedSimpArgs false
namespace Go.Proofs.YtlgbepamnkfpjaaGreatDoor
open Go.RowKit Go.Lib

theorem info27 : (Tryz.prog.info? 26).map (fun i => (i.zero, i.size, i.bytes)) = some (some (.agg zeroP.arr), 7, 120) := by kernel_rfl
/-- Blocks from B on, but one. -/
def fromBut (B : Nat) (o : Option Nat) (b : Nat) : Bool := decide (B ≤ b) && !(some b == o)
theorem fromBut_iff {B : Nat} {o : Option Nat} {b : Nat} : fromBut B o b = true ↔ B ≤ b ∧ some b ≠ o := by
  simp [fromBut]
structure PutLoop (B : Nat) (wr : World) (ts : List Tm) (A : Option Addr) (k c : Nat) (us : List Value) : Prop where
  len : us.length = k
  own : wr.ownsRow B 26 7 (.slice A k c) k (cellsOf us)
  seven : ∀ u ∈ us, u.cells.size = 7
  data : ∀ (j : Nat) (t : Tm), j < k → ts[j]? = some t → TmV (only wr (fromBut B (Value.slice A k c).ownBlock)) t (us.getD j .nilFunc)
  base : B ≤ wr.heap.size
theorem PutLoop.below {B : Nat} {wr w' : World} {ts : List Tm} {A : Option Addr} {k c : Nat} {us : List Value} (h : PutLoop B wr ts A k c us) (hb : Below wr.heap.size wr w') : PutLoop B w' ts A k c us :=
  ⟨h.len, ownsRow_same h.own fun g hg => hb.block g (by obtain ⟨_, cur, hc⟩ := ownsRow_lt h.own g hg; exact (Array.getElem?_eq_some_iff.1 hc).1), h.seven, fun j t hj ht => (h.data j t hj ht).inc (only_below hb), Nat.le_trans h.base hb.size⟩
/-- One more term, appended. -/
theorem PutLoop.append {B : Nat} {W w9 wc : World} {ts : List Tm} {A : Option Addr} {k c g cap : Nat} {us : List Value} {t : Tm} {pp : Parts} (h : PutLoop B W ts A k c us) (ht : ts[k]? = some t) (hnew : TmV (only W fun b => decide (wc.heap.size ≤ b)) t (.agg pp.arr)) (hold : ∀ j, (Value.slice A k c).ownBlock = some j → j < wc.heap.size) (hB : B ≤ wc.heap.size)
    (hq : w9.ownsRow B 26 7 (.slice (some ⟨g, 0, none⟩) (k + 1) cap) (k + 1) (cellsOf us ++ pp.arr.toList)) (hg : W.grownBy w9 (Value.slice A k c).ownBlock) (hat : (Value.slice A k c).ownBlock = some g ∨ g = W.heap.size) : PutLoop B w9 ts (some ⟨g, 0, none⟩) (k + 1) cap (us ++ [.agg pp.arr]) := by
  have hinc : ∀ p : Nat → Bool, (∀ b, p b = true → B ≤ b ∧ some b ≠ (Value.slice A k c).ownBlock) → Inc (only W p) (only w9 (fromBut B (some g))) := fun p hp => only_inc fun a v hpa hv => by
    obtain ⟨h1, h2⟩ := hp _ hpa
    have hlt := World.block_lt_of_cell? W a hv
    refine ⟨fromBut_iff.2 ⟨h1, fun e => ?_⟩, (World.cell?_of_block (w := W) (hg.block a.block hlt h2)).trans hv⟩
    rcases hat with e2 | e2
    · exact h2 (e.trans e2.symm)
    · cases e
      omega
  have hown : (Value.slice (some ⟨g, 0, none⟩) (k + 1) cap).ownBlock = some g := rfl
  refine ⟨by simp [h.len], ?_, ?_, ?_, Nat.le_trans h.base hg.size⟩
  · have : cellsOf (us ++ [.agg pp.arr]) = cellsOf us ++ pp.arr.toList := by simp [cellsOf, Value.cells]
    rw [this]
    exact hq
  · intro u hu
    rcases List.mem_append.1 hu with hu | hu
    · exact h.seven u hu
    · simp only [List.mem_singleton] at hu
      subst hu
      rfl
  · intro j t2 hj ht2
    rw [hown]
    by_cases hjk : j < k
    · have e : (us ++ [Value.agg pp.arr]).getD j .nilFunc = us.getD j .nilFunc := by simp [List.getElem?_append_left (show j < us.length by rw [h.len]; exact hjk)]
      rw [e]
      exact (h.data j t2 hjk ht2).inc (hinc _ fun b hb => fromBut_iff.1 hb)
    · have hjk2 : j = k := by omega
      subst hjk2
      rw [ht] at ht2
      cases ht2
      have e : (us ++ [Value.agg pp.arr]).getD us.length .nilFunc = .agg pp.arr := by simp
      rw [h.len] at e
      rw [e]
      exact hnew.inc (hinc _ fun b hb => by
        simp only [decide_eq_true_eq] at hb
        exact ⟨by omega, fun e => by have := hold b e.symm; omega⟩)
theorem PutLoop.done {B : Nat} {wr : World} {ts : List Tm} {A : Option Addr} {c : Nat} {us : List Value} (h : PutLoop B wr ts A ts.length c us) : TmsV (only wr fun b => decide (B ≤ b)) ts A ts.length c := by
  obtain ⟨h1, h2, h3⟩ := ownsRow_cells h.own h.seven h.len (by decide)
  refine ⟨rfl, h2, _, ?_, fun j t ht => (h.data j t ?_ ht).inc (only_inc fun a v hp hv => ⟨by simp only [decide_eq_true_eq]; exact (fromBut_iff.1 hp).1, hv⟩)⟩
  · rcases h1 with h1 | ⟨b, o, rfl, h1⟩
    · exact .inl h1
    · refine .inr ⟨b, o, rfl, fun j hj => ⟨(h1 j hj).1, fun i hi => ?_⟩⟩
      rw [only_cell, if_pos (by simpa using h3 b o rfl)]
      exact (h1 j hj).2 i hi
  · rcases Nat.lt_or_ge j ts.length with h | h
    · exact h
    · rw [List.getElem?_eq_none h] at ht
      cases ht
end Go.Proofs.YtlgbepamnkfpjaaGreatDoor

/- puts. -/
set_option linter.unusedVariables false
set_option linter.unusedSimpArgs false
namespace Go.Proofs.YtlgbepamnkfpjaaGreatDoor
open Go.RowKit Go.Lib

/-- One element of several cells appended to a list of the call's own. -/
theorem wpList_append_one {P : Program} {w : World} {ops : Array Oper} {rest : List Oper} {o : Oper} {a : Act} {Q : Exit → Act → World → Prop} (hgd : o.guard = none) (s x : Operand) (t : TypeId)
    (ho : o.op = .call { callee := .builtin .append, args := #[s, x], argTypes := #[t, t] }) (base : Nat) (e : TypeId) (i : TypeInfo) (z : Value) (k bytes : Nat) (ht : P.underlying t = some (.slice e)) (hi : P.info? e = some i) (hz : i.zero = some z)
    (hsize : i.size = k) (hby : i.bytes = bytes) (hzs : z.cells.size = k) (hk : 0 < k) (v : Value) (n : Nat) (xs : List Value) (hs : a.eval s = v) (hown : w.ownsRow base e k v n xs) (ad : Addr) (c : Nat) (u : Array Value) (hx : a.eval x = .slice (some ad) 1 c)
    (hu : u.size = k) (hb : w.heap[ad.block]? = some (.cells u e (0, 0))) (h0 : ad.off = 0) (hsp : ad.spot = none) (h1 : ∀ y ∈ u.toList, y.oneCell' = true) (h63 : n + 1 ≤ maxLen) (hbytes : (n + 1) * bytes ≤ 140737488355328) (hbase : base ≤ w.heap.size)
    (h : ∀ g cap w', w'.ownsRow base e k (.slice (some ⟨g, 0, none⟩) (n + 1) cap) (n + 1) (xs ++ u.toList) → w.grownBy w' v.ownBlock → (v.ownBlock = some g ∨ g = w.heap.size) → wpList P ops Q rest (a.put o.dst (.slice (some ⟨g, 0, none⟩) (n + 1) cap)) w') :
    wpList P ops Q (o :: rest) a w := by
  refine wpList_plain hgd fun K hK => ?_
  obtain ⟨v', w', hr, hq, hg, hnil, hat⟩ := run_append_own_at (P := P) w base t o.type e i z k bytes ht hi hz hsize hby hzs hk v n xs hown ad 1 c u.toList (by simp [hu]) (fun j y hj => by
    obtain ⟨ab, ao, asp⟩ := ad
    dsimp only at h0 hsp hb
    subst h0 hsp
    rw [Addr.add_lit, row_at hb, Nat.zero_add]
    simpa using hj) h1 h63 hbytes hbase
  rcases hq.2 with ⟨_, hn⟩ | ⟨g, cap, cur, rfl, r⟩
  · omega
  · unfold Oper.wp execOp
    simp only [ho, resolve, invoke, builtin, Sem.run_bind, Sem.run_pure, Result.andThen_ok, List.map_toArray, List.map_cons, List.map_nil, hs, hx, hr]
    refine hK _ _ (h g cap w' hq hg ?_)
    rcases hat with hat | hat
    · exact .inl hat.symm
    · exact .inr (by simpa [Value.ownBlock] using hat)
theorem row_kept_own {W w3 : World} {base k s n : Nat} {e t : TypeId} {c : Array Value} {v : Value} {xs : List Value} (h : W.heap[k]? = some (.cells c t (0, 0))) (hq : W.ownsRow base e s v n xs) (hg : W.grownBy w3 v.ownBlock) (hne : t ≠ e) : w3.heap[k]? = some (.cells c t (0, 0)) := by
  refine (hg.block k (Array.getElem?_eq_some_iff.1 h).1 fun e => ?_).trans h
  obtain ⟨_, cur, hc⟩ := ownsRow_lt hq k e.symm
  rw [h] at hc
  cases hc
  exact hne rfl
def PutOK (w0 : World) (vars : Bd) (l : List Tm) (t : Tm) (v : Value) : Prop :=
  ∀ (wi : World) (ip : IParts), InsV wi vars l ip → ∀ w, Below w0.heap.size w0 w → Below wi.heap.size wi w → Calls Tryz.prog 35 #[.agg ip.arr, v] w (PutIs w (tput vars l t))
theorem tputs_length (vars : Bd) (l ts : List Tm) : (tputs vars l ts).length = ts.length := by rw [tputs_map, List.length_map]
theorem Parts.one (p : Parts) : ∀ y ∈ p.arr.toList, y.oneCell' = true := by
  intro y hy
  simp only [Parts.arr, List.mem_cons, List.not_mem_nil, or_false] at hy
  rcases hy with rfl | rfl | rfl | rfl | rfl | rfl | rfl <;> rfl
set_option maxRecDepth 100000 in
set_option maxHeartbeats 1000000 in
theorem puts_any {w0 : World} {ts : List Tm} {A : Option Addr} {c : Nat} {f : Nat → Value} {vars : Bd} {l : List Tm} (hf : RowCells w0 A 7 ts.length f) (hL : ∀ (j : Nat) (t : Tm), ts[j]? = some t → TmV w0 t (f j)) (hput : ∀ (j : Nat) (t : Tm), ts[j]? = some t → PutOK w0 vars l t (f j)) (hlen : ts.length ≤ 1000000) :
    ∀ (wi : World) (ip : IParts), InsV wi vars l ip → ∀ w, Below w0.heap.size w0 w → Below wi.heap.size wi w → Calls Tryz.prog 62 #[.agg ip.arr, .slice A ts.length c] w (PutsIs w (tputs vars l ts)) := by
  intro wi ip hi w hb hbi
  obtain ⟨i27, hi27, hz0, hz1, hz2⟩ := info_parts info27
  have HB : Hid (Below w.heap.size w (w.alloc (.cells ip.arr 64))) := Lib.hid ((Below.refl _ _).alloc (Nat.le_refl _) _)
  have HI : Hid ((w.alloc (.cells ip.arr 64)).heap[w.heap.size]? = some (.cells ip.arr 64 (0, 0))) := Lib.hid (heap_alloc_new _ _)
  have Hf := Lib.hid hf
  have HL := Lib.hid hL
  have Hput := Lib.hid hput
  have Hi := Lib.hid hi
  have Hb := Lib.hid hb
  have Hbi := Lib.hid hbi
  clear hf hL hput hi hb hbi
  obtain ⟨IV, nv, icv, IL, nl, icl⟩ := ip
  simp only [IParts.arr] at HB HI ⊢
  go_enter Tryz.func62, Tryz.ntmps62
  go_wp2_with fail
  go_loopw [5, 10] (fun v i wr => ∃ (k c2 : Nat) (A2 : Option Addr), k ≤ ts.length ∧ i = .int .i64 k ∧ v = .slice A2 k c2 ∧ Hid (∃ us, PutLoop w.heap.size wr (tputs vars l ts) A2 k c2 us) ∧ Hid (Below w.heap.size w wr) ∧ Hid (wr.heap[w.heap.size]? = some (.cells #[.slice IV nv icv, .slice IL nl icl] 64 (0, 0)))) (fun _ i _ => ts.length - (intOf i).toNat)
  case atStart => exact ⟨0, 0, none, Nat.zero_le _, rfl, rfl, Lib.hid ⟨[], rfl, World.ownsRow_nil _ _ _ _, by simp, fun j t hj => absurd hj (Nat.not_lt_zero _), by simp⟩, HB, HI⟩
  case round =>
    obtain ⟨k, c2, A2, hk, rfl, rfl, HP, Hbr, HIr⟩ := hrel
    obtain ⟨y0, y1⟩ := boxI_cells (p := ⟨IV, nv, icv, IL, nl, icl⟩) HIr.out
    dsimp only at y0 y1
    by_cases hlt : k < ts.length
    · have Ht : Hid (ts[k]? = some ts[k]) := Lib.hid (List.getElem?_eq_getElem hlt)
      have Ht2 : Hid ((tputs vars l ts)[k]? = some (tput vars l ts[k])) := Lib.hid (by rw [tputs_map, List.getElem?_map, Ht.out]; rfl)
      have Hv := Lib.hid (HL.out k _ Ht.out)
      obtain ⟨p, hp⟩ := Hv.out.parts
      have hwr0 : Below w0.heap.size w0 wr := Hb.out.trans (Hbr.out.mono Hb.out.size)
      obtain ⟨b, o, rfl, h0, h1, h2, h3, h4, h5, h6⟩ := (Hf.out.below hwr0).get hlt hp
      have Hbx : Hid (Below wr.heap.size wr (boxT wr p)) := Lib.hid (below_boxT wr p)
      have Hc : Hid (Calls Tryz.prog 35 #[.agg #[.slice IV nv icv, .slice IL nl icl], .agg #[.int .i64 p.op, .string p.name, .int .i64 p.sort, .string p.n, .slice p.A p.la p.ca, .slice p.V p.lv p.cv, .slice p.P p.lp p.cp]] (wr.alloc (.cells #[.int .i64 p.op, .string p.name, .int .i64 p.sort, .string p.n, .slice p.A p.la p.ca, .slice p.V p.lv p.cv, .slice p.P p.lp p.cp] 26)) (PutIs (boxT wr p) (tput vars l ts[k]))) := Lib.hid (by
        have := Hput.out k _ Ht.out wi ⟨IV, nv, icv, IL, nl, icl⟩ Hi.out (boxT wr p) (hwr0.trans (Hbx.out.mono hwr0.size)) ((Hbi.out.trans (Hbr.out.mono Hbi.out.size)).trans (Hbx.out.mono (Hbi.out.trans (Hbr.out.mono Hbi.out.size)).size))
        rw [hp] at this
        exact this)
      have q1 : w.heap.size < wr.heap.size := (Array.getElem?_eq_some_iff.1 HIr.out).1
      clear hp hwr0
      generalize ts[k] = t at *
      obtain ⟨us, HU⟩ : ∃ us, Hid (PutLoop w.heap.size wr (tputs vars l ts) A2 k c2 us) := by obtain ⟨us, hu⟩ := HP.out; exact ⟨us, Lib.hid hu⟩
      have Hold : Hid (∀ j, (Value.slice A2 k c2).ownBlock = some j → j < (boxT wr p).heap.size) := Lib.hid (fun j hj => by
        obtain ⟨_, cur, hc⟩ := ownsRow_lt HU.out.own j hj
        have := (Array.getElem?_eq_some_iff.1 hc).1
        rw [boxT_size]
        omega)
      go_wp2_with (first
        | (go_at_call 35; refine Calls.mono Hc.out ?_; rintro e w8 ⟨⟨op8, nm8, so8, n8, A8, la8, ca8, V8, lv8, cv8, P8, lp8, cp8⟩, rfl, ht8, hb8⟩; unfold Parts.arr; dsimp only; have Ht8 := Lib.hid ht8; have Hb8 : Hid (Below (boxT wr p).heap.size (boxT wr p) w8) := Lib.hid hb8; have HU8 := Lib.hid ((HU.out.below (Hbx.out.trans (hb8.mono Hbx.out.size))).below ((Below.refl w8.heap.size w8).alloc (Nat.le_refl _) (.cells (Parts.arr ⟨op8, nm8, so8, n8, A8, la8, ca8, V8, lv8, cv8, P8, lp8, cp8⟩) 26))); clear ht8 hb8)
        | (at_builtin; refine wpList_append_one rfl (.tmp 14) (.tmp 18) 23 rfl w.heap.size 26 i27 _ 7 120 Tryz.underlying23 hi27 hz0 hz1 hz2 rfl (by decide) (.slice A2 k c2) k (cellsOf us) rfl HU8.out.own ⟨w8.heap.size, 0, none⟩ 1 (Parts.arr ⟨op8, nm8, so8, n8, A8, la8, ca8, V8, lv8, cv8, P8, lp8, cp8⟩) rfl rfl (heap_alloc_new w8 _) rfl rfl (Parts.one _) (by simp only [maxLen]; omega) (by omega) HU8.out.base ?_; intro g9 cap9 w9 hq9 hg9 hat9; have HU9 := Lib.hid (HU8.out.append (wc := boxT wr p) Ht2.out (Ht8.out.inc (only_below ((Below.refl w8.heap.size w8).alloc (Nat.le_refl _) (.cells (Parts.arr ⟨op8, nm8, so8, n8, A8, la8, ca8, V8, lv8, cv8, P8, lp8, cp8⟩) 26)))) Hold.out (by rw [boxT_size]; have := HU.out.base; omega) hq9 hg9 hat9); have Hg9 := Lib.hid hg9; clear hq9 hg9 hat9))
      go_roundw
      case rel =>
        have hA : Below w8.heap.size w8 (w8.alloc (.cells (Parts.arr ⟨op8, nm8, so8, n8, A8, la8, ca8, V8, lv8, cv8, P8, lp8, cp8⟩) 26)) := (Below.refl _ _).alloc (Nat.le_refl _) _
        have h1 : Below wr.heap.size wr (w8.alloc (.cells (Parts.arr ⟨op8, nm8, so8, n8, A8, la8, ca8, V8, lv8, cv8, P8, lp8, cp8⟩) 26)) := (Hbx.out.trans (Hb8.out.mono Hbx.out.size)).trans (hA.mono (Hbx.out.trans (Hb8.out.mono Hbx.out.size)).size)
        exact ⟨k + 1, cap9, some ⟨g9, 0, none⟩, by omega, by go_num, rfl, Lib.hid ⟨_, HU9.out⟩, Lib.hid ((Hbr.out.trans (h1.mono Hbr.out.size)).grown Hg9.out HU8.out.base (fun j hj => (ownsRow_lt HU8.out.own j hj).1)), Lib.hid (row_kept_own (below_keeps h1 HIr.out) HU8.out.own Hg9.out (by decide))⟩
      case measure => simp [intOf]; omega
    · have hkl : k = ts.length := by omega
      subst hkl
      go_wp2_with fail
      go_ret
      obtain ⟨us, hu⟩ := HP.out
      refine ⟨A2, ts.length, c2, rfl, ?_, Hbr.out⟩
      have h2 : PutLoop w.heap.size wr (tputs vars l ts) A2 (tputs vars l ts).length c2 us := by rw [tputs_length]; exact hu
      have := h2.done
      rwa [tputs_length] at this
end Go.Proofs.YtlgbepamnkfpjaaGreatDoor
