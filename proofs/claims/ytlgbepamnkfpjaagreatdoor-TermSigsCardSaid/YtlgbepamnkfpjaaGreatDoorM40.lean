/- The reference's check: formulas for all. -/
import Derived.Test.YtlgbepamnkfpjaaGreatDoorM38
import Derived.Test.YtlgbepamnkfpjaaGreatDoorM39
set_option linter.unusedSimpArgs false
set_option linter.unusedVariables false
set_option linter.unusedVariables false
set_option linter.unusedSimpArgs false
namespace Go.Proofs.YtlgbepamnkfpjaaGreatDoor
open Go.RowKit Go.Lib

theorem info41 : (Tryz.prog.info? 41).map (fun i => (i.zero, i.size, i.bytes)) = some (some (.agg #[.string ⟨#[]⟩, .int .i64 0]), 2, 24) := by kernel_rfl
theorem rows_src {w : World} {X : Option Addr} {vars : Bd} {cx : Nat} (h : RowCells w X 2 vars.length (bval vars)) (h0 : X = none → cx = 0) : SrcAt w 2 vars.length (.slice X vars.length cx) (flat vars) := by
  have h1 : ∀ u ∈ flat vars, u.oneCell' = true := fun u hu => by
    unfold flat at hu
    obtain ⟨v, _, hv⟩ := List.mem_flatMap.1 hu
    simp only [List.mem_cons, List.not_mem_nil, or_false] at hv
    rcases hv with rfl | rfl <;> rfl
  cases X with
  | none =>
    have hn : vars.length = 0 := by
      rcases h with h | ⟨b, o, hA, _⟩
      · exact h
      · cases hA
    refine ⟨flat_length vars, .inl ⟨by rw [h0 rfl, hn], hn⟩, h1⟩
  | some ad =>
    refine ⟨flat_length vars, .inr ⟨ad, cx, rfl, fun j u hj => ?_⟩, h1⟩
    rcases h with h | ⟨b, o, hA, h2⟩
    · have : (flat vars).length = 0 := by rw [flat_length, h]
      rw [List.eq_nil_of_length_eq_zero this] at hj
      simp at hj
    · cases hA
      rw [Addr.add_lit]
      exact RowCells.flat (.inr ⟨b, o, rfl, h2⟩) j u hj
theorem ownsRow_rows {w : World} {B cap : Nat} {V : Option Addr} {bd : Bd} (h : w.ownsRow B 41 2 (.slice V bd.length cap) bd.length (flat bd)) : RowCells w V 2 bd.length (bval bd) := by
  rcases h.2 with ⟨_, h2⟩ | ⟨g, cap', cur, hv, hb, hh, h1, h2, h3, h4⟩
  · exact .inl h2
  · simp only [Value.slice.injEq] at hv
    obtain ⟨rfl, _, rfl⟩ := hv
    refine .inr ⟨g, 0, rfl, fun j hj => ?_⟩
    have hx : bd[j]? = some bd[j] := List.getElem?_eq_getElem hj
    obtain ⟨f1, f2⟩ := flat_two bd j
    rw [hx] at f1 f2
    have hcell : ∀ m, m < bd.length * 2 → w.cell? ⟨g, m, none⟩ = (flat bd)[m]? := fun m hm => by
      rw [cell_of_row w g m cur 41 (0, 0) hh, ← h4, List.getElem?_take, if_pos hm]
      simp
    unfold bval
    rw [hx]
    refine ⟨rfl, fun i hi => ?_⟩
    rw [Nat.zero_add, hcell _ (by omega)]
    have hi2 : i = 0 ∨ i = 1 := by omega
    rcases hi2 with rfl | rfl
    · exact f1
    · exact f2
theorem checkS_forall {sig : List Fn} {ts : Int} {name tn : ByteArray} {l0 : Tm} {vars : Bd} {pat : List Tm} {bd : Bd} (hs : shapeB (.mk 19 name ts tn [l0] vars pat) = true) : checkS sig (.mk 19 name ts tn [l0] vars pat) bd =
    if (checkS sig l0 (bd ++ vars)).2 ≠ 0 then (0, (checkS sig l0 (bd ++ vars)).2) else if (checkS sig l0 (bd ++ vars)).1 ≠ 2 then (0, 31)
    else if patsS sig pat (bd ++ vars) ≠ 0 then (0, patsS sig pat (bd ++ vars)) else if namedAll vars (tnamess pat) then (2, 0) else (0, 30) := by
  have h1 : ofE sig 19 name ts [l0].length bd = 0 := by simp [ofE]
  simp only [checkS]
  rw [if_neg (by rw [hs]; simp), if_neg (by rw [h1]; simp)]
  simp only [if_true, true_and]
  have h2 : checksS sig [l0] (bd ++ vars) = if (checkS sig l0 (bd ++ vars)).2 ≠ 0 then ([], (checkS sig l0 (bd ++ vars)).2) else ([(checkS sig l0 (bd ++ vars)).1], 0) := by
    simp only [checksS]
    split
    · rfl
    · simp
  rw [h2]
  by_cases e : (checkS sig l0 (bd ++ vars)).2 ≠ 0
  · rw [if_pos e, if_pos e]
    simp [e]
  · rw [if_neg e, if_neg e]
    simp only [ne_eq, not_true, if_false]
    have h3 : nodeS sig 19 name ts [(checkS sig l0 (bd ++ vars)).1] = if (checkS sig l0 (bd ++ vars)).1 = 2 then (2, 0) else (0, 31) := by
      simp [nodeS, fixedS]
    rw [h3]
    by_cases e2 : (checkS sig l0 (bd ++ vars)).1 = 2
    · rw [if_pos e2]
      simp only [e2, not_true, if_false, and_self, if_true]
      by_cases e3 : patsS sig pat (bd ++ vars) = 0
      · simp only [e3, not_true, if_false]
        cases namedAll vars (tnamess pat) <;> simp
      · simp [e3]
    · rw [if_neg e2]
      simp [e2]
def innerSpec (K B : Nat) (bd : Bd) (vV vX : Value) : Nat → World → Value → Prop
  | 0, _, v => v = vV
  | 1, w, v => w.ownsRow B 41 2 v bd.length (flat bd)
  | 2, _, v => v = .pointer (some ⟨K, 5, none⟩)
  | 3, _, v => v = vX
  | _, _, _ => True
theorem innerSpec_keep (K B : Nat) (bd : Bd) (vV vX : Value) (i : Nat) (w w' : World) (v : Value) (h : innerSpec K B bd vV vX i w v) (hb : Below w.heap.size w w') : innerSpec K B bd vV vX i w' v := by
  unfold innerSpec at h ⊢
  split <;> simp_all
  refine ownsRow_same h fun g hg => ?_
  obtain ⟨_, cur, hc⟩ := ownsRow_lt h g hg
  exact hb.block g (Array.getElem?_eq_some_iff.1 hc).1
set_option maxRecDepth 100000 in
set_option maxHeartbeats 8000000 in
theorem check_all {w0 : World} {sig : List Fn} {S : Option Addr} {cs : Nat} {ts : Int} {name tn : ByteArray} {l : List Tm} {vars : Bd} {pat : List Tm} {A X P : Option Addr} {ca cx cp : Nat} {f g : Nat → Value} {bd : Bd} {V : Option Addr} {cv : Nat} {W : World} (H : RefPre w0 sig S cs 19 ts name tn l vars pat A X P ca cx cp f g bd V cv W) : Calls Tryz.prog 26 #[.slice S sig.length cs, .agg #[.int .i64 19, .string name, .int .i64 ts, .string tn, .slice A l.length ca, .slice X vars.length cx, .slice P pat.length cp], .slice V bd.length cv] W (SortIs W (checkS sig (.mk 19 name ts tn l vars pat) bd)) := by
  have HH := Lib.hid H
  have hll0 := H.hbd.l
  have hlp0 := H.hbd.p
  have hlx0 := H.hbd.v
  have hnb0 : bd.length ≤ 1000000 := by have := H.hbl; omega
  have hns0 := H.hns
  have Hrow := Lib.hid (boxT_row W ⟨19, name, ts, tn, A, l.length, ca, X, vars.length, cx, P, pat.length, cp⟩)
  have HB : Hid (Below W.heap.size W (boxT W ⟨19, name, ts, tn, A, l.length, ca, X, vars.length, cx, P, pat.length, cp⟩)) := Lib.hid (below_boxT _ _)
  obtain ⟨x0, x1, x2, x3, x4, x5, x6⟩ := box_cells Hrow.out
  dsimp only at x0 x1 x2 x3 x4 x5 x6
  unfold boxT at x0 x1 x2 x3 x4 x5 x6
  dsimp only at x0 x1 x2 x3 x4 x5 x6
  obtain ⟨WB, hWB⟩ : ∃ WB, WB = boxT W ⟨19, name, ts, tn, A, l.length, ca, X, vars.length, cx, P, pat.length, cp⟩ := ⟨_, rfl⟩
  have HWB := Lib.hid hWB
  have HS : Hid (WB.heap.size = W.heap.size + 1) := Lib.hid (by rw [hWB]; exact boxT_size _ _)
  have HE : Hid (W.alloc (.cells #[.int .i64 19, .string name, .int .i64 ts, .string tn, .slice A l.length ca, .slice X vars.length cx, .slice P pat.length cp] 26) = WB) := Lib.hid hWB.symm
  rw [← hWB] at Hrow HB
  clear hWB H
  obtain ⟨res, hres⟩ : ∃ res, checkS sig (.mk 19 name ts tn l vars pat) bd = res := ⟨_, rfl⟩
  have HD := Lib.hid hres
  rw [hres]
  obtain ⟨ll, hll⟩ : ∃ n, l.length = n := ⟨_, rfl⟩
  obtain ⟨lx, hlx⟩ : ∃ n, vars.length = n := ⟨_, rfl⟩
  obtain ⟨lp, hlp⟩ : ∃ n, pat.length = n := ⟨_, rfl⟩
  obtain ⟨ns, hns⟩ : ∃ n, sig.length = n := ⟨_, rfl⟩
  obtain ⟨nb, hnb⟩ : ∃ n, bd.length = n := ⟨_, rfl⟩
  have Hll := Lib.hid hll
  have Hlx := Lib.hid hlx
  have Hlp := Lib.hid hlp
  have Hns := Lib.hid hns
  have Hnb := Lib.hid hnb
  rw [hll] at hll0 HWB Hrow HE x4
  rw [hlx] at hlx0 HWB Hrow HE x5
  rw [hlp] at hlp0 HWB Hrow HE x6
  simp only [hll, hlx, hlp] at x0 x1 x2 x3 x4 x5 x6
  rw [hll, hlx, hlp, hns, hnb]
  rw [hns] at hns0
  rw [hnb] at hnb0
  clear hll hlx hlp hns hnb hres
  by_cases h0 : ll = 1
  rotate_left
  · have Hr : Hid (res = (0, 30)) := Lib.hid (by
      rw [← HD.out, checkS_shape]
      simp only [shapeB]
      rw [Hll.out]
      simp
      omega)
    have h0' : ((ll : Int) != 1) = true := by rw [bne_iff_ne]; omega
    go_enter Tryz.func26, Tryz.ntmps26
    go_wp2_with fail
    go_ret2
    exact ⟨by rw [Hr.out]; rfl, by rw [HE.out]; exact HB.out⟩
  subst h0
  have HT : Hid (TmV w0 (.mk 19 name ts tn l vars pat) (.agg #[.int .i64 19, .string name, .int .i64 ts, .string tn, .slice A 1 ca, .slice X lx cx, .slice P lp cp])) := Lib.hid (by
    have h := TmV.mk f g HH.out.hbd HH.out.hla HH.out.hf HH.out.hL HH.out.hxa HH.out.hX HH.out.hpa HH.out.hg HH.out.hP
    rw [Hll.out, Hlx.out, Hlp.out] at h
    exact h)
  have Hbi : Hid (∀ w', Below WB.heap.size WB w' → Calls Tryz.prog 53 #[.agg #[.int .i64 19, .string name, .int .i64 ts, .string tn, .slice A 1 ca, .slice X lx cx, .slice P lp cp]] w' fun e w2 => e = .returned (.bool (bindR (.mk 19 name ts tn l vars pat))) ∧ Below w'.heap.size w' w2) := Lib.hid (fun w' hb => bindsR_any HT.out w' (HH.out.hW.trans ((HB.out.trans (hb.mono HB.out.size)).mono HH.out.hW.size)))
  have Hshape : Hid (shapeB (.mk 19 name ts tn l vars pat) = bindR (.mk 19 name ts tn l vars pat)) := Lib.hid rfl
  cases hbr : bindR (.mk 19 name ts tn l vars pat) with
  | false =>
    have Hr : Hid (res = (0, 30)) := Lib.hid (by rw [← HD.out, checkS_shape (by rw [Hshape.out, hbr])])
    rw [hbr] at Hbi
    clear hbr
    go_enter Tryz.func26, Tryz.ntmps26
    go_wp2_with (go_at_call 53; rw [HE.out]; (with_reducible refine Calls.mono (Hbi.out _ (Below.refl _ _)) ?_); rintro e w3 ⟨rfl, hb3⟩; have Hb3 := Lib.hid hb3; clear hb3)
    go_ret2
    exact ⟨by rw [Hr.out]; rfl, HB.out.trans (Hb3.out.mono HB.out.size)⟩
  | true =>
    rw [hbr] at Hbi
    have Hbr := Lib.hid hbr
    clear hbr
    have hX0 : ∃ xb xo, X = some ⟨xb, xo, none⟩ := by
      have h1 := Hbr.out
      simp only [bindR, Bool.and_eq_true, bindsB, decide_eq_true_eq] at h1
      obtain ⟨b, o, e, _⟩ := HH.out.hX.bound (List.getElem?_eq_getElem h1.1.2.1)
      exact ⟨b, o, e⟩
    obtain ⟨xb, xo, rfl⟩ := hX0
    obtain ⟨l0, hl0⟩ : ∃ l0, l = [l0] := List.length_eq_one_iff.1 Hll.out
    have Hl0 := Lib.hid hl0
    have HR0 : Hid (res = if (checkS sig l0 (bd ++ vars)).2 ≠ 0 then (0, (checkS sig l0 (bd ++ vars)).2) else if (checkS sig l0 (bd ++ vars)).1 ≠ 2 then (0, 31)
        else if patsS sig pat (bd ++ vars) ≠ 0 then (0, patsS sig pat (bd ++ vars)) else if namedAll vars (tnamess pat) then (2, 0) else (0, 30)) := Lib.hid (by
      have hsh := Hshape.out.trans Hbr.out
      rw [← HD.out]
      rw [hl0] at hsh ⊢
      exact checkS_forall hsh)
    clear hl0
    go_enter Tryz.func26, Tryz.ntmps26
    go_wp2_with (go_at_call 53; rw [HE.out]; (with_reducible refine Calls.mono (Hbi.out _ (Below.refl _ _)) ?_); rintro e w3 ⟨rfl, hb3⟩; have Hb3 := Lib.hid hb3; obtain ⟨y0, y1, y2, y3, y4, y5, y6⟩ := box_cells (below_keeps hb3 Hrow.out); dsimp only at y0 y1 y2 y3 y4 y5 y6; clear hb3)
    have R3 := Lib.hid (below_keeps Hb3.out Hrow.out)
    have HB3 : Hid (Below W.heap.size W w3) := Lib.hid (HB.out.trans (Hb3.out.mono HB.out.size))
    clear y0 y1 y2 y3 y4 y5 y6 Hbi
    go_cut [27] from 310 to 314 (fun s27 wx => ∃ (V2 : Option Addr) (cv2 : Nat), s27 = .slice V2 (nb + lx) cv2 ∧ Hid (wx.ownsRow w3.heap.size 41 2 (.slice V2 (bd ++ vars).length cv2) (bd ++ vars).length (flat (bd ++ vars))) ∧ Hid (Below w3.heap.size w3 wx))
    case first =>
      obtain ⟨i41, hi, hz0, hz1, hz2⟩ := info_parts info41
      go_wp2_with fail
      refine wp_region_makes [0, 1, 2, 3] [4, 5] (by kernel_rfl) (by kernel_rfl) (innerSpec_keep W.heap.size w3.heap.size bd (.slice V nb cv) (.slice (some ⟨xb, xo, none⟩) lx cx)) ?_ ?_
      · generalize Exit.then _ _ = Q2
        intro i o ho hi3 a' w' hb hfr hd K hK
        have hbd3 : Below w3.heap.size w3 w' := (Below.refl w3.heap.size w3).drew.trans hb
        obtain ⟨y0, y1, y2, y3, y4, y5, y6⟩ := box_cells (below_keeps hbd3 R3.out)
        have hv2 : a'.tmps.getD 2 undef = .slice V nb cv := hfr 2 (by kernel_rfl)
        have hv4 : a'.tmps.getD 4 undef = .pointer (some ⟨W.heap.size, 0, none⟩) := hfr 4 (by kernel_rfl)
        have Hsrc : Hid (SrcAt w' 2 nb (.slice V nb cv) (flat bd)) := Lib.hid (by
          have h := rows_src (HH.out.hV.below (HB3.out.trans (hbd3.mono HB3.out.size))) HH.out.hV0
          rw [Hnb.out] at h
          exact h)
        have hsz3 := hbd3.size
        rw [Array.getD_eq_getD_getElem?] at hv2 hv4
        have HK := Lib.hid hK
        dsimp only at y0 y1 y2 y3 y4 y5 y6
        clear hb hK hfr hbd3
        match i, ho with
        | 0, ho => cases ho; clear hd; go_simp; exact HK.out _ _ rfl (Below.refl _ _)
        | 1, ho =>
          cases ho
          have e := hd ⟨0, .data⟩ (by simp) rfl _ _ rfl rfl
          simp only [innerSpec] at e
          clear hd
          obtain ⟨v', w2, hr, h1, h2⟩ := run_append_new (P := Tryz.prog) (w := w') 24 24 41 i41 _ 2 24 Tryz.underlying24 hi hz0 hz1 hz2 rfl (by decide) Hsrc.out (by simp only [maxLen]; omega) (by omega)
          refine wp_append_call (Operand.const (.slice none 0 0)) (.tmp 310) 24 rfl (v' := v') (w' := w2) (by
            simp only [Act.eval]
            rw [show a'.tmps.getD 310 undef = _ from e]
            exact hr) ?_
          refine HK.out _ _ ?_ h2
          show w2.ownsRow w3.heap.size 41 2 v' bd.length (flat bd)
          rw [Hnb.out]
          refine ⟨h1.1, ?_⟩
          rcases h1.2 with h3 | ⟨g, cap, cur, r1, r2, r3⟩
          · exact .inl h3
          · exact .inr ⟨g, cap, cur, r1, by omega, r3⟩
        | 2, ho => cases ho; clear hd; go_simp; exact HK.out _ _ rfl (Below.refl _ _)
        | 3, ho =>
          cases ho
          have e := hd ⟨2, .data⟩ (by simp) rfl _ _ rfl rfl
          simp only [innerSpec, Array.getD_eq_getD_getElem?] at e
          clear hd
          go_simp
          exact HK.out _ _ rfl (Below.refl _ _)
        | 4, ho => exact absurd (by simp) hi3
        | 5, ho => exact absurd (by simp) hi3
        | n + 6, ho => simp at ho
      · intro fuel listed a' w8 hc hm hall
        obtain ⟨gg, ha, hh⟩ := hm.act (ds := [310, 311, 312, 313]) (by kernel_rfl)
        have hl : listed = #[true, true, true, true, false, false] := by
          have hs : listed.size = 6 := hm.size
          have n4 := getD_both (hm.rest 4 (by simp))
          have n5 := getD_both (hm.rest 5 (by simp))
          rw [listed_all listed, hs]
          simp only [List.range, List.range.loop, List.map, n4, n5, hall 0 (by simp), hall 1 (by simp), hall 2 (by simp), hall 3 (by simp)]
        have h11 : w8.ownsRow w3.heap.size 41 2 (gg 311) bd.length (flat bd) := hh 1 _ _ (hall 1 (by simp)) rfl rfl
        have h13 : gg 313 = .slice (some ⟨xb, xo, none⟩) lx cx := hh 3 _ _ (hall 3 (by simp)) rfl rfl
        have Hbd : Hid (Below w3.heap.size w3 w8) := Lib.hid ((Below.refl w3.heap.size w3).drew.trans hm.inv)
        have hsrc : SrcAt w8 2 lx (.slice (some ⟨xb, xo, none⟩) lx cx) (flat vars) := by
          have h := rows_src (cx := cx) (HH.out.hX.below (HH.out.hW.trans ((HB3.out.trans (Hbd.out.mono HB3.out.size)).mono HH.out.hW.size))) (fun h => by cases h)
          rw [Hlx.out] at h
          exact h
        have hlx1 : lx ≤ 1000000 := by
          have := HH.out.hbl
          have h2 := Hlx.out
          simp only [tw] at this
          omega
        have hap := run_append_src (P := Tryz.prog) (w := w8) w3.heap.size 24 24 41 i41 _ 2 24 Tryz.underlying24 hi hz0 hz1 hz2 rfl (by decide) _ _ _ h11 hsrc (by rw [Hnb.out]; simp only [maxLen]; omega) (by rw [Hnb.out]; omega) Hbd.out.size
        obtain ⟨v9, w9, hr9, h91, h92⟩ := hap
        have hb9 : Below w3.heap.size w3 w9 := Hbd.out.grown h92 Hbd.out.size (fun k hk => (ownsRow_lt h11 k hk).1)
        have hv9 : ∃ V2 cv2, v9 = .slice V2 (nb + lx) cv2 := by
          rcases h91.2 with ⟨e1, e2⟩ | ⟨g, cap, cur, e1, _⟩
          · exact ⟨none, 0, by rw [e1, ← Hnb.out, e2]⟩
          · exact ⟨_, _, by rw [e1, Hnb.out]⟩
        obtain ⟨V2, cv2, rfl⟩ := hv9
        have H9 : Hid (w9.ownsRow w3.heap.size 41 2 (.slice V2 (bd ++ vars).length cv2) (bd ++ vars).length (flat (bd ++ vars))) := Lib.hid (by
          have h1 : (bd ++ vars).length = bd.length + lx := by rw [List.length_append, Hlx.out]
          rw [flat_append, h1]
          have h2 := h91
          rw [show (nb + lx) = bd.length + lx by rw [Hnb.out]] at h2
          exact h2)
        have Hb9 := Lib.hid hb9
        subst hl
        clear hm hall hh h91 h92 h11 hsrc hb9
        subst ha
        obtain ⟨f2, rfl⟩ : ∃ f, fuel = f + 2 := ⟨fuel - 2, by simp at hc; omega⟩
        clear hc
        have hg11 := h13
        simp only [setAll]
        generalize gg 310 = g310 at *
        generalize gg 311 = g311 at *
        generalize gg 312 = g312 at *
        generalize gg 313 = g313 at *
        subst h13
        simp only [Act.put, List.setIfInBounds_toArray, List.set_cons_zero, List.set_cons_succ]
        refine wpAny_ready (rs := [4]) (by kernel_rfl) (by simp) ?_
        refine AllReady.cons rfl (fun K3 hK3 => ?_) AllReady.nil
        refine wp_append_call (.tmp 311) (.tmp 313) 24 rfl (v' := .slice V2 (nb + lx) cv2) (w' := w9) hr9 ?_
        refine hK3 _ _ ?_
        refine wpAny_ready (rs := [5]) (by kernel_rfl) (by simp) ?_
        refine AllReady.cons rfl (fun K4 hK4 => ?_) AllReady.nil
        go_simp
        refine hK4 _ _ ?_
        refine wpAny_done (by kernel_rfl) ?_ _
        dsimp only [Exit.then]
        go_wp2_with fail
        go_meet
        exact ⟨V2, cv2, rfl, H9, Hb9⟩
    case rest =>
      obtain ⟨V2, cv2, rfl, H9, Hbx⟩ := hcut
      have HBc : Hid (Below W.heap.size W wc) := Lib.hid (HB3.out.trans (Hbx.out.mono HB3.out.size))
      have Hin : Hid (RowCells wc V2 2 (bd ++ vars).length (bval (bd ++ vars))) := Lib.hid (ownsRow_rows H9.out)
      have Hil : Hid ((bd ++ vars).length = nb + lx) := Lib.hid (by rw [List.length_append, Hnb.out, Hlx.out])
      have Hi0 : Hid ((bd ++ vars).length ≤ cv2 ∧ (V2 = none → cv2 = 0)) := Lib.hid (by
        rcases H9.out.2 with ⟨h1, h2⟩ | ⟨g, cap, cur, h1, _, _, h4, _⟩
        · simp only [Value.slice.injEq] at h1
          exact ⟨by omega, fun _ => h1.2.2⟩
        · simp only [Value.slice.injEq] at h1
          obtain ⟨rfl, _, rfl⟩ := h1
          exact ⟨h4, fun h => by cases h⟩)
      have Hiok : Hid (okBd (bd ++ vars)) := Lib.hid (fun x hx => by
        rcases List.mem_append.1 hx with hx | hx
        · exact HH.out.okb x hx
        · exact HH.out.hbd.vs x hx)
      have Hbl : Hid ((bd ++ vars).length + tws l + tws pat ≤ 1000000) := Lib.hid (by
        have h1 := HH.out.hbl
        simp only [tw] at h1
        rw [List.length_append]
        omega)
      clear H9
      have hj0 : 0 < l.length := by rw [Hll.out]; omega
      have Hl00 : Hid (l[0]? = some l0) := Lib.hid (by rw [Hl0.out]; rfl)
      obtain ⟨p0, hp0⟩ := (HH.out.hL 0 _ Hl00.out).parts
      have Hc0 : Hid (∀ w', Below wc.heap.size wc w' → Calls Tryz.prog 26 #[.slice S ns cs, .agg #[.int .i64 p0.op, .string p0.name, .int .i64 p0.sort, .string p0.n, .slice p0.A p0.la p0.ca, .slice p0.V p0.lv p0.cv, .slice p0.P p0.lp p0.cp], .slice V2 (nb + lx) cv2] w' (SortIs w' (checkS sig l0 (bd ++ vars)))) := Lib.hid (fun w' hb => by
        have h := HH.out.hR 0 _ Hl00.out (bd ++ vars) V2 cv2 w' (HH.out.hW.trans ((HBc.out.trans (hb.mono HBc.out.size)).mono HH.out.hW.size)) (Hin.out.below hb) Hi0.out.1 (by have := tws_mem Hl00.out; have := Hbl.out; omega) Hiok.out Hi0.out.2
        rw [hp0, Hns.out, Hil.out] at h
        exact h)
      obtain ⟨b, o, rfl, g0, g1, g2, g3, g4, g5, g6⟩ := (HH.out.hf.below (HH.out.hW.trans (HBc.out.mono HH.out.hW.size))).get hj0 hp0
      simp only [Nat.zero_mul, Nat.add_zero] at g0 g1 g2 g3 g4 g5 g6
      have Rc := Lib.hid (below_keeps Hbx.out R3.out)
      obtain ⟨y0, y1, y2, y3, y4, y5, y6⟩ := box_cells Rc.out
      dsimp only at y0 y1 y2 y3 y4 y5 y6
      clear hp0 hj0
      generalize checkS sig l0 (bd ++ vars) = r0 at *
      obtain ⟨r1, r2⟩ := r0
      by_cases hr2 : r2 = 0
      rotate_left
      · have Hr : Hid (res = (0, r2)) := Lib.hid (by rw [HR0.out, if_pos hr2])
        have hr2' : (r2 != 0) = true := by rw [bne_iff_ne]; exact hr2
        go_wp2_with (go_at_call 26; (with_reducible refine Calls.mono (Hc0.out _ (Below.refl _ _)) ?_); rintro e w6 ⟨rfl, hb6⟩; have Hb6 := Lib.hid hb6; clear hb6)
        go_ret2
        exact ⟨by rw [Hr.out]; rfl, HBc.out.trans (Hb6.out.mono HBc.out.size)⟩
      subst hr2
      by_cases hr1 : r1 = 2
      rotate_left
      · have Hr : Hid (res = (0, 31)) := Lib.hid (by rw [HR0.out, if_neg (by simp), if_pos hr1])
        have hr1' : (r1 != 2) = true := by rw [bne_iff_ne]; exact hr1
        go_wp2_with (go_at_call 26; (with_reducible refine Calls.mono (Hc0.out _ (Below.refl _ _)) ?_); rintro e w6 ⟨rfl, hb6⟩; have Hb6 := Lib.hid hb6; clear hb6)
        go_ret2
        exact ⟨by rw [Hr.out]; rfl, HBc.out.trans (Hb6.out.mono HBc.out.size)⟩
      subst hr1
      have HR1 : Hid (res = if patsS sig pat (bd ++ vars) ≠ 0 then (0, patsS sig pat (bd ++ vars)) else if namedAll vars (tnamess pat) then (2, 0) else (0, 30)) := Lib.hid (by rw [HR0.out]; simp)
      clear HR0
      go_wp2_with (go_at_call 26; (with_reducible refine Calls.mono (Hc0.out _ (Below.refl _ _)) ?_); rintro e w6 ⟨rfl, hb6⟩; have Hb6 := Lib.hid hb6; clear hb6)
      have HBx6 : Hid (Below W.heap.size W w6) := Lib.hid (HBc.out.trans (Hb6.out.mono HBc.out.size))
      have R6 := Lib.hid (below_keeps Hb6.out Rc.out)
      have HG : Hid (RowCells w0 P 7 lp g) := Lib.hid (by rw [← Hlp.out]; exact HH.out.hg)
      clear y0 y1 y2 y3 y4 y5 y6 g0 g1 g2 g3 g4 g5 g6 Hc0
      go_loopw [30] (fun i wr => ∃ k : Nat, k ≤ lp ∧ i = .int .i64 k ∧ Hid (patsS sig (pat.take k) (bd ++ vars) = 0) ∧ Hid (Below w6.heap.size w6 wr)) (fun i _ => lp - (Go.RowKit.intOf i).toNat)
      case atStart => exact ⟨0, by omega, rfl, Lib.hid rfl, Lib.hid (Below.refl _ _)⟩
      case round =>
        obtain ⟨k, hk, rfl, HK, HBr⟩ := hrel
        have HBw : Hid (Below W.heap.size W wr) := Lib.hid (HBx6.out.trans (HBr.out.mono HBx6.out.size))
        obtain ⟨y0, y1, y2, y3, y4, y5, y6⟩ := box_cells (below_keeps HBr.out R6.out)
        dsimp only at y0 y1 y2 y3 y4 y5 y6
        by_cases hlt : k < lp
        · have hkl : k < pat.length := by rw [Hlp.out]; exact hlt
          have Ht : Hid (pat[k]? = some pat[k]) := Lib.hid (List.getElem?_eq_getElem hkl)
          have Htk := Lib.hid (patsS_take sig (bd ++ vars) hkl HK.out)
          have Hv := Lib.hid (HH.out.hP k _ Ht.out)
          obtain ⟨p, hp⟩ := Hv.out.parts
          have hwr0 : Below w0.heap.size w0 wr := HH.out.hW.trans (HBw.out.mono HH.out.hW.size)
          obtain ⟨b, o, rfl, e0, e1, e2, e3, e4, e5, e6⟩ := (HG.out.below hwr0).get hlt hp
          have Htw : Hid (tw pat[k] + (bd ++ vars).length ≤ 1000000) := Lib.hid (by have := tws_mem Ht.out; have := Hbl.out; omega)
          have Hts : Hid (tsize pat[k] ≤ 1000000) := Lib.hid (by have := tsize_tw pat[k]; have := Htw.out; omega)
          have Hbox : Hid (∀ w', Below wr.heap.size wr w' → Below w0.heap.size w0 w') := Lib.hid (fun w' hb => hwr0.trans (hb.mono hwr0.size))
          have Hdep : Hid (∀ w', Below wr.heap.size wr w' → Calls Tryz.prog 24 #[.agg p.arr] w' fun e w2 => e = .returned (.int .i64 (tdepth pat[k])) ∧ Below w'.heap.size w' w2) := Lib.hid (fun w' hb => by
            have h := DepthR_any Hv.out Hts.out w' (Hbox.out w' hb)
            rw [hp] at h
            exact h)
          have Hsiz : Hid (∀ w', Below wr.heap.size wr w' → Calls Tryz.prog 25 #[.agg p.arr] w' fun e w2 => e = .returned (.int .i64 (tsize pat[k])) ∧ Below w'.heap.size w' w2) := Lib.hid (fun w' hb => by
            have h := SizeR_any Hv.out Hts.out w' (Hbox.out w' hb)
            rw [hp] at h
            exact h)
          have Hbar : Hid (∀ w', Below wr.heap.size wr w' → Calls Tryz.prog 54 #[.agg p.arr] w' fun e w2 => e = .returned (.bool (tbare pat[k])) ∧ Below w'.heap.size w' w2) := Lib.hid (fun w' hb => by
            have h := BareR_any Hv.out w' (Hbox.out w' hb)
            rw [hp] at h
            exact h)
          have Hchk : Hid (∀ w', Below wr.heap.size wr w' → Calls Tryz.prog 26 #[.slice S ns cs, .agg p.arr, .slice V2 (nb + lx) cv2] w' (SortIs w' (checkS sig pat[k] (bd ++ vars)))) := Lib.hid (fun w' hb => by
            have hw' : Below wc.heap.size wc w' := Hb6.out.trans ((HBr.out.trans (hb.mono HBr.out.size)).mono Hb6.out.size)
            have h := HH.out.hRP k _ Ht.out (bd ++ vars) V2 cv2 w' (Hbox.out w' hb) (Hin.out.below hw') Hi0.out.1 (by have := Htw.out; omega) Hiok.out Hi0.out.2
            rw [hp, Hns.out, Hil.out] at h
            exact h)
          have Hop : Hid (opOf pat[k] = p.op) := Lib.hid (by
            have := Hv.out.head
            rw [hp] at this
            simpa [Value.cells, Parts.arr] using this.symm)
          have Hpt : Hid (patsS sig [pat[k]] (bd ++ vars) = if 200 < tdepth pat[k] then 33 else if 50000 < tsize pat[k] then 34 else if opOf pat[k] ≠ 17 ∨ tbare pat[k] = false then 30 else (checkS sig pat[k] (bd ++ vars)).2) := Lib.hid (by
            simp only [patsS]
            split
            · rfl
            · split
              · rfl
              · split
                · rfl
                · split
                  · rfl
                  · rename_i h; simp at h; rw [h])
          have Hdb : Hid (tdepth pat[k] ≤ 1000000) := Lib.hid (by have := tdepth_le pat[k]; have := Hts.out; omega)
          have k1 : (0 : Int) ≤ (k : Int) := by omega
          have k2 : (k : Int) < (lp : Int) := by omega
          rw [Hop.out] at Hpt
          clear hp hwr0 Ht Htw
          generalize tdepth pat[k] = dd at *
          generalize tsize pat[k] = zz at *
          generalize tbare pat[k] = bb at *
          generalize checkS sig pat[k] (bd ++ vars) = rp at *
          obtain ⟨rp1, rp2⟩ := rp
          have hdb := Hdb.out
          have hzb := Hts.out
          unfold Parts.arr at Hdep Hsiz Hbar Hchk
          have Hp7 : Hid (p.arr = #[.int .i64 p.op, .string p.name, .int .i64 p.sort, .string p.n, .slice p.A p.la p.ca, .slice p.V p.lv p.cv, .slice p.P p.lp p.cp]) := Lib.hid rfl
          obtain ⟨WP, hWP⟩ : ∃ WP, wr.alloc (.cells #[.int .i64 p.op, .string p.name, .int .i64 p.sort, .string p.n, .slice p.A p.la p.ca, .slice p.V p.lv p.cv, .slice p.P p.lp p.cp] 26) = WP := ⟨_, rfl⟩
          have HQ := Lib.hid hWP
          have HPr : Hid (WP.heap[wr.heap.size]? = some (.cells p.arr 26 (0, 0))) := Lib.hid (by rw [← hWP]; exact heap_alloc_new _ _)
          have HbP : Hid (Below wr.heap.size wr WP) := Lib.hid (by rw [← hWP]; exact (Below.refl _ _).alloc (Nat.le_refl _) _)
          clear hWP
          by_cases hd : 200 < dd
          · skip
            have Hr : Hid (res = (0, 33)) := Lib.hid (by
              have h1 := Hpt.out
              rw [if_pos hd] at h1
              have h2 := Htk.out.2 (by rw [h1]; decide)
              rw [HR1.out, h2, h1, if_pos (by decide)])
            have hd' : (200 : Int) < (dd : Int) := by omega
            go_wp2_with (first | (go_at_call 24; rw [HQ.out]; (with_reducible refine Calls.mono (Hdep.out _ HbP.out) ?_); rintro e w7 ⟨rfl, hb7⟩; have H7 : Hid (Below wr.heap.size wr w7) := Lib.hid (HbP.out.trans (hb7.mono HbP.out.size)); have R7 := Lib.hid (below_keeps hb7 HPr.out); obtain ⟨q0, q1, q2, q3, q4, q5, q6⟩ := box_cells R7.out; clear hb7))
            go_ret2
            exact ⟨by rw [Hr.out]; rfl, HBw.out.trans (H7.out.mono HBw.out.size)⟩
          have hd' : ¬ (200 : Int) < (dd : Int) := by omega
          by_cases hz : 50000 < zz
          · skip
            have Hr : Hid (res = (0, 34)) := Lib.hid (by
              have h1 := Hpt.out
              rw [if_neg hd, if_pos hz] at h1
              have h2 := Htk.out.2 (by rw [h1]; decide)
              rw [HR1.out, h2, h1, if_pos (by decide)])
            have hz' : (50000 : Int) < (zz : Int) := by omega
            go_wp2_with (first | (go_at_call 24; rw [HQ.out]; (with_reducible refine Calls.mono (Hdep.out _ HbP.out) ?_); rintro e w7 ⟨rfl, hb7⟩; have H7 : Hid (Below wr.heap.size wr w7) := Lib.hid (HbP.out.trans (hb7.mono HbP.out.size)); have R7 := Lib.hid (below_keeps hb7 HPr.out); obtain ⟨q0, q1, q2, q3, q4, q5, q6⟩ := box_cells R7.out; clear hb7) | (go_at_call 25; (with_reducible refine Calls.mono (Hsiz.out _ H7.out) ?_); rintro e w8 ⟨rfl, hb8⟩; have H8 : Hid (Below wr.heap.size wr w8) := Lib.hid (H7.out.trans (hb8.mono H7.out.size)); have R8 := Lib.hid (below_keeps hb8 R7.out); obtain ⟨s0, s1, s2, s3, s4, s5, s6⟩ := box_cells R8.out; clear hb8))
            go_ret2
            exact ⟨by rw [Hr.out]; rfl, HBw.out.trans (H8.out.mono HBw.out.size)⟩
          have hz' : ¬ (50000 : Int) < (zz : Int) := by omega
          by_cases ho : p.op = 17
          rotate_left
          · skip
            have Hr : Hid (res = (0, 30)) := Lib.hid (by
              have h1 := Hpt.out
              rw [if_neg hd, if_neg hz, if_pos (.inl ho)] at h1
              have h2 := Htk.out.2 (by rw [h1]; decide)
              rw [HR1.out, h2, h1, if_pos (by decide)])
            have ho' : (p.op != 17) = true := by rw [bne_iff_ne]; exact ho
            go_wp2_with (first | (go_at_call 24; rw [HQ.out]; (with_reducible refine Calls.mono (Hdep.out _ HbP.out) ?_); rintro e w7 ⟨rfl, hb7⟩; have H7 : Hid (Below wr.heap.size wr w7) := Lib.hid (HbP.out.trans (hb7.mono HbP.out.size)); have R7 := Lib.hid (below_keeps hb7 HPr.out); obtain ⟨q0, q1, q2, q3, q4, q5, q6⟩ := box_cells R7.out; clear hb7) | (go_at_call 25; (with_reducible refine Calls.mono (Hsiz.out _ H7.out) ?_); rintro e w8 ⟨rfl, hb8⟩; have H8 : Hid (Below wr.heap.size wr w8) := Lib.hid (H7.out.trans (hb8.mono H7.out.size)); have R8 := Lib.hid (below_keeps hb8 R7.out); obtain ⟨s0, s1, s2, s3, s4, s5, s6⟩ := box_cells R8.out; clear hb8))
            go_ret2
            exact ⟨by rw [Hr.out]; rfl, HBw.out.trans (H8.out.mono HBw.out.size)⟩
          have ho' : (p.op != 17) = false := by rw [ho]; rfl
          have Ho := Lib.hid ho
          clear ho
          cases bb with
          | false =>
            skip
            have Hr : Hid (res = (0, 30)) := Lib.hid (by
              have h1 := Hpt.out
              rw [if_neg hd, if_neg hz, if_pos (.inr rfl)] at h1
              have h2 := Htk.out.2 (by rw [h1]; decide)
              rw [HR1.out, h2, h1, if_pos (by decide)])
            go_wp2_with (first | (go_at_call 24; rw [HQ.out]; (with_reducible refine Calls.mono (Hdep.out _ HbP.out) ?_); rintro e w7 ⟨rfl, hb7⟩; have H7 : Hid (Below wr.heap.size wr w7) := Lib.hid (HbP.out.trans (hb7.mono HbP.out.size)); have R7 := Lib.hid (below_keeps hb7 HPr.out); obtain ⟨q0, q1, q2, q3, q4, q5, q6⟩ := box_cells R7.out; clear hb7) | (go_at_call 25; (with_reducible refine Calls.mono (Hsiz.out _ H7.out) ?_); rintro e w8 ⟨rfl, hb8⟩; have H8 : Hid (Below wr.heap.size wr w8) := Lib.hid (H7.out.trans (hb8.mono H7.out.size)); have R8 := Lib.hid (below_keeps hb8 R7.out); obtain ⟨s0, s1, s2, s3, s4, s5, s6⟩ := box_cells R8.out; clear hb8) | (go_at_call 54; (with_reducible refine Calls.mono (Hbar.out _ H8.out) ?_); rintro e w9 ⟨rfl, hb9⟩; have H9 : Hid (Below wr.heap.size wr w9) := Lib.hid (H8.out.trans (hb9.mono H8.out.size)); have R9 := Lib.hid (below_keeps hb9 R8.out); obtain ⟨v0, v1, v2, v3, v4, v5, v6⟩ := box_cells R9.out; clear hb9))
            go_ret2
            exact ⟨by rw [Hr.out]; rfl, HBw.out.trans (H9.out.mono HBw.out.size)⟩
          | true =>
            by_cases hc : rp2 = 0
            rotate_left
            · skip
              have Hr : Hid (res = (0, rp2)) := Lib.hid (by
              have h1 := Hpt.out
              rw [if_neg hd, if_neg hz, if_neg (by simp [Ho.out])] at h1
              have h2 := Htk.out.2 (by rw [h1]; exact hc)
              rw [HR1.out, h2, h1, if_pos (by exact hc)])
              have hc' : (rp2 != 0) = true := by rw [bne_iff_ne]; exact hc
              go_wp2_with (first | (go_at_call 24; rw [HQ.out]; (with_reducible refine Calls.mono (Hdep.out _ HbP.out) ?_); rintro e w7 ⟨rfl, hb7⟩; have H7 : Hid (Below wr.heap.size wr w7) := Lib.hid (HbP.out.trans (hb7.mono HbP.out.size)); have R7 := Lib.hid (below_keeps hb7 HPr.out); obtain ⟨q0, q1, q2, q3, q4, q5, q6⟩ := box_cells R7.out; clear hb7) | (go_at_call 25; (with_reducible refine Calls.mono (Hsiz.out _ H7.out) ?_); rintro e w8 ⟨rfl, hb8⟩; have H8 : Hid (Below wr.heap.size wr w8) := Lib.hid (H7.out.trans (hb8.mono H7.out.size)); have R8 := Lib.hid (below_keeps hb8 R7.out); obtain ⟨s0, s1, s2, s3, s4, s5, s6⟩ := box_cells R8.out; clear hb8) | (go_at_call 54; (with_reducible refine Calls.mono (Hbar.out _ H8.out) ?_); rintro e w9 ⟨rfl, hb9⟩; have H9 : Hid (Below wr.heap.size wr w9) := Lib.hid (H8.out.trans (hb9.mono H8.out.size)); have R9 := Lib.hid (below_keeps hb9 R8.out); obtain ⟨v0, v1, v2, v3, v4, v5, v6⟩ := box_cells R9.out; clear hb9) | (go_at_call 26; (with_reducible refine Calls.mono (Hchk.out _ H9.out) ?_); rintro e w10 ⟨rfl, hb10⟩; have H10 : Hid (Below wr.heap.size wr w10) := Lib.hid (H9.out.trans (hb10.mono H9.out.size)); clear hb10))
              go_ret2
              exact ⟨by rw [Hr.out]; rfl, HBw.out.trans (H10.out.mono HBw.out.size)⟩
            have HN : Hid (patsS sig (pat.take (k + 1)) (bd ++ vars) = 0) := Lib.hid (by
              have h1 := Hpt.out
              rw [if_neg hd, if_neg hz, if_neg (by simp [Ho.out])] at h1
              rw [Htk.out.1, h1]
              exact hc)
            subst hc
            go_wp2_with (first | (go_at_call 24; rw [HQ.out]; (with_reducible refine Calls.mono (Hdep.out _ HbP.out) ?_); rintro e w7 ⟨rfl, hb7⟩; have H7 : Hid (Below wr.heap.size wr w7) := Lib.hid (HbP.out.trans (hb7.mono HbP.out.size)); have R7 := Lib.hid (below_keeps hb7 HPr.out); obtain ⟨q0, q1, q2, q3, q4, q5, q6⟩ := box_cells R7.out; clear hb7) | (go_at_call 25; (with_reducible refine Calls.mono (Hsiz.out _ H7.out) ?_); rintro e w8 ⟨rfl, hb8⟩; have H8 : Hid (Below wr.heap.size wr w8) := Lib.hid (H7.out.trans (hb8.mono H7.out.size)); have R8 := Lib.hid (below_keeps hb8 R7.out); obtain ⟨s0, s1, s2, s3, s4, s5, s6⟩ := box_cells R8.out; clear hb8) | (go_at_call 54; (with_reducible refine Calls.mono (Hbar.out _ H8.out) ?_); rintro e w9 ⟨rfl, hb9⟩; have H9 : Hid (Below wr.heap.size wr w9) := Lib.hid (H8.out.trans (hb9.mono H8.out.size)); have R9 := Lib.hid (below_keeps hb9 R8.out); obtain ⟨v0, v1, v2, v3, v4, v5, v6⟩ := box_cells R9.out; clear hb9) | (go_at_call 26; (with_reducible refine Calls.mono (Hchk.out _ H9.out) ?_); rintro e w10 ⟨rfl, hb10⟩; have H10 : Hid (Below wr.heap.size wr w10) := Lib.hid (H9.out.trans (hb10.mono H9.out.size)); clear hb10))
            go_roundw
            case rel => exact ⟨k + 1, by omega, by go_num, HN, Lib.hid (HBr.out.trans (H10.out.mono HBr.out.size))⟩
            case measure => simp [Go.RowKit.intOf] <;> omega
        · have hfull : pat.take k = pat := List.take_of_length_le (by rw [Hlp.out]; omega)
          have HR2 : Hid (res = if namedAll vars (tnamess pat) then (2, 0) else (0, 30)) := Lib.hid (by
            have h := HK.out
            rw [hfull] at h
            rw [HR1.out, if_neg (by rw [h]; simp)])
          have Hnm : Hid (Calls Tryz.prog 55 #[.agg #[.int .i64 19, .string name, .int .i64 ts, .string tn, .slice (some ⟨b, o, none⟩) 1 ca, .slice (some ⟨xb, xo, none⟩) lx cx, .slice P lp cp]] wr fun e w2 => e = .returned (.bool (namedAll vars (tnamess pat))) ∧ Below wr.heap.size wr w2) := Lib.hid (namesR_any HT.out wr (HH.out.hW.trans (HBw.out.mono HH.out.hW.size)))
          have hlt2 : ¬ (k : Int) < (lp : Int) := by omega
          clear hfull
          generalize namedAll vars (tnamess pat) = q at *
          cases q
          · have Hr : Hid (res = (0, 30)) := Lib.hid (by rw [HR2.out]; rfl)
            go_wp2_with (go_at_call 55; (with_reducible refine Calls.mono Hnm.out ?_); rintro e w7 ⟨rfl, hb7⟩; have H7 := Lib.hid hb7; clear hb7)
            go_ret2
            exact ⟨by rw [Hr.out]; rfl, HBw.out.trans (H7.out.mono HBw.out.size)⟩
          · have Hr : Hid (res = (2, 0)) := Lib.hid (by rw [HR2.out]; rfl)
            go_wp2_with (go_at_call 55; (with_reducible refine Calls.mono Hnm.out ?_); rintro e w7 ⟨rfl, hb7⟩; have H7 := Lib.hid hb7; clear hb7)
            go_ret2
            exact ⟨by rw [Hr.out]; rfl, HBw.out.trans (H7.out.mono HBw.out.size)⟩
end Go.Proofs.YtlgbepamnkfpjaaGreatDoor

/- More functions behind those that are there say nothing; the reference's check, whole. -/
set_option linter.unusedVariables false
set_option linter.unusedSimpArgs false
namespace Go.Proofs.YtlgbepamnkfpjaaGreatDoor
open Go.RowKit Go.Lib

theorem firstFn_more {sig more : List Fn} {x : ByteArray} {k : Nat} (h : firstFn sig x = some k) : firstFn (sig ++ more) x = some k := by
  unfold firstFn at h ⊢
  rw [List.findIdx?_append, h]
  rfl
theorem foundFn_more {sig more : List Fn} {x : ByteArray} {f : Fn} (h : foundFn sig x = some f) : foundFn (sig ++ more) x = some f := by
  unfold foundFn at h ⊢
  cases hk : firstFn sig x with
  | none => rw [hk] at h; cases h
  | some k =>
    rw [hk] at h
    rw [firstFn_more hk]
    dsimp only at h ⊢
    rw [List.getElem?_append_left (firstFn_lt hk)]
    exact h
theorem appE_more {sig more : List Fn} {x : ByteArray} {n : Nat} (h : appE sig x n = 0) : appE (sig ++ more) x n = 0 ∧ ∃ f, foundFn sig x = some f := by
  unfold appE at h ⊢
  unfold foundFn
  cases hk : firstFn sig x with
  | none => rw [hk] at h; cases h
  | some k =>
    rw [hk] at h
    rw [firstFn_more hk]
    dsimp only at h ⊢
    rw [List.getElem?_append_left (firstFn_lt hk)]
    cases hf : sig[k]? with
    | none => rw [hf] at h; cases h
    | some f => rw [hf] at h; exact ⟨h, f, rfl⟩
mutual
theorem checkS_more (sig more : List Fn) : ∀ (t : Tm) (bd : Bd), (checkS sig t bd).2 = 0 → checkS (sig ++ more) t bd = checkS sig t bd
  | .mk op name sort n l vars pat, bd, h => by
    have ihl := checksS_more sig more l (if op = 19 then bd ++ vars else bd)
    have ihp := patsS_more sig more pat (bd ++ vars)
    simp only [checkS] at h ⊢
    by_cases h1 : shapeB (.mk op name sort n l vars pat) = false
    · rw [if_pos h1] at h; cases h
    rw [if_neg h1] at h
    simp only [if_neg h1]
    by_cases h2 : ofE sig op name sort l.length bd ≠ 0
    · rw [if_pos h2] at h; exact absurd h h2
    rw [if_neg h2] at h
    have h2 : ofE sig op name sort l.length bd = 0 := by simpa using h2
    have h3 : ofE (sig ++ more) op name sort l.length bd = 0 := by
      unfold ofE at h2 ⊢
      by_cases e : op = 18
      · rw [if_pos e] at h2 ⊢; exact h2
      · rw [if_neg e] at h2 ⊢
        by_cases e2 : op = 17
        · rw [if_pos e2] at h2 ⊢; exact (appE_more h2).1
        · rw [if_neg e2]
    have h4 : ∀ xs, nodeS (sig ++ more) op name sort xs = nodeS sig op name sort xs := by
      intro xs
      by_cases e : op = 17
      · subst e
        have h5 : appE sig name l.length = 0 := by simpa [ofE] using h2
        obtain ⟨_, f, hf⟩ := appE_more (more := more) h5
        have hf2 := foundFn_more (more := more) hf
        simp [nodeS, hf, hf2]
      · unfold nodeS
        simp only [if_neg e]
    rw [h2, h3]
    simp only [ne_eq, not_true, if_false]
    by_cases h5 : (checksS sig l (if op = 19 then bd ++ vars else bd)).2 ≠ 0
    · rw [if_pos h5] at h; exact absurd h h5
    rw [if_neg h5] at h
    have ihl := ihl (by simpa using h5)
    rw [ihl]
    simp only [if_neg h5]
    rw [h4]
    by_cases h6 : op = 19 ∧ (nodeS sig op name sort (checksS sig l (if op = 19 then bd ++ vars else bd)).1).2 = 0
    · simp only [if_pos h6] at h ⊢
      by_cases h7 : patsS sig pat (bd ++ vars) = 0
      · rw [ihp h7, h7]
      · rw [if_pos h7, if_pos h7] at h
        exact absurd h h7
    · simp only [if_neg h6]
theorem checksS_more (sig more : List Fn) : ∀ (l : List Tm) (bd : Bd), (checksS sig l bd).2 = 0 → checksS (sig ++ more) l bd = checksS sig l bd
  | [], _, _ => by simp [checksS]
  | t :: ts, bd, h => by
    have h1 := checkS_more sig more t bd
    have h2 := checksS_more sig more ts bd
    simp only [checksS] at h ⊢
    by_cases e1 : (checkS sig t bd).2 = 0
    · rw [if_neg (by simpa using e1)] at h
      by_cases e2 : (checksS sig ts bd).2 = 0
      · rw [h1 e1, h2 e2]
      · rw [if_pos e2] at h
        exact absurd h e2
    · rw [if_pos e1] at h
      exact absurd h e1
theorem patsS_more (sig more : List Fn) : ∀ (l : List Tm) (bd : Bd), patsS sig l bd = 0 → patsS (sig ++ more) l bd = 0
  | [], _, _ => by simp [patsS]
  | p :: ps, bd, h => by
    have h1 := checkS_more sig more p bd
    have h2 := patsS_more sig more ps bd
    simp only [patsS] at h ⊢
    by_cases e1 : 200 < tdepth p
    · rw [if_pos e1] at h; cases h
    rw [if_neg e1] at h ⊢
    by_cases e2 : 50000 < tsize p
    · rw [if_pos e2] at h; cases h
    rw [if_neg e2] at h ⊢
    by_cases e3 : opOf p ≠ 17 ∨ tbare p = false
    · rw [if_pos e3] at h; cases h
    rw [if_neg e3] at h ⊢
    by_cases e4 : (checkS sig p bd).2 ≠ 0
    · rw [if_pos e4] at h; exact absurd h e4
    rw [if_neg e4] at h
    rw [h1 (by simpa using e4), if_neg e4]
    exact h2 h
end
theorem checkTop_more (sig more : List Fn) (t : Tm) (h : (checkTop sig t).2 = 0) : checkTop (sig ++ more) t = checkTop sig t := by
  unfold checkTop at h ⊢
  by_cases h1 : 200 < tdepth t
  · rw [if_pos h1] at h; cases h
  · rw [if_neg h1] at h
    simp only [if_neg h1]
    by_cases h2 : 50000 < tsize t
    · rw [if_pos h2] at h; cases h
    · rw [if_neg h2] at h
      simp only [if_neg h2]
      exact checkS_more sig more t [] h
theorem refOK_any {w0 : World} {sig : List Fn} {S : Option Addr} {cs : Nat} (hS : FnsAt w0 S sig) (hns : sig.length ≤ 140737488355328) (hout : ∀ f ∈ sig, i64 f.out) {t : Tm} {v : Value} (h : TmV w0 t v) : RefOK w0 sig S cs t v := by
  induction h with
  | @mk op name ts tn l vars pat A X P ca cx cp f g hbd hl hf hL hv hX hp hg hP ihL ihP =>
    intro bd V cv W hW hV hcv hbl hok hV0
    have H : RefPre w0 sig S cs op ts name tn l vars pat A X P ca cx cp f g bd V cv W := ⟨hbd, hf, hL, ihL, hX, hg, hP, ihP, hl, hv, hp, hS, hns, hout, hW, hV, hcv, hbl, hok, hV0⟩
    by_cases h1 : op < 1 ∨ 19 < op
    · exact check_bad H h1
    · have h2 : op = 1 ∨ op = 2 ∨ op = 3 ∨ op = 4 ∨ op = 5 ∨ op = 6 ∨ op = 7 ∨ op = 8 ∨ op = 9 ∨ op = 10 ∨ op = 11 ∨ op = 12 ∨ op = 13 ∨ op = 14 ∨ op = 15 ∨ op = 16 ∨ op = 17 ∨ op = 18 ∨ op = 19 := by omega
      rcases h2 with rfl | rfl | rfl | rfl | rfl | rfl | rfl | rfl | rfl | rfl | rfl | rfl | rfl | rfl | rfl | rfl | rfl | rfl | rfl
      · exact check_num H
      · exact check_op2 H
      · exact check_op3 H
      · exact check_op4 H
      · exact check_op5 H
      · exact check_op6 H
      · exact check_op7 H
      · exact check_op8 H
      · exact check_op9 H
      · exact check_op10 H
      · exact check_op11 H
      · exact check_op12 H
      · exact check_op13 H
      · exact check_op14 H
      · exact check_op15 H
      · exact check_op16 H
      · exact check_app H
      · exact check_var H
      · exact check_all H
set_option maxRecDepth 100000 in
set_option maxHeartbeats 4000000 in
theorem CheckR_any {w0 : World} {sig : List Fn} {S : Option Addr} {cs : Nat} (hS : FnsAt w0 S sig) (hns : sig.length ≤ 140737488355328) (hout : ∀ f ∈ sig, i64 f.out) {t : Tm} {v : Value} (h : TmV w0 t v) (htw : tw t ≤ 1000000) : ∀ W, Below w0.heap.size w0 W →
    Calls Tryz.prog 9 #[.slice S sig.length cs, v] W (SortIs W (checkTop sig t)) := by
  intro W hW
  obtain ⟨p, rfl⟩ := h.parts
  have hts : tsize t ≤ 1000000 := by have := tsize_tw t; omega
  have Hdb : Hid (tdepth t ≤ 1000000) := Lib.hid (by have := tdepth_le t; omega)
  have Hzb := Lib.hid hts
  have HB : Hid (Below W.heap.size W (boxT W p)) := Lib.hid (below_boxT _ _)
  have Hrow := Lib.hid (boxT_row W p)
  have HE : Hid (W.alloc (.cells #[.int .i64 p.op, .string p.name, .int .i64 p.sort, .string p.n, .slice p.A p.la p.ca, .slice p.V p.lv p.cv, .slice p.P p.lp p.cp] 26) = boxT W p) := Lib.hid rfl
  have Hd : Hid (∀ w', Below (boxT W p).heap.size (boxT W p) w' → Below w0.heap.size w0 w') := Lib.hid (fun w' hb => hW.trans ((HB.out.trans (hb.mono HB.out.size)).mono hW.size))
  have Hdep : Hid (∀ w', Below (boxT W p).heap.size (boxT W p) w' → Calls Tryz.prog 24 #[.agg #[.int .i64 p.op, .string p.name, .int .i64 p.sort, .string p.n, .slice p.A p.la p.ca, .slice p.V p.lv p.cv, .slice p.P p.lp p.cp]] w' fun e w2 => e = .returned (.int .i64 (tdepth t)) ∧ Below w'.heap.size w' w2) := Lib.hid (fun w' hb => DepthR_any h hts w' (Hd.out w' hb))
  have Hsiz : Hid (∀ w', Below (boxT W p).heap.size (boxT W p) w' → Calls Tryz.prog 25 #[.agg #[.int .i64 p.op, .string p.name, .int .i64 p.sort, .string p.n, .slice p.A p.la p.ca, .slice p.V p.lv p.cv, .slice p.P p.lp p.cp]] w' fun e w2 => e = .returned (.int .i64 (tsize t)) ∧ Below w'.heap.size w' w2) := Lib.hid (fun w' hb => SizeR_any h hts w' (Hd.out w' hb))
  have Hchk : Hid (∀ w', Below (boxT W p).heap.size (boxT W p) w' → Calls Tryz.prog 26 #[.slice S sig.length cs, .agg #[.int .i64 p.op, .string p.name, .int .i64 p.sort, .string p.n, .slice p.A p.la p.ca, .slice p.V p.lv p.cv, .slice p.P p.lp p.cp], .slice none 0 0] w' (SortIs w' (checkS sig t []))) := Lib.hid (fun w' hb => refOK_any hS hns hout h [] none 0 w' (Hd.out w' hb) (.inl rfl) (Nat.le_refl _) (by simpa using htw) (fun x hx => by cases hx) (fun _ => rfl))
  have HT : Hid (checkTop sig t = if 200 < tdepth t then (0, 33) else if 50000 < tsize t then (0, 34) else checkS sig t []) := Lib.hid rfl
  clear h hW hS hout htw hts
  obtain ⟨ns, hns2⟩ : ∃ n, sig.length = n := ⟨_, rfl⟩
  rw [hns2] at Hchk ⊢
  clear hns2 hns
  generalize checkTop sig t = res at *
  generalize checkS sig t [] = r at *
  generalize tdepth t = dd at *
  generalize tsize t = zz at *
  obtain ⟨r1, r2⟩ := r
  have hdb := Hdb.out
  have hzb := Hzb.out
  obtain ⟨WB, hWB⟩ : ∃ WB, boxT W p = WB := ⟨_, rfl⟩
  rw [hWB] at Hdep Hsiz Hchk HE Hrow HB
  clear hWB Hd
  unfold Parts.arr
  by_cases hd : 200 < dd
  · have Hr : Hid (res = (0, 33)) := Lib.hid (by rw [HT.out, if_pos hd])
    have hd' : (200 : Int) < (dd : Int) := by omega
    go_enter Tryz.func9, Tryz.ntmps9
    go_wp2_with (go_at_call 24; rw [HE.out]; (with_reducible refine Calls.mono (Hdep.out _ (Below.refl _ _)) ?_); rintro e w3 ⟨rfl, hb3⟩; have Hb3 := Lib.hid hb3; clear hb3)
    go_ret2
    exact ⟨by rw [Hr.out]; rfl, HB.out.trans (Hb3.out.mono HB.out.size)⟩
  have hd' : ¬ (200 : Int) < (dd : Int) := by omega
  by_cases hz : 50000 < zz
  · have Hr : Hid (res = (0, 34)) := Lib.hid (by rw [HT.out, if_neg hd, if_pos hz])
    have hz' : (50000 : Int) < (zz : Int) := by omega
    go_enter Tryz.func9, Tryz.ntmps9
    go_wp2_with (first
      | (go_at_call 24; rw [HE.out]; (with_reducible refine Calls.mono (Hdep.out _ (Below.refl _ _)) ?_); rintro e w3 ⟨rfl, hb3⟩; have Hb3 := Lib.hid hb3; obtain ⟨q0, q1, q2, q3, q4, q5, q6⟩ := box_cells (below_keeps hb3 Hrow.out); clear hb3)
      | (go_at_call 25; (with_reducible refine Calls.mono (Hsiz.out _ Hb3.out) ?_); rintro e w4 ⟨rfl, hb4⟩; have Hb4 := Lib.hid (Hb3.out.trans (hb4.mono Hb3.out.size)); clear hb4))
    go_ret2
    exact ⟨by rw [Hr.out]; rfl, HB.out.trans (Hb4.out.mono HB.out.size)⟩
  have hz' : ¬ (50000 : Int) < (zz : Int) := by omega
  have Hr : Hid (res = (r1, r2)) := Lib.hid (by rw [HT.out, if_neg hd, if_neg hz])
  go_enter Tryz.func9, Tryz.ntmps9
  go_wp2_with (first
    | (go_at_call 24; rw [HE.out]; (with_reducible refine Calls.mono (Hdep.out _ (Below.refl _ _)) ?_); rintro e w3 ⟨rfl, hb3⟩; have Hb3 := Lib.hid hb3; obtain ⟨q0, q1, q2, q3, q4, q5, q6⟩ := box_cells (below_keeps hb3 Hrow.out); have Hk3 := Lib.hid (below_keeps hb3 Hrow.out); clear hb3)
    | (go_at_call 25; (with_reducible refine Calls.mono (Hsiz.out _ Hb3.out) ?_); rintro e w4 ⟨rfl, hb4⟩; have Hb4 := Lib.hid (Hb3.out.trans (hb4.mono Hb3.out.size)); obtain ⟨s0, s1, s2, s3, s4, s5, s6⟩ := box_cells (below_keeps hb4 Hk3.out); clear hb4)
    | (go_at_call 26; (with_reducible refine Calls.mono (Hchk.out _ Hb4.out) ?_); rintro e w5 ⟨rfl, hb5⟩; have Hb5 := Lib.hid (Hb4.out.trans (hb5.mono Hb4.out.size)); clear hb5))
  go_ret2
  exact ⟨by rw [Hr.out]; rfl, HB.out.trans (Hb5.out.mono HB.out.size)⟩
end Go.Proofs.YtlgbepamnkfpjaaGreatDoor
