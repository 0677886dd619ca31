/- The reference's check: equations, choices. -/
import Derived.Test.YtlgbepamnkfpjaaGreatDoorM37
set_option linter.unusedSimpArgs false
set_option linter.unusedVariables false
set_option linter.unusedVariables false
set_option linter.unusedSimpArgs false
namespace Go.Proofs.YtlgbepamnkfpjaaGreatDoor
open Go.RowKit Go.Lib

set_option maxRecDepth 100000 in
set_option maxHeartbeats 4000000 in
theorem check_op9 {w0 : World} {sig : List Fn} {S : Option Addr} {cs : Nat} {ts : Int} {name tn : ByteArray} {l : List Tm} {vars : Bd} {pat : List Tm} {A X P : Option Addr} {ca cx cp : Nat} {f g : Nat → Value} {bd : Bd} {V : Option Addr} {cv : Nat} {W : World} (H : RefPre w0 sig S cs 9 ts name tn l vars pat A X P ca cx cp f g bd V cv W) : Calls Tryz.prog 26 #[.slice S sig.length cs, .agg #[.int .i64 9, .string name, .int .i64 ts, .string tn, .slice A l.length ca, .slice X vars.length cx, .slice P pat.length cp], .slice V bd.length cv] W (SortIs W (checkS sig (.mk 9 name ts tn l vars pat) bd)) := by
  have HH := Lib.hid H
  have hll0 := H.hbd.l
  have hlp0 := H.hbd.p
  have hlx0 := H.hbd.v
  have hnb0 : bd.length ≤ 1000000 := by have := H.hbl; omega
  have hns0 := H.hns
  have Hrow := Lib.hid (boxT_row W ⟨9, name, ts, tn, A, l.length, ca, X, vars.length, cx, P, pat.length, cp⟩)
  have HB : Hid (Below W.heap.size W (boxT W ⟨9, name, ts, tn, A, l.length, ca, X, vars.length, cx, P, pat.length, cp⟩)) := Lib.hid (below_boxT _ _)
  obtain ⟨x0, x1, x2, x3, x4, x5, x6⟩ := box_cells Hrow.out
  dsimp only at x0 x1 x2 x3 x4 x5 x6
  unfold boxT at x0 x1 x2 x3 x4 x5 x6
  dsimp only at x0 x1 x2 x3 x4 x5 x6
  obtain ⟨WB, hWB⟩ : ∃ WB, WB = boxT W ⟨9, name, ts, tn, A, l.length, ca, X, vars.length, cx, P, pat.length, cp⟩ := ⟨_, rfl⟩
  have HWB := Lib.hid hWB
  have HS : Hid (WB.heap.size = W.heap.size + 1) := Lib.hid (by rw [hWB]; exact boxT_size _ _)
  have HE : Hid (W.alloc (.cells #[.int .i64 9, .string name, .int .i64 ts, .string tn, .slice A l.length ca, .slice X vars.length cx, .slice P pat.length cp] 26) = WB) := Lib.hid hWB.symm
  rw [← hWB] at Hrow HB
  clear hWB H
  obtain ⟨res, hres⟩ : ∃ res, checkS sig (.mk 9 name ts tn l vars pat) bd = res := ⟨_, rfl⟩
  have HD := Lib.hid hres
  rw [hres]
  obtain ⟨ll, hll⟩ : ∃ n, l.length = n := ⟨_, rfl⟩
  obtain ⟨lx, hlx⟩ : ∃ n, vars.length = n := ⟨_, rfl⟩
  obtain ⟨lp, hlp⟩ : ∃ n, pat.length = n := ⟨_, rfl⟩
  obtain ⟨ns, hns⟩ : ∃ n, sig.length = n := ⟨_, rfl⟩
  obtain ⟨nb, hnb⟩ : ∃ n, bd.length = n := ⟨_, rfl⟩
  have Hll := Lib.hid hll
  have Hlx := Lib.hid hlx
  have Hlp := Lib.hid hlp
  have Hns := Lib.hid hns
  have Hnb := Lib.hid hnb
  rw [hll] at hll0 HWB Hrow HE x4
  rw [hlx] at hlx0 HWB Hrow HE x5
  rw [hlp] at hlp0 HWB Hrow HE x6
  simp only [hll, hlx, hlp] at x0 x1 x2 x3 x4 x5 x6
  rw [hll, hlx, hlp, hns, hnb]
  rw [hns] at hns0
  rw [hnb] at hnb0
  clear hll hlx hlp hns hnb hres
  by_cases h0 : ll = 2
  rotate_left
  · have Hr : Hid (res = (0, 30)) := Lib.hid (by
      rw [← HD.out, checkS_shape]
      simp only [shapeB]
      rw [Hll.out]
      simp
      omega)
    have h0' : ((ll : Int) != 2) = true := by rw [bne_iff_ne]; omega
    go_enter Tryz.func26, Tryz.ntmps26
    go_wp2_with fail
    go_ret2
    exact ⟨by rw [Hr.out]; rfl, by rw [HE.out]; exact HB.out⟩
  subst h0
  have hq : ∃ b o, A = some ⟨b, o, none⟩ := by
    obtain ⟨p, hp⟩ := (HH.out.hL 0 _ (List.getElem?_eq_getElem (show 0 < l.length by rw [Hll.out]; omega))).parts
    obtain ⟨b, o, e, _⟩ := HH.out.hf.get (show 0 < l.length by rw [Hll.out]; omega) hp
    exact ⟨b, o, e⟩
  obtain ⟨b, o, rfl⟩ := hq
  have Hbox : Hid (∀ w', Below WB.heap.size WB w' → w'.cell? ⟨W.heap.size, 4, none⟩ = some (.slice (some ⟨b, o, none⟩) 2 ca)) := Lib.hid (fun w' hb => by
    have := box_cells (below_keeps hb Hrow.out)
    exact this.2.2.2.2.1)
  have hj0 : 0 < l.length := by rw [Hll.out]; omega
  obtain ⟨p0, hp0⟩ := (HH.out.hL 0 _ (List.getElem?_eq_getElem hj0)).parts
  have Hc0 : Hid (∀ w', Below WB.heap.size WB w' → Calls Tryz.prog 26 #[.slice S ns cs, .agg #[.int .i64 p0.op, .string p0.name, .int .i64 p0.sort, .string p0.n, .slice p0.A p0.la p0.ca, .slice p0.V p0.lv p0.cv, .slice p0.P p0.lp p0.cp], .slice V nb cv] w' (SortIs w' (checkS sig l[0] bd))) := Lib.hid (fun w' hb => by
    have hw := HB.out.trans (hb.mono HB.out.size)
    have ht := List.getElem?_eq_getElem hj0
    have hbl := HH.out.hbl
    simp only [tw] at hbl
    have h := HH.out.hR 0 _ ht bd V cv w' (HH.out.hW.trans (hw.mono HH.out.hW.size)) (HH.out.hV.below hw) HH.out.hcv (by have := tws_mem ht; omega) HH.out.okb HH.out.hV0
    rw [hp0, Hns.out, Hnb.out] at h
    exact h)
  have Hg0 : Hid (∀ w', Below WB.heap.size WB w' → w'.cell? ⟨b, o, none⟩ = some (.int .i64 p0.op) ∧ w'.cell? ⟨b, o + 1, none⟩ = some (.string p0.name) ∧ w'.cell? ⟨b, o + 2, none⟩ = some (.int .i64 p0.sort) ∧ w'.cell? ⟨b, o + 3, none⟩ = some (.string p0.n) ∧ w'.cell? ⟨b, o + 4, none⟩ = some (.slice p0.A p0.la p0.ca) ∧ w'.cell? ⟨b, o + 5, none⟩ = some (.slice p0.V p0.lv p0.cv) ∧ w'.cell? ⟨b, o + 6, none⟩ = some (.slice p0.P p0.lp p0.cp)) := Lib.hid (fun w' hb => by
    obtain ⟨b', o', he, g0, g1, g2, g3, g4, g5, g6⟩ := (HH.out.hf.below (HH.out.hW.trans ((HB.out.trans (hb.mono HB.out.size)).mono HH.out.hW.size))).get hj0 hp0
    cases he
    simp only [Nat.zero_mul, Nat.add_zero] at g0 g1 g2 g3 g4 g5 g6
    exact ⟨g0, g1, g2, g3, g4, g5, g6⟩)
  have hj1 : 1 < l.length := by rw [Hll.out]; omega
  obtain ⟨p1, hp1⟩ := (HH.out.hL 1 _ (List.getElem?_eq_getElem hj1)).parts
  have Hc1 : Hid (∀ w', Below WB.heap.size WB w' → Calls Tryz.prog 26 #[.slice S ns cs, .agg #[.int .i64 p1.op, .string p1.name, .int .i64 p1.sort, .string p1.n, .slice p1.A p1.la p1.ca, .slice p1.V p1.lv p1.cv, .slice p1.P p1.lp p1.cp], .slice V nb cv] w' (SortIs w' (checkS sig l[1] bd))) := Lib.hid (fun w' hb => by
    have hw := HB.out.trans (hb.mono HB.out.size)
    have ht := List.getElem?_eq_getElem hj1
    have hbl := HH.out.hbl
    simp only [tw] at hbl
    have h := HH.out.hR 1 _ ht bd V cv w' (HH.out.hW.trans (hw.mono HH.out.hW.size)) (HH.out.hV.below hw) HH.out.hcv (by have := tws_mem ht; omega) HH.out.okb HH.out.hV0
    rw [hp1, Hns.out, Hnb.out] at h
    exact h)
  have Hg1 : Hid (∀ w', Below WB.heap.size WB w' → w'.cell? ⟨b, o + 7, none⟩ = some (.int .i64 p1.op) ∧ w'.cell? ⟨b, o + 7 + 1, none⟩ = some (.string p1.name) ∧ w'.cell? ⟨b, o + 7 + 2, none⟩ = some (.int .i64 p1.sort) ∧ w'.cell? ⟨b, o + 7 + 3, none⟩ = some (.string p1.n) ∧ w'.cell? ⟨b, o + 7 + 4, none⟩ = some (.slice p1.A p1.la p1.ca) ∧ w'.cell? ⟨b, o + 7 + 5, none⟩ = some (.slice p1.V p1.lv p1.cv) ∧ w'.cell? ⟨b, o + 7 + 6, none⟩ = some (.slice p1.P p1.lp p1.cp)) := Lib.hid (fun w' hb => by
    obtain ⟨b', o', he, g0, g1, g2, g3, g4, g5, g6⟩ := (HH.out.hf.below (HH.out.hW.trans ((HB.out.trans (hb.mono HB.out.size)).mono HH.out.hW.size))).get hj1 hp1
    cases he
    skip
    exact ⟨g0, g1, g2, g3, g4, g5, g6⟩)
  obtain ⟨rs, Hrs⟩ : ∃ rs : Int × Int → Prop, True := ⟨fun _ => True, trivial⟩
  have Hls : Hid (l = [l[0], l[1]]) := Lib.hid (by
    apply List.ext_getElem
    · simp [Hll.out]
    · intro i h1 h2
      have : i = 0 ∨ i = 1 := by rw [Hll.out] at h1; omega
      rcases this with rfl | rfl <;> rfl)
  have HR : Hid (res = (if (checksS sig [l[0], l[1]] bd).2 ≠ 0 then ((0 : Int), (checksS sig [l[0], l[1]] bd).2) else nodeS sig 9 name ts (checksS sig [l[0], l[1]] bd).1)) := Lib.hid (by
    rw [← Hls.out, ← HD.out]
    simp only [checkS]
    rw [if_neg (by simp [shapeB, Hll.out]), if_neg (by simp [ofE]), if_neg (c := (9 : Int) = 19) (by decide)]
    split
    · rfl
    · rw [if_neg (c := (9 : Int) = 19 ∧ _) (fun h => absurd h.1 (by decide))]
      simp only [nodeS]
      simp only [equalS]
      simp
      split <;> rfl)
  generalize l[0] = t0 at *
  generalize l[1] = t1 at *
  obtain ⟨⟨a0, c0⟩, hr0⟩ : ∃ r, checkS sig t0 bd = r := ⟨_, rfl⟩
  rw [hr0] at Hc0
  obtain ⟨⟨a1, c1⟩, hr1⟩ : ∃ r, checkS sig t1 bd = r := ⟨_, rfl⟩
  rw [hr1] at Hc1
  have z4 := Hbox.out WB (Below.refl _ _)
  obtain ⟨g0, g1, g2, g3, g4, g5, g6⟩ := Hg0.out WB (Below.refl _ _)
  rw [← HE.out] at g0 g1 g2 g3 g4 g5 g6
  clear z4
  have HnE := Lib.hid True.intro
  by_cases h0 : c0 = 0
  rotate_left
  · have Hr : Hid (res = (0, c0)) := Lib.hid (by
      rw [HR.out]
      simp [checksS, hr0, hr1, h0])
    have h0' : (c0 != 0) = true := by rw [bne_iff_ne]; exact h0
    clear HR hr0 hr1 Hls HH
    go_enter Tryz.func26, Tryz.ntmps26
    go_wp2_with (first | (go_at_call 26; rw [HE.out]; (with_reducible refine Calls.mono (Hc0.out _ (Below.refl _ _)) ?_); rintro e w0c ⟨rfl, hb0⟩; have Hb0 : Hid (Below WB.heap.size WB w0c) := Lib.hid hb0; clear hb0; obtain ⟨g0, g1, g2, g3, g4, g5, g6⟩ := Hg1.out _ Hb0.out; have z4 := Hbox.out _ Hb0.out))
    go_ret2
    exact ⟨by rw [Hr.out]; rfl, HB.out.trans (Hb0.out.mono HB.out.size)⟩
  by_cases h1 : c1 = 0
  rotate_left
  · have Hr : Hid (res = (0, c1)) := Lib.hid (by
      rw [HR.out]
      simp [checksS, hr0, hr1, h1, h0])
    have h1' : (c1 != 0) = true := by rw [bne_iff_ne]; exact h1
    subst h0
    clear HR hr0 hr1 Hls HH
    go_enter Tryz.func26, Tryz.ntmps26
    go_wp2_with (first | (go_at_call 26; rw [HE.out]; (with_reducible refine Calls.mono (Hc0.out _ (Below.refl _ _)) ?_); rintro e w0c ⟨rfl, hb0⟩; have Hb0 : Hid (Below WB.heap.size WB w0c) := Lib.hid hb0; clear hb0; obtain ⟨g0, g1, g2, g3, g4, g5, g6⟩ := Hg1.out _ Hb0.out; have z4 := Hbox.out _ Hb0.out) | (go_at_call 26; (with_reducible refine Calls.mono (Hc1.out _ Hb0.out) ?_); rintro e w1c ⟨rfl, hb1⟩; have Hb1 : Hid (Below WB.heap.size WB w1c) := Lib.hid (Hb0.out.trans (hb1.mono Hb0.out.size)); clear hb1))
    go_ret2
    exact ⟨by rw [Hr.out]; rfl, HB.out.trans (Hb1.out.mono HB.out.size)⟩
  have HR2 : Hid (res = if a0 = a1 then (2, 0) else (0, 31)) := Lib.hid (by
    rw [HR.out]
    simp [checksS, hr0, hr1, h0, h1, nodeS, equalS])
  clear HR hr0 hr1 Hls HH
  subst h0
  subst h1
  by_cases hq : a0 = a1
  · have Hr : Hid (res = (2, 0)) := Lib.hid (by rw [HR2.out, if_pos hq])
    subst hq
    go_enter Tryz.func26, Tryz.ntmps26
    go_wp2_with (first | (go_at_call 26; rw [HE.out]; (with_reducible refine Calls.mono (Hc0.out _ (Below.refl _ _)) ?_); rintro e w0c ⟨rfl, hb0⟩; have Hb0 : Hid (Below WB.heap.size WB w0c) := Lib.hid hb0; clear hb0; obtain ⟨g0, g1, g2, g3, g4, g5, g6⟩ := Hg1.out _ Hb0.out; have z4 := Hbox.out _ Hb0.out) | (go_at_call 26; (with_reducible refine Calls.mono (Hc1.out _ Hb0.out) ?_); rintro e w1c ⟨rfl, hb1⟩; have Hb1 : Hid (Below WB.heap.size WB w1c) := Lib.hid (Hb0.out.trans (hb1.mono Hb0.out.size)); clear hb1))
    go_ret2
    exact ⟨by rw [Hr.out]; rfl, HB.out.trans (Hb1.out.mono HB.out.size)⟩
  · have Hr : Hid (res = (0, 31)) := Lib.hid (by rw [HR2.out, if_neg hq])
    have hq1 : (a0 != a1) = true := by rw [bne_iff_ne]; exact hq
    go_enter Tryz.func26, Tryz.ntmps26
    go_wp2_with (first | (go_at_call 26; rw [HE.out]; (with_reducible refine Calls.mono (Hc0.out _ (Below.refl _ _)) ?_); rintro e w0c ⟨rfl, hb0⟩; have Hb0 : Hid (Below WB.heap.size WB w0c) := Lib.hid hb0; clear hb0; obtain ⟨g0, g1, g2, g3, g4, g5, g6⟩ := Hg1.out _ Hb0.out; have z4 := Hbox.out _ Hb0.out) | (go_at_call 26; (with_reducible refine Calls.mono (Hc1.out _ Hb0.out) ?_); rintro e w1c ⟨rfl, hb1⟩; have Hb1 : Hid (Below WB.heap.size WB w1c) := Lib.hid (Hb0.out.trans (hb1.mono Hb0.out.size)); clear hb1))
    go_ret2
    exact ⟨by rw [Hr.out]; rfl, HB.out.trans (Hb1.out.mono HB.out.size)⟩
end Go.Proofs.YtlgbepamnkfpjaaGreatDoor

/- The reference's check: choices. -/
set_option linter.unusedVariables false
set_option linter.unusedSimpArgs false
namespace Go.Proofs.YtlgbepamnkfpjaaGreatDoor
open Go.RowKit Go.Lib

set_option maxRecDepth 100000 in
set_option maxHeartbeats 4000000 in
theorem check_op16 {w0 : World} {sig : List Fn} {S : Option Addr} {cs : Nat} {ts : Int} {name tn : ByteArray} {l : List Tm} {vars : Bd} {pat : List Tm} {A X P : Option Addr} {ca cx cp : Nat} {f g : Nat → Value} {bd : Bd} {V : Option Addr} {cv : Nat} {W : World} (H : RefPre w0 sig S cs 16 ts name tn l vars pat A X P ca cx cp f g bd V cv W) : Calls Tryz.prog 26 #[.slice S sig.length cs, .agg #[.int .i64 16, .string name, .int .i64 ts, .string tn, .slice A l.length ca, .slice X vars.length cx, .slice P pat.length cp], .slice V bd.length cv] W (SortIs W (checkS sig (.mk 16 name ts tn l vars pat) bd)) := by
  have HH := Lib.hid H
  have hll0 := H.hbd.l
  have hlp0 := H.hbd.p
  have hlx0 := H.hbd.v
  have hnb0 : bd.length ≤ 1000000 := by have := H.hbl; omega
  have hns0 := H.hns
  have Hrow := Lib.hid (boxT_row W ⟨16, name, ts, tn, A, l.length, ca, X, vars.length, cx, P, pat.length, cp⟩)
  have HB : Hid (Below W.heap.size W (boxT W ⟨16, name, ts, tn, A, l.length, ca, X, vars.length, cx, P, pat.length, cp⟩)) := Lib.hid (below_boxT _ _)
  obtain ⟨x0, x1, x2, x3, x4, x5, x6⟩ := box_cells Hrow.out
  dsimp only at x0 x1 x2 x3 x4 x5 x6
  unfold boxT at x0 x1 x2 x3 x4 x5 x6
  dsimp only at x0 x1 x2 x3 x4 x5 x6
  obtain ⟨WB, hWB⟩ : ∃ WB, WB = boxT W ⟨16, name, ts, tn, A, l.length, ca, X, vars.length, cx, P, pat.length, cp⟩ := ⟨_, rfl⟩
  have HWB := Lib.hid hWB
  have HS : Hid (WB.heap.size = W.heap.size + 1) := Lib.hid (by rw [hWB]; exact boxT_size _ _)
  have HE : Hid (W.alloc (.cells #[.int .i64 16, .string name, .int .i64 ts, .string tn, .slice A l.length ca, .slice X vars.length cx, .slice P pat.length cp] 26) = WB) := Lib.hid hWB.symm
  rw [← hWB] at Hrow HB
  clear hWB H
  obtain ⟨res, hres⟩ : ∃ res, checkS sig (.mk 16 name ts tn l vars pat) bd = res := ⟨_, rfl⟩
  have HD := Lib.hid hres
  rw [hres]
  obtain ⟨ll, hll⟩ : ∃ n, l.length = n := ⟨_, rfl⟩
  obtain ⟨lx, hlx⟩ : ∃ n, vars.length = n := ⟨_, rfl⟩
  obtain ⟨lp, hlp⟩ : ∃ n, pat.length = n := ⟨_, rfl⟩
  obtain ⟨ns, hns⟩ : ∃ n, sig.length = n := ⟨_, rfl⟩
  obtain ⟨nb, hnb⟩ : ∃ n, bd.length = n := ⟨_, rfl⟩
  have Hll := Lib.hid hll
  have Hlx := Lib.hid hlx
  have Hlp := Lib.hid hlp
  have Hns := Lib.hid hns
  have Hnb := Lib.hid hnb
  rw [hll] at hll0 HWB Hrow HE x4
  rw [hlx] at hlx0 HWB Hrow HE x5
  rw [hlp] at hlp0 HWB Hrow HE x6
  simp only [hll, hlx, hlp] at x0 x1 x2 x3 x4 x5 x6
  rw [hll, hlx, hlp, hns, hnb]
  rw [hns] at hns0
  rw [hnb] at hnb0
  clear hll hlx hlp hns hnb hres
  by_cases h0 : ll = 3
  rotate_left
  · have Hr : Hid (res = (0, 30)) := Lib.hid (by
      rw [← HD.out, checkS_shape]
      simp only [shapeB]
      rw [Hll.out]
      simp
      omega)
    have h0' : ((ll : Int) != 3) = true := by rw [bne_iff_ne]; omega
    go_enter Tryz.func26, Tryz.ntmps26
    go_wp2_with fail
    go_ret2
    exact ⟨by rw [Hr.out]; rfl, by rw [HE.out]; exact HB.out⟩
  subst h0
  have hq : ∃ b o, A = some ⟨b, o, none⟩ := by
    obtain ⟨p, hp⟩ := (HH.out.hL 0 _ (List.getElem?_eq_getElem (show 0 < l.length by rw [Hll.out]; omega))).parts
    obtain ⟨b, o, e, _⟩ := HH.out.hf.get (show 0 < l.length by rw [Hll.out]; omega) hp
    exact ⟨b, o, e⟩
  obtain ⟨b, o, rfl⟩ := hq
  have Hbox : Hid (∀ w', Below WB.heap.size WB w' → w'.cell? ⟨W.heap.size, 4, none⟩ = some (.slice (some ⟨b, o, none⟩) 3 ca)) := Lib.hid (fun w' hb => by
    have := box_cells (below_keeps hb Hrow.out)
    exact this.2.2.2.2.1)
  have hj0 : 0 < l.length := by rw [Hll.out]; omega
  obtain ⟨p0, hp0⟩ := (HH.out.hL 0 _ (List.getElem?_eq_getElem hj0)).parts
  have Hc0 : Hid (∀ w', Below WB.heap.size WB w' → Calls Tryz.prog 26 #[.slice S ns cs, .agg #[.int .i64 p0.op, .string p0.name, .int .i64 p0.sort, .string p0.n, .slice p0.A p0.la p0.ca, .slice p0.V p0.lv p0.cv, .slice p0.P p0.lp p0.cp], .slice V nb cv] w' (SortIs w' (checkS sig l[0] bd))) := Lib.hid (fun w' hb => by
    have hw := HB.out.trans (hb.mono HB.out.size)
    have ht := List.getElem?_eq_getElem hj0
    have hbl := HH.out.hbl
    simp only [tw] at hbl
    have h := HH.out.hR 0 _ ht bd V cv w' (HH.out.hW.trans (hw.mono HH.out.hW.size)) (HH.out.hV.below hw) HH.out.hcv (by have := tws_mem ht; omega) HH.out.okb HH.out.hV0
    rw [hp0, Hns.out, Hnb.out] at h
    exact h)
  have Hg0 : Hid (∀ w', Below WB.heap.size WB w' → w'.cell? ⟨b, o, none⟩ = some (.int .i64 p0.op) ∧ w'.cell? ⟨b, o + 1, none⟩ = some (.string p0.name) ∧ w'.cell? ⟨b, o + 2, none⟩ = some (.int .i64 p0.sort) ∧ w'.cell? ⟨b, o + 3, none⟩ = some (.string p0.n) ∧ w'.cell? ⟨b, o + 4, none⟩ = some (.slice p0.A p0.la p0.ca) ∧ w'.cell? ⟨b, o + 5, none⟩ = some (.slice p0.V p0.lv p0.cv) ∧ w'.cell? ⟨b, o + 6, none⟩ = some (.slice p0.P p0.lp p0.cp)) := Lib.hid (fun w' hb => by
    obtain ⟨b', o', he, g0, g1, g2, g3, g4, g5, g6⟩ := (HH.out.hf.below (HH.out.hW.trans ((HB.out.trans (hb.mono HB.out.size)).mono HH.out.hW.size))).get hj0 hp0
    cases he
    simp only [Nat.zero_mul, Nat.add_zero] at g0 g1 g2 g3 g4 g5 g6
    exact ⟨g0, g1, g2, g3, g4, g5, g6⟩)
  have hj1 : 1 < l.length := by rw [Hll.out]; omega
  obtain ⟨p1, hp1⟩ := (HH.out.hL 1 _ (List.getElem?_eq_getElem hj1)).parts
  have Hc1 : Hid (∀ w', Below WB.heap.size WB w' → Calls Tryz.prog 26 #[.slice S ns cs, .agg #[.int .i64 p1.op, .string p1.name, .int .i64 p1.sort, .string p1.n, .slice p1.A p1.la p1.ca, .slice p1.V p1.lv p1.cv, .slice p1.P p1.lp p1.cp], .slice V nb cv] w' (SortIs w' (checkS sig l[1] bd))) := Lib.hid (fun w' hb => by
    have hw := HB.out.trans (hb.mono HB.out.size)
    have ht := List.getElem?_eq_getElem hj1
    have hbl := HH.out.hbl
    simp only [tw] at hbl
    have h := HH.out.hR 1 _ ht bd V cv w' (HH.out.hW.trans (hw.mono HH.out.hW.size)) (HH.out.hV.below hw) HH.out.hcv (by have := tws_mem ht; omega) HH.out.okb HH.out.hV0
    rw [hp1, Hns.out, Hnb.out] at h
    exact h)
  have Hg1 : Hid (∀ w', Below WB.heap.size WB w' → w'.cell? ⟨b, o + 7, none⟩ = some (.int .i64 p1.op) ∧ w'.cell? ⟨b, o + 7 + 1, none⟩ = some (.string p1.name) ∧ w'.cell? ⟨b, o + 7 + 2, none⟩ = some (.int .i64 p1.sort) ∧ w'.cell? ⟨b, o + 7 + 3, none⟩ = some (.string p1.n) ∧ w'.cell? ⟨b, o + 7 + 4, none⟩ = some (.slice p1.A p1.la p1.ca) ∧ w'.cell? ⟨b, o + 7 + 5, none⟩ = some (.slice p1.V p1.lv p1.cv) ∧ w'.cell? ⟨b, o + 7 + 6, none⟩ = some (.slice p1.P p1.lp p1.cp)) := Lib.hid (fun w' hb => by
    obtain ⟨b', o', he, g0, g1, g2, g3, g4, g5, g6⟩ := (HH.out.hf.below (HH.out.hW.trans ((HB.out.trans (hb.mono HB.out.size)).mono HH.out.hW.size))).get hj1 hp1
    cases he
    skip
    exact ⟨g0, g1, g2, g3, g4, g5, g6⟩)
  have hj2 : 2 < l.length := by rw [Hll.out]; omega
  obtain ⟨p2, hp2⟩ := (HH.out.hL 2 _ (List.getElem?_eq_getElem hj2)).parts
  have Hc2 : Hid (∀ w', Below WB.heap.size WB w' → Calls Tryz.prog 26 #[.slice S ns cs, .agg #[.int .i64 p2.op, .string p2.name, .int .i64 p2.sort, .string p2.n, .slice p2.A p2.la p2.ca, .slice p2.V p2.lv p2.cv, .slice p2.P p2.lp p2.cp], .slice V nb cv] w' (SortIs w' (checkS sig l[2] bd))) := Lib.hid (fun w' hb => by
    have hw := HB.out.trans (hb.mono HB.out.size)
    have ht := List.getElem?_eq_getElem hj2
    have hbl := HH.out.hbl
    simp only [tw] at hbl
    have h := HH.out.hR 2 _ ht bd V cv w' (HH.out.hW.trans (hw.mono HH.out.hW.size)) (HH.out.hV.below hw) HH.out.hcv (by have := tws_mem ht; omega) HH.out.okb HH.out.hV0
    rw [hp2, Hns.out, Hnb.out] at h
    exact h)
  have Hg2 : Hid (∀ w', Below WB.heap.size WB w' → w'.cell? ⟨b, o + 14, none⟩ = some (.int .i64 p2.op) ∧ w'.cell? ⟨b, o + 14 + 1, none⟩ = some (.string p2.name) ∧ w'.cell? ⟨b, o + 14 + 2, none⟩ = some (.int .i64 p2.sort) ∧ w'.cell? ⟨b, o + 14 + 3, none⟩ = some (.string p2.n) ∧ w'.cell? ⟨b, o + 14 + 4, none⟩ = some (.slice p2.A p2.la p2.ca) ∧ w'.cell? ⟨b, o + 14 + 5, none⟩ = some (.slice p2.V p2.lv p2.cv) ∧ w'.cell? ⟨b, o + 14 + 6, none⟩ = some (.slice p2.P p2.lp p2.cp)) := Lib.hid (fun w' hb => by
    obtain ⟨b', o', he, g0, g1, g2, g3, g4, g5, g6⟩ := (HH.out.hf.below (HH.out.hW.trans ((HB.out.trans (hb.mono HB.out.size)).mono HH.out.hW.size))).get hj2 hp2
    cases he
    skip
    exact ⟨g0, g1, g2, g3, g4, g5, g6⟩)
  obtain ⟨rs, Hrs⟩ : ∃ rs : Int × Int → Prop, True := ⟨fun _ => True, trivial⟩
  have Hls : Hid (l = [l[0], l[1], l[2]]) := Lib.hid (by
    apply List.ext_getElem
    · simp [Hll.out]
    · intro i h1 h2
      have : i = 0 ∨ i = 1 ∨ i = 2 := by rw [Hll.out] at h1; omega
      rcases this with rfl | rfl | rfl <;> rfl)
  have HR : Hid (res = (if (checksS sig [l[0], l[1], l[2]] bd).2 ≠ 0 then ((0 : Int), (checksS sig [l[0], l[1], l[2]] bd).2) else nodeS sig 16 name ts (checksS sig [l[0], l[1], l[2]] bd).1)) := Lib.hid (by
    rw [← Hls.out, ← HD.out]
    simp only [checkS]
    rw [if_neg (by simp [shapeB, Hll.out]), if_neg (by simp [ofE]), if_neg (c := (16 : Int) = 19) (by decide)]
    split
    · rfl
    · rw [if_neg (c := (16 : Int) = 19 ∧ _) (fun h => absurd h.1 (by decide))]
      simp only [nodeS]
      simp only [iteS]
      simp
      split <;> rfl)
  generalize l[0] = t0 at *
  generalize l[1] = t1 at *
  generalize l[2] = t2 at *
  obtain ⟨⟨a0, c0⟩, hr0⟩ : ∃ r, checkS sig t0 bd = r := ⟨_, rfl⟩
  rw [hr0] at Hc0
  obtain ⟨⟨a1, c1⟩, hr1⟩ : ∃ r, checkS sig t1 bd = r := ⟨_, rfl⟩
  rw [hr1] at Hc1
  obtain ⟨⟨a2, c2⟩, hr2⟩ : ∃ r, checkS sig t2 bd = r := ⟨_, rfl⟩
  rw [hr2] at Hc2
  have z4 := Hbox.out WB (Below.refl _ _)
  obtain ⟨g0, g1, g2, g3, g4, g5, g6⟩ := Hg0.out WB (Below.refl _ _)
  rw [← HE.out] at g0 g1 g2 g3 g4 g5 g6
  clear z4
  have HnE := Lib.hid True.intro
  by_cases h0 : c0 = 0
  rotate_left
  · have Hr : Hid (res = (0, c0)) := Lib.hid (by
      rw [HR.out]
      simp [checksS, hr0, hr1, hr2, h0])
    have h0' : (c0 != 0) = true := by rw [bne_iff_ne]; exact h0
    clear HR hr0 hr1 hr2 Hls HH
    go_enter Tryz.func26, Tryz.ntmps26
    go_wp2_with (first | (go_at_call 26; rw [HE.out]; (with_reducible refine Calls.mono (Hc0.out _ (Below.refl _ _)) ?_); rintro e w0c ⟨rfl, hb0⟩; have Hb0 : Hid (Below WB.heap.size WB w0c) := Lib.hid hb0; clear hb0; obtain ⟨g0, g1, g2, g3, g4, g5, g6⟩ := Hg1.out _ Hb0.out; have z4 := Hbox.out _ Hb0.out))
    go_ret2
    exact ⟨by rw [Hr.out]; rfl, HB.out.trans (Hb0.out.mono HB.out.size)⟩
  by_cases h1 : c1 = 0
  rotate_left
  · have Hr : Hid (res = (0, c1)) := Lib.hid (by
      rw [HR.out]
      simp [checksS, hr0, hr1, hr2, h1, h0])
    have h1' : (c1 != 0) = true := by rw [bne_iff_ne]; exact h1
    subst h0
    clear HR hr0 hr1 hr2 Hls HH
    go_enter Tryz.func26, Tryz.ntmps26
    go_wp2_with (first | (go_at_call 26; rw [HE.out]; (with_reducible refine Calls.mono (Hc0.out _ (Below.refl _ _)) ?_); rintro e w0c ⟨rfl, hb0⟩; have Hb0 : Hid (Below WB.heap.size WB w0c) := Lib.hid hb0; clear hb0; obtain ⟨g0, g1, g2, g3, g4, g5, g6⟩ := Hg1.out _ Hb0.out; have z4 := Hbox.out _ Hb0.out) | (go_at_call 26; (with_reducible refine Calls.mono (Hc1.out _ Hb0.out) ?_); rintro e w1c ⟨rfl, hb1⟩; have Hb1 : Hid (Below WB.heap.size WB w1c) := Lib.hid (Hb0.out.trans (hb1.mono Hb0.out.size)); clear hb1; obtain ⟨g0, g1, g2, g3, g4, g5, g6⟩ := Hg2.out _ Hb1.out; have z4 := Hbox.out _ Hb1.out))
    go_ret2
    exact ⟨by rw [Hr.out]; rfl, HB.out.trans (Hb1.out.mono HB.out.size)⟩
  by_cases h2 : c2 = 0
  rotate_left
  · have Hr : Hid (res = (0, c2)) := Lib.hid (by
      rw [HR.out]
      simp [checksS, hr0, hr1, hr2, h2, h0, h1])
    have h2' : (c2 != 0) = true := by rw [bne_iff_ne]; exact h2
    subst h0
    subst h1
    clear HR hr0 hr1 hr2 Hls HH
    go_enter Tryz.func26, Tryz.ntmps26
    go_wp2_with (first | (go_at_call 26; rw [HE.out]; (with_reducible refine Calls.mono (Hc0.out _ (Below.refl _ _)) ?_); rintro e w0c ⟨rfl, hb0⟩; have Hb0 : Hid (Below WB.heap.size WB w0c) := Lib.hid hb0; clear hb0; obtain ⟨g0, g1, g2, g3, g4, g5, g6⟩ := Hg1.out _ Hb0.out; have z4 := Hbox.out _ Hb0.out) | (go_at_call 26; (with_reducible refine Calls.mono (Hc1.out _ Hb0.out) ?_); rintro e w1c ⟨rfl, hb1⟩; have Hb1 : Hid (Below WB.heap.size WB w1c) := Lib.hid (Hb0.out.trans (hb1.mono Hb0.out.size)); clear hb1; obtain ⟨g0, g1, g2, g3, g4, g5, g6⟩ := Hg2.out _ Hb1.out; have z4 := Hbox.out _ Hb1.out) | (go_at_call 26; (with_reducible refine Calls.mono (Hc2.out _ Hb1.out) ?_); rintro e w2c ⟨rfl, hb2⟩; have Hb2 : Hid (Below WB.heap.size WB w2c) := Lib.hid (Hb1.out.trans (hb2.mono Hb1.out.size)); clear hb2))
    go_ret2
    exact ⟨by rw [Hr.out]; rfl, HB.out.trans (Hb2.out.mono HB.out.size)⟩
  have HR2 : Hid (res = if a0 = 2 ∧ a1 = a2 then (a1, 0) else (0, 31)) := Lib.hid (by
    rw [HR.out]
    simp [checksS, hr0, hr1, hr2, h0, h1, h2, nodeS, iteS])
  clear HR hr0 hr1 hr2 Hls HH
  subst h0
  subst h1
  subst h2
  by_cases hb : a0 = 2
  rotate_left
  · have Hr : Hid (res = (0, 31)) := Lib.hid (by rw [HR2.out, if_neg (fun h => hb h.1)])
    have hb1 : (a0 != 2) = true := by rw [bne_iff_ne]; exact hb
    go_enter Tryz.func26, Tryz.ntmps26
    go_wp2_with (first | (go_at_call 26; rw [HE.out]; (with_reducible refine Calls.mono (Hc0.out _ (Below.refl _ _)) ?_); rintro e w0c ⟨rfl, hb0⟩; have Hb0 : Hid (Below WB.heap.size WB w0c) := Lib.hid hb0; clear hb0; obtain ⟨g0, g1, g2, g3, g4, g5, g6⟩ := Hg1.out _ Hb0.out; have z4 := Hbox.out _ Hb0.out) | (go_at_call 26; (with_reducible refine Calls.mono (Hc1.out _ Hb0.out) ?_); rintro e w1c ⟨rfl, hb1⟩; have Hb1 : Hid (Below WB.heap.size WB w1c) := Lib.hid (Hb0.out.trans (hb1.mono Hb0.out.size)); clear hb1; obtain ⟨g0, g1, g2, g3, g4, g5, g6⟩ := Hg2.out _ Hb1.out; have z4 := Hbox.out _ Hb1.out) | (go_at_call 26; (with_reducible refine Calls.mono (Hc2.out _ Hb1.out) ?_); rintro e w2c ⟨rfl, hb2⟩; have Hb2 : Hid (Below WB.heap.size WB w2c) := Lib.hid (Hb1.out.trans (hb2.mono Hb1.out.size)); clear hb2))
    go_ret2
    exact ⟨by rw [Hr.out]; rfl, HB.out.trans (Hb2.out.mono HB.out.size)⟩
  by_cases hq : a1 = a2
  · have Hr : Hid (res = (a1, 0)) := Lib.hid (by rw [HR2.out, if_pos ⟨hb, hq⟩])
    subst hq
    subst hb
    go_enter Tryz.func26, Tryz.ntmps26
    go_wp2_with (first | (go_at_call 26; rw [HE.out]; (with_reducible refine Calls.mono (Hc0.out _ (Below.refl _ _)) ?_); rintro e w0c ⟨rfl, hb0⟩; have Hb0 : Hid (Below WB.heap.size WB w0c) := Lib.hid hb0; clear hb0; obtain ⟨g0, g1, g2, g3, g4, g5, g6⟩ := Hg1.out _ Hb0.out; have z4 := Hbox.out _ Hb0.out) | (go_at_call 26; (with_reducible refine Calls.mono (Hc1.out _ Hb0.out) ?_); rintro e w1c ⟨rfl, hb1⟩; have Hb1 : Hid (Below WB.heap.size WB w1c) := Lib.hid (Hb0.out.trans (hb1.mono Hb0.out.size)); clear hb1; obtain ⟨g0, g1, g2, g3, g4, g5, g6⟩ := Hg2.out _ Hb1.out; have z4 := Hbox.out _ Hb1.out) | (go_at_call 26; (with_reducible refine Calls.mono (Hc2.out _ Hb1.out) ?_); rintro e w2c ⟨rfl, hb2⟩; have Hb2 : Hid (Below WB.heap.size WB w2c) := Lib.hid (Hb1.out.trans (hb2.mono Hb1.out.size)); clear hb2))
    go_ret2
    exact ⟨by rw [Hr.out]; rfl, HB.out.trans (Hb2.out.mono HB.out.size)⟩
  · have Hr : Hid (res = (0, 31)) := Lib.hid (by rw [HR2.out, if_neg (fun h => hq h.2)])
    have hq1 : (a1 != a2) = true := by rw [bne_iff_ne]; exact hq
    subst hb
    go_enter Tryz.func26, Tryz.ntmps26
    go_wp2_with (first | (go_at_call 26; rw [HE.out]; (with_reducible refine Calls.mono (Hc0.out _ (Below.refl _ _)) ?_); rintro e w0c ⟨rfl, hb0⟩; have Hb0 : Hid (Below WB.heap.size WB w0c) := Lib.hid hb0; clear hb0; obtain ⟨g0, g1, g2, g3, g4, g5, g6⟩ := Hg1.out _ Hb0.out; have z4 := Hbox.out _ Hb0.out) | (go_at_call 26; (with_reducible refine Calls.mono (Hc1.out _ Hb0.out) ?_); rintro e w1c ⟨rfl, hb1⟩; have Hb1 : Hid (Below WB.heap.size WB w1c) := Lib.hid (Hb0.out.trans (hb1.mono Hb0.out.size)); clear hb1; obtain ⟨g0, g1, g2, g3, g4, g5, g6⟩ := Hg2.out _ Hb1.out; have z4 := Hbox.out _ Hb1.out) | (go_at_call 26; (with_reducible refine Calls.mono (Hc2.out _ Hb1.out) ?_); rintro e w2c ⟨rfl, hb2⟩; have Hb2 : Hid (Below WB.heap.size WB w2c) := Lib.hid (Hb1.out.trans (hb2.mono Hb1.out.size)); clear hb2))
    go_ret2
    exact ⟨by rw [Hr.out]; rfl, HB.out.trans (Hb2.out.mono HB.out.size)⟩
end Go.Proofs.YtlgbepamnkfpjaaGreatDoor

/- The reference's check: applications. -/
set_option linter.unusedVariables false
set_option linter.unusedSimpArgs false
namespace Go.Proofs.YtlgbepamnkfpjaaGreatDoor
open Go.RowKit Go.Lib

theorem foundFn_none {sig : List Fn} {nm : ByteArray} (h : foundFn sig nm = none) : firstFn sig nm = none := by
  cases hf : firstFn sig nm with
  | none => rfl
  | some k =>
    unfold foundFn at h
    rw [hf] at h
    have := firstFn_lt hf
    rw [List.getElem?_eq_none_iff] at h
    omega
theorem checkS_app {sig : List Fn} {ts : Int} {name tn : ByteArray} {l : List Tm} {vars : Bd} {pat : List Tm} {bd : Bd} (hs : nameB name = true) : checkS sig (.mk 17 name ts tn l vars pat) bd = match foundFn sig name with
    | none => (0, 32)
    | some f => if l.length ≠ f.args.length then (0, 30) else if (checksS sig l bd).2 ≠ 0 then (0, (checksS sig l bd).2) else funS f.args f.out (checksS sig l bd).1 := by
  simp only [checkS]
  rw [if_neg (by simp [shapeB, hs])]
  cases hf : foundFn sig name with
  | none =>
    have : ofE sig 17 name ts l.length bd = 32 := by simp [ofE, appE, foundFn_none hf]
    rw [if_pos (by rw [this]; decide), this]
  | some f =>
    dsimp only
    have h1 : appE sig name l.length = if l.length = f.args.length then 0 else 30 := by
      unfold appE
      cases hk : firstFn sig name with
      | none => unfold foundFn at hf; rw [hk] at hf; cases hf
      | some k =>
        unfold foundFn at hf
        rw [hk] at hf
        dsimp only at hf ⊢
        rw [hf]
    have h2 : ofE sig 17 name ts l.length bd = appE sig name l.length := by simp [ofE]
    rw [h2, h1]
    by_cases hl : l.length = f.args.length
    · rw [if_pos hl, if_neg (c := (0 : Int) ≠ 0) (by simp), if_neg (c := l.length ≠ f.args.length) (by simpa using hl), if_neg (c := (17 : Int) = 19) (by decide)]
      split
      · rfl
      · rw [if_neg (c := (17 : Int) = 19 ∧ _) (fun h => absurd h.1 (by decide))]
        have : nodeS sig 17 name ts (checksS sig l bd).1 = funS f.args f.out (checksS sig l bd).1 := by simp [nodeS, hf]
        rw [this]
        unfold funS
        split <;> simp
    · rw [if_neg hl, if_pos (by decide), if_pos hl]
set_option maxRecDepth 100000 in
set_option maxHeartbeats 4000000 in
theorem check_app {w0 : World} {sig : List Fn} {S : Option Addr} {cs : Nat} {ts : Int} {name tn : ByteArray} {l : List Tm} {vars : Bd} {pat : List Tm} {A X P : Option Addr} {ca cx cp : Nat} {f g : Nat → Value} {bd : Bd} {V : Option Addr} {cv : Nat} {W : World} (H : RefPre w0 sig S cs 17 ts name tn l vars pat A X P ca cx cp f g bd V cv W) : Calls Tryz.prog 26 #[.slice S sig.length cs, .agg #[.int .i64 17, .string name, .int .i64 ts, .string tn, .slice A l.length ca, .slice X vars.length cx, .slice P pat.length cp], .slice V bd.length cv] W (SortIs W (checkS sig (.mk 17 name ts tn l vars pat) bd)) := by
  have HH := Lib.hid H
  have hll0 := H.hbd.l
  have hlp0 := H.hbd.p
  have hlx0 := H.hbd.v
  have hnb0 : bd.length ≤ 1000000 := by have := H.hbl; omega
  have hns0 := H.hns
  have Hrow := Lib.hid (boxT_row W ⟨17, name, ts, tn, A, l.length, ca, X, vars.length, cx, P, pat.length, cp⟩)
  have HB : Hid (Below W.heap.size W (boxT W ⟨17, name, ts, tn, A, l.length, ca, X, vars.length, cx, P, pat.length, cp⟩)) := Lib.hid (below_boxT _ _)
  obtain ⟨x0, x1, x2, x3, x4, x5, x6⟩ := box_cells Hrow.out
  dsimp only at x0 x1 x2 x3 x4 x5 x6
  unfold boxT at x0 x1 x2 x3 x4 x5 x6
  dsimp only at x0 x1 x2 x3 x4 x5 x6
  obtain ⟨WB, hWB⟩ : ∃ WB, WB = boxT W ⟨17, name, ts, tn, A, l.length, ca, X, vars.length, cx, P, pat.length, cp⟩ := ⟨_, rfl⟩
  have HWB := Lib.hid hWB
  have HS : Hid (WB.heap.size = W.heap.size + 1) := Lib.hid (by rw [hWB]; exact boxT_size _ _)
  have HE : Hid (W.alloc (.cells #[.int .i64 17, .string name, .int .i64 ts, .string tn, .slice A l.length ca, .slice X vars.length cx, .slice P pat.length cp] 26) = WB) := Lib.hid hWB.symm
  rw [← hWB] at Hrow HB
  clear hWB H
  obtain ⟨res, hres⟩ : ∃ res, checkS sig (.mk 17 name ts tn l vars pat) bd = res := ⟨_, rfl⟩
  have HD := Lib.hid hres
  rw [hres]
  obtain ⟨ll, hll⟩ : ∃ n, l.length = n := ⟨_, rfl⟩
  obtain ⟨lx, hlx⟩ : ∃ n, vars.length = n := ⟨_, rfl⟩
  obtain ⟨lp, hlp⟩ : ∃ n, pat.length = n := ⟨_, rfl⟩
  obtain ⟨ns, hns⟩ : ∃ n, sig.length = n := ⟨_, rfl⟩
  obtain ⟨nb, hnb⟩ : ∃ n, bd.length = n := ⟨_, rfl⟩
  have Hll := Lib.hid hll
  have Hlx := Lib.hid hlx
  have Hlp := Lib.hid hlp
  have Hns := Lib.hid hns
  have Hnb := Lib.hid hnb
  rw [hll] at hll0 HWB Hrow HE x4
  rw [hlx] at hlx0 HWB Hrow HE x5
  rw [hlp] at hlp0 HWB Hrow HE x6
  simp only [hll, hlx, hlp] at x0 x1 x2 x3 x4 x5 x6
  rw [hll, hlx, hlp, hns, hnb]
  rw [hns] at hns0
  rw [hnb] at hnb0
  clear hll hlx hlp hns hnb hres
  cases hr : nameB name with
  | false =>
    have Hr : Hid (res = (0, 30)) := Lib.hid (by
      rw [← HD.out, checkS_shape]
      simp [shapeB, hr])
    have HR := Lib.hid hr
    clear hr
    go_enter Tryz.func26, Tryz.ntmps26
    go_wp2_with (go_at_call 48; (with_reducible refine Calls.mono (wordR_any _ _) ?_); rw [HR.out]; rintro e w3 ⟨rfl, hb3⟩; rw [HE.out] at hb3; have Hb3 := Lib.hid hb3; clear hb3)
    go_ret2
    exact ⟨by rw [Hr.out]; rfl, HB.out.trans (Hb3.out.mono HB.out.size)⟩
  | true =>
    have Hr0 := Lib.hid (HD.out.symm.trans (checkS_app (sig := sig) (ts := ts) (tn := tn) (l := l) (vars := vars) (pat := pat) (bd := bd) hr))
    have HR := Lib.hid hr
    have HF := Lib.hid (fun w' (hb : Below WB.heap.size WB w') => Find_any (cs := cs) HH.out.hS HH.out.hns name w' (HH.out.hW.trans ((HB.out.trans (hb.mono HB.out.size)).mono HH.out.hW.size)))
    rw [Hns.out] at HF
    have Hbox : Hid (∀ w', Below WB.heap.size WB w' → w'.cell? ⟨W.heap.size, 4, none⟩ = some (.slice A ll ca)) := Lib.hid (fun w' hb => by
      have := box_cells (below_keeps hb Hrow.out)
      exact this.2.2.2.2.1)
    clear hr
    cases hf : foundFn sig name with
    | none =>
      have Hr : Hid (res = (0, 32)) := Lib.hid (by rw [Hr0.out, hf])
      have HF2 : Hid (∀ w', Below WB.heap.size WB w' → Calls Tryz.prog 51 #[.slice S ns cs, .string name] w' fun e w2 => e = .returned (.tuple #[.agg #[.string ⟨#[]⟩, .slice none 0 0, .int .i64 0], .bool false]) ∧ Below w'.heap.size w' w2) := Lib.hid (fun w' hb => (HF.out w' hb).mono (fun e w2 h => by
        rcases h with ⟨_, h2, h3⟩ | ⟨f, B, c, h1, _⟩
        · exact ⟨h2, h3⟩
        · rw [hf] at h1; cases h1))
      clear hf HF Hr0
      go_enter Tryz.func26, Tryz.ntmps26
      go_wp2_with (first
        | (go_at_call 48; (with_reducible refine Calls.mono (wordR_any _ _) ?_); rw [HR.out]; rintro e w3 ⟨rfl, hb3⟩; rw [HE.out] at hb3; have Hb3 := Lib.hid hb3; obtain ⟨y0, y1, y2, y3, y4, y5, y6⟩ := box_cells (below_keeps hb3 Hrow.out); dsimp only at y0 y1 y2 y3 y4 y5 y6; clear hb3)
        | (go_at_call 51; (with_reducible refine Calls.mono (HF2.out _ Hb3.out) ?_); rintro e w4 ⟨rfl, hb4⟩; have Hb4 : Hid (Below WB.heap.size WB w4) := Lib.hid (Hb3.out.trans (hb4.mono Hb3.out.size)); clear hb4))
      go_ret2
      exact ⟨by rw [Hr.out]; rfl, (HB.out.trans (Hb4.out.mono HB.out.size)).alloc (by have := HB.out.size; have := Hb4.out.size; omega) _⟩
    | some fn =>
      obtain ⟨fnm, args, out⟩ := fn
      have Hr1 : Hid (res = if l.length ≠ args.length then (0, 30) else if (checksS sig l bd).2 ≠ 0 then (0, (checksS sig l bd).2) else funS args out (checksS sig l bd).1) := Lib.hid (by rw [Hr0.out, hf])
      have HF2 : Hid (∀ w', Below WB.heap.size WB w' → Calls Tryz.prog 51 #[.slice S ns cs, .string name] w' fun e w2 => ∃ B c, e = .returned (.tuple #[.agg #[.string fnm, .slice B args.length c, .int .i64 out], .bool true]) ∧ IntsAt w2 B c args ∧ Below w'.heap.size w' w2) := Lib.hid (fun w' hb => (HF.out w' hb).mono (fun e w2 h => by
        rcases h with ⟨h1, _, _⟩ | ⟨f, B, c, h1, _, h2, h3, h4⟩
        · rw [hf] at h1; cases h1
        · rw [hf] at h1
          cases h1
          exact ⟨B, c, h2, h3, h4⟩))
      have Hout : Hid (i64 out ∧ args.length ≤ 140737488355328) := Lib.hid (by
        unfold foundFn at hf
        cases hk : firstFn sig name with
        | none => rw [hk] at hf; cases hf
        | some k =>
          rw [hk] at hf
          obtain ⟨g, h1, h2⟩ := HH.out.hS
          exact ⟨(h2 k _ hf).out, (h2 k _ hf).args⟩)
      clear hf HF Hr0
      obtain ⟨na, hna⟩ : ∃ n, args.length = n := ⟨_, rfl⟩
      have Hna := Lib.hid hna
      rw [hna] at HF2
      have hna1 : na ≤ 140737488355328 := by have := Hout.out.2; omega
      clear hna
      by_cases hla : ll = na
      rotate_left
      · have Hr : Hid (res = (0, 30)) := Lib.hid (by rw [Hr1.out, if_pos (by rw [Hll.out, Hna.out]; exact hla)])
        have hla1 : ((na : Int) != (ll : Int)) = true := by rw [bne_iff_ne]; omega
        go_enter Tryz.func26, Tryz.ntmps26
        go_wp2_with (first
          | (go_at_call 48; (with_reducible refine Calls.mono (wordR_any _ _) ?_); rw [HR.out]; rintro e w3 ⟨rfl, hb3⟩; rw [HE.out] at hb3; have Hb3 := Lib.hid hb3; obtain ⟨y0, y1, y2, y3, y4, y5, y6⟩ := box_cells (below_keeps hb3 Hrow.out); dsimp only at y0 y1 y2 y3 y4 y5 y6; clear hb3)
          | (go_at_call 51; (with_reducible refine Calls.mono (HF2.out _ Hb3.out) ?_); rintro e w4 ⟨B, c, rfl, hi4, hb4⟩; have Hb4 : Hid (Below WB.heap.size WB w4) := Lib.hid (Hb3.out.trans (hb4.mono Hb3.out.size)); clear hb4 hi4))
        go_ret2
        exact ⟨by rw [Hr.out]; rfl, (HB.out.trans (Hb4.out.mono HB.out.size)).alloc (by have := HB.out.size; have := Hb4.out.size; omega) _⟩
      subst hla
      have Hr2 : Hid (res = if (checksS sig l bd).2 ≠ 0 then (0, (checksS sig l bd).2) else funS args out (checksS sig l bd).1) := Lib.hid (by rw [Hr1.out, if_neg (by rw [Hll.out, Hna.out]; simp)])
      clear Hr1
      go_enter Tryz.func26, Tryz.ntmps26
      go_wp2_with (first
        | (go_at_call 48; (with_reducible refine Calls.mono (wordR_any _ _) ?_); rw [HR.out]; rintro e w3 ⟨rfl, hb3⟩; rw [HE.out] at hb3; have Hb3 := Lib.hid hb3; obtain ⟨y0, y1, y2, y3, y4, y5, y6⟩ := box_cells (below_keeps hb3 Hrow.out); dsimp only at y0 y1 y2 y3 y4 y5 y6; clear hb3)
        | (go_at_call 51; (with_reducible refine Calls.mono (HF2.out _ Hb3.out) ?_); rintro e w4 ⟨B, c, rfl, hi4, hb4⟩; have Hi4 := Lib.hid hi4; have Hb4 : Hid (Below WB.heap.size WB w4) := Lib.hid (Hb3.out.trans (hb4.mono Hb3.out.size)); clear hb4 hi4))
      obtain ⟨w5, hw5⟩ : ∃ w5, w5 = w4.alloc (.cells #[.string fnm, .slice B ll c, .int .i64 out] 46) := ⟨_, rfl⟩
      have Hw5 := Lib.hid hw5
      have H5r : Hid (w5.heap[w4.heap.size]? = some (.cells #[.string fnm, .slice B ll c, .int .i64 out] 46 (0, 0))) := Lib.hid (by rw [hw5]; exact heap_alloc_new _ _)
      have H45 : Hid (Below w4.heap.size w4 w5) := Lib.hid (by rw [hw5]; exact (Below.refl _ _).alloc (Nat.le_refl _) _)
      rw [← hw5]
      clear hw5 y0 y1 y2 y3 y4 y5 y6
      have HB5 : Hid (Below WB.heap.size WB w5) := Lib.hid (Hb4.out.trans (H45.out.mono Hb4.out.size))
      go_loopw [22, 23] (fun q i wr => ∃ k : Nat, k ≤ ll ∧ i = .int .i64 k ∧ Hid ((checksS sig (l.take k) bd).2 = 0) ∧ q = .bool (decide ((checksS sig (l.take k) bd).1 = args.take k)) ∧ Hid (Below w5.heap.size w5 wr)) (fun _ i _ => ll - (Go.RowKit.intOf i).toNat)
      case atStart => exact ⟨0, by omega, rfl, Lib.hid rfl, rfl, Lib.hid (Below.refl _ _)⟩
      case round =>
        obtain ⟨k, hk, rfl, HK, rfl, HBr⟩ := hrel
        have HBw : Hid (Below WB.heap.size WB wr) := Lib.hid (HB5.out.trans (HBr.out.mono HB5.out.size))
        have z4 := Hbox.out _ HBw.out
        have hfr := below_keeps HBr.out H5r.out
        have f1 : wr.cell? ⟨w4.heap.size, 1, none⟩ = some (.slice B ll c) := by rw [row_at hfr]; rfl
        have f2 : wr.cell? ⟨w4.heap.size, 2, none⟩ = some (.int .i64 out) := by rw [row_at hfr]; rfl
        have Hir : Hid (IntsAt wr B c args) := Lib.hid ((Hi4.out.mono H45.out).mono HBr.out)
        clear hfr
        by_cases hlt : k < ll
        · have hkl : k < l.length := by rw [Hll.out]; exact hlt
          have hka : k < args.length := by rw [Hna.out]; exact hlt
          have Ht : Hid (l[k]? = some l[k]) := Lib.hid (List.getElem?_eq_getElem hkl)
          have Htk := Lib.hid (checksS_take sig bd hkl HK.out)
          have Hln := Lib.hid (checksS_length sig bd (l.take k) HK.out)
          obtain ⟨p, hp⟩ := (HH.out.hL k _ Ht.out).parts
          have hwr0 : Below w0.heap.size w0 wr := HH.out.hW.trans ((HB.out.trans (HBw.out.mono HB.out.size)).mono HH.out.hW.size)
          obtain ⟨b, o, rfl, e0, e1, e2, e3, e4, e5, e6⟩ := (HH.out.hf.below hwr0).get hkl hp
          have Hc : Hid (Calls Tryz.prog 26 #[.slice S ns cs, .agg #[.int .i64 p.op, .string p.name, .int .i64 p.sort, .string p.n, .slice p.A p.la p.ca, .slice p.V p.lv p.cv, .slice p.P p.lp p.cp], .slice V nb cv] wr (SortIs wr (checkS sig l[k] bd))) := Lib.hid (by
            have hbl := HH.out.hbl
            simp only [tw] at hbl
            have h := HH.out.hR k _ Ht.out bd V cv wr hwr0 (HH.out.hV.below (HB.out.trans (HBw.out.mono HB.out.size))) HH.out.hcv (by have := tws_mem Ht.out; omega) HH.out.okb HH.out.hV0
            rw [hp, Hns.out, Hnb.out] at h
            exact h)
          have Hg : Hid (∀ w', Below wr.heap.size wr w' → w'.cell? ⟨w4.heap.size, 1, none⟩ = some (.slice B ll c) ∧ ∃ b2 o2, B = some ⟨b2, o2, none⟩ ∧ w'.cell? ⟨b2, o2 + k, none⟩ = some (.int .i64 args[k])) := Lib.hid (fun w' hb => by
            refine ⟨?_, (Hir.out.mono hb).get hka⟩
            rw [row_at (below_keeps (HBr.out.trans (hb.mono HBr.out.size)) H5r.out)]
            rfl)
          have Htka : Hid (args.take (k + 1) = args.take k ++ [args[k]]) := Lib.hid (List.take_succ_eq_append_getElem hka)
          have Hlen : Hid ((checksS sig (l.take k) bd).1.length = (args.take k).length) := Lib.hid (by rw [Hln.out, List.length_take, List.length_take, Hll.out, Hna.out])
          have k1 : (0 : Int) ≤ (k : Int) := by omega
          have k2 : (k : Int) < (ll : Int) := by omega
          clear hp hwr0 Ht
          generalize checkS sig l[k] bd = r at *
          generalize args[k] = ak at *
          obtain ⟨r1, r2⟩ := r
          by_cases hr : r2 = 0
          · have Hn := Lib.hid (Htk.out.1 hr)
            subst hr
            have Hq2 : Hid ((checksS sig (l.take (k + 1)) bd).2 = 0) := Lib.hid (by rw [Hn.out])
            have Hq : Hid (decide ((checksS sig (l.take (k + 1)) bd).1 = args.take (k + 1)) = (decide ((checksS sig (l.take k) bd).1 = args.take k) && (r1 == ak))) := Lib.hid (by
              rw [Hn.out, Htka.out, Bool.eq_iff_iff, Bool.and_eq_true, decide_eq_true_iff, decide_eq_true_iff, beq_iff_eq]
              constructor
              · intro h
                obtain ⟨h1, h2⟩ := List.append_inj h Hlen.out
                exact ⟨h1, by simpa using h2⟩
              · rintro ⟨h1, h2⟩
                rw [h1, h2])
            generalize decide ((checksS sig (l.take k) bd).1 = args.take k) = q at *
            generalize hqq : decide ((checksS sig (l.take (k + 1)) bd).1 = args.take (k + 1)) = q2 at *
            have Hqq := Lib.hid hqq
            clear hqq
            cases q with
            | false =>
              have Hq3 : Hid (q2 = false) := Lib.hid (by rw [Hq.out]; rfl)
              go_wp2_with (go_at_call 26; (with_reducible refine Calls.mono Hc.out ?_); rintro e w6 ⟨rfl, hb6⟩; have Hb6 := Lib.hid hb6; obtain ⟨h1, b2, o2, rfl, h2⟩ := Hg.out _ hb6; clear hb6)
              try go_region
              try go_wp2_with fail
              go_roundw
              case rel => exact ⟨k + 1, by omega, by go_num, Hq2, by rw [Hqq.out, Hq3.out], Lib.hid (by first | exact HBr.out.trans (Hb6.out.mono HBr.out.size) | exact (HBr.out.trans (Hb6.out.mono HBr.out.size)).drew)⟩
              case measure => simp [Go.RowKit.intOf] <;> omega
            | true =>
              have Hq3 : Hid (q2 = (r1 == ak)) := Lib.hid (by rw [Hq.out]; rfl)
              go_wp2_with (go_at_call 26; (with_reducible refine Calls.mono Hc.out ?_); rintro e w6 ⟨rfl, hb6⟩; have Hb6 := Lib.hid hb6; obtain ⟨h1, b2, o2, rfl, h2⟩ := Hg.out _ hb6; clear hb6)
              try go_region
              try go_wp2_with fail
              go_roundw
              case rel => exact ⟨k + 1, by omega, by go_num, Hq2, by rw [Hqq.out, Hq3.out], Lib.hid (by first | exact HBr.out.trans (Hb6.out.mono HBr.out.size) | exact (HBr.out.trans (Hb6.out.mono HBr.out.size)).drew)⟩
              case measure => simp [Go.RowKit.intOf] <;> omega
          · have Hr : Hid (res = (0, r2)) := Lib.hid (by
              have := Htk.out.2 hr
              rw [Hr2.out, this, if_pos hr])
            have hr2 : (r2 != 0) = true := by rw [bne_iff_ne]; exact hr
            go_wp2_with (go_at_call 26; (with_reducible refine Calls.mono Hc.out ?_); rintro e w6 ⟨rfl, hb6⟩; have Hb6 := Lib.hid hb6; clear hb6)
            go_ret2
            exact ⟨by rw [Hr.out]; rfl, HB.out.trans ((HBw.out.trans (Hb6.out.mono HBw.out.size)).mono HB.out.size)⟩
        · have hlt2 : ¬ (k : Int) < (ll : Int) := by omega
          have hfull : l.take k = l := List.take_of_length_le (by rw [Hll.out]; omega)
          have hfulla : args.take k = args := List.take_of_length_le (by rw [Hna.out]; omega)
          have Hr3 : Hid (res = if (checksS sig l bd).1 = args ∧ sortB out = true then (out, 0) else (0, 31)) := Lib.hid (by
            have := HK.out
            rw [hfull] at this
            rw [Hr2.out, if_neg (by simpa using this)]
            rfl)
          rw [hfull, hfulla]
          have Hbx : Hid (Below W.heap.size W wr) := Lib.hid (HB.out.trans (HBw.out.mono HB.out.size))
          by_cases hx : (checksS sig l bd).1 = args
          · rw [decide_eq_true hx]
            cases hso : sortB out with
            | true =>
              have Hr : Hid (res = (out, 0)) := Lib.hid (by rw [Hr3.out, if_pos ⟨hx, hso⟩])
              have Hso := Lib.hid hso
              clear hx hso
              go_wp2_with (go_at_call 52; refine (knownR_any out _ Hout.out.1).mono ?_; rintro e w7 ⟨rfl, rfl⟩; rw [Hso.out])
              go_ret2
              exact ⟨by rw [Hr.out]; rfl, Hbx.out⟩
            | false =>
              have Hr : Hid (res = (0, 31)) := Lib.hid (by rw [Hr3.out, if_neg (by rw [hso]; simp)])
              have Hso := Lib.hid hso
              clear hx hso
              go_wp2_with (go_at_call 52; refine (knownR_any out _ Hout.out.1).mono ?_; rintro e w7 ⟨rfl, rfl⟩; rw [Hso.out])
              go_ret2
              exact ⟨by rw [Hr.out]; rfl, Hbx.out⟩
          · rw [decide_eq_false hx]
            have Hr : Hid (res = (0, 31)) := Lib.hid (by rw [Hr3.out, if_neg (fun h => hx h.1)])
            clear hx
            go_wp2_with fail
            go_ret2
            exact ⟨by rw [Hr.out]; rfl, Hbx.out⟩
end Go.Proofs.YtlgbepamnkfpjaaGreatDoor
