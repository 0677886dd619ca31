/- TermLimits: the walk. -/
import Derived.Test.YtlgbepamnkfpjaaDoorM31
import Derived.Deep.DeepCutAuto
import Derived.Deep.RegionWith
set_option linter.unusedSimpArgs false
set_option linter.unusedVariables false
namespace Go.Proofs.YtlgbepamnkfpjaaDoor
open Go.RowKit Go.Lib

theorem cellsOf_zero (n : Nat) : ((madeCells zeroP.arr (n * 7)).toList).length = n * 7 := by simp [size_madeCells]
theorem WideAt.made {w : World} {B g n : Nat} {xs : List Value} (h : w.ownsRow B 27 7 (.slice (some ⟨g, 0, none⟩) n n) n xs) : WideAt w g n 0 := by
  rcases h.2 with ⟨h1, _⟩ | ⟨g', cap, cur, h1, _, h3, _, _, h6, _⟩
  · cases h1
  · cases h1
    exact ⟨cur, h3, h6, fun j c hj => absurd hj (Nat.not_lt_zero _)⟩
theorem setL_below {B g o : Nat} {a w : World} (h : Below B a w) (hg : B ≤ g) (p : Parts) : Below B a (setL w g o p) :=
  ((((((h.setCell (p := ⟨g, o, none⟩) hg _).setCell (p := ⟨g, o + 1, none⟩) hg _).setCell (p := ⟨g, o + 2, none⟩) hg _).setCell (p := ⟨g, o + 3, none⟩) hg _).setCell (p := ⟨g, o + 4, none⟩) hg _).setCell (p := ⟨g, o + 5, none⟩) hg _).setCell (p := ⟨g, o + 6, none⟩) hg _
def spec17 (B : Nat) : Nat → World → Value → Prop
  | 0, _, v => v = .agg #[.string ⟨#[120]⟩, .int .i64 1]
  | 1, w, v => BsV w [(⟨#[120]⟩, 1)] v
  | 2, _, v => v = .agg xP.arr
  | 3, w, v => TsV w [exX] v
  | 4, w, v => TmV w exFx v
  | 5, w, v => TsV w [exFx] v
  | 6, _, v => v = .agg xP.arr
  | 7, w, v => TsV w [exX] v
  | 8, w, v => TmV w (negT exX) v
  | 9, w, v => TsV w [negT exX] v
  | 10, w, v => TmV w negAll v
  | 11, w, v => ∃ k, v = .pointer (some ⟨k, 0, none⟩) ∧ w.heap[k]? = some (.cells zeroP.arr 27 (0, 0)) ∧ B ≤ k
  | _, _, _ => True
theorem spec17_keep (B : Nat) (i : Nat) (w w' : World) (v : Value) (h : spec17 B i w v) (hb : Below w.heap.size w w') : spec17 B i w' v := by
  match i, h with
  | 0, h => exact h
  | 1, h => exact BsV.mono h hb
  | 2, h => exact h
  | 3, h => exact TsV.mono h hb
  | 4, h => exact TmV.mono h hb
  | 5, h => exact TsV.mono h hb
  | 6, h => exact h
  | 7, h => exact TsV.mono h hb
  | 8, h => exact TmV.mono h hb
  | 9, h => exact TsV.mono h hb
  | 10, h => exact TmV.mono h hb
  | 11, ⟨k, e, hk, hB⟩ => exact ⟨k, e, (hb.block k (Array.getElem?_eq_some_iff.1 hk).1).trans hk, hB⟩
  | n + 12, h => trivial
theorem none_check {w : World} {t : Tm} {v : Value} (h : TmV w t v) (hsz : tw t ≤ 1000000) (hsh : shortT t = true) (W : World) (hW : Below w.heap.size w W) {r : Int × Int} (hr : checkTop [] t = r) : Calls Tryd.prog 9 #[.slice none 0 0, v] W (SortIs W r) := by
  have hs : SigAt w none 0 [] := ⟨⟨fun _ => .nilFunc, .inl rfl, by simp⟩, by simp, by simp⟩
  have := Check_any hs h hsz hsh W hW
  rw [hr] at this
  exact this
set_option maxRecDepth 100000 in
set_option maxHeartbeats 4000000 in
theorem termLimits_any (k1 k2 : Int) (h1 : i64 k1) (h2 : i64 k2) (w : World) : Calls Tryd.prog 3 #[.int .i64 k1, .int .i64 k2] w fun e w' => e = .returned (.bool true) ∧ Below w.heap.size w w' := by
  obtain ⟨a, ha⟩ : ∃ a : Nat, k1 % 4 = a := ⟨(k1 % 4).toNat, by omega⟩
  obtain ⟨b, hb⟩ : ∃ b : Nat, k2 % 4 = b := ⟨(k2 % 4).toNat, by omega⟩
  have ha2 : a ≤ 3 := by omega
  have hb2 : b ≤ 3 := by omega
  have Hpl1 : Hid (∀ W, Calls Tryd.prog 7 #[.int .i64 k1, .int .i64 4] W fun e w' => e = .returned (.int .i64 a) ∧ W = w') := Lib.hid (fun W => by
    have h := place_any k1 4 W h1 (by decide) (by decide)
    rw [ha] at h
    exact h)
  have Hpl2 : Hid (∀ W, Calls Tryd.prog 7 #[.int .i64 k2, .int .i64 4] W fun e w' => e = .returned (.int .i64 b) ∧ W = w') := Lib.hid (fun W => by
    have h := place_any k2 4 W h2 (by decide) (by decide)
    rw [hb] at h
    exact h)
  have Hn : Hid (∀ W, Calls Tryd.prog 8 #[.string ⟨#[49]⟩] W fun e w' => e = .returned (.agg #[.int .i64 1, .string ⟨#[]⟩, .int .i64 0, .string ⟨#[49]⟩, .slice none 0 0, .slice none 0 0, .slice none 0 0]) ∧ Below W.heap.size W w') := Lib.hid (fun W => n_any _ W)
  obtain ⟨i27, hi27, hz0, hz1, hz2⟩ := info_parts info27
  clear h1 h2 ha hb
  go_enter Tryd.func3, Tryd.ntmps3
  go_upto_region 5 with (first
    | (go_at_call 6; (with_reducible refine Calls.mono (known_any _) ?_); rintro e w1 ⟨rfl, hb1⟩; have Hb1 := Lib.hid hb1; clear hb1)
    | (go_at_call 7; (with_reducible refine Calls.mono (Hpl1.out _) ?_); rintro e w5 ⟨rfl, rfl⟩)
    | (go_at_call 7; (with_reducible refine Calls.mono (Hpl2.out _) ?_); rintro e w5 ⟨rfl, rfl⟩)
    | (at_make; refine wpList_make_full w1 rfl (.tmp 28) (.tmp 28) 24 rfl w1.heap.size 27 i27 _ 7 Tryd.underlying24 hi27 hz0 hz1 .i64 .i64 _ _ (49997 + a) rfl rfl (by omega) (by omega) (by rw [hz2]; omega) (by simp only [maxLen]; omega) (Nat.le_refl _) ?_; intro w2 hown hgr; have Hown := Lib.hid hown; have Hgr := Lib.hid hgr; clear hown hgr))
  have Hw0 : Hid (WideAt (w2.alloc (.cells #[.int .i64 12, .string ⟨#[]⟩, .int .i64 0, .string ⟨#[]⟩, .slice (some ⟨w1.heap.size, 0, none⟩) (49997 + a) (49997 + a), .slice none 0 0, .slice none 0 0] 27)) w1.heap.size (49997 + a) 0) := Lib.hid ((WideAt.made Hown.out).kept (Below.heap_alloc w2 _ _ (ownsRow_lt Hown.out _ rfl |> fun h => by obtain ⟨_, cur, hc⟩ := h; exact (Array.getElem?_eq_some_iff.1 hc).1)))
  have Hb20 : Hid (Below w1.heap.size w1 (w2.alloc (.cells #[.int .i64 12, .string ⟨#[]⟩, .int .i64 0, .string ⟨#[]⟩, .slice (some ⟨w1.heap.size, 0, none⟩) (49997 + a) (49997 + a), .slice none 0 0, .slice none 0 0] 27))) := Lib.hid (((Below.refl w1.heap.size w1).grown Hgr.out (Nat.le_refl _) (fun k e => by cases e)).alloc Hgr.out.size _)
  have Hr5 : Hid ((w2.alloc (.cells #[.int .i64 12, .string ⟨#[]⟩, .int .i64 0, .string ⟨#[]⟩, .slice (some ⟨w1.heap.size, 0, none⟩) (49997 + a) (49997 + a), .slice none 0 0, .slice none 0 0] 27)).heap[w2.heap.size]? = some (.cells (Parts.arr ⟨12, ⟨#[]⟩, 0, ⟨#[]⟩, some ⟨w1.heap.size, 0, none⟩, 49997 + a, 49997 + a, none, 0, 0, none, 0, 0⟩) 27 (0, 0))) := Lib.hid (heap_alloc_new w2 _)
  have Hk5 : Hid (w1.heap.size < w2.heap.size) := Lib.hid (by obtain ⟨_, cur, hc⟩ := ownsRow_lt Hown.out _ rfl; exact (Array.getElem?_eq_some_iff.1 hc).1)
  clear Hown Hgr
  go_wp2_with fail
  go_loopw [6] (fun i wr => ∃ j : Nat, j ≤ 49997 + a ∧ i = .int .i64 j ∧ Hid (WideAt wr w1.heap.size (49997 + a) j) ∧ Hid (Below w1.heap.size w1 wr) ∧ Hid (wr.heap[w2.heap.size]? = some (.cells (Parts.arr ⟨12, ⟨#[]⟩, 0, ⟨#[]⟩, some ⟨w1.heap.size, 0, none⟩, 49997 + a, 49997 + a, none, 0, 0, none, 0, 0⟩) 27 (0, 0)))) (fun i _ => 49997 + a - (Go.RowKit.intOf i).toNat)
  case atStart => exact ⟨0, by omega, rfl, Hw0, Hb20, Hr5⟩
  case round =>
    obtain ⟨j, hj, rfl, HW, HB, HR⟩ := hrel
    clear Hw0 Hb20 Hr5
    obtain ⟨c0, c1, c2, c3, c4, c5, c6⟩ := box_cells HR.out
    dsimp only at c0 c1 c2 c3 c4 c5 c6
    have q5 : w2.heap.size < wr.heap.size := (Array.getElem?_eq_some_iff.1 HR.out).1
    have q1 : w1.heap.size < w2.heap.size := Hk5.out
    by_cases hlt : j < 49997 + a
    · have hlt' : (j : Int) < 49998 + (a : Int) - 1 := by omega
      have k1 : (0 : Int) ≤ (j : Int) := by omega
      have k2 : (j : Int) < 49997 + (a : Int) := by omega
      go_wp2_with fail
      go_region_with (go_at_call 8; (with_reducible refine Calls.mono (Hn.out _) ?_); rintro e w9 ⟨rfl, hb9⟩; have Hb9 : Hid (Below wr.heap.size wr w9) := Lib.hid ((Below.refl wr.heap.size wr).drew.trans hb9); clear hb9; obtain ⟨d0, d1, d2, d3, d4, d5, d6⟩ := box_cells (below_keeps Hb9.out HR.out); dsimp only at d0 d1 d2 d3 d4 d5 d6; have HW9 := Lib.hid (HW.out.kept (Hb9.out.block w1.heap.size (by omega))); obtain ⟨x0, y0⟩ := HW9.out.cell hlt (c := 0) (by omega); obtain ⟨x1, y1⟩ := HW9.out.cell hlt (c := 1) (by omega); obtain ⟨x2, y2⟩ := HW9.out.cell hlt (c := 2) (by omega); obtain ⟨x3, y3⟩ := HW9.out.cell hlt (c := 3) (by omega); obtain ⟨x4, y4⟩ := HW9.out.cell hlt (c := 4) (by omega); obtain ⟨x5, y5⟩ := HW9.out.cell hlt (c := 5) (by omega); obtain ⟨x6, y6⟩ := HW9.out.cell hlt (c := 6) (by omega); have y7 := HW9.out.frozen; simp only [Nat.add_zero] at y0)
      all_goals go_wp2_with fail
      all_goals go_roundw
      all_goals first
        | exact ⟨j + 1, by omega, by go_num, Lib.hid (HW9.out.set hlt), Lib.hid (setL_below (g := w1.heap.size) (o := j * 7) (HB.out.trans (Hb9.out.mono HB.out.size)) (Nat.le_refl _) oneP), Lib.hid ((setL_other (w := w9) (g := w1.heap.size) (o := j * 7) (p := oneP) (by omega)).trans (below_keeps Hb9.out HR.out))⟩
        | (simp [Go.RowKit.intOf]; omega)
    · obtain rfl : j = 49997 + a := by omega
      have hlt' : ¬ (((49997 + a : Nat) : Int) < 49998 + (a : Int) - 1) := by omega
      clear c0 c1 c2 c3 c4 c5 c6
      rename World => wu
      have HT5 : Hid (TmV wu (wideT (49997 + a)) (.agg (Parts.arr ⟨12, ⟨#[]⟩, 0, ⟨#[]⟩, some ⟨w1.heap.size, 0, none⟩, 49997 + a, 49997 + a, none, 0, 0, none, 0, 0⟩))) := Lib.hid (HW.out.done (by omega))
      clear HW hj
      go_wp2_with (go_at_call 8; (with_reducible refine Calls.mono (Hn.out _) ?_); rintro e w10 ⟨rfl, hb10⟩; have Hb10 := Lib.hid hb10; clear hb10)
      have HD0 : Hid (DeepAt (w10.alloc (.cells oneP.arr 27)) w10.heap.size 0 oneP) := Lib.hid ⟨heap_alloc_new w10 _, oneP_tm _⟩
      have HB0 : Hid (Below w10.heap.size w10 (w10.alloc (.cells oneP.arr 27))) := Lib.hid ((Below.refl _ _).alloc (Nat.le_refl _) _)
      go_loopw [8] (fun i wv => ∃ (d : Nat) (p : Parts), d ≤ 197 + b ∧ i = .int .i64 ((d : Int) + 1) ∧ Hid (DeepAt wv w10.heap.size d p) ∧ Hid (Below w10.heap.size w10 wv)) (fun i _ => 199 + b - (Go.RowKit.intOf i).toNat)
      case atStart => exact ⟨0, oneP, by omega, rfl, HD0, HB0⟩
      case round =>
        obtain ⟨d, ⟨op, nm, so, n, A, la, ca, V, lv, cv, P, lp, cp⟩, hd, rfl, HD, HB2⟩ := hrel
        obtain ⟨e0, e1, e2, e3, e4, e5, e6⟩ := box_cells HD.out.1
        dsimp only at e0 e1 e2 e3 e4 e5 e6
        have e7 : ∀ i, wr.frozen? ⟨w10.heap.size, i, none⟩ = false := fun i => by simp [World.frozen?, HD.out.1]
        have q10 : w10.heap.size < wr.heap.size := (Array.getElem?_eq_some_iff.1 HD.out.1).1
        by_cases hlt2 : d < 197 + b
        · have hlt3 : (d : Int) + 1 < 198 + (b : Int) := by omega
          go_wp2_with fail
          go_roundw
          case rel =>
            have x1 := HD.out.next
            have x2 := (setT_below (k := w10.heap.size) HB2.out (Nat.le_refl _) (negP wr)).alloc (by rw [setT_size]; exact HB2.out.size) (.cells (Parts.arr ⟨op, nm, so, n, A, la, ca, V, lv, cv, P, lp, cp⟩) 27)
            unfold setT negP at x1 x2
            dsimp only [Parts.arr] at x1 x2
            exact ⟨d + 1, negP wr, by omega, congrArg (Value.int .i64) (by omega), Lib.hid x1, Lib.hid x2⟩
          case measure => simp [Go.RowKit.intOf]; omega
        · obtain rfl : d = 197 + b := by omega
          have hlt3 : ¬ ((((197 + b : Nat) : Int)) + 1 < 198 + (b : Int)) := by omega
          have HD2 : Hid (TmV wr (deepT (197 + b)) (.agg (Parts.arr ⟨op, nm, so, n, A, la, ca, V, lv, cv, P, lp, cp⟩))) := Lib.hid HD.out.tm
          have hBu : Below wu.heap.size wu wr := Hb10.out.trans (HB2.out.mono Hb10.out.size)
          have HT5r : Hid (TmV wr (wideT (49997 + a)) (.agg (Parts.arr ⟨12, ⟨#[]⟩, 0, ⟨#[]⟩, some ⟨w1.heap.size, 0, none⟩, 49997 + a, 49997 + a, none, 0, 0, none, 0, 0⟩))) := Lib.hid (HT5.out.mono hBu)
          have Hr5 : Hid (wr.heap[w2.heap.size]? = some (.cells (Parts.arr ⟨12, ⟨#[]⟩, 0, ⟨#[]⟩, some ⟨w1.heap.size, 0, none⟩, 49997 + a, 49997 + a, none, 0, 0, none, 0, 0⟩) 27 (0, 0))) := Lib.hid (below_keeps hBu HR.out)
          have Hr7 := Lib.hid HD.out.1
          have HBr : Hid (Below w1.heap.size w1 wr) := Lib.hid (HB.out.trans (hBu.mono HB.out.size))
          obtain ⟨c0, c1, c2, c3, c4, c5, c6⟩ := box_cells Hr5.out
          dsimp only at c0 c1 c2 c3 c4 c5 c6
          have hl5 : w2.heap.size < wr.heap.size := (Array.getElem?_eq_some_iff.1 Hr5.out).1
          obtain ⟨b1, hb1⟩ : ∃ x, decide (50000 < 49997 + a + 1) = x := ⟨_, rfl⟩
          obtain ⟨b2, hb2'⟩ : ∃ x, decide (200 < 197 + b + 1) = x := ⟨_, rfl⟩
          obtain ⟨b3, hb3⟩ : ∃ x, decide (50000 < 49997 + a + 2) = x := ⟨_, rfl⟩
          obtain ⟨b4, hb4⟩ : ∃ x, decide (200 < 197 + b + 2) = x := ⟨_, rfl⟩
          obtain ⟨r1, q1, hq1⟩ : ∃ r q : Int, (if b1 = true then ((0 : Int), (34 : Int)) else (1, 0)) = (r, q) := ⟨_, _, rfl⟩
          obtain ⟨r2, q2, hq2⟩ : ∃ r q : Int, (if b2 = true then ((0 : Int), (33 : Int)) else (1, 0)) = (r, q) := ⟨_, _, rfl⟩
          have Hc1 : Hid (∀ W, Below wr.heap.size wr W → Calls Tryd.prog 9 #[.slice none 0 0, .agg #[.int .i64 12, .string ⟨#[]⟩, .int .i64 0, .string ⟨#[]⟩, .slice (some ⟨w1.heap.size, 0, none⟩) (49997 + a) (49997 + a), .slice none 0 0, .slice none 0 0]] W (SortIs W (r1, q1))) := Lib.hid (fun W hW =>
            none_check HT5r.out (by rw [(wide_facts _).2.1]; omega) (wide_facts _).2.2.1 W hW (by rw [wide_top, ← hq1, ← hb1]; simp))
          have Hc2 : Hid (∀ W, Below wr.heap.size wr W → Calls Tryd.prog 9 #[.slice none 0 0, .agg #[.int .i64 op, .string nm, .int .i64 so, .string n, .slice A la ca, .slice V lv cv, .slice P lp cp]] W (SortIs W (r2, q2))) := Lib.hid (fun W hW =>
            none_check HD2.out (by rw [(deep_facts _).2.1]; omega) (deep_facts _).2.2.1 W hW (by rw [deep_top _ (by omega), ← hq2, ← hb2']; simp))
          clear HT5 HB HR HD HB2 Hb10 HD0 HB0 e0 e1 e2 e3 e4 e5 e6 e7 q10 hBu hd hlt2
          go_upto_region 17 with (first
            | (go_at_call 9; (with_reducible refine Calls.mono (Hc1.out _ (Below.refl _ _)) ?_); rintro e w14 ⟨rfl, hb14⟩; have Hb14 := Lib.hid hb14; clear hb14; obtain ⟨e0, e1, e2, e3, e4, e5, e6⟩ := box_cells (below_keeps Hb14.out Hr7.out); dsimp only at e0 e1 e2 e3 e4 e5 e6)
            | (go_at_call 9; (with_reducible refine Calls.mono (Hc2.out _ Hb14.out) ?_); rintro e w15 ⟨rfl, hb15⟩; have Hb15 := Lib.hid (Hb14.out.trans (hb15.mono Hb14.out.size)); clear hb15))
          have hx0 : Hid ((w15.alloc (.cells xP.arr 27)).heap[w15.heap.size]? = some (.cells xP.arr 27 (0, 0))) := Lib.hid (heap_alloc_new w15 _)
          have hw0 : Hid (Below w15.heap.size w15 (w15.alloc (.cells xP.arr 27))) := Lib.hid ((Below.refl _ _).alloc (Nat.le_refl _) _)
          clear e0 e1 e2 e3 e4 e5 e6 c0 c1 c2 c3 c4 c5 c6
          go_cut [14] from 62 to 72 (fun s14 wx => ∃ k14 p, s14 = .pointer (some ⟨k14, 0, none⟩) ∧ Hid (w15.heap.size ≤ k14 ∧ wx.heap[k14]? = some (.cells (Parts.arr p) 27 (0, 0)) ∧ TmV wx negAll (.agg p.arr) ∧ Below w15.heap.size w15 wx))
          case first =>
            refine wp_region_makes [0,1,2,3,4,5,6,7,8,9,10,11] [12] (by kernel_rfl) (by kernel_rfl) (spec17_keep (w15.heap.size + 1)) ?_ ?_
            · generalize Exit.then _ _ = Q2
              intro i o ho hi a' w' hb hfr hd K hK
              obtain ⟨x0, x1, x2, x3, x4, x5, x6⟩ := box_cells (p := xP) ((hb.block w15.heap.size (by simp)).trans hx0.out)
              have hsz := hb.size
              have hv1 : a'.tmps.getD 13 undef = .pointer (some ⟨w15.heap.size, 0, none⟩) := hfr 13 (by kernel_rfl)
              have Hsz : Hid (w15.heap.size + 1 ≤ w'.heap.size) := Lib.hid (by simpa using hsz)
              simp only [xP] at x0 x1 x2 x3 x4 x5 x6
              rw [Array.getD_eq_getD_getElem?] at hv1
              have HK := Lib.hid hK
              clear hb hK hfr hsz hw0 hx0
              match i, ho with
              | 0, ho =>
                cases ho
                clear hd
                go_simp
                exact HK.out _ _ rfl (Below.refl _ _)
              | 1, ho =>
                cases ho
                have h0 := hd ⟨0, .data⟩ (by simp) rfl _ _ rfl rfl
                simp only [spec17, Array.getD_eq_getD_getElem?] at h0
                clear hd
                go_simp
                exact HK.out _ _ (BsV.one w' _ _ _) ((Below.refl _ _).alloc (Nat.le_refl _) _)
              | 2, ho =>
                cases ho
                clear hd
                go_simp
                exact HK.out _ _ rfl (Below.refl _ _)
              | 3, ho =>
                cases ho
                have h0 := hd ⟨2, .data⟩ (by simp) rfl _ _ rfl rfl
                simp only [spec17, xP, Parts.arr, Array.getD_eq_getD_getElem?] at h0
                clear hd
                go_simp
                exact HK.out _ _ (TsV.one (xP_tm w') _) ((Below.refl _ _).alloc (Nat.le_refl _) _)
              | 4, ho =>
                cases ho
                obtain ⟨A, c, e, hrest⟩ := hd ⟨3, .data⟩ (by simp) rfl _ _ rfl rfl
                rw [Array.getD_eq_getD_getElem?] at e
                have Hrest := Lib.hid hrest
                clear hd hrest
                go_simp
                refine (app_any _ A 1 c w').mono ?_
                rintro e2 w2 ⟨rfl, hb2⟩
                exact HK.out _ _ (TmV.make ⟨⟨by decide, by decide⟩, ⟨by decide, by decide⟩, by decide, by decide, by decide, by decide, by decide, by simp⟩ (TsV.mono ⟨A, c, rfl, Hrest.out⟩ hb2) (BsV.nil w2) (TsV.nil w2)) hb2
              | 5, ho =>
                cases ho
                have h4 : TmV w' exFx _ := hd ⟨4, .data⟩ (by simp) rfl _ _ rfl rfl
                clear hd
                obtain ⟨p, e⟩ := h4.parts
                rw [e] at h4
                have H4 := Lib.hid h4
                clear h4
                simp only [Parts.arr, Array.getD_eq_getD_getElem?] at e
                go_simp
                exact HK.out _ _ (TsV.one H4.out _) ((Below.refl _ _).alloc (Nat.le_refl _) _)
              | 6, ho =>
                cases ho
                clear hd
                go_simp
                exact HK.out _ _ rfl (Below.refl _ _)
              | 7, ho =>
                cases ho
                have h0 := hd ⟨6, .data⟩ (by simp) rfl _ _ rfl rfl
                simp only [spec17, xP, Parts.arr, Array.getD_eq_getD_getElem?] at h0
                clear hd
                go_simp
                exact HK.out _ _ (TsV.one (xP_tm w') _) ((Below.refl _ _).alloc (Nat.le_refl _) _)
              | 8, ho =>
                cases ho
                obtain ⟨A, c, e, hrest⟩ := hd ⟨7, .data⟩ (by simp) rfl _ _ rfl rfl
                rw [Array.getD_eq_getD_getElem?] at e
                have Hrest := Lib.hid hrest
                clear hd hrest
                go_simp
                exact HK.out _ _ (TmV.make ⟨⟨by decide, by decide⟩, ⟨by decide, by decide⟩, by decide, by decide, by decide, by decide, by decide, by simp⟩ ⟨A, c, rfl, Hrest.out⟩ (BsV.nil w') (TsV.nil w')) (Below.refl _ _)
              | 9, ho =>
                cases ho
                have h4 : TmV w' (negT exX) _ := hd ⟨8, .data⟩ (by simp) rfl _ _ rfl rfl
                clear hd
                obtain ⟨p, e⟩ := h4.parts
                rw [e] at h4
                have H4 := Lib.hid h4
                clear h4
                simp only [Parts.arr, Array.getD_eq_getD_getElem?] at e
                go_simp
                exact HK.out _ _ (TsV.one H4.out _) ((Below.refl _ _).alloc (Nat.le_refl _) _)
              | 10, ho =>
                cases ho
                obtain ⟨A, c, e, hrest⟩ := hd ⟨1, .data⟩ (by simp) rfl _ _ rfl rfl
                obtain ⟨A2, c2, e2, hrest2⟩ := hd ⟨5, .data⟩ (by simp) rfl _ _ rfl rfl
                obtain ⟨A3, c3, e3, hrest3⟩ := hd ⟨9, .data⟩ (by simp) rfl _ _ rfl rfl
                rw [Array.getD_eq_getD_getElem?] at e e2 e3
                have Hrest := Lib.hid hrest
                have Hrest2 := Lib.hid hrest2
                have Hrest3 := Lib.hid hrest3
                clear hd hrest hrest2 hrest3
                go_simp
                exact HK.out _ _ (TmV.make ⟨⟨by decide, by decide⟩, ⟨by decide, by decide⟩, by decide, by decide, by decide, by decide, by decide, by intro x hx; simp at hx; subst hx; exact ⟨by decide, by decide, by decide⟩⟩ ⟨A3, c3, rfl, Hrest3.out⟩ ⟨A, c, rfl, Hrest.out⟩ ⟨A2, c2, rfl, Hrest2.out⟩) (Below.refl _ _)
              | 11, ho =>
                cases ho
                clear hd
                go_simp
                exact HK.out _ _ ⟨_, rfl, heap_alloc_new w' _, Hsz.out⟩ ((Below.refl _ _).alloc (Nat.le_refl _) _)
              | 12, ho => exact absurd (by simp) hi
              | n + 13, ho => simp at ho
            · intro fuel listed a' w' hc hm hall
              obtain ⟨g, ha, hh⟩ := hm.act (ds := [62,63,64,65,66,67,68,69,70,71,72,14]) (by kernel_rfl)
              have hl : listed = #[true,true,true,true,true,true,true,true,true,true,true,true,false] := by
                have hs : listed.size = 13 := hm.size
                have n12 := getD_both (hm.rest 12 (by simp))
                rw [listed_all listed, hs]
                simp only [List.range, List.range.loop, List.map, n12, hall 0 (by simp), hall 1 (by simp), hall 2 (by simp), hall 3 (by simp), hall 4 (by simp), hall 5 (by simp), hall 6 (by simp), hall 7 (by simp), hall 8 (by simp), hall 9 (by simp), hall 10 (by simp), hall 11 (by simp)]
              have hT : TmV w' negAll (g 72) := hh 10 _ _ (hall 10 (by simp)) rfl rfl
              obtain ⟨k, hk, hz, hB⟩ := hh 11 _ _ (hall 11 (by simp)) rfl rfl
              obtain ⟨p, hp⟩ := hT.parts
              have Hb : Hid (Below w15.heap.size w15 w') := Lib.hid (hw0.out.drew.trans (hm.inv.mono (by simp)))
              subst hl
              clear hm hall hh
              subst ha
              simp only [setAll]
              obtain ⟨f, rfl⟩ : ∃ f, fuel = f + 1 := ⟨fuel - 1, by simp at hc; omega⟩
              obtain ⟨op7, nm7, so7, n7, A7, la7, ca7, V7, lv7, cv7, P7, lp7, cp7⟩ := p
              simp only [Parts.arr] at hp
              rw [hp, hk]
              have hkb : k < w'.heap.size := (Array.getElem?_eq_some_iff.1 hz).1
              have hzc := box_cells (p := zeroP) hz
              have hfz : ∀ i, w'.frozen? ⟨k, i, none⟩ = false := fun i => by simp [World.frozen?, hz]
              rw [hp] at hT
              have HT := Lib.hid hT
              have HZ := Lib.hid hz
              have HBk := Lib.hid hB
              clear hT hz hB hc hp hk
              generalize g 62 = g62, g 63 = g63, g 64 = g64, g 65 = g65, g 66 = g66, g 67 = g67, g 68 = g68, g 69 = g69, g 70 = g70, g 71 = g71
              simp only [List.setIfInBounds_toArray, List.set_cons_zero, List.set_cons_succ]
              simp only [zeroP] at hzc
              obtain ⟨z0, z1, z2, z3, z4, z5, z6⟩ := hzc
              refine wpAny_ready (rs := [12]) (by kernel_rfl) (by simp) ?_
              refine AllReady.cons rfl (fun K3 hK3 => ?_) AllReady.nil
              go_simp
              refine hK3 _ _ (wpAny_done (by kernel_rfl) ?_ _)
              dsimp only [Exit.then]
              go_wp2_with fail
              go_meet
              exact ⟨k, ⟨op7, nm7, so7, n7, A7, la7, ca7, V7, lv7, cv7, P7, lp7, cp7⟩, rfl, Lib.hid ⟨by have := HBk.out; omega, setT_row (p := ⟨op7, nm7, so7, n7, A7, la7, ca7, V7, lv7, cv7, P7, lp7, cp7⟩) (q := zeroP) HZ.out, HT.out.solid HZ.out (fun a h => setT_cell_ne (p := ⟨op7, nm7, so7, n7, A7, la7, ca7, V7, lv7, cv7, P7, lp7, cp7⟩) h) (by kernel_rfl), setT_below Hb.out (by have := HBk.out; omega) ⟨op7, nm7, so7, n7, A7, la7, ca7, V7, lv7, cv7, P7, lp7, cp7⟩⟩⟩
          case rest =>
            obtain ⟨k14, ⟨op7, nm7, so7, n7, A7, la7, ca7, V7, lv7, cv7, P7, lp7, cp7⟩, rfl, H14⟩ := hcut
            obtain ⟨hk14, hr14, hT14, hb14⟩ := H14.out
            have hbrc : Below wr.heap.size wr wc := Hb15.out.trans (hb14.mono Hb15.out.size)
            have HT5c := HT5r.out.mono hbrc
            have HD2c := HD2.out.mono hbrc
            have hr5c := below_keeps hbrc Hr5.out
            have hr7c := below_keeps hbrc Hr7.out
            have Hr14 := Lib.hid hr14
            have Hr7c := Lib.hid hr7c
            have HBc : Hid (Below w1.heap.size w1 wc) := Lib.hid (HBr.out.trans (hbrc.mono HBr.out.size))
            obtain ⟨q3, hq3⟩ : ∃ q : Int, (if b3 = true then (34 : Int) else 0) = q := ⟨_, rfl⟩
            obtain ⟨q4, hq4⟩ : ∃ q : Int, (if b4 = true then (33 : Int) else 0) = q := ⟨_, rfl⟩
            have key : ∀ (t : Tm) (pp : Parts) (q : Int), TmV wc t (.agg pp.arr) → tw t ≤ 1000000 → (instTop [(⟨#[120]⟩, 1)] [t] (negT exX)).2 = q → ∀ W, Below wc.heap.size wc W → ∀ m, m = W.heap.size → Calls Tryd.prog 11 #[.agg (Parts.arr ⟨op7, nm7, so7, n7, A7, la7, ca7, V7, lv7, cv7, P7, lp7, cp7⟩), .slice (some ⟨m, 0, none⟩) 1 1] (W.alloc (.cells pp.arr 27)) fun e w' => ∃ p8 : Parts, e = .returned (.tuple #[.agg p8.arr, .int .i64 q]) ∧ Below W.heap.size W w' := by
              intro t pp q ht htw hq W hW m hm
              subst hm
              have hA : Below W.heap.size W (W.alloc (.cells pp.arr 27)) := (Below.refl _ _).alloc (Nat.le_refl _) _
              obtain ⟨A9, c9, e9, hc9, fl, hrow, hlt9⟩ := TsV.one (ht.mono hW) 27
              cases e9
              have h := Inst_any (body := negT exX) (vs := [(⟨#[120]⟩, 1)]) (l := [t]) ((hT14.mono hW).mono hA) hrow hlt9 (cl := 1) rfl (by simp) (.inl (by kernel_rfl)) (by show 2 ≤ 1000000; omega) (by intro y hy; simp at hy; subst hy; exact htw) _ (Below.refl _ _)
              refine Calls.mono h ?_
              rintro e w' ⟨p8, rfl, _, hb8⟩
              exact ⟨p8, by rw [hq], hA.trans (hb8.mono hA.size)⟩
            have Hi1 := Lib.hid (key _ (Parts.mk 12 ⟨#[]⟩ 0 ⟨#[]⟩ (some ⟨w1.heap.size, 0, none⟩) (49997 + a) (49997 + a) none 0 0 none 0 0) q3 HT5c (by rw [(wide_facts _).2.1]; omega) (by rw [wide_inst, ← hq3, ← hb3]; simp))
            have Hi2 := Lib.hid (key _ (Parts.mk op nm so n A la ca V lv cv P lp cp) q4 HD2c (by rw [(deep_facts _).2.1]; omega) (by rw [deep_inst _ (by omega), ← hq4, ← hb4]; simp))
            simp only [Parts.arr] at Hi1 Hi2
            obtain ⟨x0, x1, x2, x3, x4, x5, x6⟩ := box_cells (p := ⟨op7, nm7, so7, n7, A7, la7, ca7, V7, lv7, cv7, P7, lp7, cp7⟩) hr14
            obtain ⟨y0, y1, y2, y3, y4, y5, y6⟩ := box_cells hr5c
            dsimp only at x0 x1 x2 x3 x4 x5 x6 y0 y1 y2 y3 y4 y5 y6
            have z14 : k14 < wc.heap.size := (Array.getElem?_eq_some_iff.1 hr14).1
            have z5 : w2.heap.size < wc.heap.size := (Array.getElem?_eq_some_iff.1 hr5c).1
            have z7 : w10.heap.size < wc.heap.size := (Array.getElem?_eq_some_iff.1 hr7c).1
            clear key hk14 hr14 hT14 hb14 H14 hbrc HT5c HD2c hr5c hr7c Hb15 Hb14 HT5r HD2 Hr5 Hr7 HBr hx0 hw0 Hpl1 Hpl2 Hn Hc1 Hc2
            go_upto_region 20 with (first
              | (go_at_call 11; (with_reducible refine Calls.mono (Hi1.out _ (Below.refl _ _) _ rfl) ?_); rintro e w18 ⟨⟨op8, nm8, so8, n8, A8, la8, ca8, V8, lv8, cv8, P8, lp8, cp8⟩, rfl, hb18⟩; dsimp only; have Hb18 := Lib.hid hb18; obtain ⟨g0, g1, g2, g3, g4, g5, g6⟩ := box_cells (p := ⟨op7, nm7, so7, n7, A7, la7, ca7, V7, lv7, cv7, P7, lp7, cp7⟩) (below_keeps hb18 Hr14.out); obtain ⟨i0, i1, i2, i3, i4, i5, i6⟩ := box_cells (below_keeps hb18 Hr7c.out); dsimp only at g0 g1 g2 g3 g4 g5 g6 i0 i1 i2 i3 i4 i5 i6; have z14' : k14 < w18.heap.size := (by have := hb18.size; omega); have z7' : w10.heap.size < w18.heap.size := (by have := hb18.size; omega); have Hw18 : Hid (Below wc.heap.size wc (w18.alloc (.cells #[.int .i64 op8, .string nm8, .int .i64 so8, .string n8, .slice A8 la8 ca8, .slice V8 lv8 cv8, .slice P8 lp8 cp8] 27))) := Lib.hid (hb18.alloc hb18.size _); have Hm18 : Hid (w18.heap.size + 1 = (w18.alloc (.cells #[.int .i64 op8, .string nm8, .int .i64 so8, .string n8, .slice A8 la8 ca8, .slice V8 lv8 cv8, .slice P8 lp8 cp8] 27)).heap.size) := Lib.hid (by simp); clear hb18)
              | (go_at_call 11; (with_reducible refine Calls.mono (Hi2.out _ Hw18.out _ Hm18.out) ?_); rintro e w19 ⟨⟨op9, nm9, so9, n9, A9, la9, ca9, V9, lv9, cv9, P9, lp9, cp9⟩, rfl, hb19⟩; dsimp only; have Hb19 := Lib.hid hb19; clear hb19))
            have Hfin : Hid (Below w.heap.size w w19) := Lib.hid (by
              have h1 := Hw18.out.trans (Hb19.out.mono Hw18.out.size)
              have h2 := HBc.out.trans (h1.mono HBc.out.size)
              exact Hb1.out.trans (h2.mono Hb1.out.size))
            clear Hb18 Hb19 Hw18 HBc Hb1 Hr14 Hr7c Hi1 Hi2 g0 g1 g2 g3 g4 g5 g6 i0 i1 i2 i3 i4 i5 i6 x0 x1 x2 x3 x4 x5 x6 y0 y1 y2 y3 y4 y5 y6
            cases b1 <;> cases b2 <;> cases b3 <;> cases b4
            all_goals
              simp only [decide_eq_true_eq, decide_eq_false_iff_not] at hb1 hb2' hb3 hb4
              first
                | (exfalso; omega)
                | (simp only [Bool.false_eq_true, if_true, if_false, Prod.mk.injEq] at hq1 hq2 hq3 hq4
                   obtain ⟨rfl, rfl⟩ := hq1
                   obtain ⟨rfl, rfl⟩ := hq2
                   subst hq3 hq4
                   first
                     | have f1 : (50000 : Int) < 49998 + (a : Int) := by omega
                     | have f1 : ¬ (50000 : Int) < 49998 + (a : Int) := by omega
                   first
                     | have f2 : (200 : Int) < 198 + (b : Int) := by omega
                     | have f2 : ¬ (200 : Int) < 198 + (b : Int) := by omega
                   first
                     | have f3 : (50000 : Int) < 49998 + (a : Int) + 1 := by omega
                     | have f3 : ¬ (50000 : Int) < 49998 + (a : Int) + 1 := by omega
                   first
                     | have f4 : (200 : Int) < 198 + (b : Int) + 1 := by omega
                     | have f4 : ¬ (200 : Int) < 198 + (b : Int) + 1 := by omega
                   clear hb1 hb2' hb3 hb4
                   go_wp2_with fail
                   go_ret
                   exact ⟨rfl, Hfin.out.alloc Hfin.out.size _⟩)
end Go.Proofs.YtlgbepamnkfpjaaDoor
