/- The chapter's example, as the statements have it. -/
import Derived.Test.YtlgbepamnkfpjaaGreatDoorM28
import Derived.Deep.DeepCutAuto
set_option linter.unusedSimpArgs false
set_option linter.unusedVariables false
set_option linter.unusedVariables false
set_option linter.unusedSimpArgs false
namespace Go.Proofs.YtlgbepamnkfpjaaGreatDoor
open Go.RowKit Go.Lib

def xP : Parts := ⟨18, ⟨#[120]⟩, 1, ⟨#[]⟩, none, 0, 0, none, 0, 0, none, 0, 0⟩
theorem xP_tm (w : World) : TmV w exX (.agg xP.arr) := TmV.make ⟨⟨by decide, by decide⟩, ⟨by decide, by decide⟩, by decide, by decide, by decide, by decide, by decide, by simp⟩ (TsV.nil w) (BsV.nil w) (TsV.nil w)
/-- What the first formula's parts are. -/
def spec2 (B : Nat) : Nat → World → Value → Prop
  | 0, _, v => v = .agg #[.string ⟨#[120]⟩, .int .i64 1]
  | 1, w, v => BsV w [(⟨#[120]⟩, 1)] v
  | 2, _, v => v = .agg xP.arr
  | 3, w, v => TsV w [exX] v
  | 4, w, v => TmV w exFx v
  | 5, w, v => TsV w [exFx] v
  | 6, w, v => TmV w (exNum 48) v
  | 7, _, v => v = .agg xP.arr
  | 8, w, v => TsV w [exX] v
  | 9, w, v => TmV w exFx v
  | 10, w, v => TsV w [exNum 48, exFx] v
  | 11, w, v => TmV w exBody v
  | 12, w, v => TsV w [exBody] v
  | 13, w, v => TmV w exAll v
  | 14, w, v => ∃ k, v = .pointer (some ⟨k, 0, none⟩) ∧ w.heap[k]? = some (.cells zeroP.arr 26 (0, 0)) ∧ B ≤ k
  | _, _, _ => True
theorem spec2_keep (B : Nat) (i : Nat) (w w' : World) (v : Value) (h : spec2 B i w v) (hb : Below w.heap.size w w') : spec2 B i w' v := by
  match i, h with
  | 0, h => exact h
  | 1, h => exact BsV.mono h hb
  | 2, h => exact h
  | 3, h => exact TsV.mono h hb
  | 4, h => exact TmV.mono h hb
  | 5, h => exact TsV.mono h hb
  | 6, h => exact TmV.mono h hb
  | 7, h => exact h
  | 8, h => exact TsV.mono h hb
  | 9, h => exact TmV.mono h hb
  | 10, h => exact TsV.mono h hb
  | 11, h => exact TmV.mono h hb
  | 12, h => exact TsV.mono h hb
  | 13, h => exact TmV.mono h hb
  | 14, ⟨k, e, hk, hB⟩ => exact ⟨k, e, (hb.block k (Array.getElem?_eq_some_iff.1 hk).1).trans hk, hB⟩
  | n + 15, h => trivial
theorem ints_one (w : World) (x : Int) (T : TypeId) : IntsAt (w.alloc (.cells #[.int .i64 x] T)) (some ⟨w.heap.size, 0, none⟩) 1 [x] := by
  refine ⟨Nat.le_refl _, .inr (.inr ⟨_, _, rfl, fun j u hj => ?_⟩)⟩
  rw [cell_of_row _ w.heap.size _ _ T (0, 0) (heap_alloc_new w _)]
  cases j with
  | zero => simpa using hj
  | succ j => simp at hj
theorem sig_one {w : World} {name : ByteArray} {args : List Int} {B : Option Addr} {c : Nat} (hi : IntsAt w B c args) (hn : name.size ≤ 140737488355328) (ha : args.length ≤ 140737488355328) {out : Int} (ho : i64 out) (T : TypeId) :
    SigAt (w.alloc (.cells #[.string name, .slice B args.length c, .int .i64 out] T)) (some ⟨w.heap.size, 0, none⟩) 1 [⟨name, args, out⟩] := by
  have hb : Below w.heap.size w (w.alloc (.cells #[.string name, .slice B args.length c, .int .i64 out] T)) := (Below.refl _ _).alloc (Nat.le_refl _) _
  refine ⟨⟨fun _ => .agg #[.string name, .slice B args.length c, .int .i64 out], .inr ⟨_, _, rfl, fun j hj => ⟨rfl, fun i hi => ?_⟩⟩, fun j f hj => ?_⟩, by simp, fun f hf => by simp at hf; subst hf; exact ho⟩
  · have hj0 : j = 0 := by simp at hj; exact hj
    subst hj0
    rw [cell_of_row _ w.heap.size _ _ T (0, 0) (heap_alloc_new w _)]
    simp [Value.cells]
  · cases j with
    | zero => simp at hj; subst hj; exact ⟨⟨B, c, rfl, hi.mono hb⟩, hn, ha, ho⟩
    | succ j => simp at hj
def spec5 (B : Nat) (p : Parts) : Nat → World → Value → Prop
  | 0, _, v => v = .agg p.arr
  | 1, w, v => TmV w (exNum 51) v
  | 2, w, v => TsV w [exNum 51] v
  | 3, w, v => ∃ pp : Parts, v = .tuple #[.agg pp.arr, .int .i64 0] ∧ TmV w exT (.agg pp.arr)
  | 4, w, v => ∃ pp : Parts, v = .tuple #[.agg pp.arr, .int .i64 0] ∧ TmV w exT (.agg pp.arr)
  | 5, w, v => TmV w exT v
  | 6, _, v => v = .int .i64 0
  | 7, w, v => ∃ k, v = .pointer (some ⟨k, 0, none⟩) ∧ w.heap[k]? = some (.cells zeroP.arr 26 (0, 0)) ∧ B ≤ k
  | _, _, _ => True
theorem spec5_keep (B : Nat) (p : Parts) (i : Nat) (w w' : World) (v : Value) (h : spec5 B p i w v) (hb : Below w.heap.size w w') : spec5 B p i w' v := by
  match i, h with
  | 0, h => exact h
  | 1, h => exact TmV.mono h hb
  | 2, h => exact TsV.mono h hb
  | 3, ⟨pp, e, h⟩ => exact ⟨pp, e, h.mono hb⟩
  | 4, ⟨pp, e, h⟩ => exact ⟨pp, e, h.mono hb⟩
  | 5, h => exact TmV.mono h hb
  | 6, h => exact h
  | 7, ⟨k, e, hk, hB⟩ => exact ⟨k, e, (hb.block k (Array.getElem?_eq_some_iff.1 hk).1).trans hk, hB⟩
  | n + 8, h => trivial
theorem ex_none2 : checkTop [] exAll = (0, 32) := by kernel_rfl
theorem ex_textB : textT exT = ⟨#[40, 60, 61, 32, 48, 32, 40, 102, 32, 51, 41, 41]⟩ := by kernel_rfl
theorem ex_textAllB : textT exAll = ⟨#[40,102,111,114,97,108,108,32,40,120,32,105,110,116,41,32,40,112,97,116,116,101,114,110,32,40,102,32,120,41,41,32,40,60,61,32,48,32,40,102,32,120,41,41,41]⟩ := by kernel_rfl
set_option maxRecDepth 100000 in
set_option maxHeartbeats 4000000 in
theorem known_any (w : World) : Calls Tryz.prog 6 #[] w fun e w' => e = .returned (.bool true) ∧ Below w.heap.size w w' := by
  have hw0 : Hid (Below w.heap.size w (w.alloc (.cells xP.arr 26))) := Lib.hid ((Below.refl _ _).alloc (Nat.le_refl _) _)
  have hx0 : Hid ((w.alloc (.cells xP.arr 26)).heap[w.heap.size]? = some (.cells xP.arr 26 (0, 0))) := Lib.hid (heap_alloc_new w _)
  go_enter Tryz.func6, Tryz.ntmps6
  go_upto_region 2 with fail
  go_cut [2] from 11 to 24 (fun s2 wx => ∃ k2 p, s2 = .pointer (some ⟨k2, 0, none⟩) ∧ Hid (w.heap.size ≤ k2 ∧ wx.heap[k2]? = some (.cells (Parts.arr p) 26 (0, 0)) ∧ TmV wx exAll (.agg p.arr) ∧ Below w.heap.size w wx))
  case first =>
    refine wp_region_makes [0,1,2,3,4,5,6,7,8,9,10,11,12,13,14] [15] (by kernel_rfl) (by kernel_rfl) (spec2_keep (w.heap.size + 1)) ?_ ?_
    · rename_i Q1 K1 h1 J1 K2 h2 h3
      generalize Exit.then K2 Q1 = Q2
      clear h3 h2 J1 K2 h1 K1 Q1
      intro i o ho hi a' w' hb hfr hd K hK
      have hxc := box_cells ((hb.block w.heap.size (by simp)).trans hx0.out)
      have hsz := hb.size
      have hv1 : a'.tmps.getD 1 undef = .pointer (some ⟨w.heap.size, 0, none⟩) := hfr 1 (by kernel_rfl)
      have Hsz : Hid (w.heap.size + 1 ≤ w'.heap.size) := Lib.hid (by simpa using hsz)
      simp only [xP] at hxc
      obtain ⟨x0, x1, x2, x3, x4, x5, x6⟩ := hxc
      rw [Array.getD_eq_getD_getElem?] at hv1
      have HK := Lib.hid hK
      clear hb hK hfr hsz hw0 hx0
      match i, ho with
      | 0, ho =>
        cases ho
        go_simp
        exact HK.out _ _ rfl (Below.refl _ _)
      | 1, ho =>
        cases ho
        have h0 := hd ⟨0, .data⟩ (by simp) rfl _ _ rfl rfl
        simp only [spec2, Array.getD_eq_getD_getElem?] at h0
        clear hd
        go_simp
        exact HK.out _ _ (BsV.one w' _ _ _) ((Below.refl _ _).alloc (Nat.le_refl _) _)
      | 2, ho =>
        cases ho
        clear hd
        go_simp
        exact HK.out _ _ rfl (Below.refl _ _)
      | 3, ho =>
        cases ho
        have h0 := hd ⟨2, .data⟩ (by simp) rfl _ _ rfl rfl
        simp only [spec2, xP, Parts.arr, Array.getD_eq_getD_getElem?] at h0
        clear hd
        go_simp
        exact HK.out _ _ (TsV.one (xP_tm w') _) ((Below.refl _ _).alloc (Nat.le_refl _) _)
      | 4, ho =>
        cases ho
        obtain ⟨A, c, e, hrest⟩ := hd ⟨3, .data⟩ (by simp) rfl _ _ rfl rfl
        rw [Array.getD_eq_getD_getElem?] at e
        have Hrest := Lib.hid hrest
        clear hd hrest
        go_simp
        refine (app_any _ A 1 c w').mono ?_
        rintro e2 w2 ⟨rfl, hb2⟩
        exact HK.out _ _ (TmV.make ⟨⟨by decide, by decide⟩, ⟨by decide, by decide⟩, by decide, by decide, by decide, by decide, by decide, by simp⟩ (TsV.mono ⟨A, c, rfl, Hrest.out⟩ hb2) (BsV.nil w2) (TsV.nil w2)) hb2
      | 5, ho =>
        cases ho
        have h4 : TmV w' exFx _ := hd ⟨4, .data⟩ (by simp) rfl _ _ rfl rfl
        clear hd
        obtain ⟨p, e⟩ := h4.parts
        rw [e] at h4
        have H4 := Lib.hid h4
        clear h4
        simp only [Parts.arr, Array.getD_eq_getD_getElem?] at e
        go_simp
        exact HK.out _ _ (TsV.one H4.out _) ((Below.refl _ _).alloc (Nat.le_refl _) _)
      | 6, ho =>
        cases ho
        clear hd
        go_simp
        refine (n_any _ w').mono ?_
        rintro e2 w2 ⟨rfl, hb2⟩
        exact HK.out _ _ (TmV.make ⟨⟨by decide, by decide⟩, ⟨by decide, by decide⟩, by decide, by decide, by decide, by decide, by decide, by simp⟩ (TsV.nil w2) (BsV.nil w2) (TsV.nil w2)) hb2
      | 7, ho =>
        cases ho
        clear hd
        go_simp
        exact HK.out _ _ rfl (Below.refl _ _)
      | 8, ho =>
        cases ho
        have h0 := hd ⟨7, .data⟩ (by simp) rfl _ _ rfl rfl
        simp only [spec2, xP, Parts.arr, Array.getD_eq_getD_getElem?] at h0
        clear hd
        go_simp
        exact HK.out _ _ (TsV.one (xP_tm w') _) ((Below.refl _ _).alloc (Nat.le_refl _) _)
      | 9, ho =>
        cases ho
        obtain ⟨A, c, e, hrest⟩ := hd ⟨8, .data⟩ (by simp) rfl _ _ rfl rfl
        rw [Array.getD_eq_getD_getElem?] at e
        have Hrest := Lib.hid hrest
        clear hd hrest
        go_simp
        refine (app_any _ A 1 c w').mono ?_
        rintro e2 w2 ⟨rfl, hb2⟩
        exact HK.out _ _ (TmV.make ⟨⟨by decide, by decide⟩, ⟨by decide, by decide⟩, by decide, by decide, by decide, by decide, by decide, by simp⟩ (TsV.mono ⟨A, c, rfl, Hrest.out⟩ hb2) (BsV.nil w2) (TsV.nil w2)) hb2
      | 10, ho =>
        cases ho
        have h4 : TmV w' (exNum 48) _ := hd ⟨6, .data⟩ (by simp) rfl _ _ rfl rfl
        have h5 : TmV w' exFx _ := hd ⟨9, .data⟩ (by simp) rfl _ _ rfl rfl
        clear hd
        obtain ⟨p, e⟩ := h4.parts
        obtain ⟨q, f⟩ := h5.parts
        rw [e] at h4
        rw [f] at h5
        have H4 := Lib.hid h4
        have H5 := Lib.hid h5
        clear h4 h5
        simp only [Parts.arr, Array.getD_eq_getD_getElem?] at e f
        go_simp
        exact HK.out _ _ (TsV.two H4.out H5.out _) ((Below.refl _ _).alloc (Nat.le_refl _) _)
      | 11, ho =>
        cases ho
        obtain ⟨A, c, e, hrest⟩ := hd ⟨10, .data⟩ (by simp) rfl _ _ rfl rfl
        rw [Array.getD_eq_getD_getElem?] at e
        have Hrest := Lib.hid hrest
        clear hd hrest
        go_simp
        exact HK.out _ _ (TmV.make ⟨⟨by decide, by decide⟩, ⟨by decide, by decide⟩, by decide, by decide, by decide, by decide, by decide, by simp⟩ ⟨A, c, rfl, Hrest.out⟩ (BsV.nil w') (TsV.nil w')) (Below.refl _ _)
      | 12, ho =>
        cases ho
        have h4 : TmV w' exBody _ := hd ⟨11, .data⟩ (by simp) rfl _ _ rfl rfl
        clear hd
        obtain ⟨p, e⟩ := h4.parts
        rw [e] at h4
        have H4 := Lib.hid h4
        clear h4
        simp only [Parts.arr, Array.getD_eq_getD_getElem?] at e
        go_simp
        exact HK.out _ _ (TsV.one H4.out _) ((Below.refl _ _).alloc (Nat.le_refl _) _)
      | 13, ho =>
        cases ho
        obtain ⟨A, c, e, hrest⟩ := hd ⟨1, .data⟩ (by simp) rfl _ _ rfl rfl
        obtain ⟨A2, c2, e2, hrest2⟩ := hd ⟨5, .data⟩ (by simp) rfl _ _ rfl rfl
        obtain ⟨A3, c3, e3, hrest3⟩ := hd ⟨12, .data⟩ (by simp) rfl _ _ rfl rfl
        rw [Array.getD_eq_getD_getElem?] at e e2 e3
        have Hrest := Lib.hid hrest
        have Hrest2 := Lib.hid hrest2
        have Hrest3 := Lib.hid hrest3
        clear hd hrest hrest2 hrest3
        go_simp
        exact HK.out _ _ (TmV.make ⟨⟨by decide, by decide⟩, ⟨by decide, by decide⟩, by decide, by decide, by decide, by decide, by decide, by intro x hx; simp at hx; subst hx; exact ⟨by decide, by decide, by decide⟩⟩ ⟨A3, c3, rfl, Hrest3.out⟩ ⟨A, c, rfl, Hrest.out⟩ ⟨A2, c2, rfl, Hrest2.out⟩) (Below.refl _ _)
      | 14, ho =>
        cases ho
        clear hd
        go_simp
        exact HK.out _ _ ⟨_, rfl, heap_alloc_new w' _, Hsz.out⟩ ((Below.refl _ _).alloc (Nat.le_refl _) _)
      | 15, ho => exact absurd (by simp) hi
      | n + 16, ho => simp at ho
    · rename_i Q1 K1 h1 J1 K2 h2 h3
      intro fuel listed a' w' hc hm hall
      obtain ⟨g, ha, hh⟩ := hm.act (ds := [11,12,13,14,15,16,17,18,19,20,21,22,23,24,2]) (by kernel_rfl)
      have hl : listed = #[true,true,true,true,true,true,true,true,true,true,true,true,true,true,true,false] := by
        have hs : listed.size = 16 := hm.size
        have h15 := getD_both (hm.rest 15 (by simp))
        rw [listed_all listed, hs]
        simp only [List.range, List.range.loop, List.map, h15, hall 0 (by simp), hall 1 (by simp), hall 2 (by simp), hall 3 (by simp), hall 4 (by simp), hall 5 (by simp), hall 6 (by simp), hall 7 (by simp), hall 8 (by simp), hall 9 (by simp), hall 10 (by simp), hall 11 (by simp), hall 12 (by simp), hall 13 (by simp), hall 14 (by simp)]
      have hT : TmV w' exAll (g 24) := hh 13 _ _ (hall 13 (by simp)) rfl rfl
      obtain ⟨k, hk, hz, hB⟩ := hh 14 _ _ (hall 14 (by simp)) rfl rfl
      obtain ⟨p, hp⟩ := hT.parts
      have Hb : Hid (Below w.heap.size w w') := Lib.hid (by
        have h1 := hw0.out.drew.trans (hm.inv.mono (by simp))
        exact h1)
      subst hl
      clear hm hall hh
      subst ha
      simp only [setAll]
      obtain ⟨f, rfl⟩ : ∃ f, fuel = f + 1 := ⟨fuel - 1, by simp at hc; omega⟩
      obtain ⟨op, nm, so, n, A, la, ca, V, lv, cv, P, lp, cp⟩ := p
      simp only [Parts.arr] at hp
      rw [hp, hk]
      have hkb : k < w'.heap.size := (Array.getElem?_eq_some_iff.1 hz).1
      have hzc := box_cells (p := zeroP) hz
      have hfz : ∀ i, w'.frozen? ⟨k, i, none⟩ = false := fun i => by simp [World.frozen?, hz]
      rw [hp] at hT
      have HT := Lib.hid hT
      have HZ := Lib.hid hz
      have HB := Lib.hid hB
      clear hT hz hB hc hp hk
      generalize g 11 = g11, g 12 = g12, g 13 = g13, g 14 = g14, g 15 = g15, g 16 = g16, g 17 = g17, g 18 = g18, g 19 = g19, g 20 = g20, g 21 = g21, g 22 = g22, g 23 = g23
      simp only [List.setIfInBounds_toArray, List.set_cons_zero, List.set_cons_succ]
      simp only [zeroP] at hzc
      obtain ⟨z0, z1, z2, z3, z4, z5, z6⟩ := hzc
      refine wpAny_ready (rs := [15]) (by kernel_rfl) (by simp) ?_
      refine AllReady.cons rfl (fun K3 hK3 => ?_) AllReady.nil
      go_simp
      refine hK3 _ _ (wpAny_done (by kernel_rfl) ?_ _)
      show K2 _ _
      go_wp2_with fail
      go_meet
      exact ⟨k, ⟨op, nm, so, n, A, la, ca, V, lv, cv, P, lp, cp⟩, rfl, Lib.hid ⟨by have := HB.out; omega, setT_row (p := ⟨op, nm, so, n, A, la, ca, V, lv, cv, P, lp, cp⟩) (q := zeroP) HZ.out, HT.out.solid HZ.out (fun a h => setT_cell_ne (p := ⟨op, nm, so, n, A, la, ca, V, lv, cv, P, lp, cp⟩) h) (by kernel_rfl), setT_below Hb.out (by have := HB.out; omega) ⟨op, nm, so, n, A, la, ca, V, lv, cv, P, lp, cp⟩⟩⟩
  case rest =>
    obtain ⟨k2, ⟨op, nm, so, n, A, la, ca, V, lv, cv, P, lp, cp⟩, rfl, H2⟩ := hcut
    obtain ⟨hk2, hr2, hT2, hB2⟩ := H2.out
    have Hk2 := Lib.hid hk2
    have Hr2 := Lib.hid hr2
    have HT2 := Lib.hid hT2
    have HB2 := Lib.hid hB2
    have q2 : k2 < wc.heap.size := (Array.getElem?_eq_some_iff.1 hr2).1
    obtain ⟨c0, c1, c2, c3, c4, c5, c6⟩ := box_cells (p := ⟨op, nm, so, n, A, la, ca, V, lv, cv, P, lp, cp⟩) hr2
    have Hbs : Hid (Below wc.heap.size wc ((wc.alloc (.cells #[.int .i64 1] 3)).alloc (.cells #[.string ⟨#[102]⟩, .slice (some ⟨wc.heap.size, 0, none⟩) 1 1, .int .i64 1] 46))) := Lib.hid (((Below.refl _ _).alloc (Nat.le_refl _) _).alloc (by simp) _)
    have Hck : Hid (Calls Tryz.prog 8 #[.slice (some ⟨wc.heap.size + 1, 0, none⟩) 1 1, .agg #[.int .i64 op, .string nm, .int .i64 so, .string n, .slice A la ca, .slice V lv cv, .slice P lp cp]] ((wc.alloc (.cells #[.int .i64 1] 3)).alloc (.cells #[.string ⟨#[102]⟩, .slice (some ⟨wc.heap.size, 0, none⟩) 1 1, .int .i64 1] 46)) (SortIs ((wc.alloc (.cells #[.int .i64 1] 3)).alloc (.cells #[.string ⟨#[102]⟩, .slice (some ⟨wc.heap.size, 0, none⟩) 1 1, .int .i64 1] 46)) (2, 0))) := Lib.hid (by
      have hs := sig_one (name := ⟨#[102]⟩) (ints_one wc 1 3) (by decide) (by decide) (out := 1) ⟨by decide, by decide⟩ 46
      have hck := Check_any hs (hT2.mono Hbs.out) (by rw [ex_tw.1]; omega) ex_short _ (Below.refl _ _)
      rw [ex_check] at hck
      simpa [Parts.arr] using hck)
    clear H2 hk2 hr2 hT2 hB2
    go_upto_region 5 with (go_at_call 8; (with_reducible refine Hck.out.mono ?_); rintro e w3 ⟨rfl, hb3⟩; have Hb3 := Lib.hid hb3; clear hb3)
    have hb23 : Below wc.heap.size wc w3 := Hbs.out.trans (Hb3.out.mono Hbs.out.size)
    have hr3 := (hb23.block k2 q2).trans Hr2.out
    have HT3 := Lib.hid (HT2.out.mono hb23)
    have HB3 := Lib.hid (HB2.out.trans (hb23.mono HB2.out.size))
    have Hr3 := Lib.hid hr3
    clear c0 c1 c2 c3 c4 c5 c6
    obtain ⟨c0, c1, c2, c3, c4, c5, c6⟩ := box_cells (p := ⟨op, nm, so, n, A, la, ca, V, lv, cv, P, lp, cp⟩) hr3
    have q3 : k2 < w3.heap.size := by have := hb23.size; omega
    clear hb23 hr3 Hck Hbs Hb3 HT2 HB2 Hr2 q2
    go_cut [6, 7] from 34 to 40 (fun s6 s7 wx => ∃ k6 q, s6 = .pointer (some ⟨k6, 0, none⟩) ∧ s7 = .int .i64 0 ∧ Hid (w3.heap.size ≤ k6 ∧ wx.heap[k6]? = some (.cells (Parts.arr q) 26 (0, 0)) ∧ TmV wx exT (.agg q.arr) ∧ Below w3.heap.size w3 wx))
    case first =>
      refine wp_region_makes [0,1,2,3,4,5,7] [8,9] (by kernel_rfl) (by kernel_rfl) (spec5_keep w3.heap.size ⟨op, nm, so, n, A, la, ca, V, lv, cv, P, lp, cp⟩) ?_ ?_
      · rename_i Q1 K1 h1 J1 K2 h2 h3
        generalize Exit.then K2 Q1 = Q2
        clear h3 h2 J1 K2 h1 K1 Q1
        intro i o ho hi a' w' hb hfr hd K hK
        have hbd : Below w3.heap.size w3 w' := (Below.refl _ w3).drew.trans hb
        obtain ⟨x0, x1, x2, x3, x4, x5, x6⟩ := box_cells (p := ⟨op, nm, so, n, A, la, ca, V, lv, cv, P, lp, cp⟩) ((hbd.block k2 q3).trans Hr3.out)
        have hv1 : a'.tmps.getD 2 undef = .pointer (some ⟨k2, 0, none⟩) := hfr 2 (by kernel_rfl)
        have Hbd := Lib.hid hbd
        have Hsz : Hid (w3.heap.size ≤ w'.heap.size) := Lib.hid (by simpa using hbd.size)
        rw [Array.getD_eq_getD_getElem?] at hv1
        have HK := Lib.hid hK
        clear hb hK hfr hw0 hx0 hbd c0 c1 c2 c3 c4 c5 c6
        match i, ho with
        | 0, ho =>
          cases ho
          clear hd
          go_simp
          exact HK.out _ _ rfl (Below.refl _ _)
        | 1, ho =>
          cases ho
          clear hd
          go_simp
          refine (n_any _ w').mono ?_
          rintro e2 w2 ⟨rfl, hb2⟩
          exact HK.out _ _ (TmV.make ⟨⟨by decide, by decide⟩, ⟨by decide, by decide⟩, by decide, by decide, by decide, by decide, by decide, by simp⟩ (TsV.nil w2) (BsV.nil w2) (TsV.nil w2)) hb2
        | 2, ho =>
          cases ho
          have h4 : TmV w' (exNum 51) _ := hd ⟨1, .data⟩ (by simp) rfl _ _ rfl rfl
          clear hd
          obtain ⟨p, e⟩ := h4.parts
          rw [e] at h4
          have H4 := Lib.hid h4
          clear h4
          simp only [Parts.arr, Array.getD_eq_getD_getElem?] at e
          go_simp
          exact HK.out _ _ (TsV.one H4.out _) ((Below.refl _ _).alloc (Nat.le_refl _) _)
        | 3, ho =>
          cases ho
          have h0 := hd ⟨0, .data⟩ (by simp) rfl _ _ rfl rfl
          obtain ⟨A2, cc2, e, hc2, fl, hrow, hlt⟩ := hd ⟨2, .data⟩ (by simp) rfl _ _ rfl rfl
          simp only [spec5, Parts.arr, Array.getD_eq_getD_getElem?] at h0
          rw [Array.getD_eq_getD_getElem?] at e
          have hin := Inst_any (body := exBody) (vs := [(⟨#[120]⟩, 1)]) (l := [exNum 51]) (HT3.out.mono Hbd.out) hrow hlt (cl := cc2) rfl (by decide) ex_noAll (by rw [ex_tw.2.2]; omega) (by intro y hy; simp at hy; subst hy; decide) w' (Below.refl _ _)
          rw [ex_inst] at hin
          have Hin := Lib.hid hin
          clear hd hin hrow hlt hc2
          simp only [Parts.arr, List.length_cons, List.length_nil] at Hin
          go_simp
          refine Calls.mono Hin.out ?_
          rintro e2 w2 ⟨pp, rfl, hT, hb2⟩
          exact HK.out _ _ ⟨pp, rfl, hT⟩ hb2
        | 4, ho =>
          cases ho
          obtain ⟨pp, e, hT⟩ := hd ⟨3, .data⟩ (by simp) rfl _ _ rfl rfl
          rw [Array.getD_eq_getD_getElem?] at e
          have HT := Lib.hid hT
          clear hd hT
          go_simp
          exact HK.out _ _ ⟨pp, rfl, HT.out⟩ (Below.refl _ _)
        | 5, ho =>
          cases ho
          obtain ⟨pp, e, hT⟩ := hd ⟨4, .data⟩ (by simp) rfl _ _ rfl rfl
          rw [Array.getD_eq_getD_getElem?] at e
          have HT := Lib.hid hT
          clear hd hT
          go_simp
          exact HK.out _ _ HT.out (Below.refl _ _)
        | 6, ho =>
          cases ho
          obtain ⟨pp, e, hT⟩ := hd ⟨4, .data⟩ (by simp) rfl _ _ rfl rfl
          rw [Array.getD_eq_getD_getElem?] at e
          clear hd hT
          go_simp
          exact HK.out _ _ rfl (Below.refl _ _)
        | 7, ho =>
          cases ho
          clear hd
          go_simp
          exact HK.out _ _ ⟨_, rfl, heap_alloc_new w' _, Hsz.out⟩ ((Below.refl _ _).alloc (Nat.le_refl _) _)
        | 8, ho => exact absurd (by simp) hi
        | 9, ho => exact absurd (by simp) hi
        | n + 10, ho => simp at ho
      · rename_i Q1 K1 h1 J1 K2 h2 h3
        intro fuel listed a' w' hc hm hall
        obtain ⟨g, ha, hh⟩ := hm.act (ds := [35,36,37,38,34,39,40,6]) (by kernel_rfl)
        obtain ⟨b6, hb6⟩ : ∃ b, listed.getD 6 false = b := ⟨_, rfl⟩
        have hl : listed = #[true,true,true,true,true,true,b6,true,false,false] := by
          have hs : listed.size = 10 := hm.size
          have h8 := getD_both (hm.rest 8 (by simp))
          have h9 := getD_both (hm.rest 9 (by simp))
          rw [listed_all listed, hs]
          simp only [List.range, List.range.loop, List.map, h8, h9, hb6, hall 0 (by simp), hall 1 (by simp), hall 2 (by simp), hall 3 (by simp), hall 4 (by simp), hall 5 (by simp), hall 7 (by simp)]
        obtain ⟨pp, e34, hT⟩ := hh 4 _ _ (hall 4 (by simp)) rfl rfl
        have hT5 : TmV w' exT (g 39) := hh 5 _ _ (hall 5 (by simp)) rfl rfl
        obtain ⟨k, hk, hz, hB⟩ := hh 7 _ _ (hall 7 (by simp)) rfl rfl
        have h6 : b6 = true → g 40 = .int .i64 0 := fun e => hh 6 _ _ (by rw [hb6, e]) rfl rfl
        obtain ⟨p, hp⟩ := hT5.parts
        have Hb : Hid (Below w3.heap.size w3 w') := Lib.hid ((Below.refl _ w3).drew.trans hm.inv)
        subst hl
        clear hm hall hh hb6 hT
        subst ha
        simp only [setAll]
        obtain ⟨op6, nm6, so6, n6, A6, la6, ca6, V6, lv6, cv6, P6, lp6, cp6⟩ := p
        simp only [Parts.arr] at hp
        rw [hp, hk, e34]
        have hkb : k < w'.heap.size := (Array.getElem?_eq_some_iff.1 hz).1
        have hzc := box_cells (p := zeroP) hz
        have hfz : ∀ i, w'.frozen? ⟨k, i, none⟩ = false := fun i => by simp [World.frozen?, hz]
        rw [hp] at hT5
        have HT := Lib.hid hT5
        have HZ := Lib.hid hz
        have HBk := Lib.hid hB
        clear hT5 hz hB hp hk e34
        generalize g 35 = g35, g 36 = g36, g 37 = g37, g 38 = g38
        simp only [List.setIfInBounds_toArray, List.set_cons_zero, List.set_cons_succ]
        simp only [zeroP] at hzc
        obtain ⟨z0, z1, z2, z3, z4, z5, z6⟩ := hzc
        cases b6 with
        | false =>
          obtain ⟨f, rfl⟩ : ∃ f, fuel = f + 2 + 1 := ⟨fuel - 3, by simp at hc; omega⟩
          clear h6 hc
          generalize g 40 = g40
          refine wpAny_take (i := 6) (v := .int .i64 0) rfl (by kernel_rfl) (by kernel_rfl) (by kernel_rfl) (fun _ _ _ h => h) (Or.inl ⟨by rfl, ?_⟩) ?_
          · intro wq
            go_simp
          simp only [Act.put, List.setIfInBounds_toArray, List.set_cons_zero, List.set_cons_succ]
          refine wpAny_ready (rs := [8]) (by kernel_rfl) (by simp) ?_
          refine AllReady.cons rfl (fun K3 hK3 => ?_) AllReady.nil
          go_simp
          refine hK3 _ _ ?_
          clear hK3 K3
          refine wpAny_ready (rs := [9]) (by kernel_rfl) (by simp) ?_
          refine AllReady.cons rfl (fun K3 hK3 => ?_) AllReady.nil
          go_simp
          refine hK3 _ _ (wpAny_done (by kernel_rfl) ?_ _)
          show K2 _ _
          go_wp2_with fail
          go_meet
          exact ⟨k, ⟨op6, nm6, so6, n6, A6, la6, ca6, V6, lv6, cv6, P6, lp6, cp6⟩, rfl, rfl, Lib.hid ⟨HBk.out, setT_row (p := ⟨op6, nm6, so6, n6, A6, la6, ca6, V6, lv6, cv6, P6, lp6, cp6⟩) (q := zeroP) HZ.out, HT.out.solid HZ.out (fun a h => setT_cell_ne (p := ⟨op6, nm6, so6, n6, A6, la6, ca6, V6, lv6, cv6, P6, lp6, cp6⟩) h) (by kernel_rfl), setT_below Hb.out HBk.out ⟨op6, nm6, so6, n6, A6, la6, ca6, V6, lv6, cv6, P6, lp6, cp6⟩⟩⟩
        | true =>
          obtain ⟨f, rfl⟩ : ∃ f, fuel = f + 2 := ⟨fuel - 2, by simp at hc; omega⟩
          rw [h6 rfl]
          clear h6 hc
          refine wpAny_ready (rs := [8]) (by kernel_rfl) (by simp) ?_
          refine AllReady.cons rfl (fun K3 hK3 => ?_) AllReady.nil
          go_simp
          refine hK3 _ _ ?_
          clear hK3 K3
          refine wpAny_ready (rs := [9]) (by kernel_rfl) (by simp) ?_
          refine AllReady.cons rfl (fun K3 hK3 => ?_) AllReady.nil
          go_simp
          refine hK3 _ _ (wpAny_done (by kernel_rfl) ?_ _)
          show K2 _ _
          go_wp2_with fail
          go_meet
          exact ⟨k, ⟨op6, nm6, so6, n6, A6, la6, ca6, V6, lv6, cv6, P6, lp6, cp6⟩, rfl, rfl, Lib.hid ⟨HBk.out, setT_row (p := ⟨op6, nm6, so6, n6, A6, la6, ca6, V6, lv6, cv6, P6, lp6, cp6⟩) (q := zeroP) HZ.out, HT.out.solid HZ.out (fun a h => setT_cell_ne (p := ⟨op6, nm6, so6, n6, A6, la6, ca6, V6, lv6, cv6, P6, lp6, cp6⟩) h) (by kernel_rfl), setT_below Hb.out HBk.out ⟨op6, nm6, so6, n6, A6, la6, ca6, V6, lv6, cv6, P6, lp6, cp6⟩⟩⟩
    case rest =>
      obtain ⟨k6, ⟨op6, nm6, so6, n6, A6, la6, ca6, V6, lv6, cv6, P6, lp6, cp6⟩, rfl, rfl, H6⟩ := hcut
      obtain ⟨hk6, hr6, hT6, hb6⟩ := H6.out
      have HBx : Hid (Below w.heap.size w wc) := Lib.hid (HB3.out.trans (hb6.mono HB3.out.size))
      have hr2 := (hb6.block k2 q3).trans Hr3.out
      have hT2 := HT3.out.mono hb6
      have Hr2 := Lib.hid hr2
      have Hr6 := Lib.hid hr6
      clear c0 c1 c2 c3 c4 c5 c6
      obtain ⟨c0, c1, c2, c3, c4, c5, c6⟩ := box_cells (p := ⟨op, nm, so, n, A, la, ca, V, lv, cv, P, lp, cp⟩) hr2
      have q6 : k6 < wc.heap.size := (Array.getElem?_eq_some_iff.1 hr6).1
      have q2 : k2 < wc.heap.size := (Array.getElem?_eq_some_iff.1 hr2).1
      have Hck6 : Hid (Calls Tryz.prog 8 #[.slice none 0 0, .agg #[.int .i64 op, .string nm, .int .i64 so, .string n, .slice A la ca, .slice V lv cv, .slice P lp cp]] wc (SortIs wc (0, 32))) := Lib.hid (by
        have hs : SigAt wc none 0 [] := ⟨⟨fun _ => .nilFunc, .inl rfl, by simp⟩, by simp, by simp⟩
        have hck := Check_any hs hT2 (by rw [ex_tw.1]; omega) ex_short _ (Below.refl _ _)
        rw [ex_none2] at hck
        simpa [Parts.arr] using hck)
      have Htx : Hid (∀ W, Below wc.heap.size wc W → Calls Tryz.prog 16 #[.agg #[.int .i64 op6, .string nm6, .int .i64 so6, .string n6, .slice A6 la6 ca6, .slice V6 lv6 cv6, .slice P6 lp6 cp6]] W (TextIs W ⟨#[40, 60, 61, 32, 48, 32, 40, 102, 32, 51, 41, 41]⟩)) := Lib.hid (fun W hW => by
        have h := Text_any hT6 join1 ex_few.2 (by rw [ex_tw.2.1]; omega) W hW
        rw [ex_textB] at h
        exact h)
      have Htx2 : Hid (∀ W, Below wc.heap.size wc W → Calls Tryz.prog 16 #[.agg #[.int .i64 op, .string nm, .int .i64 so, .string n, .slice A la ca, .slice V lv cv, .slice P lp cp]] W (TextIs W ⟨#[40,102,111,114,97,108,108,32,40,120,32,105,110,116,41,32,40,112,97,116,116,101,114,110,32,40,102,32,120,41,41,32,40,60,61,32,48,32,40,102,32,120,41,41,41]⟩)) := Lib.hid (fun W hW => by
        have h := Text_any hT2 join1 ex_few.1 (by rw [ex_tw.1]; omega) W hW
        rw [ex_textAllB] at h
        exact h)
      have Hgr2 : Hid (∀ W, Below wc.heap.size wc W → Calls Tryz.prog 17 #[.agg #[.int .i64 op, .string nm, .int .i64 so, .string n, .slice A la ca, .slice V lv cv, .slice P lp cp]] W fun e w' => e = .returned (.bool false) ∧ Below W.heap.size W w') := Lib.hid (fun W hW => by
        have h := Ground_any hT2 W hW
        rw [ex_ground.1] at h
        exact h)
      have Hgr : Hid (∀ W, Below wc.heap.size wc W → Calls Tryz.prog 17 #[.agg #[.int .i64 op6, .string nm6, .int .i64 so6, .string n6, .slice A6 la6 ca6, .slice V6 lv6 cv6, .slice P6 lp6 cp6]] W fun e w' => e = .returned (.bool true) ∧ Below W.heap.size W w') := Lib.hid (fun W hW => by
        have h := Ground_any hT6 W hW
        rw [ex_ground.2] at h
        exact h)
      have Hap : Hid (∀ W, Below wc.heap.size wc W → Calls Tryz.prog 10 #[.agg #[.int .i64 op6, .string nm6, .int .i64 so6, .string n6, .slice A6 la6 ca6, .slice V6 lv6 cv6, .slice P6 lp6 cp6]] W fun e w' => ∃ A c, e = .returned (.slice A 1 c) ∧ Below W.heap.size W w') := Lib.hid (fun W hW => by
        have hwk : WalkOK wc exT _ := walk_any hT6 (q := fun n => decide (0 ≤ n ∧ n < 100)) (fun n hn => itoa_small (by simpa using hn) wc) (fun _ => ex_key.1) ex_key.1 (by rw [ex_tw.2.1]; omega) ex_key.2
        refine (Apps_any hT6 hwk (by rw [ex_tw.2.1]; omega) W hW).mono ?_
        rintro e w' ⟨A, c, rfl, _, hb⟩
        exact ⟨A, c, by rw [ex_apps], hb⟩)
      have Hsi : Hid (∀ W, Below wc.heap.size wc W → Calls Tryz.prog 18 #[.agg #[.int .i64 op6, .string nm6, .int .i64 so6, .string n6, .slice A6 la6 ca6, .slice V6 lv6 cv6, .slice P6 lp6 cp6]] W fun e w' => e = .returned (.int .i64 4) ∧ Below W.heap.size W w') := Lib.hid (fun W hW => by
        have h := Size_any hT6 (by rw [ex_size.1]; omega) W hW
        rw [ex_size.1] at h
        exact h)
      have Hde : Hid (∀ W, Below wc.heap.size wc W → Calls Tryz.prog 19 #[.agg #[.int .i64 op6, .string nm6, .int .i64 so6, .string n6, .slice A6 la6 ca6, .slice V6 lv6 cv6, .slice P6 lp6 cp6]] W fun e w' => e = .returned (.int .i64 3) ∧ Below W.heap.size W w') := Lib.hid (fun W hW => by
        have h := Depth_any hT6 (by rw [ex_size.1]; omega) W hW
        rw [ex_size.2] at h
        exact h)
      clear hr2 hr6 hT2 hT6 hb6 H6 hk6 HT3 HB3 Hr3 q3 Hk2 hw0 hx0
      go_wp2_with (first
        | (go_at_call 8; (with_reducible refine Calls.mono Hck6.out ?_); rintro e w6 ⟨rfl, hb6⟩; have Hb6 := Lib.hid hb6; clear hb6; obtain ⟨d0, d1, d2, d3, d4, d5, d6⟩ := box_cells (p := ⟨op6, nm6, so6, n6, A6, la6, ca6, V6, lv6, cv6, P6, lp6, cp6⟩) ((Hb6.out.block k6 q6).trans Hr6.out))
        | (go_at_call 16; (with_reducible refine Calls.mono (Htx.out _ Hb6.out) ?_); rintro e w7 ⟨rfl, hb7⟩; have Hb7 := Lib.hid (Hb6.out.trans (hb7.mono Hb6.out.size)); clear hb7; obtain ⟨e0, e1, e2, e3, e4, e5, e6⟩ := box_cells (p := ⟨op, nm, so, n, A, la, ca, V, lv, cv, P, lp, cp⟩) ((Hb7.out.block k2 q2).trans Hr2.out))
        | (go_at_call 16; (with_reducible refine Calls.mono (Htx2.out _ Hb7.out) ?_); rintro e w8 ⟨rfl, hb8⟩; have Hb8 := Lib.hid (Hb7.out.trans (hb8.mono Hb7.out.size)); clear hb8; obtain ⟨f0, f1, f2, f3, f4, f5, f6⟩ := box_cells (p := ⟨op, nm, so, n, A, la, ca, V, lv, cv, P, lp, cp⟩) ((Hb8.out.block k2 q2).trans Hr2.out))
        | (go_at_call 17; (with_reducible refine Calls.mono (Hgr2.out _ Hb8.out) ?_); rintro e w9 ⟨rfl, hb9⟩; have Hb9 := Lib.hid (Hb8.out.trans (hb9.mono Hb8.out.size)); clear hb9; obtain ⟨g0, g1, g2, g3, g4, g5, g6⟩ := box_cells (p := ⟨op6, nm6, so6, n6, A6, la6, ca6, V6, lv6, cv6, P6, lp6, cp6⟩) ((Hb9.out.block k6 q6).trans Hr6.out))
        | (go_at_call 17; (with_reducible refine Calls.mono (Hgr.out _ Hb9.out) ?_); rintro e w10 ⟨rfl, hb10⟩; have Hb10 := Lib.hid (Hb9.out.trans (hb10.mono Hb9.out.size)); clear hb10; obtain ⟨i0, i1, i2, i3, i4, i5, i6⟩ := box_cells (p := ⟨op6, nm6, so6, n6, A6, la6, ca6, V6, lv6, cv6, P6, lp6, cp6⟩) ((Hb10.out.block k6 q6).trans Hr6.out))
        | (go_at_call 10; (with_reducible refine Calls.mono (Hap.out _ Hb10.out) ?_); rintro e w11 ⟨AA, cA, rfl, hb11⟩; have Hb11 := Lib.hid (Hb10.out.trans (hb11.mono Hb10.out.size)); clear hb11; obtain ⟨j0, j1, j2, j3, j4, j5, j6⟩ := box_cells (p := ⟨op6, nm6, so6, n6, A6, la6, ca6, V6, lv6, cv6, P6, lp6, cp6⟩) ((Hb11.out.block k6 q6).trans Hr6.out))
        | (go_at_call 18; (with_reducible refine Calls.mono (Hsi.out _ Hb11.out) ?_); rintro e w12 ⟨rfl, hb12⟩; have Hb12 := Lib.hid (Hb11.out.trans (hb12.mono Hb11.out.size)); clear hb12; obtain ⟨l0, l1, l2, l3, l4, l5, l6⟩ := box_cells (p := ⟨op6, nm6, so6, n6, A6, la6, ca6, V6, lv6, cv6, P6, lp6, cp6⟩) ((Hb12.out.block k6 q6).trans Hr6.out))
        | (go_at_call 19; (with_reducible refine Calls.mono (Hde.out _ Hb12.out) ?_); rintro e w13 ⟨rfl, hb13⟩; have Hb13 := Lib.hid (Hb12.out.trans (hb13.mono Hb12.out.size)); clear hb13))
      go_ret
      exact ⟨rfl, HBx.out.trans (Hb13.out.mono HBx.out.size)⟩
end Go.Proofs.YtlgbepamnkfpjaaGreatDoor
