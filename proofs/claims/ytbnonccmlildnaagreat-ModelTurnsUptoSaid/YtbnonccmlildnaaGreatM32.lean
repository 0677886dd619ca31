/- Values: differences, products. -/
import Derived.Test.YtbnonccmlildnaaGreatM31
set_option linter.unusedSimpArgs false
set_option linter.unusedVariables false
namespace Go.Proofs.YtbnonccmlildnaaGreat
open Go.RowKit

def subVSpec (a : Nat) (K : Nat) (va : Value) (la : Value) (lp : Addr) (q : Parts) (z0 : Int) (z1 : Int) (F : Int) : Nat → World → Value → Prop
  | 0, w, v => v = va ∧ NumAt w va z0
  | 1, _, v => v = .pointer (some ⟨a, 0, none⟩)
  | 2, _, v => v = .pointer (some ⟨K, 4, none⟩)
  | 3, _, v => v = la
  | 4, _, v => v = .pointer (some lp)
  | 5, _, v => v = .agg q.arr
  | 6, w, v => NumAt w v z1
  | 7, w, v => NumAt w v F
  | 8, w, v => NumAt w v F
  | 9, w, v => ∃ u, v = .iface 93 u ∧ NumAt w u F
  | 10, w, v => ∃ u, v = .iface 93 u ∧ NumAt w u F
  | _, _, _ => True
theorem subVSpec_keep (a : Nat) (K : Nat) (va : Value) (la : Value) (lp : Addr) (q : Parts) (z0 : Int) (z1 : Int) (F : Int) (i : Nat) (w w' : World) (v : Value) (h : subVSpec a K va la lp q z0 z1 F i w v) (hb : NumKeep w w') : subVSpec a K va la lp q z0 z1 F i w' v :=
  match i, h with
  | 0, h => ⟨h.1, hb _ _ h.2⟩
  | 1, h => h
  | 2, h => h
  | 3, h => h
  | 4, h => h
  | 5, h => h
  | 6, h => hb _ _ h
  | 7, h => hb _ _ h
  | 8, h => hb _ _ h
  | 9, h => let ⟨u, e, h⟩ := h; ⟨u, e, hb _ _ h⟩
  | 10, h => let ⟨u, e, h⟩ := h; ⟨u, e, hb _ _ h⟩
  | n + 11, _ => trivial
def subVSpecE (a : Nat) (K : Nat) (va : Value) (la : Value) (lp : Addr) (q : Parts) (z0 : Int) (z1 : Int) (F : Int) : Nat → World → Value → Prop
  | 0, w, v => v = va ∧ NumAt w va z0
  | 1, _, v => v = .pointer (some ⟨a, 0, none⟩)
  | 2, _, v => v = .pointer (some ⟨K, 4, none⟩)
  | 3, _, v => v = la
  | 4, _, v => v = .pointer (some lp)
  | 5, _, v => v = .agg q.arr
  | 6, _, _ => False
  | 7, _, _ => False
  | 8, _, _ => False
  | 9, _, _ => False
  | 10, _, _ => False
  | _, _, _ => True
theorem subVSpecE_keep (a : Nat) (K : Nat) (va : Value) (la : Value) (lp : Addr) (q : Parts) (z0 : Int) (z1 : Int) (F : Int) (i : Nat) (w w' : World) (v : Value) (h : subVSpecE a K va la lp q z0 z1 F i w v) (hb : NumKeep w w') : subVSpecE a K va la lp q z0 z1 F i w' v :=
  match i, h with
  | 0, h => ⟨h.1, hb _ _ h.2⟩
  | 1, h => h
  | 2, h => h
  | 3, h => h
  | 4, h => h
  | 5, h => h
  | 6, h => h
  | 7, h => h
  | 8, h => h
  | 9, h => h
  | 10, h => h
  | n + 11, _ => trivial
section
variable {M : Mdl} {τ : Nat → List UInt8} {a : Nat} {ns : List ByteArray} {bs : List Nat} {nv bv : Value} {w : World}
set_option maxRecDepth 100000 in
set_option maxHeartbeats 4000000 in
theorem val_sub {m : Nat} {p q0 q1 : Parts} {t0 t1 : Tm} {n : ByteArray} (hop : p.op = 13) (hs : St M a ns bs nv bv w) (h2 : Two M τ a ns bs m p t0 t1 q0 q1) (hm : m ≤ 1000000000000)
    (hT0 : ∀ x, evalT τ M.sig M.tbs M.objs t0 (envOf ns bs) = .ok x → ∃ z, x = .num z) (hT1 : ∀ x, evalT τ M.sig M.tbs M.objs t1 (envOf ns bs) = .ok x → ∃ z, x = .num z) :
    Calls Tryz.prog 23 #[.pointer (some ⟨a, 0, none⟩), .agg p.arr] w (VP M a ns bs nv bv w (bindL (evals τ M.sig M.tbs M.objs [t0, t1] (envOf ns bs)) fun vs => .ok (combV τ 13 n vs))) := by
  obtain ⟨e1, e2, e3⟩ := evals_pair (τ := τ) (sig := M.sig) (tbs := M.tbs) (objs := M.objs) (env := envOf ns bs) (t0 := t0) (t1 := t1) (F := fun vs => .ok (combV τ 13 n vs))
  generalize bindL (evals τ M.sig M.tbs M.objs [t0, t1] (envOf ns bs)) (fun vs => .ok (combV τ 13 n vs)) = r at *
  obtain ⟨hla, ⟨b, o, hA, hc⟩, v0, v1, i0, i1⟩ := h2
  have Hs := Lib.hid (hs.next (below_boxT w p))
  have Hb0 := Lib.hid (below_boxT w p)
  have HW0 : Hid (boxT w p = w.alloc (.cells #[.int .i64 p.op, .string p.name, .int .i64 p.sort, .string p.n, .slice p.A p.la p.ca, .slice p.V p.lv p.cv, .slice p.P p.lp p.cp] 29)) := Lib.hid rfl
  have Hbox : Hid ((boxT w p).heap[w.heap.size]? = some (.cells p.arr 29 (0, 0)) ∧ w.heap.size < (boxT w p).heap.size) := Lib.hid ⟨heap_alloc_new w _, by rw [boxT_size]; omega⟩
  have Hc := Lib.hid hc
  have Hm := Lib.hid hm
  obtain ⟨c0, c1, c2, c3, c4, c5, c6⟩ := seven (hc _ Hs.out.below).1
  rw [HW0.out] at c0 c1 c2 c3 c4 c5 c6
  obtain ⟨op', nm', so', n', A', la', ca', V', lv', cv', P', lp', cp'⟩ := p
  dsimp only at hA hla hop HW0
  subst hA hla hop
  clear hs hc hm
  unfold Parts.arr
  dsimp only at c0 c1 c2 c3 c4 c5 c6 ⊢
  cases hr0 : evalT τ M.sig M.tbs M.objs t0 (envOf ns bs) with
  | error er =>
    have Hcall := Lib.hid (int_err (v0.fails hr0 Hs.out))
    have Hr := Lib.hid (e1 er hr0)
    clear e1 e2 e3 v0 v1 i0 i1 hr0 hT0 hT1
    go_enter Tryz.func23, Tryz.ntmps23
    go_wp2_with (go_at_call 35; rw [← HW0.out]; refine Calls.mono Hcall.out ?_; rintro e w8 ⟨rfl, hb8⟩; have Hb8 := Lib.hid hb8; clear hb8)
    exact ⟨rfl, .inr ⟨er, Hr.out, rfl, Hb8.out⟩⟩
  | ok x =>
    obtain ⟨z0, rfl⟩ := hT0 x hr0
    have Hcall := Lib.hid (int_ok Hs.out (v0.asks hr0 Hs.out))
    have Hin := Lib.hid (i0 _ hr0)
    have Hv1 := Lib.hid v1
    go_enter Tryz.func23, Tryz.ntmps23
    go_wp2_with (go_at_call 35; rw [← HW0.out]; refine Calls.mono Hcall.out ?_; rintro e w8 ⟨u8, nv8, bv8, rfl, hn8, hs8, hf8⟩; have HS8 := Lib.hid hs8; have HR8 := Lib.hid ((hf8.block _ Hbox.out.2 (Hs.out.other Hbox.out.1 (by decide) (by decide) (by decide))).trans Hbox.out.1); have HF8 := Lib.hid hf8; obtain ⟨A8, n8, c8, b8, rfl⟩ := parsed_shape hn8; have HN8 := Lib.hid hn8; clear hs8 hf8 hn8)
    have hal : Below w8.heap.size w8 (w8.alloc (.cells #[.slice A8 n8 c8, .bool b8] 89)) := (Below.refl _ _).alloc (Nat.le_refl _) _
    have hwl : w.heap.size < w8.heap.size := (Array.getElem?_eq_some_iff.1 HR8.out).1
    have H6b : Hid ((w8.alloc (.cells #[.slice A8 n8 c8, .bool b8] 89)).heap[w8.heap.size]? = some (.cells #[.slice A8 n8 c8, .bool b8] 89 (0, 0)) ∧ True) := Lib.hid ⟨heap_alloc_new _ _, trivial⟩
    have Hbx2 : Hid ((w8.alloc (.cells #[.slice A8 n8 c8, .bool b8] 89)).heap[w.heap.size]? = some (.cells (Parts.arr ⟨13, nm', so', n', some ⟨b, o, none⟩, 2, ca', V', lv', cv', P', lp', cp'⟩) 29 (0, 0))) := Lib.hid ((hal.block _ hwl).trans HR8.out)
    have HSa := Lib.hid (HS8.out.next hal)
    have HL6 : Hid (¬ stK a nv8 bv8 w8.heap.size ∧ w8.heap.size < (w8.alloc (.cells #[.slice A8 n8 c8, .bool b8] 89)).drew.heap.size) := Lib.hid ⟨fun hk => by have := (HS8.out.lt hk).2; omega, by show w8.heap.size < (w8.alloc (.cells #[.slice A8 n8 c8, .bool b8] 89)).heap.size; simp⟩
    have HLb : Hid (¬ stK a nv8 bv8 w.heap.size ∧ w.heap.size < (w8.alloc (.cells #[.slice A8 n8 c8, .bool b8] 89)).drew.heap.size) := Lib.hid ⟨HS8.out.other HR8.out (by decide) (by decide) (by decide), by show w.heap.size < (w8.alloc (.cells #[.slice A8 n8 c8, .bool b8] 89)).heap.size; simp; omega⟩
    have HNa := Lib.hid (HN8.out.mono (Nat.le_refl _) hal)
    have HFa := Lib.hid ((HF8.out.ahead Hb0.out).then hal)
    clear hal
    generalize w8.alloc (.cells #[.slice A8 n8 c8, .bool b8] 89) = W2 at *
    have HSd := Lib.hid (HSa.out.next ((Below.refl _ _).drew))
    have Hnum : Hid (∀ w', Stp M a ns bs nv8 bv8 W2.drew w' → NumAt w' (.agg #[.slice A8 n8 c8, .bool b8]) z0) := Lib.hid (fun w' ⟨nv', bv', h1, h2⟩ => NumAt.fr (HNa.out.mono (Nat.le_refl _) ((Below.refl _ _).drew)) HSd.out h2)
    have HStp : Hid (Stp M a ns bs nv8 bv8 W2.drew W2.drew) := Lib.hid (Stp.refl HSd.out)
    have HFd := Lib.hid (HFa.out.then ((Below.refl _ _).drew))
    cases hr1 : evalT τ M.sig M.tbs M.objs t1 (envOf ns bs) with
    | error er =>
      have Hr := Lib.hid (e2 _ er hr0 hr1)
      have Hcall1 : Hid (∀ w', Stp M a ns bs nv8 bv8 W2.drew w' → Calls Tryz.prog 35 #[.pointer (some ⟨a, 0, none⟩), .agg q1.arr] w' (VErr M)) := Lib.hid (fun w' ⟨nv', bv', h1, _⟩ => int_err (Hv1.out.fails hr1 h1))
      clear e1 e2 e3 v0 v1 i0 i1 hr0 hr1 hT0 hT1 c0 c1 c2 c3 c4 c5 c6
      refine wp_region_makesD [0, 1, 2, 3, 4, 5, 6, 7, 8, 9, 10] [] (Stp M a ns bs nv8 bv8 W2.drew) NumKeep (by kernel_rfl) (by kernel_rfl) (subVSpecE_keep a w.heap.size (.agg #[.slice A8 n8 c8, .bool b8]) (.slice (some ⟨b, o, none⟩) 2 ca') ⟨b, o + 7, none⟩ q1 z0 0 0) HStp.out ?_ ?_
      · intro i o' ho hi3 a' w' hJ hdf hfr hd K hK
        obtain ⟨_, _, y0, y1⟩ := row_facts ((hJ.block HL6.out.2 HL6.out.1).trans H6b.out.1)
        obtain ⟨x0, x1, x2, x3, x4, x5, x6⟩ := box_cells ((hJ.block HLb.out.2 HLb.out.1).trans Hbx2.out)
        dsimp only at x0 x1 x2 x3 x4 x5 x6
        obtain ⟨d0, d1, d2, d3, d4, d5, d6⟩ := seven (Hc.out w' hJ.below).2
        have hv0 : a'.tmps.getD 0 undef = .pointer (some ⟨a, 0, none⟩) := hfr 0 (by kernel_rfl)
        have hv3 : a'.tmps.getD 3 undef = .pointer (some ⟨w.heap.size, 0, none⟩) := hfr 3 (by kernel_rfl)
        have hvN : a'.tmps.getD 7 undef = .pointer (some ⟨w8.heap.size, 0, none⟩) := hfr 7 (by kernel_rfl)
        rw [Array.getD_eq_getD_getElem?] at hv0 hv3 hvN
        have Hacc := Lib.hid (Hnum.out w' hJ)
        have HK := Lib.hid hK
        have HJ := Lib.hid hJ
        have Hdf := Lib.hid hdf
        clear hJ hK hfr hdf
        match i, ho with
        | 0, ho =>
          cases ho
          clear hd
          go_simp
          exact HK.out _ _ ⟨rfl, Hacc.out⟩ (NumKeep.refl _) HJ.out
        | 1, ho =>
          cases ho
          clear hd
          go_simp
          exact HK.out _ _ rfl (NumKeep.refl _) HJ.out
        | 2, ho =>
          cases ho
          clear hd
          go_simp
          exact HK.out _ _ rfl (NumKeep.refl _) HJ.out
        | 3, ho =>
          cases ho
          have e1 := hd ⟨2, .data⟩ (by simp) rfl _ _ rfl rfl
          simp only [subVSpecE, Array.getD_eq_getD_getElem?] at e1
          clear hd
          go_simp
          exact HK.out _ _ rfl (NumKeep.refl _) HJ.out
        | 4, ho =>
          cases ho
          have e1 := hd ⟨3, .data⟩ (by simp) rfl _ _ rfl rfl
          simp only [subVSpecE, Array.getD_eq_getD_getElem?] at e1
          clear hd
          go_simp
          exact HK.out _ _ rfl (NumKeep.refl _) HJ.out
        | 5, ho =>
          cases ho
          have e1 := hd ⟨4, .data⟩ (by simp) rfl _ _ rfl rfl
          simp only [subVSpecE, Array.getD_eq_getD_getElem?] at e1
          clear hd
          go_simp
          exact HK.out _ _ rfl (NumKeep.refl _) HJ.out
        | 6, ho =>
          cases ho
          have e1 := hd ⟨1, .data⟩ (by simp) rfl _ _ rfl rfl
          have e2 := hd ⟨5, .data⟩ (by simp) rfl _ _ rfl rfl
          simp only [subVSpecE, Array.getD_eq_getD_getElem?] at e1 e2
          clear hd
          go_simp
          refine (Hcall1.out w' HJ.out).mono ?_
          rintro e w9 ⟨rfl, hb9⟩
          exact ⟨Hdf.out, .inr ⟨er, Hr.out, rfl, hb9⟩⟩
        | 7, ho => cases ho; exact (hd ⟨6, .data⟩ (by simp) rfl _ _ rfl rfl : False).elim
        | 8, ho => cases ho; exact (hd ⟨7, .data⟩ (by simp) rfl _ _ rfl rfl : False).elim
        | 9, ho => cases ho; exact (hd ⟨8, .data⟩ (by simp) rfl _ _ rfl rfl : False).elim
        | 10, ho => cases ho; exact (hd ⟨9, .data⟩ (by simp) rfl _ _ rfl rfl : False).elim
        | n + 11, ho => simp at ho
      · intro fuel listed a' w8 hc hm hall
        exact (hm.held 6 _ _ (hall 6 (by simp)) rfl rfl : False).elim
    | ok y =>
      obtain ⟨z1, rfl⟩ := hT1 y hr1
      have Hr := Lib.hid (e3 _ _ hr0 hr1)
      have Hin1 := Lib.hid (i1 _ hr1)
      have Hcall1 : Hid (∀ w', Stp M a ns bs nv8 bv8 W2.drew w' → Calls Tryz.prog 35 #[.pointer (some ⟨a, 0, none⟩), .agg q1.arr] w' fun e w'' => ∃ u, e = .returned u ∧ NumAt w'' u z1 ∧ NumKeep w' w'' ∧ Stp M a ns bs nv8 bv8 W2.drew w'') := Lib.hid (fun w' ⟨nv', bv', h1, h2⟩ => (int_ok h1 (Hv1.out.asks hr1 h1)).mono fun e w'' ⟨u, nv9, bv9, e1, e2, e3, e4⟩ => ⟨u, e1, e2, fun v z hv => hv.fr h1 e4, nv9, bv9, e3, h2.trans e4⟩)
      clear e1 e2 e3 v0 v1 i0 i1 hr0 hr1 hT0 hT1 c0 c1 c2 c3 c4 c5 c6
      have Hbin : Hid (∀ w' u, NumAt w' (.agg #[.slice A8 n8 c8, .bool b8]) z0 → NumAt w' u z1 → Calls Tryz.prog 36 #[.agg #[.slice A8 n8 c8, .bool b8], u] w' fun e w'' => ∃ v, e = .returned v ∧ NumAt w'' v (z0 - z1) ∧ Below w'.heap.size w' w'') := Lib.hid (fun w' u h h' => sub_ex h h' Hin.out.1 Hin1.out.1 (by have := Hm.out; omega))
      refine wp_region_makesD [0, 1, 2, 3, 4, 5, 6, 7, 8, 9, 10] [] (Stp M a ns bs nv8 bv8 W2.drew) NumKeep (by kernel_rfl) (by kernel_rfl) (subVSpec_keep a w.heap.size (.agg #[.slice A8 n8 c8, .bool b8]) (.slice (some ⟨b, o, none⟩) 2 ca') ⟨b, o + 7, none⟩ q1 z0 z1 (z0 - z1)) HStp.out ?_ ?_
      · intro i o' ho hi3 a' w' hJ hdf hfr hd K hK
        obtain ⟨_, _, y0, y1⟩ := row_facts ((hJ.block HL6.out.2 HL6.out.1).trans H6b.out.1)
        obtain ⟨x0, x1, x2, x3, x4, x5, x6⟩ := box_cells ((hJ.block HLb.out.2 HLb.out.1).trans Hbx2.out)
        dsimp only at x0 x1 x2 x3 x4 x5 x6
        obtain ⟨d0, d1, d2, d3, d4, d5, d6⟩ := seven (Hc.out w' hJ.below).2
        have hv0 : a'.tmps.getD 0 undef = .pointer (some ⟨a, 0, none⟩) := hfr 0 (by kernel_rfl)
        have hv3 : a'.tmps.getD 3 undef = .pointer (some ⟨w.heap.size, 0, none⟩) := hfr 3 (by kernel_rfl)
        have hvN : a'.tmps.getD 7 undef = .pointer (some ⟨w8.heap.size, 0, none⟩) := hfr 7 (by kernel_rfl)
        rw [Array.getD_eq_getD_getElem?] at hv0 hv3 hvN
        have Hacc := Lib.hid (Hnum.out w' hJ)
        have HK := Lib.hid hK
        have HJ := Lib.hid hJ
        have Hdf := Lib.hid hdf
        clear hJ hK hfr hdf
        match i, ho with
        | 0, ho =>
          cases ho
          clear hd
          go_simp
          exact HK.out _ _ ⟨rfl, Hacc.out⟩ (NumKeep.refl _) HJ.out
        | 1, ho =>
          cases ho
          clear hd
          go_simp
          exact HK.out _ _ rfl (NumKeep.refl _) HJ.out
        | 2, ho =>
          cases ho
          clear hd
          go_simp
          exact HK.out _ _ rfl (NumKeep.refl _) HJ.out
        | 3, ho =>
          cases ho
          have e1 := hd ⟨2, .data⟩ (by simp) rfl _ _ rfl rfl
          simp only [subVSpec, Array.getD_eq_getD_getElem?] at e1
          clear hd
          go_simp
          exact HK.out _ _ rfl (NumKeep.refl _) HJ.out
        | 4, ho =>
          cases ho
          have e1 := hd ⟨3, .data⟩ (by simp) rfl _ _ rfl rfl
          simp only [subVSpec, Array.getD_eq_getD_getElem?] at e1
          clear hd
          go_simp
          exact HK.out _ _ rfl (NumKeep.refl _) HJ.out
        | 5, ho =>
          cases ho
          have e1 := hd ⟨4, .data⟩ (by simp) rfl _ _ rfl rfl
          simp only [subVSpec, Array.getD_eq_getD_getElem?] at e1
          clear hd
          go_simp
          exact HK.out _ _ rfl (NumKeep.refl _) HJ.out
        | 6, ho =>
          cases ho
          have e1 := hd ⟨1, .data⟩ (by simp) rfl _ _ rfl rfl
          have e2 := hd ⟨5, .data⟩ (by simp) rfl _ _ rfl rfl
          simp only [subVSpec, Array.getD_eq_getD_getElem?] at e1 e2
          clear hd
          go_simp
          refine (Hcall1.out w' HJ.out).mono ?_
          rintro e w9 ⟨u9, rfl, hn9, hk9, hj9⟩
          exact HK.out _ _ hn9 hk9 hj9
        | 7, ho =>
          cases ho
          have e1 := hd ⟨0, .data⟩ (by simp) rfl _ _ rfl rfl
          have e2 := hd ⟨6, .data⟩ (by simp) rfl _ _ rfl rfl
          simp only [subVSpec, Array.getD_eq_getD_getElem?] at e1 e2
          have Hop := Lib.hid (Hbin.out w' _ e1.2 e2)
          have e10 := e1.1
          clear e1 e2 hd
          go_simp
          refine Hop.out.mono ?_
          rintro e w9 ⟨v9, rfl, hn9, hb9⟩
          exact HK.out _ _ hn9 (NumKeep.below hb9) (HJ.out.next hb9)
        | 8, ho =>
          cases ho
          have e1 := hd ⟨7, .data⟩ (by simp) rfl _ _ rfl rfl
          simp only [subVSpec, Array.getD_eq_getD_getElem?] at e1
          obtain ⟨A9, n9, c9, b9, e9⟩ := parsed_shape e1
          rw [e9] at e1
          have Hn := Lib.hid e1
          clear e1 hd
          go_simp
          exact HK.out _ _ Hn.out (NumKeep.refl _) HJ.out
        | 9, ho =>
          cases ho
          have e1 := hd ⟨8, .data⟩ (by simp) rfl _ _ rfl rfl
          simp only [subVSpec, Array.getD_eq_getD_getElem?] at e1
          obtain ⟨A9, n9, c9, b9, e9⟩ := parsed_shape e1
          rw [e9] at e1
          have Hn := Lib.hid e1
          clear e1 hd
          go_simp
          exact HK.out _ _ ⟨_, rfl, Hn.out⟩ (NumKeep.refl _) HJ.out
        | 10, ho =>
          cases ho
          have e1 := hd ⟨9, .data⟩ (by simp) rfl _ _ rfl rfl
          simp only [subVSpec, Array.getD_eq_getD_getElem?] at e1
          obtain ⟨u9, e9, hn⟩ := e1
          have Hn := Lib.hid hn
          clear hn hd
          go_simp
          exact HK.out _ _ ⟨_, rfl, Hn.out⟩ (NumKeep.refl _) HJ.out
        | n + 11, ho => simp at ho
      · intro fuel listed a' w8 hc hm hall
        obtain ⟨gg, ha, hh⟩ := hm.act (ds := [41, 42, 43, 44, 45, 46, 47, 48, 49, 50, 4]) (by kernel_rfl)
        have hl : listed = #[true, true, true, true, true, true, true, true, true, true, true] := by
          have hs : listed.size = 11 := hm.size
          rw [listed_all listed, hs]
          simp only [List.range, List.range.loop, List.map, hall 0 (by simp), hall 1 (by simp), hall 2 (by simp), hall 3 (by simp), hall 4 (by simp), hall 5 (by simp), hall 6 (by simp), hall 7 (by simp), hall 8 (by simp), hall 9 (by simp), hall 10 (by simp)]
        have HJ8 := Lib.hid hm.inv
        obtain ⟨u9, hg, hn9⟩ := hh 10 _ _ (hall 10 (by simp)) rfl rfl
        have HN9 := Lib.hid hn9
        subst hl
        clear hm hall hh
        subst ha
        simp only [setAll]
        clear hc
        rw [hg]
        clear hg hn9
        obtain ⟨nv9, bv9, hs9, hf9⟩ := HJ8.out
        have HS9 := Lib.hid hs9
        have HF9 := Lib.hid hf9
        clear hs9 hf9 HJ8
        generalize gg 41 = g41, gg 42 = g42, gg 43 = g43, gg 44 = g44, gg 45 = g45, gg 46 = g46, gg 47 = g47, gg 48 = g48, gg 49 = g49, gg 50 = g50
        simp only [List.setIfInBounds_toArray, List.set_cons_zero, List.set_cons_succ]
        refine wpAny_done (by kernel_rfl) ?_ _
        go_wp2_with fail
        go_ret
        exact .inl ⟨.num (z0 - z1), by rw [Hr.out]; rfl, _, nv9, bv9, rfl, ⟨_, rfl, HN9.out⟩, HS9.out, HFd.out.trans HF9.out⟩
end
def mulVSpec (a : Nat) (K : Nat) (va : Value) (la : Value) (lp : Addr) (q : Parts) (z0 : Int) (z1 : Int) (F : Int) : Nat → World → Value → Prop
  | 0, w, v => v = va ∧ NumAt w va z0
  | 1, _, v => v = .pointer (some ⟨a, 0, none⟩)
  | 2, _, v => v = .pointer (some ⟨K, 4, none⟩)
  | 3, _, v => v = la
  | 4, _, v => v = .pointer (some lp)
  | 5, _, v => v = .agg q.arr
  | 6, w, v => NumAt w v z1
  | 7, w, v => NumAt w v F
  | 8, w, v => NumAt w v F
  | 9, w, v => ∃ u, v = .iface 93 u ∧ NumAt w u F
  | 10, w, v => ∃ u, v = .iface 93 u ∧ NumAt w u F
  | _, _, _ => True
theorem mulVSpec_keep (a : Nat) (K : Nat) (va : Value) (la : Value) (lp : Addr) (q : Parts) (z0 : Int) (z1 : Int) (F : Int) (i : Nat) (w w' : World) (v : Value) (h : mulVSpec a K va la lp q z0 z1 F i w v) (hb : NumKeep w w') : mulVSpec a K va la lp q z0 z1 F i w' v :=
  match i, h with
  | 0, h => ⟨h.1, hb _ _ h.2⟩
  | 1, h => h
  | 2, h => h
  | 3, h => h
  | 4, h => h
  | 5, h => h
  | 6, h => hb _ _ h
  | 7, h => hb _ _ h
  | 8, h => hb _ _ h
  | 9, h => let ⟨u, e, h⟩ := h; ⟨u, e, hb _ _ h⟩
  | 10, h => let ⟨u, e, h⟩ := h; ⟨u, e, hb _ _ h⟩
  | n + 11, _ => trivial
def mulVSpecE (a : Nat) (K : Nat) (va : Value) (la : Value) (lp : Addr) (q : Parts) (z0 : Int) (z1 : Int) (F : Int) : Nat → World → Value → Prop
  | 0, w, v => v = va ∧ NumAt w va z0
  | 1, _, v => v = .pointer (some ⟨a, 0, none⟩)
  | 2, _, v => v = .pointer (some ⟨K, 4, none⟩)
  | 3, _, v => v = la
  | 4, _, v => v = .pointer (some lp)
  | 5, _, v => v = .agg q.arr
  | 6, _, _ => False
  | 7, _, _ => False
  | 8, _, _ => False
  | 9, _, _ => False
  | 10, _, _ => False
  | _, _, _ => True
theorem mulVSpecE_keep (a : Nat) (K : Nat) (va : Value) (la : Value) (lp : Addr) (q : Parts) (z0 : Int) (z1 : Int) (F : Int) (i : Nat) (w w' : World) (v : Value) (h : mulVSpecE a K va la lp q z0 z1 F i w v) (hb : NumKeep w w') : mulVSpecE a K va la lp q z0 z1 F i w' v :=
  match i, h with
  | 0, h => ⟨h.1, hb _ _ h.2⟩
  | 1, h => h
  | 2, h => h
  | 3, h => h
  | 4, h => h
  | 5, h => h
  | 6, h => h
  | 7, h => h
  | 8, h => h
  | 9, h => h
  | 10, h => h
  | n + 11, _ => trivial
section
variable {M : Mdl} {τ : Nat → List UInt8} {a : Nat} {ns : List ByteArray} {bs : List Nat} {nv bv : Value} {w : World}
set_option maxRecDepth 100000 in
set_option maxHeartbeats 4000000 in
theorem val_mul {m : Nat} {p q0 q1 : Parts} {t0 t1 : Tm} {n : ByteArray} (hop : p.op = 15) (hs : St M a ns bs nv bv w) (h2 : Two M τ a ns bs m p t0 t1 q0 q1) (hm : m ≤ 1000000000000)
    (hT0 : ∀ x, evalT τ M.sig M.tbs M.objs t0 (envOf ns bs) = .ok x → ∃ z, x = .num z) (hT1 : ∀ x, evalT τ M.sig M.tbs M.objs t1 (envOf ns bs) = .ok x → ∃ z, x = .num z) :
    Calls Tryz.prog 23 #[.pointer (some ⟨a, 0, none⟩), .agg p.arr] w (VP M a ns bs nv bv w (bindL (evals τ M.sig M.tbs M.objs [t0, t1] (envOf ns bs)) fun vs => .ok (combV τ 15 n vs))) := by
  obtain ⟨e1, e2, e3⟩ := evals_pair (τ := τ) (sig := M.sig) (tbs := M.tbs) (objs := M.objs) (env := envOf ns bs) (t0 := t0) (t1 := t1) (F := fun vs => .ok (combV τ 15 n vs))
  generalize bindL (evals τ M.sig M.tbs M.objs [t0, t1] (envOf ns bs)) (fun vs => .ok (combV τ 15 n vs)) = r at *
  obtain ⟨hla, ⟨b, o, hA, hc⟩, v0, v1, i0, i1⟩ := h2
  have Hs := Lib.hid (hs.next (below_boxT w p))
  have Hb0 := Lib.hid (below_boxT w p)
  have HW0 : Hid (boxT w p = w.alloc (.cells #[.int .i64 p.op, .string p.name, .int .i64 p.sort, .string p.n, .slice p.A p.la p.ca, .slice p.V p.lv p.cv, .slice p.P p.lp p.cp] 29)) := Lib.hid rfl
  have Hbox : Hid ((boxT w p).heap[w.heap.size]? = some (.cells p.arr 29 (0, 0)) ∧ w.heap.size < (boxT w p).heap.size) := Lib.hid ⟨heap_alloc_new w _, by rw [boxT_size]; omega⟩
  have Hc := Lib.hid hc
  have Hm := Lib.hid hm
  obtain ⟨c0, c1, c2, c3, c4, c5, c6⟩ := seven (hc _ Hs.out.below).1
  rw [HW0.out] at c0 c1 c2 c3 c4 c5 c6
  obtain ⟨op', nm', so', n', A', la', ca', V', lv', cv', P', lp', cp'⟩ := p
  dsimp only at hA hla hop HW0
  subst hA hla hop
  clear hs hc hm
  unfold Parts.arr
  dsimp only at c0 c1 c2 c3 c4 c5 c6 ⊢
  cases hr0 : evalT τ M.sig M.tbs M.objs t0 (envOf ns bs) with
  | error er =>
    have Hcall := Lib.hid (int_err (v0.fails hr0 Hs.out))
    have Hr := Lib.hid (e1 er hr0)
    clear e1 e2 e3 v0 v1 i0 i1 hr0 hT0 hT1
    go_enter Tryz.func23, Tryz.ntmps23
    go_wp2_with (go_at_call 35; rw [← HW0.out]; refine Calls.mono Hcall.out ?_; rintro e w8 ⟨rfl, hb8⟩; have Hb8 := Lib.hid hb8; clear hb8)
    exact ⟨rfl, .inr ⟨er, Hr.out, rfl, Hb8.out⟩⟩
  | ok x =>
    obtain ⟨z0, rfl⟩ := hT0 x hr0
    have Hcall := Lib.hid (int_ok Hs.out (v0.asks hr0 Hs.out))
    have Hin := Lib.hid (i0 _ hr0)
    have Hv1 := Lib.hid v1
    go_enter Tryz.func23, Tryz.ntmps23
    go_wp2_with (go_at_call 35; rw [← HW0.out]; refine Calls.mono Hcall.out ?_; rintro e w8 ⟨u8, nv8, bv8, rfl, hn8, hs8, hf8⟩; have HS8 := Lib.hid hs8; have HR8 := Lib.hid ((hf8.block _ Hbox.out.2 (Hs.out.other Hbox.out.1 (by decide) (by decide) (by decide))).trans Hbox.out.1); have HF8 := Lib.hid hf8; obtain ⟨A8, n8, c8, b8, rfl⟩ := parsed_shape hn8; have HN8 := Lib.hid hn8; clear hs8 hf8 hn8)
    have hal : Below w8.heap.size w8 (w8.alloc (.cells #[.slice A8 n8 c8, .bool b8] 89)) := (Below.refl _ _).alloc (Nat.le_refl _) _
    have hwl : w.heap.size < w8.heap.size := (Array.getElem?_eq_some_iff.1 HR8.out).1
    have H6b : Hid ((w8.alloc (.cells #[.slice A8 n8 c8, .bool b8] 89)).heap[w8.heap.size]? = some (.cells #[.slice A8 n8 c8, .bool b8] 89 (0, 0)) ∧ True) := Lib.hid ⟨heap_alloc_new _ _, trivial⟩
    have Hbx2 : Hid ((w8.alloc (.cells #[.slice A8 n8 c8, .bool b8] 89)).heap[w.heap.size]? = some (.cells (Parts.arr ⟨15, nm', so', n', some ⟨b, o, none⟩, 2, ca', V', lv', cv', P', lp', cp'⟩) 29 (0, 0))) := Lib.hid ((hal.block _ hwl).trans HR8.out)
    have HSa := Lib.hid (HS8.out.next hal)
    have HL6 : Hid (¬ stK a nv8 bv8 w8.heap.size ∧ w8.heap.size < (w8.alloc (.cells #[.slice A8 n8 c8, .bool b8] 89)).drew.heap.size) := Lib.hid ⟨fun hk => by have := (HS8.out.lt hk).2; omega, by show w8.heap.size < (w8.alloc (.cells #[.slice A8 n8 c8, .bool b8] 89)).heap.size; simp⟩
    have HLb : Hid (¬ stK a nv8 bv8 w.heap.size ∧ w.heap.size < (w8.alloc (.cells #[.slice A8 n8 c8, .bool b8] 89)).drew.heap.size) := Lib.hid ⟨HS8.out.other HR8.out (by decide) (by decide) (by decide), by show w.heap.size < (w8.alloc (.cells #[.slice A8 n8 c8, .bool b8] 89)).heap.size; simp; omega⟩
    have HNa := Lib.hid (HN8.out.mono (Nat.le_refl _) hal)
    have HFa := Lib.hid ((HF8.out.ahead Hb0.out).then hal)
    clear hal
    generalize w8.alloc (.cells #[.slice A8 n8 c8, .bool b8] 89) = W2 at *
    have HSd := Lib.hid (HSa.out.next ((Below.refl _ _).drew))
    have Hnum : Hid (∀ w', Stp M a ns bs nv8 bv8 W2.drew w' → NumAt w' (.agg #[.slice A8 n8 c8, .bool b8]) z0) := Lib.hid (fun w' ⟨nv', bv', h1, h2⟩ => NumAt.fr (HNa.out.mono (Nat.le_refl _) ((Below.refl _ _).drew)) HSd.out h2)
    have HStp : Hid (Stp M a ns bs nv8 bv8 W2.drew W2.drew) := Lib.hid (Stp.refl HSd.out)
    have HFd := Lib.hid (HFa.out.then ((Below.refl _ _).drew))
    cases hr1 : evalT τ M.sig M.tbs M.objs t1 (envOf ns bs) with
    | error er =>
      have Hr := Lib.hid (e2 _ er hr0 hr1)
      have Hcall1 : Hid (∀ w', Stp M a ns bs nv8 bv8 W2.drew w' → Calls Tryz.prog 35 #[.pointer (some ⟨a, 0, none⟩), .agg q1.arr] w' (VErr M)) := Lib.hid (fun w' ⟨nv', bv', h1, _⟩ => int_err (Hv1.out.fails hr1 h1))
      clear e1 e2 e3 v0 v1 i0 i1 hr0 hr1 hT0 hT1 c0 c1 c2 c3 c4 c5 c6
      refine wp_region_makesD [0, 1, 2, 3, 4, 5, 6, 7, 8, 9, 10] [] (Stp M a ns bs nv8 bv8 W2.drew) NumKeep (by kernel_rfl) (by kernel_rfl) (mulVSpecE_keep a w.heap.size (.agg #[.slice A8 n8 c8, .bool b8]) (.slice (some ⟨b, o, none⟩) 2 ca') ⟨b, o + 7, none⟩ q1 z0 0 0) HStp.out ?_ ?_
      · intro i o' ho hi3 a' w' hJ hdf hfr hd K hK
        obtain ⟨_, _, y0, y1⟩ := row_facts ((hJ.block HL6.out.2 HL6.out.1).trans H6b.out.1)
        obtain ⟨x0, x1, x2, x3, x4, x5, x6⟩ := box_cells ((hJ.block HLb.out.2 HLb.out.1).trans Hbx2.out)
        dsimp only at x0 x1 x2 x3 x4 x5 x6
        obtain ⟨d0, d1, d2, d3, d4, d5, d6⟩ := seven (Hc.out w' hJ.below).2
        have hv0 : a'.tmps.getD 0 undef = .pointer (some ⟨a, 0, none⟩) := hfr 0 (by kernel_rfl)
        have hv3 : a'.tmps.getD 3 undef = .pointer (some ⟨w.heap.size, 0, none⟩) := hfr 3 (by kernel_rfl)
        have hvN : a'.tmps.getD 8 undef = .pointer (some ⟨w8.heap.size, 0, none⟩) := hfr 8 (by kernel_rfl)
        rw [Array.getD_eq_getD_getElem?] at hv0 hv3 hvN
        have Hacc := Lib.hid (Hnum.out w' hJ)
        have HK := Lib.hid hK
        have HJ := Lib.hid hJ
        have Hdf := Lib.hid hdf
        clear hJ hK hfr hdf
        match i, ho with
        | 0, ho =>
          cases ho
          clear hd
          go_simp
          exact HK.out _ _ ⟨rfl, Hacc.out⟩ (NumKeep.refl _) HJ.out
        | 1, ho =>
          cases ho
          clear hd
          go_simp
          exact HK.out _ _ rfl (NumKeep.refl _) HJ.out
        | 2, ho =>
          cases ho
          clear hd
          go_simp
          exact HK.out _ _ rfl (NumKeep.refl _) HJ.out
        | 3, ho =>
          cases ho
          have e1 := hd ⟨2, .data⟩ (by simp) rfl _ _ rfl rfl
          simp only [mulVSpecE, Array.getD_eq_getD_getElem?] at e1
          clear hd
          go_simp
          exact HK.out _ _ rfl (NumKeep.refl _) HJ.out
        | 4, ho =>
          cases ho
          have e1 := hd ⟨3, .data⟩ (by simp) rfl _ _ rfl rfl
          simp only [mulVSpecE, Array.getD_eq_getD_getElem?] at e1
          clear hd
          go_simp
          exact HK.out _ _ rfl (NumKeep.refl _) HJ.out
        | 5, ho =>
          cases ho
          have e1 := hd ⟨4, .data⟩ (by simp) rfl _ _ rfl rfl
          simp only [mulVSpecE, Array.getD_eq_getD_getElem?] at e1
          clear hd
          go_simp
          exact HK.out _ _ rfl (NumKeep.refl _) HJ.out
        | 6, ho =>
          cases ho
          have e1 := hd ⟨1, .data⟩ (by simp) rfl _ _ rfl rfl
          have e2 := hd ⟨5, .data⟩ (by simp) rfl _ _ rfl rfl
          simp only [mulVSpecE, Array.getD_eq_getD_getElem?] at e1 e2
          clear hd
          go_simp
          refine (Hcall1.out w' HJ.out).mono ?_
          rintro e w9 ⟨rfl, hb9⟩
          exact ⟨Hdf.out, .inr ⟨er, Hr.out, rfl, hb9⟩⟩
        | 7, ho => cases ho; exact (hd ⟨6, .data⟩ (by simp) rfl _ _ rfl rfl : False).elim
        | 8, ho => cases ho; exact (hd ⟨7, .data⟩ (by simp) rfl _ _ rfl rfl : False).elim
        | 9, ho => cases ho; exact (hd ⟨8, .data⟩ (by simp) rfl _ _ rfl rfl : False).elim
        | 10, ho => cases ho; exact (hd ⟨9, .data⟩ (by simp) rfl _ _ rfl rfl : False).elim
        | n + 11, ho => simp at ho
      · intro fuel listed a' w8 hc hm hall
        exact (hm.held 6 _ _ (hall 6 (by simp)) rfl rfl : False).elim
    | ok y =>
      obtain ⟨z1, rfl⟩ := hT1 y hr1
      have Hr := Lib.hid (e3 _ _ hr0 hr1)
      have Hin1 := Lib.hid (i1 _ hr1)
      have Hcall1 : Hid (∀ w', Stp M a ns bs nv8 bv8 W2.drew w' → Calls Tryz.prog 35 #[.pointer (some ⟨a, 0, none⟩), .agg q1.arr] w' fun e w'' => ∃ u, e = .returned u ∧ NumAt w'' u z1 ∧ NumKeep w' w'' ∧ Stp M a ns bs nv8 bv8 W2.drew w'') := Lib.hid (fun w' ⟨nv', bv', h1, h2⟩ => (int_ok h1 (Hv1.out.asks hr1 h1)).mono fun e w'' ⟨u, nv9, bv9, e1, e2, e3, e4⟩ => ⟨u, e1, e2, fun v z hv => hv.fr h1 e4, nv9, bv9, e3, h2.trans e4⟩)
      clear e1 e2 e3 v0 v1 i0 i1 hr0 hr1 hT0 hT1 c0 c1 c2 c3 c4 c5 c6
      have Hbin : Hid (∀ w' u, NumAt w' (.agg #[.slice A8 n8 c8, .bool b8]) z0 → NumAt w' u z1 → Calls Tryz.prog 38 #[.agg #[.slice A8 n8 c8, .bool b8], u] w' fun e w'' => ∃ v, e = .returned v ∧ NumAt w'' v (z0 * z1) ∧ Below w'.heap.size w' w'') := Lib.hid (fun w' u h h' => mul_ex h h' Hin.out.1 Hin1.out.1 (by have := Hm.out; omega))
      refine wp_region_makesD [0, 1, 2, 3, 4, 5, 6, 7, 8, 9, 10] [] (Stp M a ns bs nv8 bv8 W2.drew) NumKeep (by kernel_rfl) (by kernel_rfl) (mulVSpec_keep a w.heap.size (.agg #[.slice A8 n8 c8, .bool b8]) (.slice (some ⟨b, o, none⟩) 2 ca') ⟨b, o + 7, none⟩ q1 z0 z1 (z0 * z1)) HStp.out ?_ ?_
      · intro i o' ho hi3 a' w' hJ hdf hfr hd K hK
        obtain ⟨_, _, y0, y1⟩ := row_facts ((hJ.block HL6.out.2 HL6.out.1).trans H6b.out.1)
        obtain ⟨x0, x1, x2, x3, x4, x5, x6⟩ := box_cells ((hJ.block HLb.out.2 HLb.out.1).trans Hbx2.out)
        dsimp only at x0 x1 x2 x3 x4 x5 x6
        obtain ⟨d0, d1, d2, d3, d4, d5, d6⟩ := seven (Hc.out w' hJ.below).2
        have hv0 : a'.tmps.getD 0 undef = .pointer (some ⟨a, 0, none⟩) := hfr 0 (by kernel_rfl)
        have hv3 : a'.tmps.getD 3 undef = .pointer (some ⟨w.heap.size, 0, none⟩) := hfr 3 (by kernel_rfl)
        have hvN : a'.tmps.getD 8 undef = .pointer (some ⟨w8.heap.size, 0, none⟩) := hfr 8 (by kernel_rfl)
        rw [Array.getD_eq_getD_getElem?] at hv0 hv3 hvN
        have Hacc := Lib.hid (Hnum.out w' hJ)
        have HK := Lib.hid hK
        have HJ := Lib.hid hJ
        have Hdf := Lib.hid hdf
        clear hJ hK hfr hdf
        match i, ho with
        | 0, ho =>
          cases ho
          clear hd
          go_simp
          exact HK.out _ _ ⟨rfl, Hacc.out⟩ (NumKeep.refl _) HJ.out
        | 1, ho =>
          cases ho
          clear hd
          go_simp
          exact HK.out _ _ rfl (NumKeep.refl _) HJ.out
        | 2, ho =>
          cases ho
          clear hd
          go_simp
          exact HK.out _ _ rfl (NumKeep.refl _) HJ.out
        | 3, ho =>
          cases ho
          have e1 := hd ⟨2, .data⟩ (by simp) rfl _ _ rfl rfl
          simp only [mulVSpec, Array.getD_eq_getD_getElem?] at e1
          clear hd
          go_simp
          exact HK.out _ _ rfl (NumKeep.refl _) HJ.out
        | 4, ho =>
          cases ho
          have e1 := hd ⟨3, .data⟩ (by simp) rfl _ _ rfl rfl
          simp only [mulVSpec, Array.getD_eq_getD_getElem?] at e1
          clear hd
          go_simp
          exact HK.out _ _ rfl (NumKeep.refl _) HJ.out
        | 5, ho =>
          cases ho
          have e1 := hd ⟨4, .data⟩ (by simp) rfl _ _ rfl rfl
          simp only [mulVSpec, Array.getD_eq_getD_getElem?] at e1
          clear hd
          go_simp
          exact HK.out _ _ rfl (NumKeep.refl _) HJ.out
        | 6, ho =>
          cases ho
          have e1 := hd ⟨1, .data⟩ (by simp) rfl _ _ rfl rfl
          have e2 := hd ⟨5, .data⟩ (by simp) rfl _ _ rfl rfl
          simp only [mulVSpec, Array.getD_eq_getD_getElem?] at e1 e2
          clear hd
          go_simp
          refine (Hcall1.out w' HJ.out).mono ?_
          rintro e w9 ⟨u9, rfl, hn9, hk9, hj9⟩
          exact HK.out _ _ hn9 hk9 hj9
        | 7, ho =>
          cases ho
          have e1 := hd ⟨0, .data⟩ (by simp) rfl _ _ rfl rfl
          have e2 := hd ⟨6, .data⟩ (by simp) rfl _ _ rfl rfl
          simp only [mulVSpec, Array.getD_eq_getD_getElem?] at e1 e2
          have Hop := Lib.hid (Hbin.out w' _ e1.2 e2)
          have e10 := e1.1
          clear e1 e2 hd
          go_simp
          refine Hop.out.mono ?_
          rintro e w9 ⟨v9, rfl, hn9, hb9⟩
          exact HK.out _ _ hn9 (NumKeep.below hb9) (HJ.out.next hb9)
        | 8, ho =>
          cases ho
          have e1 := hd ⟨7, .data⟩ (by simp) rfl _ _ rfl rfl
          simp only [mulVSpec, Array.getD_eq_getD_getElem?] at e1
          obtain ⟨A9, n9, c9, b9, e9⟩ := parsed_shape e1
          rw [e9] at e1
          have Hn := Lib.hid e1
          clear e1 hd
          go_simp
          exact HK.out _ _ Hn.out (NumKeep.refl _) HJ.out
        | 9, ho =>
          cases ho
          have e1 := hd ⟨8, .data⟩ (by simp) rfl _ _ rfl rfl
          simp only [mulVSpec, Array.getD_eq_getD_getElem?] at e1
          obtain ⟨A9, n9, c9, b9, e9⟩ := parsed_shape e1
          rw [e9] at e1
          have Hn := Lib.hid e1
          clear e1 hd
          go_simp
          exact HK.out _ _ ⟨_, rfl, Hn.out⟩ (NumKeep.refl _) HJ.out
        | 10, ho =>
          cases ho
          have e1 := hd ⟨9, .data⟩ (by simp) rfl _ _ rfl rfl
          simp only [mulVSpec, Array.getD_eq_getD_getElem?] at e1
          obtain ⟨u9, e9, hn⟩ := e1
          have Hn := Lib.hid hn
          clear hn hd
          go_simp
          exact HK.out _ _ ⟨_, rfl, Hn.out⟩ (NumKeep.refl _) HJ.out
        | n + 11, ho => simp at ho
      · intro fuel listed a' w8 hc hm hall
        obtain ⟨gg, ha, hh⟩ := hm.act (ds := [70, 71, 72, 73, 74, 75, 76, 77, 78, 79, 4]) (by kernel_rfl)
        have hl : listed = #[true, true, true, true, true, true, true, true, true, true, true] := by
          have hs : listed.size = 11 := hm.size
          rw [listed_all listed, hs]
          simp only [List.range, List.range.loop, List.map, hall 0 (by simp), hall 1 (by simp), hall 2 (by simp), hall 3 (by simp), hall 4 (by simp), hall 5 (by simp), hall 6 (by simp), hall 7 (by simp), hall 8 (by simp), hall 9 (by simp), hall 10 (by simp)]
        have HJ8 := Lib.hid hm.inv
        obtain ⟨u9, hg, hn9⟩ := hh 10 _ _ (hall 10 (by simp)) rfl rfl
        have HN9 := Lib.hid hn9
        subst hl
        clear hm hall hh
        subst ha
        simp only [setAll]
        clear hc
        rw [hg]
        clear hg hn9
        obtain ⟨nv9, bv9, hs9, hf9⟩ := HJ8.out
        have HS9 := Lib.hid hs9
        have HF9 := Lib.hid hf9
        clear hs9 hf9 HJ8
        generalize gg 70 = g70, gg 71 = g71, gg 72 = g72, gg 73 = g73, gg 74 = g74, gg 75 = g75, gg 76 = g76, gg 77 = g77, gg 78 = g78, gg 79 = g79
        simp only [List.setIfInBounds_toArray, List.set_cons_zero, List.set_cons_succ]
        refine wpAny_done (by kernel_rfl) ?_ _
        go_wp2_with fail
        go_ret
        exact .inl ⟨.num (z0 * z1), by rw [Hr.out]; rfl, _, nv9, bv9, rfl, ⟨_, rfl, HN9.out⟩, HS9.out, HFd.out.trans HF9.out⟩
end
end Go.Proofs.YtbnonccmlildnaaGreat

/- Values: choices. -/
namespace Go.Proofs.YtbnonccmlildnaaGreat
open Go.RowKit

theorem NumKeep.val {w w' : World} (h : NumKeep w w') {v : Value} {x : Vl} (hv : ValAt w v x) : ValAt w' v x := by
  cases x with
  | num z => obtain ⟨u, e, hu⟩ := hv; exact ⟨u, e, h _ _ hu⟩
  | tr b => exact hv
  | ob k => exact hv
/-- What is known of a list of three terms. -/
structure Three (M : Mdl) (τ : Nat → List UInt8) (a : Nat) (ns : List ByteArray) (bs : List Nat) (p : Parts) (t0 t1 t2 : Tm) (q0 q1 q2 : Parts) : Prop where
  la : p.la = 3
  cells : ∃ b o, p.A = some ⟨b, o, none⟩ ∧ ∀ w, Below M.w0.heap.size M.w0 w → (∀ i, i < 7 → w.cell? ⟨b, o + i, none⟩ = q0.arr[i]?) ∧ (∀ i, i < 7 → w.cell? ⟨b, o + 7 + i, none⟩ = q1.arr[i]?) ∧ (∀ i, i < 7 → w.cell? ⟨b, o + 14 + i, none⟩ = q2.arr[i]?)
  v0 : ValOK M τ a ns bs t0 (.agg q0.arr)
  v1 : ValOK M τ a ns bs t1 (.agg q1.arr)
  v2 : ValOK M τ a ns bs t2 (.agg q2.arr)
  i0 : ∀ x, evalT τ M.sig M.tbs M.objs t0 (envOf ns bs) = .ok x → ∃ b, x = .tr b
theorem evals_three {τ : Nat → List UInt8} {sig : List Fn} {tbs : List Tb} {objs : Nat} {env : Env} {t0 t1 t2 : Tm} {F : List Vl → Except Int Vl} :
    (∀ e, evalT τ sig tbs objs t0 env = .error e → bindL (evals τ sig tbs objs [t0, t1, t2] env) F = .error e) ∧ (∀ x e, evalT τ sig tbs objs t0 env = .ok x → evalT τ sig tbs objs t1 env = .error e → bindL (evals τ sig tbs objs [t0, t1, t2] env) F = .error e) ∧
    (∀ x y e, evalT τ sig tbs objs t0 env = .ok x → evalT τ sig tbs objs t1 env = .ok y → evalT τ sig tbs objs t2 env = .error e → bindL (evals τ sig tbs objs [t0, t1, t2] env) F = .error e) ∧
    (∀ x y z, evalT τ sig tbs objs t0 env = .ok x → evalT τ sig tbs objs t1 env = .ok y → evalT τ sig tbs objs t2 env = .ok z → bindL (evals τ sig tbs objs [t0, t1, t2] env) F = F [x, y, z]) := by
  refine ⟨fun e h => ?_, fun x e h k => ?_, fun x y e h k j => ?_, fun x y z h k j => ?_⟩
  · simp [evals, h, consV, bindL]
  · simp [evals, h, k, consV, bindL]
  · simp [evals, h, k, j, consV, bindL]
  · simp [evals, h, k, j, consV, bindL]
def iteSpec (a : Nat) (K : Nat) (la : Value) (l0 : Addr) (l1 : Addr) (l2 : Addr) (q0 : Parts) (q1 : Parts) (q2 : Parts) (b : Bool) (x1 : Vl) (x2 : Vl) : Nat → World → Value → Prop
  | 0, _, v => v = .pointer (some ⟨a, 0, none⟩)
  | 1, _, v => v = .pointer (some ⟨K, 4, none⟩)
  | 2, _, v => v = la
  | 3, _, v => v = .pointer (some l0)
  | 4, _, v => v = .agg q0.arr
  | 5, w, v => v = .bool b
  | 6, _, v => v = .pointer (some ⟨a, 0, none⟩)
  | 7, _, v => v = .pointer (some ⟨K, 4, none⟩)
  | 8, _, v => v = la
  | 9, _, v => v = .pointer (some l1)
  | 10, _, v => v = .agg q1.arr
  | 11, w, v => ValAt w v x1
  | 12, _, v => v = .pointer (some ⟨a, 0, none⟩)
  | 13, _, v => v = .pointer (some ⟨K, 4, none⟩)
  | 14, _, v => v = la
  | 15, _, v => v = .pointer (some l2)
  | 16, _, v => v = .agg q2.arr
  | 17, w, v => ValAt w v x2
  | 18, _, v => v = .bool b
  | 19, w, v => ValAt w v x1
  | 20, w, v => ValAt w v x2
  | _, _, _ => True
theorem iteSpec_keep (a : Nat) (K : Nat) (la : Value) (l0 : Addr) (l1 : Addr) (l2 : Addr) (q0 : Parts) (q1 : Parts) (q2 : Parts) (b : Bool) (x1 : Vl) (x2 : Vl) (i : Nat) (w w' : World) (v : Value) (h : iteSpec a K la l0 l1 l2 q0 q1 q2 b x1 x2 i w v) (hb : NumKeep w w') : iteSpec a K la l0 l1 l2 q0 q1 q2 b x1 x2 i w' v :=
  match i, h with
  | 0, h => h
  | 1, h => h
  | 2, h => h
  | 3, h => h
  | 4, h => h
  | 5, h => h
  | 6, h => h
  | 7, h => h
  | 8, h => h
  | 9, h => h
  | 10, h => h
  | 11, h => hb.val h
  | 12, h => h
  | 13, h => h
  | 14, h => h
  | 15, h => h
  | 16, h => h
  | 17, h => hb.val h
  | 18, h => h
  | 19, h => hb.val h
  | 20, h => hb.val h
  | n + 21, _ => trivial
def iteSpecE0 (a : Nat) (K : Nat) (la : Value) (l0 : Addr) (l1 : Addr) (l2 : Addr) (q0 : Parts) (q1 : Parts) (q2 : Parts) (b : Bool) (x1 : Vl) (x2 : Vl) : Nat → World → Value → Prop
  | 0, _, v => v = .pointer (some ⟨a, 0, none⟩)
  | 1, _, v => v = .pointer (some ⟨K, 4, none⟩)
  | 2, _, v => v = la
  | 3, _, v => v = .pointer (some l0)
  | 4, _, v => v = .agg q0.arr
  | 5, _, _ => False
  | 6, _, v => v = .pointer (some ⟨a, 0, none⟩)
  | 7, _, v => v = .pointer (some ⟨K, 4, none⟩)
  | 8, _, v => v = la
  | 9, _, v => v = .pointer (some l1)
  | 10, _, v => v = .agg q1.arr
  | 11, _, _ => False
  | 12, _, v => v = .pointer (some ⟨a, 0, none⟩)
  | 13, _, v => v = .pointer (some ⟨K, 4, none⟩)
  | 14, _, v => v = la
  | 15, _, v => v = .pointer (some l2)
  | 16, _, v => v = .agg q2.arr
  | 17, _, _ => False
  | 18, _, _ => False
  | 19, _, _ => False
  | 20, _, _ => False
  | _, _, _ => True
theorem iteSpecE0_keep (a : Nat) (K : Nat) (la : Value) (l0 : Addr) (l1 : Addr) (l2 : Addr) (q0 : Parts) (q1 : Parts) (q2 : Parts) (b : Bool) (x1 : Vl) (x2 : Vl) (i : Nat) (w w' : World) (v : Value) (h : iteSpecE0 a K la l0 l1 l2 q0 q1 q2 b x1 x2 i w v) (hb : NumKeep w w') : iteSpecE0 a K la l0 l1 l2 q0 q1 q2 b x1 x2 i w' v :=
  match i, h with
  | 0, h => h
  | 1, h => h
  | 2, h => h
  | 3, h => h
  | 4, h => h
  | 5, h => h
  | 6, h => h
  | 7, h => h
  | 8, h => h
  | 9, h => h
  | 10, h => h
  | 11, h => h
  | 12, h => h
  | 13, h => h
  | 14, h => h
  | 15, h => h
  | 16, h => h
  | 17, h => h
  | 18, h => h
  | 19, h => h
  | 20, h => h
  | n + 21, _ => trivial
def iteSpecE1 (a : Nat) (K : Nat) (la : Value) (l0 : Addr) (l1 : Addr) (l2 : Addr) (q0 : Parts) (q1 : Parts) (q2 : Parts) (b : Bool) (x1 : Vl) (x2 : Vl) : Nat → World → Value → Prop
  | 0, _, v => v = .pointer (some ⟨a, 0, none⟩)
  | 1, _, v => v = .pointer (some ⟨K, 4, none⟩)
  | 2, _, v => v = la
  | 3, _, v => v = .pointer (some l0)
  | 4, _, v => v = .agg q0.arr
  | 5, w, v => v = .bool b
  | 6, _, v => v = .pointer (some ⟨a, 0, none⟩)
  | 7, _, v => v = .pointer (some ⟨K, 4, none⟩)
  | 8, _, v => v = la
  | 9, _, v => v = .pointer (some l1)
  | 10, _, v => v = .agg q1.arr
  | 11, _, _ => False
  | 12, _, v => v = .pointer (some ⟨a, 0, none⟩)
  | 13, _, v => v = .pointer (some ⟨K, 4, none⟩)
  | 14, _, v => v = la
  | 15, _, v => v = .pointer (some l2)
  | 16, _, v => v = .agg q2.arr
  | 17, _, _ => False
  | 18, _, _ => False
  | 19, _, _ => False
  | 20, _, _ => False
  | _, _, _ => True
theorem iteSpecE1_keep (a : Nat) (K : Nat) (la : Value) (l0 : Addr) (l1 : Addr) (l2 : Addr) (q0 : Parts) (q1 : Parts) (q2 : Parts) (b : Bool) (x1 : Vl) (x2 : Vl) (i : Nat) (w w' : World) (v : Value) (h : iteSpecE1 a K la l0 l1 l2 q0 q1 q2 b x1 x2 i w v) (hb : NumKeep w w') : iteSpecE1 a K la l0 l1 l2 q0 q1 q2 b x1 x2 i w' v :=
  match i, h with
  | 0, h => h
  | 1, h => h
  | 2, h => h
  | 3, h => h
  | 4, h => h
  | 5, h => h
  | 6, h => h
  | 7, h => h
  | 8, h => h
  | 9, h => h
  | 10, h => h
  | 11, h => h
  | 12, h => h
  | 13, h => h
  | 14, h => h
  | 15, h => h
  | 16, h => h
  | 17, h => h
  | 18, h => h
  | 19, h => h
  | 20, h => h
  | n + 21, _ => trivial
def iteSpecE2 (a : Nat) (K : Nat) (la : Value) (l0 : Addr) (l1 : Addr) (l2 : Addr) (q0 : Parts) (q1 : Parts) (q2 : Parts) (b : Bool) (x1 : Vl) (x2 : Vl) : Nat → World → Value → Prop
  | 0, _, v => v = .pointer (some ⟨a, 0, none⟩)
  | 1, _, v => v = .pointer (some ⟨K, 4, none⟩)
  | 2, _, v => v = la
  | 3, _, v => v = .pointer (some l0)
  | 4, _, v => v = .agg q0.arr
  | 5, w, v => v = .bool b
  | 6, _, v => v = .pointer (some ⟨a, 0, none⟩)
  | 7, _, v => v = .pointer (some ⟨K, 4, none⟩)
  | 8, _, v => v = la
  | 9, _, v => v = .pointer (some l1)
  | 10, _, v => v = .agg q1.arr
  | 11, w, v => ValAt w v x1
  | 12, _, v => v = .pointer (some ⟨a, 0, none⟩)
  | 13, _, v => v = .pointer (some ⟨K, 4, none⟩)
  | 14, _, v => v = la
  | 15, _, v => v = .pointer (some l2)
  | 16, _, v => v = .agg q2.arr
  | 17, _, _ => False
  | 18, _, _ => False
  | 19, _, _ => False
  | 20, _, _ => False
  | _, _, _ => True
theorem iteSpecE2_keep (a : Nat) (K : Nat) (la : Value) (l0 : Addr) (l1 : Addr) (l2 : Addr) (q0 : Parts) (q1 : Parts) (q2 : Parts) (b : Bool) (x1 : Vl) (x2 : Vl) (i : Nat) (w w' : World) (v : Value) (h : iteSpecE2 a K la l0 l1 l2 q0 q1 q2 b x1 x2 i w v) (hb : NumKeep w w') : iteSpecE2 a K la l0 l1 l2 q0 q1 q2 b x1 x2 i w' v :=
  match i, h with
  | 0, h => h
  | 1, h => h
  | 2, h => h
  | 3, h => h
  | 4, h => h
  | 5, h => h
  | 6, h => h
  | 7, h => h
  | 8, h => h
  | 9, h => h
  | 10, h => h
  | 11, h => hb.val h
  | 12, h => h
  | 13, h => h
  | 14, h => h
  | 15, h => h
  | 16, h => h
  | 17, h => h
  | 18, h => h
  | 19, h => h
  | 20, h => h
  | n + 21, _ => trivial
variable {M : Mdl} {τ : Nat → List UInt8} {a : Nat} {ns : List ByteArray} {bs : List Nat} {nv bv : Value} {w : World}
set_option maxRecDepth 100000 in
set_option maxHeartbeats 8000000 in
theorem val_ite {p q0 q1 q2 : Parts} {t0 t1 t2 : Tm} {n : ByteArray} (hop : p.op = 16) (hs : St M a ns bs nv bv w) (h3 : Three M τ a ns bs p t0 t1 t2 q0 q1 q2) :
    Calls Tryz.prog 23 #[.pointer (some ⟨a, 0, none⟩), .agg p.arr] w (VP M a ns bs nv bv w (bindL (evals τ M.sig M.tbs M.objs [t0, t1, t2] (envOf ns bs)) fun vs => .ok (combV τ 16 n vs))) := by
  obtain ⟨e1, e2, e3, e4⟩ := evals_three (τ := τ) (sig := M.sig) (tbs := M.tbs) (objs := M.objs) (env := envOf ns bs) (t0 := t0) (t1 := t1) (t2 := t2) (F := fun vs => .ok (combV τ 16 n vs))
  generalize bindL (evals τ M.sig M.tbs M.objs [t0, t1, t2] (envOf ns bs)) (fun vs => .ok (combV τ 16 n vs)) = r at *
  obtain ⟨hla, ⟨b, o, hA, hc⟩, v0, v1, v2, i0⟩ := h3
  have Hs := Lib.hid (hs.next (below_boxT w p))
  have Hb0 := Lib.hid (below_boxT w p)
  have HW0 : Hid (boxT w p = w.alloc (.cells #[.int .i64 p.op, .string p.name, .int .i64 p.sort, .string p.n, .slice p.A p.la p.ca, .slice p.V p.lv p.cv, .slice p.P p.lp p.cp] 29)) := Lib.hid rfl
  have Hbx2 : Hid ((boxT w p).heap[w.heap.size]? = some (.cells p.arr 29 (0, 0))) := Lib.hid (heap_alloc_new w _)
  have HLb : Hid (¬ stK a nv bv w.heap.size ∧ w.heap.size < (boxT w p).drew.heap.size) := Lib.hid ⟨fun hk => by have := (hs.lt hk).2; omega, by show w.heap.size < (boxT w p).heap.size; rw [boxT_size]; omega⟩
  have Hc := Lib.hid hc
  obtain ⟨op', nm', so', n', A', la', ca', V', lv', cv', P', lp', cp'⟩ := p
  dsimp only at hA hla hop HW0
  subst hA hla hop
  clear hs hc
  unfold Parts.arr
  dsimp only
  go_enter Tryz.func23, Tryz.ntmps23
  go_wp2_with fail
  rw [← HW0.out]
  generalize boxT w ⟨16, nm', so', n', some ⟨b, o, none⟩, 3, ca', V', lv', cv', P', lp', cp'⟩ = W2 at *
  have HSd := Lib.hid (Hs.out.next ((Below.refl _ _).drew))
  have HStp : Hid (Stp M a ns bs nv bv W2.drew W2.drew) := Lib.hid (Stp.refl HSd.out)
  have HFd : Hid (Fr (stK a nv bv) (stK a nv bv) w W2.drew) := Lib.hid (Fr.of_below Hb0.out.drew)
  cases hr0 : evalT τ M.sig M.tbs M.objs t0 (envOf ns bs) with
  | error er =>
    have Hr := Lib.hid (e1 er hr0)
    have Hc0 : Hid (∀ w', Stp M a ns bs nv bv W2.drew w' → Calls Tryz.prog 39 #[.pointer (some ⟨a, 0, none⟩), .agg q0.arr] w' (VErr M)) := Lib.hid (fun w' ⟨nv', bv', h1, _⟩ => bool_err (v0.fails hr0 h1))
    clear e1 e2 e3 e4 v0 v1 v2 i0 hr0
    refine wp_region_makesD [0, 1, 2, 3, 4, 5, 6, 7, 8, 9, 10, 11, 12, 13, 14, 15, 16, 17, 18, 19, 20] [] (Stp M a ns bs nv bv W2.drew) NumKeep (by kernel_rfl) (by kernel_rfl) (iteSpecE0_keep a w.heap.size (.slice (some ⟨b, o, none⟩) 3 ca') ⟨b, o, none⟩ ⟨b, o + 7, none⟩ ⟨b, o + 14, none⟩ q0 q1 q2 false (.tr false) (.tr false)) HStp.out ?_ ?_
    · intro i o' ho hi3 a' w' hJ hdf hfr hd K hK
      obtain ⟨x0, x1, x2, x3, x4, x5, x6⟩ := box_cells ((hJ.block HLb.out.2 HLb.out.1).trans Hbx2.out)
      dsimp only at x0 x1 x2 x3 x4 x5 x6
      obtain ⟨c0, c1, c2, c3, c4, c5, c6⟩ := seven (Hc.out w' hJ.below).1
      obtain ⟨d0, d1, d2, d3, d4, d5, d6⟩ := seven (Hc.out w' hJ.below).2.1
      obtain ⟨f0, f1, f2, f3, f4, f5, f6⟩ := seven (Hc.out w' hJ.below).2.2
      have hv0 : a'.tmps.getD 0 undef = .pointer (some ⟨a, 0, none⟩) := hfr 0 (by kernel_rfl)
      have hv3 : a'.tmps.getD 3 undef = .pointer (some ⟨w.heap.size, 0, none⟩) := hfr 3 (by kernel_rfl)
      rw [Array.getD_eq_getD_getElem?] at hv0 hv3
      have HK := Lib.hid hK
      have HJ := Lib.hid hJ
      have Hdf := Lib.hid hdf
      clear hJ hK hfr hdf
      match i, ho with
      | 0, ho =>
        cases ho
        clear hd
        go_simp
        exact HK.out _ _ rfl (NumKeep.refl _) HJ.out
      | 1, ho =>
        cases ho
        clear hd
        go_simp
        exact HK.out _ _ rfl (NumKeep.refl _) HJ.out
      | 2, ho =>
        cases ho
        have e1 := hd ⟨1, .data⟩ (by simp) rfl _ _ rfl rfl
        simp only [iteSpecE0, Array.getD_eq_getD_getElem?] at e1
        clear hd
        go_simp
        exact HK.out _ _ rfl (NumKeep.refl _) HJ.out
      | 3, ho =>
        cases ho
        have e1 := hd ⟨2, .data⟩ (by simp) rfl _ _ rfl rfl
        simp only [iteSpecE0, Array.getD_eq_getD_getElem?] at e1
        clear hd
        go_simp
        exact HK.out _ _ rfl (NumKeep.refl _) HJ.out
      | 4, ho =>
        cases ho
        have e1 := hd ⟨3, .data⟩ (by simp) rfl _ _ rfl rfl
        simp only [iteSpecE0, Array.getD_eq_getD_getElem?] at e1
        clear hd
        go_simp
        exact HK.out _ _ rfl (NumKeep.refl _) HJ.out
      | 5, ho =>
        cases ho
        have e1 := hd ⟨0, .data⟩ (by simp) rfl _ _ rfl rfl
        have e2 := hd ⟨4, .data⟩ (by simp) rfl _ _ rfl rfl
        simp only [iteSpecE0, Array.getD_eq_getD_getElem?] at e1 e2
        clear hd
        go_simp
        refine (Hc0.out w' HJ.out).mono ?_
        rintro e w9 ⟨rfl, hb9⟩
        exact ⟨Hdf.out, .inr ⟨er, Hr.out, rfl, hb9⟩⟩
      | 6, ho =>
        cases ho
        clear hd
        go_simp
        exact HK.out _ _ rfl (NumKeep.refl _) HJ.out
      | 7, ho =>
        cases ho
        clear hd
        go_simp
        exact HK.out _ _ rfl (NumKeep.refl _) HJ.out
      | 8, ho =>
        cases ho
        have e1 := hd ⟨7, .data⟩ (by simp) rfl _ _ rfl rfl
        simp only [iteSpecE0, Array.getD_eq_getD_getElem?] at e1
        clear hd
        go_simp
        exact HK.out _ _ rfl (NumKeep.refl _) HJ.out
      | 9, ho =>
        cases ho
        have e1 := hd ⟨8, .data⟩ (by simp) rfl _ _ rfl rfl
        simp only [iteSpecE0, Array.getD_eq_getD_getElem?] at e1
        clear hd
        go_simp
        exact HK.out _ _ rfl (NumKeep.refl _) HJ.out
      | 10, ho =>
        cases ho
        have e1 := hd ⟨9, .data⟩ (by simp) rfl _ _ rfl rfl
        simp only [iteSpecE0, Array.getD_eq_getD_getElem?] at e1
        clear hd
        go_simp
        exact HK.out _ _ rfl (NumKeep.refl _) HJ.out
      | 11, ho => cases ho; exact (hd ⟨5, .chain⟩ (by simp) rfl _ _ rfl rfl : False).elim
      | 12, ho =>
        cases ho
        clear hd
        go_simp
        exact HK.out _ _ rfl (NumKeep.refl _) HJ.out
      | 13, ho =>
        cases ho
        clear hd
        go_simp
        exact HK.out _ _ rfl (NumKeep.refl _) HJ.out
      | 14, ho =>
        cases ho
        have e1 := hd ⟨13, .data⟩ (by simp) rfl _ _ rfl rfl
        simp only [iteSpecE0, Array.getD_eq_getD_getElem?] at e1
        clear hd
        go_simp
        exact HK.out _ _ rfl (NumKeep.refl _) HJ.out
      | 15, ho =>
        cases ho
        have e1 := hd ⟨14, .data⟩ (by simp) rfl _ _ rfl rfl
        simp only [iteSpecE0, Array.getD_eq_getD_getElem?] at e1
        clear hd
        go_simp
        exact HK.out _ _ rfl (NumKeep.refl _) HJ.out
      | 16, ho =>
        cases ho
        have e1 := hd ⟨15, .data⟩ (by simp) rfl _ _ rfl rfl
        simp only [iteSpecE0, Array.getD_eq_getD_getElem?] at e1
        clear hd
        go_simp
        exact HK.out _ _ rfl (NumKeep.refl _) HJ.out
      | 17, ho => cases ho; exact (hd ⟨11, .chain⟩ (by simp) rfl _ _ rfl rfl : False).elim
      | 18, ho => cases ho; exact (hd ⟨5, .data⟩ (by simp) rfl _ _ rfl rfl : False).elim
      | 19, ho => cases ho; exact (hd ⟨11, .data⟩ (by simp) rfl _ _ rfl rfl : False).elim
      | 20, ho => cases ho; exact (hd ⟨17, .data⟩ (by simp) rfl _ _ rfl rfl : False).elim
      | n + 21, ho => simp at ho
    · intro fuel listed a' w8 hc hm hall
      exact (hm.held 5 _ _ (hall 5 (by simp)) rfl rfl : False).elim
  | ok x0 =>
    obtain ⟨b0, rfl⟩ := i0 x0 hr0
    have Hc0 : Hid (∀ w', Stp M a ns bs nv bv W2.drew w' → Calls Tryz.prog 39 #[.pointer (some ⟨a, 0, none⟩), .agg q0.arr] w' fun e w'' => e = .returned (.bool b0) ∧ NumKeep w' w'' ∧ Stp M a ns bs nv bv W2.drew w'') := Lib.hid (fun w' ⟨nv', bv', h1, h2⟩ => (bool_ok h1 (v0.asks hr0 h1)).mono fun e w'' ⟨nv9, bv9, e1, e3, e4⟩ => ⟨e1, fun v z hv => hv.fr h1 e4, nv9, bv9, e3, h2.trans e4⟩)
    cases hr1 : evalT τ M.sig M.tbs M.objs t1 (envOf ns bs) with
    | error er =>
      have Hr := Lib.hid (e2 _ er hr0 hr1)
      have Hc1 : Hid (∀ w', Stp M a ns bs nv bv W2.drew w' → Calls Tryz.prog 23 #[.pointer (some ⟨a, 0, none⟩), .agg q1.arr] w' (VErr M)) := Lib.hid (fun w' ⟨nv', bv', h1, _⟩ => v1.err er hr1 _ _ _ h1)
      clear e1 e2 e3 e4 v0 v1 v2 i0 hr0 hr1
      refine wp_region_makesD [0, 1, 2, 3, 4, 5, 6, 7, 8, 9, 10, 11, 12, 13, 14, 15, 16, 17, 18, 19, 20] [] (Stp M a ns bs nv bv W2.drew) NumKeep (by kernel_rfl) (by kernel_rfl) (iteSpecE1_keep a w.heap.size (.slice (some ⟨b, o, none⟩) 3 ca') ⟨b, o, none⟩ ⟨b, o + 7, none⟩ ⟨b, o + 14, none⟩ q0 q1 q2 b0 (.tr false) (.tr false)) HStp.out ?_ ?_
      · intro i o' ho hi3 a' w' hJ hdf hfr hd K hK
        obtain ⟨x0, x1, x2, x3, x4, x5, x6⟩ := box_cells ((hJ.block HLb.out.2 HLb.out.1).trans Hbx2.out)
        dsimp only at x0 x1 x2 x3 x4 x5 x6
        obtain ⟨c0, c1, c2, c3, c4, c5, c6⟩ := seven (Hc.out w' hJ.below).1
        obtain ⟨d0, d1, d2, d3, d4, d5, d6⟩ := seven (Hc.out w' hJ.below).2.1
        obtain ⟨f0, f1, f2, f3, f4, f5, f6⟩ := seven (Hc.out w' hJ.below).2.2
        have hv0 : a'.tmps.getD 0 undef = .pointer (some ⟨a, 0, none⟩) := hfr 0 (by kernel_rfl)
        have hv3 : a'.tmps.getD 3 undef = .pointer (some ⟨w.heap.size, 0, none⟩) := hfr 3 (by kernel_rfl)
        rw [Array.getD_eq_getD_getElem?] at hv0 hv3
        have HK := Lib.hid hK
        have HJ := Lib.hid hJ
        have Hdf := Lib.hid hdf
        clear hJ hK hfr hdf
        match i, ho with
        | 0, ho =>
          cases ho
          clear hd
          go_simp
          exact HK.out _ _ rfl (NumKeep.refl _) HJ.out
        | 1, ho =>
          cases ho
          clear hd
          go_simp
          exact HK.out _ _ rfl (NumKeep.refl _) HJ.out
        | 2, ho =>
          cases ho
          have e1 := hd ⟨1, .data⟩ (by simp) rfl _ _ rfl rfl
          simp only [iteSpecE1, Array.getD_eq_getD_getElem?] at e1
          clear hd
          go_simp
          exact HK.out _ _ rfl (NumKeep.refl _) HJ.out
        | 3, ho =>
          cases ho
          have e1 := hd ⟨2, .data⟩ (by simp) rfl _ _ rfl rfl
          simp only [iteSpecE1, Array.getD_eq_getD_getElem?] at e1
          clear hd
          go_simp
          exact HK.out _ _ rfl (NumKeep.refl _) HJ.out
        | 4, ho =>
          cases ho
          have e1 := hd ⟨3, .data⟩ (by simp) rfl _ _ rfl rfl
          simp only [iteSpecE1, Array.getD_eq_getD_getElem?] at e1
          clear hd
          go_simp
          exact HK.out _ _ rfl (NumKeep.refl _) HJ.out
        | 5, ho =>
          cases ho
          have e1 := hd ⟨0, .data⟩ (by simp) rfl _ _ rfl rfl
          have e2 := hd ⟨4, .data⟩ (by simp) rfl _ _ rfl rfl
          simp only [iteSpecE1, Array.getD_eq_getD_getElem?] at e1 e2
          clear hd
          go_simp
          refine (Hc0.out w' HJ.out).mono ?_
          rintro e w9 ⟨rfl, hk9, hj9⟩
          exact HK.out _ _ rfl hk9 hj9
        | 6, ho =>
          cases ho
          clear hd
          go_simp
          exact HK.out _ _ rfl (NumKeep.refl _) HJ.out
        | 7, ho =>
          cases ho
          clear hd
          go_simp
          exact HK.out _ _ rfl (NumKeep.refl _) HJ.out
        | 8, ho =>
          cases ho
          have e1 := hd ⟨7, .data⟩ (by simp) rfl _ _ rfl rfl
          simp only [iteSpecE1, Array.getD_eq_getD_getElem?] at e1
          clear hd
          go_simp
          exact HK.out _ _ rfl (NumKeep.refl _) HJ.out
        | 9, ho =>
          cases ho
          have e1 := hd ⟨8, .data⟩ (by simp) rfl _ _ rfl rfl
          simp only [iteSpecE1, Array.getD_eq_getD_getElem?] at e1
          clear hd
          go_simp
          exact HK.out _ _ rfl (NumKeep.refl _) HJ.out
        | 10, ho =>
          cases ho
          have e1 := hd ⟨9, .data⟩ (by simp) rfl _ _ rfl rfl
          simp only [iteSpecE1, Array.getD_eq_getD_getElem?] at e1
          clear hd
          go_simp
          exact HK.out _ _ rfl (NumKeep.refl _) HJ.out
        | 11, ho =>
          cases ho
          have e1 := hd ⟨6, .data⟩ (by simp) rfl _ _ rfl rfl
          have e2 := hd ⟨10, .data⟩ (by simp) rfl _ _ rfl rfl
          simp only [iteSpecE1, Array.getD_eq_getD_getElem?] at e1 e2
          clear hd
          go_simp
          refine (Hc1.out w' HJ.out).mono ?_
          rintro e w9 ⟨rfl, hb9⟩
          exact ⟨Hdf.out, .inr ⟨er, Hr.out, rfl, hb9⟩⟩
        | 12, ho =>
          cases ho
          clear hd
          go_simp
          exact HK.out _ _ rfl (NumKeep.refl _) HJ.out
        | 13, ho =>
          cases ho
          clear hd
          go_simp
          exact HK.out _ _ rfl (NumKeep.refl _) HJ.out
        | 14, ho =>
          cases ho
          have e1 := hd ⟨13, .data⟩ (by simp) rfl _ _ rfl rfl
          simp only [iteSpecE1, Array.getD_eq_getD_getElem?] at e1
          clear hd
          go_simp
          exact HK.out _ _ rfl (NumKeep.refl _) HJ.out
        | 15, ho =>
          cases ho
          have e1 := hd ⟨14, .data⟩ (by simp) rfl _ _ rfl rfl
          simp only [iteSpecE1, Array.getD_eq_getD_getElem?] at e1
          clear hd
          go_simp
          exact HK.out _ _ rfl (NumKeep.refl _) HJ.out
        | 16, ho =>
          cases ho
          have e1 := hd ⟨15, .data⟩ (by simp) rfl _ _ rfl rfl
          simp only [iteSpecE1, Array.getD_eq_getD_getElem?] at e1
          clear hd
          go_simp
          exact HK.out _ _ rfl (NumKeep.refl _) HJ.out
        | 17, ho => cases ho; exact (hd ⟨11, .chain⟩ (by simp) rfl _ _ rfl rfl : False).elim
        | 18, ho => cases ho; exact (hd ⟨17, .chain⟩ (by simp) rfl _ _ rfl rfl : False).elim
        | 19, ho => cases ho; exact (hd ⟨11, .data⟩ (by simp) rfl _ _ rfl rfl : False).elim
        | 20, ho => cases ho; exact (hd ⟨17, .data⟩ (by simp) rfl _ _ rfl rfl : False).elim
        | n + 21, ho => simp at ho
      · intro fuel listed a' w8 hc hm hall
        exact (hm.held 11 _ _ (hall 11 (by simp)) rfl rfl : False).elim
    | ok x1 =>
      have Hc1 : Hid (∀ w', Stp M a ns bs nv bv W2.drew w' → Calls Tryz.prog 23 #[.pointer (some ⟨a, 0, none⟩), .agg q1.arr] w' fun e w'' => ∃ u, e = .returned u ∧ ValAt w'' u x1 ∧ NumKeep w' w'' ∧ Stp M a ns bs nv bv W2.drew w'') := Lib.hid (fun w' ⟨nv', bv', h1, h2⟩ => (v1.ok x1 hr1 _ _ _ h1).mono fun e w'' ⟨u, nv9, bv9, e1, e2, e3, e4⟩ => ⟨u, e1, e2, fun v z hv => hv.fr h1 e4, nv9, bv9, e3, h2.trans e4⟩)
      cases hr2 : evalT τ M.sig M.tbs M.objs t2 (envOf ns bs) with
      | error er =>
        have Hr := Lib.hid (e3 _ _ er hr0 hr1 hr2)
        have Hc2 : Hid (∀ w', Stp M a ns bs nv bv W2.drew w' → Calls Tryz.prog 23 #[.pointer (some ⟨a, 0, none⟩), .agg q2.arr] w' (VErr M)) := Lib.hid (fun w' ⟨nv', bv', h1, _⟩ => v2.err er hr2 _ _ _ h1)
        clear e1 e2 e3 e4 v0 v1 v2 i0 hr0 hr1 hr2
        refine wp_region_makesD [0, 1, 2, 3, 4, 5, 6, 7, 8, 9, 10, 11, 12, 13, 14, 15, 16, 17, 18, 19, 20] [] (Stp M a ns bs nv bv W2.drew) NumKeep (by kernel_rfl) (by kernel_rfl) (iteSpecE2_keep a w.heap.size (.slice (some ⟨b, o, none⟩) 3 ca') ⟨b, o, none⟩ ⟨b, o + 7, none⟩ ⟨b, o + 14, none⟩ q0 q1 q2 b0 x1 (.tr false)) HStp.out ?_ ?_
        · intro i o' ho hi3 a' w' hJ hdf hfr hd K hK
          obtain ⟨x0, x1, x2, x3, x4, x5, x6⟩ := box_cells ((hJ.block HLb.out.2 HLb.out.1).trans Hbx2.out)
          dsimp only at x0 x1 x2 x3 x4 x5 x6
          obtain ⟨c0, c1, c2, c3, c4, c5, c6⟩ := seven (Hc.out w' hJ.below).1
          obtain ⟨d0, d1, d2, d3, d4, d5, d6⟩ := seven (Hc.out w' hJ.below).2.1
          obtain ⟨f0, f1, f2, f3, f4, f5, f6⟩ := seven (Hc.out w' hJ.below).2.2
          have hv0 : a'.tmps.getD 0 undef = .pointer (some ⟨a, 0, none⟩) := hfr 0 (by kernel_rfl)
          have hv3 : a'.tmps.getD 3 undef = .pointer (some ⟨w.heap.size, 0, none⟩) := hfr 3 (by kernel_rfl)
          rw [Array.getD_eq_getD_getElem?] at hv0 hv3
          have HK := Lib.hid hK
          have HJ := Lib.hid hJ
          have Hdf := Lib.hid hdf
          clear hJ hK hfr hdf
          match i, ho with
          | 0, ho =>
            cases ho
            clear hd
            go_simp
            exact HK.out _ _ rfl (NumKeep.refl _) HJ.out
          | 1, ho =>
            cases ho
            clear hd
            go_simp
            exact HK.out _ _ rfl (NumKeep.refl _) HJ.out
          | 2, ho =>
            cases ho
            have e1 := hd ⟨1, .data⟩ (by simp) rfl _ _ rfl rfl
            simp only [iteSpecE2, Array.getD_eq_getD_getElem?] at e1
            clear hd
            go_simp
            exact HK.out _ _ rfl (NumKeep.refl _) HJ.out
          | 3, ho =>
            cases ho
            have e1 := hd ⟨2, .data⟩ (by simp) rfl _ _ rfl rfl
            simp only [iteSpecE2, Array.getD_eq_getD_getElem?] at e1
            clear hd
            go_simp
            exact HK.out _ _ rfl (NumKeep.refl _) HJ.out
          | 4, ho =>
            cases ho
            have e1 := hd ⟨3, .data⟩ (by simp) rfl _ _ rfl rfl
            simp only [iteSpecE2, Array.getD_eq_getD_getElem?] at e1
            clear hd
            go_simp
            exact HK.out _ _ rfl (NumKeep.refl _) HJ.out
          | 5, ho =>
            cases ho
            have e1 := hd ⟨0, .data⟩ (by simp) rfl _ _ rfl rfl
            have e2 := hd ⟨4, .data⟩ (by simp) rfl _ _ rfl rfl
            simp only [iteSpecE2, Array.getD_eq_getD_getElem?] at e1 e2
            clear hd
            go_simp
            refine (Hc0.out w' HJ.out).mono ?_
            rintro e w9 ⟨rfl, hk9, hj9⟩
            exact HK.out _ _ rfl hk9 hj9
          | 6, ho =>
            cases ho
            clear hd
            go_simp
            exact HK.out _ _ rfl (NumKeep.refl _) HJ.out
          | 7, ho =>
            cases ho
            clear hd
            go_simp
            exact HK.out _ _ rfl (NumKeep.refl _) HJ.out
          | 8, ho =>
            cases ho
            have e1 := hd ⟨7, .data⟩ (by simp) rfl _ _ rfl rfl
            simp only [iteSpecE2, Array.getD_eq_getD_getElem?] at e1
            clear hd
            go_simp
            exact HK.out _ _ rfl (NumKeep.refl _) HJ.out
          | 9, ho =>
            cases ho
            have e1 := hd ⟨8, .data⟩ (by simp) rfl _ _ rfl rfl
            simp only [iteSpecE2, Array.getD_eq_getD_getElem?] at e1
            clear hd
            go_simp
            exact HK.out _ _ rfl (NumKeep.refl _) HJ.out
          | 10, ho =>
            cases ho
            have e1 := hd ⟨9, .data⟩ (by simp) rfl _ _ rfl rfl
            simp only [iteSpecE2, Array.getD_eq_getD_getElem?] at e1
            clear hd
            go_simp
            exact HK.out _ _ rfl (NumKeep.refl _) HJ.out
          | 11, ho =>
            cases ho
            have e1 := hd ⟨6, .data⟩ (by simp) rfl _ _ rfl rfl
            have e2 := hd ⟨10, .data⟩ (by simp) rfl _ _ rfl rfl
            simp only [iteSpecE2, Array.getD_eq_getD_getElem?] at e1 e2
            clear hd
            go_simp
            refine (Hc1.out w' HJ.out).mono ?_
            rintro e w9 ⟨u9, rfl, hn9, hk9, hj9⟩
            exact HK.out _ _ hn9 hk9 hj9
          | 12, ho =>
            cases ho
            clear hd
            go_simp
            exact HK.out _ _ rfl (NumKeep.refl _) HJ.out
          | 13, ho =>
            cases ho
            clear hd
            go_simp
            exact HK.out _ _ rfl (NumKeep.refl _) HJ.out
          | 14, ho =>
            cases ho
            have e1 := hd ⟨13, .data⟩ (by simp) rfl _ _ rfl rfl
            simp only [iteSpecE2, Array.getD_eq_getD_getElem?] at e1
            clear hd
            go_simp
            exact HK.out _ _ rfl (NumKeep.refl _) HJ.out
          | 15, ho =>
            cases ho
            have e1 := hd ⟨14, .data⟩ (by simp) rfl _ _ rfl rfl
            simp only [iteSpecE2, Array.getD_eq_getD_getElem?] at e1
            clear hd
            go_simp
            exact HK.out _ _ rfl (NumKeep.refl _) HJ.out
          | 16, ho =>
            cases ho
            have e1 := hd ⟨15, .data⟩ (by simp) rfl _ _ rfl rfl
            simp only [iteSpecE2, Array.getD_eq_getD_getElem?] at e1
            clear hd
            go_simp
            exact HK.out _ _ rfl (NumKeep.refl _) HJ.out
          | 17, ho =>
            cases ho
            have e1 := hd ⟨12, .data⟩ (by simp) rfl _ _ rfl rfl
            have e2 := hd ⟨16, .data⟩ (by simp) rfl _ _ rfl rfl
            simp only [iteSpecE2, Array.getD_eq_getD_getElem?] at e1 e2
            clear hd
            go_simp
            refine (Hc2.out w' HJ.out).mono ?_
            rintro e w9 ⟨rfl, hb9⟩
            exact ⟨Hdf.out, .inr ⟨er, Hr.out, rfl, hb9⟩⟩
          | 18, ho => cases ho; exact (hd ⟨17, .chain⟩ (by simp) rfl _ _ rfl rfl : False).elim
          | 19, ho => cases ho; exact (hd ⟨18, .chain⟩ (by simp) rfl _ _ rfl rfl : False).elim
          | 20, ho => cases ho; exact (hd ⟨17, .data⟩ (by simp) rfl _ _ rfl rfl : False).elim
          | n + 21, ho => simp at ho
        · intro fuel listed a' w8 hc hm hall
          exact (hm.held 17 _ _ (hall 17 (by simp)) rfl rfl : False).elim
      | ok x2 =>
        have Hr := Lib.hid (e4 _ _ _ hr0 hr1 hr2)
        have Hc2 : Hid (∀ w', Stp M a ns bs nv bv W2.drew w' → Calls Tryz.prog 23 #[.pointer (some ⟨a, 0, none⟩), .agg q2.arr] w' fun e w'' => ∃ u, e = .returned u ∧ ValAt w'' u x2 ∧ NumKeep w' w'' ∧ Stp M a ns bs nv bv W2.drew w'') := Lib.hid (fun w' ⟨nv', bv', h1, h2⟩ => (v2.ok x2 hr2 _ _ _ h1).mono fun e w'' ⟨u, nv9, bv9, e1, e2, e3, e4⟩ => ⟨u, e1, e2, fun v z hv => hv.fr h1 e4, nv9, bv9, e3, h2.trans e4⟩)
        clear e1 e2 e3 e4 v0 v1 v2 i0 hr0 hr1 hr2
        refine wp_region_makesD [0, 1, 2, 3, 4, 5, 6, 7, 8, 9, 10, 11, 12, 13, 14, 15, 16, 17, 18, 19, 20] [] (Stp M a ns bs nv bv W2.drew) NumKeep (by kernel_rfl) (by kernel_rfl) (iteSpec_keep a w.heap.size (.slice (some ⟨b, o, none⟩) 3 ca') ⟨b, o, none⟩ ⟨b, o + 7, none⟩ ⟨b, o + 14, none⟩ q0 q1 q2 b0 x1 x2) HStp.out ?_ ?_
        · intro i o' ho hi3 a' w' hJ hdf hfr hd K hK
          obtain ⟨x0, x1, x2, x3, x4, x5, x6⟩ := box_cells ((hJ.block HLb.out.2 HLb.out.1).trans Hbx2.out)
          dsimp only at x0 x1 x2 x3 x4 x5 x6
          obtain ⟨c0, c1, c2, c3, c4, c5, c6⟩ := seven (Hc.out w' hJ.below).1
          obtain ⟨d0, d1, d2, d3, d4, d5, d6⟩ := seven (Hc.out w' hJ.below).2.1
          obtain ⟨f0, f1, f2, f3, f4, f5, f6⟩ := seven (Hc.out w' hJ.below).2.2
          have hv0 : a'.tmps.getD 0 undef = .pointer (some ⟨a, 0, none⟩) := hfr 0 (by kernel_rfl)
          have hv3 : a'.tmps.getD 3 undef = .pointer (some ⟨w.heap.size, 0, none⟩) := hfr 3 (by kernel_rfl)
          rw [Array.getD_eq_getD_getElem?] at hv0 hv3
          have HK := Lib.hid hK
          have HJ := Lib.hid hJ
          have Hdf := Lib.hid hdf
          clear hJ hK hfr hdf
          match i, ho with
          | 0, ho =>
            cases ho
            clear hd
            go_simp
            exact HK.out _ _ rfl (NumKeep.refl _) HJ.out
          | 1, ho =>
            cases ho
            clear hd
            go_simp
            exact HK.out _ _ rfl (NumKeep.refl _) HJ.out
          | 2, ho =>
            cases ho
            have e1 := hd ⟨1, .data⟩ (by simp) rfl _ _ rfl rfl
            simp only [iteSpec, Array.getD_eq_getD_getElem?] at e1
            clear hd
            go_simp
            exact HK.out _ _ rfl (NumKeep.refl _) HJ.out
          | 3, ho =>
            cases ho
            have e1 := hd ⟨2, .data⟩ (by simp) rfl _ _ rfl rfl
            simp only [iteSpec, Array.getD_eq_getD_getElem?] at e1
            clear hd
            go_simp
            exact HK.out _ _ rfl (NumKeep.refl _) HJ.out
          | 4, ho =>
            cases ho
            have e1 := hd ⟨3, .data⟩ (by simp) rfl _ _ rfl rfl
            simp only [iteSpec, Array.getD_eq_getD_getElem?] at e1
            clear hd
            go_simp
            exact HK.out _ _ rfl (NumKeep.refl _) HJ.out
          | 5, ho =>
            cases ho
            have e1 := hd ⟨0, .data⟩ (by simp) rfl _ _ rfl rfl
            have e2 := hd ⟨4, .data⟩ (by simp) rfl _ _ rfl rfl
            simp only [iteSpec, Array.getD_eq_getD_getElem?] at e1 e2
            clear hd
            go_simp
            refine (Hc0.out w' HJ.out).mono ?_
            rintro e w9 ⟨rfl, hk9, hj9⟩
            exact HK.out _ _ rfl hk9 hj9
          | 6, ho =>
            cases ho
            clear hd
            go_simp
            exact HK.out _ _ rfl (NumKeep.refl _) HJ.out
          | 7, ho =>
            cases ho
            clear hd
            go_simp
            exact HK.out _ _ rfl (NumKeep.refl _) HJ.out
          | 8, ho =>
            cases ho
            have e1 := hd ⟨7, .data⟩ (by simp) rfl _ _ rfl rfl
            simp only [iteSpec, Array.getD_eq_getD_getElem?] at e1
            clear hd
            go_simp
            exact HK.out _ _ rfl (NumKeep.refl _) HJ.out
          | 9, ho =>
            cases ho
            have e1 := hd ⟨8, .data⟩ (by simp) rfl _ _ rfl rfl
            simp only [iteSpec, Array.getD_eq_getD_getElem?] at e1
            clear hd
            go_simp
            exact HK.out _ _ rfl (NumKeep.refl _) HJ.out
          | 10, ho =>
            cases ho
            have e1 := hd ⟨9, .data⟩ (by simp) rfl _ _ rfl rfl
            simp only [iteSpec, Array.getD_eq_getD_getElem?] at e1
            clear hd
            go_simp
            exact HK.out _ _ rfl (NumKeep.refl _) HJ.out
          | 11, ho =>
            cases ho
            have e1 := hd ⟨6, .data⟩ (by simp) rfl _ _ rfl rfl
            have e2 := hd ⟨10, .data⟩ (by simp) rfl _ _ rfl rfl
            simp only [iteSpec, Array.getD_eq_getD_getElem?] at e1 e2
            clear hd
            go_simp
            refine (Hc1.out w' HJ.out).mono ?_
            rintro e w9 ⟨u9, rfl, hn9, hk9, hj9⟩
            exact HK.out _ _ hn9 hk9 hj9
          | 12, ho =>
            cases ho
            clear hd
            go_simp
            exact HK.out _ _ rfl (NumKeep.refl _) HJ.out
          | 13, ho =>
            cases ho
            clear hd
            go_simp
            exact HK.out _ _ rfl (NumKeep.refl _) HJ.out
          | 14, ho =>
            cases ho
            have e1 := hd ⟨13, .data⟩ (by simp) rfl _ _ rfl rfl
            simp only [iteSpec, Array.getD_eq_getD_getElem?] at e1
            clear hd
            go_simp
            exact HK.out _ _ rfl (NumKeep.refl _) HJ.out
          | 15, ho =>
            cases ho
            have e1 := hd ⟨14, .data⟩ (by simp) rfl _ _ rfl rfl
            simp only [iteSpec, Array.getD_eq_getD_getElem?] at e1
            clear hd
            go_simp
            exact HK.out _ _ rfl (NumKeep.refl _) HJ.out
          | 16, ho =>
            cases ho
            have e1 := hd ⟨15, .data⟩ (by simp) rfl _ _ rfl rfl
            simp only [iteSpec, Array.getD_eq_getD_getElem?] at e1
            clear hd
            go_simp
            exact HK.out _ _ rfl (NumKeep.refl _) HJ.out
          | 17, ho =>
            cases ho
            have e1 := hd ⟨12, .data⟩ (by simp) rfl _ _ rfl rfl
            have e2 := hd ⟨16, .data⟩ (by simp) rfl _ _ rfl rfl
            simp only [iteSpec, Array.getD_eq_getD_getElem?] at e1 e2
            clear hd
            go_simp
            refine (Hc2.out w' HJ.out).mono ?_
            rintro e w9 ⟨u9, rfl, hn9, hk9, hj9⟩
            exact HK.out _ _ hn9 hk9 hj9
          | 18, ho =>
            cases ho
            have e1 := hd ⟨5, .data⟩ (by simp) rfl _ _ rfl rfl
            simp only [iteSpec, Array.getD_eq_getD_getElem?] at e1
            clear hd
            go_simp
            exact HK.out _ _ rfl (NumKeep.refl _) HJ.out
          | 19, ho =>
            cases ho
            have e1 := hd ⟨11, .data⟩ (by simp) rfl _ _ rfl rfl
            simp only [iteSpec, Array.getD_eq_getD_getElem?] at e1
            have Hn := Lib.hid e1
            clear e1 hd
            go_simp
            exact HK.out _ _ Hn.out (NumKeep.refl _) HJ.out
          | 20, ho =>
            cases ho
            have e1 := hd ⟨17, .data⟩ (by simp) rfl _ _ rfl rfl
            simp only [iteSpec, Array.getD_eq_getD_getElem?] at e1
            have Hn := Lib.hid e1
            clear e1 hd
            go_simp
            exact HK.out _ _ Hn.out (NumKeep.refl _) HJ.out
          | n + 21, ho => simp at ho
        · intro fuel listed a' w8 hc hm hall
          obtain ⟨gg, ha, hh⟩ := hm.act (ds := [82, 83, 84, 85, 86, 87, 88, 89, 90, 91, 92, 93, 94, 95, 96, 97, 98, 99, 9, 10, 11]) (by kernel_rfl)
          have hl : listed = #[true, true, true, true, true, true, true, true, true, true, true, true, true, true, true, true, true, true, true, true, true] := by
            have hs : listed.size = 21 := hm.size
            rw [listed_all listed, hs]
            simp only [List.range, List.range.loop, List.map, hall 0 (by simp), hall 1 (by simp), hall 2 (by simp), hall 3 (by simp), hall 4 (by simp), hall 5 (by simp), hall 6 (by simp), hall 7 (by simp), hall 8 (by simp), hall 9 (by simp), hall 10 (by simp), hall 11 (by simp), hall 12 (by simp), hall 13 (by simp), hall 14 (by simp), hall 15 (by simp), hall 16 (by simp), hall 17 (by simp), hall 18 (by simp), hall 19 (by simp), hall 20 (by simp)]
          have HJ8 := Lib.hid hm.inv
          have hg9 : gg 9 = .bool b0 := hh 18 _ _ (hall 18 (by simp)) rfl rfl
          have hg10 : ValAt w8 (gg 10) x1 := hh 19 _ _ (hall 19 (by simp)) rfl rfl
          have hg11 : ValAt w8 (gg 11) x2 := hh 20 _ _ (hall 20 (by simp)) rfl rfl
          have H10 := Lib.hid hg10
          have H11 := Lib.hid hg11
          subst hl
          clear hm hall hh
          subst ha
          simp only [setAll]
          clear hc
          rw [hg9]
          clear hg9 hg10 hg11
          obtain ⟨nv9, bv9, hs9, hf9⟩ := HJ8.out
          have HS9 := Lib.hid hs9
          have HF9 := Lib.hid hf9
          clear hs9 hf9 HJ8
          generalize gg 82 = g82, gg 83 = g83, gg 84 = g84, gg 85 = g85, gg 86 = g86, gg 87 = g87, gg 88 = g88, gg 89 = g89, gg 90 = g90, gg 91 = g91, gg 92 = g92, gg 93 = g93, gg 94 = g94, gg 95 = g95, gg 96 = g96, gg 97 = g97, gg 98 = g98, gg 99 = g99, gg 10 = g10, gg 11 = g11 at *
          simp only [List.setIfInBounds_toArray, List.set_cons_zero, List.set_cons_succ]
          cases b0 with
          | true =>
            refine wpAny_done (by kernel_rfl) ?_ _
            go_wp2_with fail
            go_ret
            exact .inl ⟨x1, by rw [Hr.out]; rfl, _, nv9, bv9, rfl, H10.out, HS9.out, HFd.out.trans HF9.out⟩
          | false =>
            refine wpAny_done (by kernel_rfl) ?_ _
            go_wp2_with fail
            go_ret
            exact .inl ⟨x2, by rw [Hr.out]; rfl, _, nv9, bv9, rfl, H11.out, HS9.out, HFd.out.trans HF9.out⟩
end Go.Proofs.YtbnonccmlildnaaGreat
