/- app, walked. -/
import Derived.Test.YtbnonccmlildnaaGreatM26
import Derived.Deep.RegionHeld3
set_option linter.unusedSimpArgs false
set_option linter.unusedVariables false
namespace Go.Proofs.YtbnonccmlildnaaGreat
open Go.RowKit

/-- A value's bounds: as a number it is no longer than so; an object is there. -/
def VlIn (M : Mdl) (m : Nat) (x : Vl) : Prop := (asInt x).natAbs < 4294967296 ^ m ∧ ∀ j, x = .ob j → j < M.objs
theorem infoS : (Tryz.prog.info? 9).map (fun i => (i.zero, i.size, i.bytes)) = some (some (.string ByteArray.empty), 1, 16) := by kernel_rfl
def outOf2 (f : Fn) : Int := f.out
def ofRead : Option Vl → Except Int Vl
  | none => .error 40
  | some v => .ok v
theorem appV_found {τ : Nat → List UInt8} {sig : List Fn} {tbs : List Tb} {objs : Nat} {nm : ByteArray} {vs : List Vl} {tb : Tb} {f : Fn} (h : tableOf tbs nm = some tb) (hf : foundFn sig nm = some f) : appV τ sig tbs objs nm vs = ofRead (readV (rowOf tb.rows (vs.map (textV τ)) tb.els) f.out objs) := by
  unfold appV outOf
  rw [h, hf]
  dsimp only
  cases readV (rowOf tb.rows (vs.map (textV τ)) tb.els) f.out objs <;> rfl
theorem TbsAt.len {w : World} {A : Option Addr} {tbs : List Tb} (h : TbsAt w A tbs) {j : Nat} {t : Tb} (hj : tbs[j]? = some t) : t.rows.length ≤ 140737488355328 := by
  obtain ⟨g, _, h2⟩ := h
  exact (h2 j t hj).len
theorem read_none {s : ByteArray} {k : Int} {objs : Nat} (hs : s.size ≤ 1000000000000) (ho : objs ≤ 1000) (hk : 1 ≤ k ∧ k ≤ 3) (h : readV s k objs = none) (w : World) : Calls Tryz.prog 73 #[.string s, .int .i64 k, .int .i64 objs] w fun e w' => ∃ v, e = .returned (.tuple #[v, .bool false]) ∧ Below w.heap.size w w' :=
  (read_any s k objs w hs ho hk).mono fun e w' ⟨v, ok, e1, ⟨e2, _⟩, e3⟩ => ⟨v, by rw [e1, e2, h]; rfl, e3⟩
theorem read_some {s : ByteArray} {k : Int} {objs : Nat} {x : Vl} (hs : s.size ≤ 1000000000000) (ho : objs ≤ 1000) (hk : 1 ≤ k ∧ k ≤ 3) (h : readV s k objs = some x) (w : World) : Calls Tryz.prog 73 #[.string s, .int .i64 k, .int .i64 objs] w fun e w' => ∃ v, e = .returned (.tuple #[v, .bool true]) ∧ ValAt w' v x ∧ Below w.heap.size w w' :=
  (read_any s k objs w hs ho hk).mono fun e w' ⟨v, ok, e1, ⟨e2, e4⟩, e3⟩ => ⟨v, by rw [e1, e2, h]; rfl, e4 x h, e3⟩
theorem RwsAt.len {w : World} {A : Option Addr} {rs : List Rw} (h : RwsAt w A rs) {j : Nat} {r : Rw} (hj : rs[j]? = some r) : r.1.length ≤ 140737488355328 := by
  obtain ⟨g, _, h2⟩ := h
  exact (h2 j r hj).len
theorem own_shape {w : World} {base n : Nat} {v : Value} {xs : List ByteArray} (h : w.ownsRow base 9 1 v n (xs.map Value.string)) : ∃ B d, v = .slice B n d ∧ StrsAt w B xs := by
  have hl : xs.length = n := by simpa using h.1
  rcases h.2 with ⟨rfl, rfl⟩ | ⟨g, cap, cur, rfl, _⟩
  · exact ⟨none, 0, rfl, .inl (List.length_eq_zero_iff.1 hl)⟩
  · refine ⟨_, _, rfl, .inr ⟨g, 0, rfl, fun j x hj => ?_⟩⟩
    have hjl : j < xs.length := (List.getElem?_eq_some_iff.1 hj).1
    rw [Nat.zero_add, h.cellAt j (by omega), List.getElem?_map, hj]
    rfl
variable {M : Mdl} {τ : Nat → List UInt8} {a : Nat} {ns : List ByteArray} {bs : List Nat} {nv bv : Value} {w : World}
theorem st_cells (h : St M a ns bs nv bv w) : w.cell? ⟨a, 0, none⟩ = some (.slice M.S M.sig.length M.cs) ∧ w.cell? ⟨a, 1, none⟩ = some (.slice M.T M.tbs.length M.ct) ∧ w.cell? ⟨a, 3, none⟩ = some (.int .i64 M.objs) ∧ w.cell? ⟨a, 4, none⟩ = some nv ∧ w.cell? ⟨a, 5, none⟩ = some bv := by
  have e : ∀ i, w.cell? ⟨a, i, none⟩ = _ := fun i => cell_of_row w a i _ 66 (0, 0) h.row
  exact ⟨by rw [e]; rfl, by rw [e]; rfl, by rw [e]; rfl, by rw [e]; rfl, by rw [e]; rfl⟩
set_option maxRecDepth 100000 in
set_option maxHeartbeats 4000000 in
theorem app_any {L m : Nat} (hM : MOk M τ L) {p : Parts} {l : List Tm} {f : Nat → Value} (hs : St M a ns bs nv bv w) (hla : p.la = l.length) (hf : RowCells M.w0 p.A 7 l.length f) (hL : ∀ (j : Nat) (t : Tm), l[j]? = some t → TmV M.w0 t (f j)) (hlen : l.length ≤ 1000000) (hm : m ≤ 1000000000000)
    (hV : ∀ (j : Nat) (t : Tm), l[j]? = some t → ValOK M τ a ns bs t (f j)) (hT : ∀ (j : Nat) (t : Tm) (x : Vl), l[j]? = some t → evalT τ M.sig M.tbs M.objs t (envOf ns bs) = .ok x → VlIn M m x)
    {fn : Fn} (hfn : foundFn M.sig p.name = some fn) (hout : 1 ≤ fn.out ∧ fn.out ≤ 3) :
    Calls Tryz.prog 40 #[.pointer (some ⟨a, 0, none⟩), .agg p.arr] w fun e w' => (∃ x, bindL (evals τ M.sig M.tbs M.objs l (envOf ns bs)) (appV τ M.sig M.tbs M.objs p.name) = .ok x ∧ VOk M a ns bs nv bv w x e w') ∨ (∃ er, bindL (evals τ M.sig M.tbs M.objs l (envOf ns bs)) (appV τ M.sig M.tbs M.objs p.name) = .error er ∧ VErr M e w') := by
  have Hs := Lib.hid (hs.next (below_boxT w p))
  have Hb0 := Lib.hid (below_boxT w p)
  have Hf := Lib.hid hf
  have HL := Lib.hid hL
  have HV := Lib.hid hV
  have HT := Lib.hid hT
  have Hlo : Hid (M.w0.heap.size ≤ w.heap.size) := Lib.hid hs.below.size
  have HK : Hid (∀ k, stK a nv bv k → k < w.heap.size) := Lib.hid (fun k hk => (hs.lt hk).2)
  have Hbox : Hid ((boxT w p).heap[w.heap.size]? = some (.cells p.arr 29 (0, 0)) ∧ (boxT w p).heap.size = w.heap.size + 1) := Lib.hid ⟨heap_alloc_new w _, boxT_size w p⟩
  have HW0 : Hid (boxT w p = w.alloc (.cells #[.int .i64 p.op, .string p.name, .int .i64 p.sort, .string p.n, .slice p.A p.la p.ca, .slice p.V p.lv p.cv, .slice p.P p.lp p.cp] 29)) := Lib.hid rfl
  have Hm := Lib.hid hm
  have HM := Lib.hid hM
  have Hfn := Lib.hid hfn
  have Hout := Lib.hid hout
  obtain ⟨i9, hi9, hz0, hz1, hz2⟩ := info_parts infoS
  clear hs hf hL hV hT hm hM hfn hout
  obtain ⟨op', nm', so', n', A', la', ca', V', lv', cv', P', lp', cp'⟩ := p
  dsimp only at hla Hf Hfn
  subst hla
  unfold Parts.arr
  dsimp only
  go_enter Tryz.func40, Tryz.ntmps40
  go_wp2_with fail
  go_loopw [5, 18] (fun ov i wr => ∃ (k : Nat) (vs : List Vl) (vo nvk bvk : Value), vo = ov ∧ k ≤ l.length ∧ i = .int .i64 k ∧ Hid (evals τ M.sig M.tbs M.objs (l.take k) (envOf ns bs) = .ok vs ∧ vs.length = k) ∧ Hid (wr.ownsRow w.heap.size 9 1 vo k ((vs.map (textV τ)).map Value.string)) ∧ Hid (∀ j, vo.ownBlock = some j → ¬ stK a nvk bvk j) ∧ Hid (St M a ns bs nvk bvk wr) ∧ Hid (Fr (stK a nv bv) (stK a nvk bvk) w wr) ∧ Hid (wr.heap[w.heap.size]? = some (.cells (Parts.arr ⟨op', nm', so', n', A', l.length, ca', V', lv', cv', P', lp', cp'⟩) 29 (0, 0)))) (fun _ i _ => l.length - (intOf i).toNat)
  case atStart => exact ⟨0, [], _, nv, bv, rfl, Nat.zero_le _, rfl, Lib.hid ⟨rfl, rfl⟩, Lib.hid (World.ownsRow_nil _ _ _ _), Lib.hid (fun j hj => by cases hj), Hs, Lib.hid (Fr.of_below Hb0.out), Lib.hid Hbox.out.1⟩
  case round =>
    obtain ⟨k, vs, vo, nvk, bvk, rfl, hk, rfl, Hev, HO, HN, HS, HF, HR⟩ := hrel
    by_cases hlt : k < l.length
    · have Ht : Hid (l[k]? = some l[k]) := Lib.hid (List.getElem?_eq_getElem hlt)
      have Hv := Lib.hid (HL.out k _ Ht.out)
      obtain ⟨p, hp⟩ := Hv.out.parts
      obtain ⟨b, o, rfl, h0, h1, h2, h3, h4, h5, h6⟩ := (Hf.out.below HS.out.below).get hlt hp
      have Hnx := Lib.hid (evals_next l k vs _ Hev.out.1 Ht.out)
      have Hval := Lib.hid (HV.out k _ Ht.out)
      rw [hp] at Hval
      have Htr := Lib.hid (fun x => HT.out k _ x Ht.out)
      have HW2 : Hid (boxT wr p = wr.alloc (.cells #[.int .i64 p.op, .string p.name, .int .i64 p.sort, .string p.n, .slice p.A p.la p.ca, .slice p.V p.lv p.cv, .slice p.P p.lp p.cp] 29)) := Lib.hid rfl
      have Hbx := Lib.hid (below_boxT wr p)
      have HSb := Lib.hid (HS.out.next (below_boxT wr p))
      have hwsz : w.heap.size < wr.heap.size := (Array.getElem?_eq_some_iff.1 HR.out).1
      clear hp
      cases hr : evalT τ M.sig M.tbs M.objs l[k] (envOf ns bs) with
      | error er =>
        have Hcall := Lib.hid (Hval.out.err er hr nvk bvk _ HSb.out)
        obtain ⟨er', her'⟩ := Hnx.out.2 er hr
        have Her := Lib.hid her'
        clear hr Htr Hnx her'
        go_wp2_with (go_at_call 23; rw [← HW2.out]; refine Calls.mono Hcall.out ?_; rintro e w8 ⟨rfl, hb8⟩; have Hb8 := Lib.hid hb8; clear hb8)
        exact ⟨rfl, .inr ⟨er', by rw [Her.out]; rfl, rfl, Hb8.out⟩⟩
      | ok x =>
        have Hin := Lib.hid (Htr.out x hr)
        have Hcall := Lib.hid (Hval.out.ok x hr nvk bvk _ HSb.out)
        have Hev2 := Lib.hid (Hnx.out.1 _ hr)
        clear hr Htr Hnx
        go_wp2_with (first
          | (go_at_call 23; rw [← HW2.out]; refine Calls.mono Hcall.out ?_; rintro e w8 ⟨v8, nv8, bv8, rfl, hv8, hs8, hf8⟩; have HS8 := Lib.hid hs8; have HF8 := Lib.hid hf8; have HO8 := Lib.hid (own_below (own_kept HO.out Hbx.out) hf8 HN.out); have HN8 : Hid (∀ j, vo.ownBlock = some j → ¬ stK a nv8 bv8 j) := Lib.hid (fun j hj hk => (hf8.newer j hk).elim (HN.out j hj) (fun e => by have := (own_block HO.out hj).2.1; have := Hbx.out.size; omega)); have hsz8 := hf8.size; obtain ⟨T8, F8, u8, rfl, hm8, hcf8, hc8⟩ := text_any HM.out.text hv8 hs8.below Hin.out.1 Hm.out Hin.out.2; have Htx := Lib.hid hc8; clear hs8 hf8 hv8 hc8)
          | (at_builtin; refine wpList_append_own_at _ rfl (.tmp 22) (.tmp 27) 55 rfl w.heap.size 9 i9 _ 1 16 Tryz.underlying55 hi9 hz0 hz1 hz2 rfl (by decide) vo k _ rfl (HO9.out.alloc _) ⟨w9.heap.size, 0, none⟩ 1 1 [.string (textV τ x)] rfl rfl (cell_one_new _ _ _) (by intro u hu; simp at hu; subst hu; rfl) (by simp only [maxLen]; omega) (by omega) (by have h1 := HF.out.size; have h2 := Hbx.out.size; simp; omega) ?_; intro v10 w10 hown10 hg10 _ hat10; have HO10 := Lib.hid hown10; have HG10 := Lib.hid hg10; have HAt := Lib.hid hat10; clear hown10 hg10 hat10)
          | (refine Calls.mono Htx.out ?_; rintro e w9 ⟨rfl, hb9⟩; have Hb9 := Lib.hid hb9; have HS9 := Lib.hid (HS8.out.next hb9); have HO9 := Lib.hid (own_kept HO8.out hb9); have hsz9 := hb9.size; clear hb9))
        go_roundw
        case rel =>
          have hal : Below w9.heap.size w9 (w9.alloc (.cells #[.string (textV τ x)] 9)) := (Below.refl _ _).alloc (Nat.le_refl _) _
          have hvo : ∀ j, vo.ownBlock = some j → w.heap.size ≤ j ∧ j < wr.heap.size := fun j hj => ⟨(own_block HO.out hj).1, (own_block HO.out hj).2.1⟩
          have hS10 := (HS9.out.next hal).grown HG10.out (fun j hj => ⟨by have := (hvo j hj).1; have := Hlo.out; omega, HN8.out j hj⟩)
          have hF9 : Fr (stK a nv bv) (stK a nv8 bv8) w w9 := ((HF.out.then Hbx.out).trans HF8.out).then Hb9.out
          have hbox := Hbx.out.size
          have hrow : vo.ownBlock ≠ some w.heap.size := fun e => by
            obtain ⟨_, _, cur, hcur⟩ := own_block HO.out e
            rw [HR.out] at hcur
            cases hcur
          have hnw : ¬ stK a nvk bvk w.heap.size := HS.out.other HR.out (by decide) (by decide) (by decide)
          refine ⟨k + 1, vs ++ [x], v10, nv8, bv8, rfl, by omega, by go_num, Lib.hid ⟨Hev2.out, by simp [Hev.out.2]⟩, Lib.hid (by simpa using HO10.out), Lib.hid (fun j hj hk => ?_), Lib.hid hS10, Lib.hid (hF9.out (((Below.refl w.heap.size w9).alloc hF9.size _).grown HG10.out (by have := hF9.size; simp; omega) (fun j hj => (hvo j hj).1))), Lib.hid ?_⟩
          · rcases HAt.out with e | e
            · exact HN8.out j (e ▸ hj) hk
            · rw [e] at hj
              cases hj
              have := (HS8.out.lt hk).2
              simp at this
              omega
          · rw [HG10.out.block _ (by simp; omega) (fun e => hrow e.symm), hal.block _ (by omega), Hb9.out.block _ (by omega), HF8.out.block _ (by omega) hnw, Hbx.out.block _ hwsz]
            exact HR.out
        case measure => simp [intOf]; omega
    · have hkl : k = l.length := by omega
      subst hkl
      have hall : evals τ M.sig M.tbs M.objs l (envOf ns bs) = .ok vs := by have := Hev.out.1; rwa [List.take_length] at this
      have Hbind : Hid (bindL (evals τ M.sig M.tbs M.objs l (envOf ns bs)) (appV τ M.sig M.tbs M.objs nm') = appV τ M.sig M.tbs M.objs nm' vs) := Lib.hid (by rw [hall]; rfl)
      obtain ⟨x0, x1, x2, x3, x4, x5, x6⟩ := box_cells HR.out
      dsimp only at x0 x1 x2 x3 x4 x5 x6
      obtain ⟨j, hj1, hj2⟩ : ∃ j, firstFn M.sig nm' = some j ∧ M.sig[j]? = some fn := by
        have := Hfn.out
        unfold foundFn at this
        cases h : firstFn M.sig nm' with
        | none => rw [h] at this; cases this
        | some j => rw [h] at this; exact ⟨j, rfl, this⟩
      obtain ⟨b2, o2, B2, c2, hS2, g0, g1, g2, _⟩ := (HM.out.fns.mono HS.out.below).get hj2
      have hfi := appFn_index (c := M.cs) HM.out.nsig (HM.out.fns.mono (HS.out.below.trans ((Below.refl _ _).drew))) (show wr.drew.cell? ⟨w.heap.size, 1, none⟩ = some (.string nm') from x1)
      rw [hj1, hS2, show idxOf (some j) = (j : Int) from rfl] at hfi
      have Hfi := Lib.hid hfi
      have HSd := Lib.hid (HS.out.next ((Below.refl _ _).drew))
      have hj3 : j < M.sig.length := (List.getElem?_eq_some_iff.1 hj2).1
      have SD : wr.drew.cell? ⟨a, 0, none⟩ = some (.slice (some ⟨b2, o2, none⟩) M.sig.length M.cs) ∧ wr.drew.cell? ⟨b2, o2 + j * 3 + 2, none⟩ = some (.int .i64 fn.out) := ⟨by rw [← hS2]; exact (st_cells HS.out).1, g2⟩
      have k1 : (0 : Int) ≤ (j : Int) := by omega
      have k2 : (j : Int) < (M.sig.length : Int) := by omega
      have hnil : a = a := rfl
      clear hall hfi hj1 hj2 hS2 g0 g1 g2 hj3 hnil Hbox HW0
      generalize M.sig.length = nsig at *
      generalize M.cs = csg at *
      go_wp2_with fail
      go_region_held3 (fun w' => w'.cell? ⟨a, 0, none⟩ = some (.slice (some ⟨b2, o2, none⟩) nsig csg) ∧ w'.cell? ⟨b2, o2 + j * 3 + 2, none⟩ = some (.int .i64 fn.out))
        (first
          | (with_reducible exact SD)
          | (with_reducible exact S4))
        (first
          | (go_at_call 68; (with_reducible refine Calls.mono Hfi.out ?_); rintro e w3 ⟨rfl, hb3⟩
             have S4 := And.intro (cell_of_below hb3 (Nat.le_refl _) SD.1) (cell_of_below hb3 (Nat.le_refl _) SD.2)
             have Hb3 := Lib.hid hb3
             clear hb3))
      have HS3 := Lib.hid (HSd.out.next Hb3.out)
      have hR3 : w3.heap[w.heap.size]? = some (.cells (Parts.arr ⟨op', nm', so', n', A', l.length, ca', V', lv', cv', P', lp', cp'⟩) 29 (0, 0)) := (Hb3.out.block _ ((Array.getElem?_eq_some_iff.1 HR.out).1)).trans HR.out
      have HO3 := Lib.hid (own_kept (own_kept HO.out ((Below.refl wr.heap.size wr).drew)) Hb3.out)
      have Hwr3 : Hid (Below wr.heap.size wr w3) := Lib.hid (((Below.refl wr.heap.size wr).drew).trans Hb3.out)
      obtain ⟨y0, y1, y2, y3, y4, y5, y6⟩ := box_cells hR3
      dsimp only at y0 y1 y2 y3 y4 y5 y6
      obtain ⟨_, s1, s3, _, _⟩ := st_cells HS3.out
      have HR3 := Lib.hid hR3
      have hti := appTb_index (c := M.ct) HM.out.ntbs (HM.out.tbs.mono HS3.out.below) y1
      clear x0 x1 x2 x3 x4 x5 x6 SD S4 Hfi HSd Hb3 hR3
      rcases firstTb_table (tbs := M.tbs) (x := nm') with ⟨ht1, ht2⟩ | ⟨q, tb, ht1, ht2, ht3⟩
      · rw [ht1, show idxOf none = -1 from rfl] at hti
        have Hti := Lib.hid hti
        have Happ : Hid (appV τ M.sig M.tbs M.objs nm' vs = .error 40) := Lib.hid (by unfold appV; rw [ht2])
        clear hti ht1 ht2
        generalize M.tbs.length = ntb at *
        go_wp2_with (go_at_call 70; (with_reducible refine Calls.mono Hti.out ?_); rintro e w4 ⟨rfl, hb4⟩; have Hb4 := Lib.hid hb4; clear hb4)
        exact ⟨rfl, .inr ⟨40, by rw [Hbind.out]; exact Happ.out, rfl, HS3.out.below.trans (Hb4.out.mono HS3.out.below.size)⟩⟩
      · obtain ⟨b3, o3, B3, c3, hT3, t0, t1, t2, hrws⟩ := (HM.out.tbs.mono HS3.out.below).get ht2
        obtain ⟨Bv, dv, rfl, hBv⟩ := own_shape HO3.out
        rw [ht1, hT3, show idxOf (some q) = (q : Int) from rfl] at hti
        rw [hT3] at s1
        have Hti := Lib.hid hti
        have Happ : Hid (appV τ M.sig M.tbs M.objs nm' vs = ofRead (readV (rowOf tb.rows (vs.map (textV τ)) tb.els) fn.out M.objs)) := Lib.hid (appV_found ht3 Hfn.out)
        have Hsmall : Hid (tb.els.size ≤ 20000000 ∧ ∀ r ∈ tb.rows, r.2.size ≤ 20000000) := Lib.hid (by
          have h1 := HM.out.outs tb (List.mem_of_getElem? ht2)
          have h2 := HM.out.small
          exact ⟨by omega, fun r hr => by have := h1.2 r hr; omega⟩)
        have hq3 : q < M.tbs.length := (List.getElem?_eq_some_iff.1 ht2).1
        have k3 : (0 : Int) ≤ (q : Int) := by omega
        have k4 : (q : Int) < (M.tbs.length : Int) := by omega
        have Hrws := Lib.hid hrws
        have hrl : tb.rows.length ≤ 140737488355328 := TbsAt.len HM.out.tbs ht2
        have HBv := Lib.hid hBv
        have Hvl : Hid ((vs.map (textV τ)).length = l.length) := Lib.hid (by simpa using Hev.out.2)
        have HA4 : Hid (∀ w4, Below w3.heap.size w3 w4 → w4.cell? ⟨a, 1, none⟩ = some (.slice (some ⟨b3, o3, none⟩) M.tbs.length M.ct) ∧ w4.cell? ⟨b3, o3 + q * 3 + 1, none⟩ = some (.slice B3 tb.rows.length c3) ∧ w4.cell? ⟨b3, o3 + q * 3 + 2, none⟩ = some (.string tb.els) ∧ w4.cell? ⟨a, 3, none⟩ = some (.int .i64 M.objs)) := Lib.hid (fun w4 hb => ⟨cell_of_below hb (Nat.le_refl _) s1, cell_of_below hb (Nat.le_refl _) t1, cell_of_below hb (Nat.le_refl _) t2, cell_of_below hb (Nat.le_refl _) s3⟩)
        clear hti ht1 ht2 ht3 hT3 hrws hBv hq3 t0 t1 t2
        generalize M.tbs.length = ntb at *
        generalize M.ct = ctb at *
        go_wp2_with (go_at_call 70; (with_reducible refine Calls.mono Hti.out ?_); rintro e w4 ⟨rfl, hb4⟩; have Hb4 := Lib.hid hb4; obtain ⟨z1, z2, z3, z4⟩ := HA4.out w4 hb4; clear hb4)
        go_loopw [10, 73] (fun tv i wr => ∃ k : Nat, k ≤ tb.rows.length ∧ i = .int .i64 k ∧ tv = .string tb.els ∧ Hid (rowOf tb.rows (vs.map (textV τ)) tb.els = rowOf (tb.rows.drop k) (vs.map (textV τ)) tb.els) ∧ Hid (Below w3.heap.size w3 wr)) (fun _ i _ => tb.rows.length - (intOf i).toNat)
        case atStart => exact ⟨0, Nat.zero_le _, rfl, rfl, Lib.hid rfl, Hb4⟩
        case round =>
          obtain ⟨k, hk, rfl, rfl, Hro, Hbr⟩ := hrel
          by_cases hlt : k < tb.rows.length
          · obtain ⟨r, hr⟩ : ∃ r, tb.rows[k]? = some r := ⟨_, List.getElem?_eq_getElem hlt⟩
            obtain ⟨b4, o4, B4, c4, rfl, r0, r1, hst⟩ := (Hrws.out.mono Hbr.out).get hr
            have Hdr := Lib.hid (rowOf_drop (args := vs.map (textV τ)) (e := tb.els) hr)
            have Hal : Hid (Below w3.heap.size w3 (wr.alloc (.cells #[.slice B4 r.1.length c4, .string r.2] 57))) := Lib.hid (Hbr.out.alloc Hbr.out.size _)
            have heq := strs_equal (w := wr.alloc (.cells #[.slice B4 r.1.length c4, .string r.2] 57)) (c := c4) (d := dv) (hst.mono ((Below.refl _ _).alloc (Nat.le_refl _) _)) (HBv.out.mono Hal.out) (RwsAt.len Hrws.out hr) (by rw [Hvl.out]; omega)
            rw [Hvl.out] at heq
            have Hsz : Hid (r.2.size ≤ 20000000) := Lib.hid (Hsmall.out.2 r (List.mem_of_getElem? hr))
            have zb4 := (HA4.out wr Hbr.out).2.2.2
            clear hr hst z1 z2 z3 z4
            cases hd : decide (r.1 = vs.map (textV τ)) with
            | false =>
              rw [hd] at heq
              have Heq := Lib.hid heq
              have HD : Hid (rowOf tb.rows (vs.map (textV τ)) tb.els = rowOf (tb.rows.drop (k + 1)) (vs.map (textV τ)) tb.els) := Lib.hid (by rw [Hro.out, Hdr.out, hd]; rfl)
              clear hd heq Hdr
              go_wp2_with (go_at_call 72; (with_reducible refine Calls.mono Heq.out ?_); rintro e w5 ⟨rfl, hb5⟩; have Hb5 := Lib.hid hb5; clear hb5)
              go_roundw
              case rel => exact ⟨k + 1, by omega, by go_num, rfl, HD, Lib.hid (Hal.out.trans (Hb5.out.mono Hal.out.size))⟩
              case measure => simp [intOf]; omega
            | true =>
              rw [hd] at heq
              have Heq := Lib.hid heq
              have HD : Hid (rowOf tb.rows (vs.map (textV τ)) tb.els = r.2) := Lib.hid (by rw [Hro.out, Hdr.out, hd]; rfl)
              clear hd heq Hdr
              cases hrd : readV r.2 fn.out M.objs with
              | none =>
                have Hread := Lib.hid (read_none (by have := Hsz.out; omega) HM.out.objs Hout.out hrd)
                have HAp : Hid (appV τ M.sig M.tbs M.objs nm' vs = .error 40) := Lib.hid (by rw [Happ.out, HD.out, hrd]; rfl)
                clear hrd
                go_wp2_with (first
                  | (go_at_call 72; (with_reducible refine Calls.mono Heq.out ?_); rintro e w5 ⟨rfl, hb5⟩; have hbx : w5.cell? ⟨wr.heap.size, 1, none⟩ = some (.string r.2) := cell_of_below hb5 (Nat.le_refl _) (by rw [cell_of_row _ wr.heap.size 1 _ 57 (0, 0) (heap_alloc_new _ _)]; rfl); have zz4 : w5.cell? ⟨a, 3, none⟩ = some (.int .i64 M.objs) := (HA4.out w5 (Hal.out.trans (hb5.mono Hal.out.size))).2.2.2; have Hb5 := Lib.hid hb5; clear hb5)
                  | (go_at_call 73; (with_reducible refine Calls.mono (Hread.out _) ?_); rintro e w9 ⟨v9, rfl, hb9⟩; have Hb9 := Lib.hid hb9; clear hb9))
                have hb := Hal.out.trans (Hb5.out.mono Hal.out.size)
                exact ⟨rfl, .inr ⟨40, by rw [Hbind.out]; exact HAp.out, rfl, HS3.out.below.trans ((hb.trans (Hb9.out.mono hb.size)).mono HS3.out.below.size)⟩⟩
              | some x =>
                have Hread := Lib.hid (read_some (by have := Hsz.out; omega) HM.out.objs Hout.out hrd)
                have HAp : Hid (appV τ M.sig M.tbs M.objs nm' vs = .ok x) := Lib.hid (by rw [Happ.out, HD.out, hrd]; rfl)
                clear hrd
                go_wp2_with (first
                  | (go_at_call 72; (with_reducible refine Calls.mono Heq.out ?_); rintro e w5 ⟨rfl, hb5⟩; have hbx : w5.cell? ⟨wr.heap.size, 1, none⟩ = some (.string r.2) := cell_of_below hb5 (Nat.le_refl _) (by rw [cell_of_row _ wr.heap.size 1 _ 57 (0, 0) (heap_alloc_new _ _)]; rfl); have zz4 : w5.cell? ⟨a, 3, none⟩ = some (.int .i64 M.objs) := (HA4.out w5 (Hal.out.trans (hb5.mono Hal.out.size))).2.2.2; have Hb5 := Lib.hid hb5; clear hb5)
                  | (go_at_call 73; (with_reducible refine Calls.mono (Hread.out _) ?_); rintro e w9 ⟨v9, rfl, hv9, hb9⟩; have Hv9 := Lib.hid hv9; have Hb9 := Lib.hid hb9; clear hv9 hb9))
                go_ret
                have hb := Hal.out.trans (Hb5.out.mono Hal.out.size)
                have hb39 := hb.trans (Hb9.out.mono hb.size)
                exact .inl ⟨x, by rw [Hbind.out]; exact HAp.out, v9, nvk, bvk, rfl, Hv9.out, HS3.out.next hb39, (HF.out.then Hwr3.out).then hb39⟩
          · have Hsz : Hid (tb.els.size ≤ 20000000) := Lib.hid Hsmall.out.1
            have HD : Hid (rowOf tb.rows (vs.map (textV τ)) tb.els = tb.els) := Lib.hid (by rw [Hro.out, List.drop_of_length_le (by omega)]; rfl)
            have zb4 := (HA4.out wr Hbr.out).2.2.2
            clear z1 z2 z3 z4
            cases hrd : readV tb.els fn.out M.objs with
            | none =>
              have Hread := Lib.hid (read_none (by have := Hsz.out; omega) HM.out.objs Hout.out hrd)
              have HAp : Hid (appV τ M.sig M.tbs M.objs nm' vs = .error 40) := Lib.hid (by rw [Happ.out, HD.out, hrd]; rfl)
              clear hrd
              go_wp2_with (first
                | (go_at_call 73; (with_reducible refine Calls.mono (Hread.out _) ?_); rintro e w9 ⟨v9, rfl, hb9⟩; have Hb9 := Lib.hid hb9; clear hb9))
              have hb := Hbr.out
              exact ⟨rfl, .inr ⟨40, by rw [Hbind.out]; exact HAp.out, rfl, HS3.out.below.trans ((hb.trans (Hb9.out.mono hb.size)).mono HS3.out.below.size)⟩⟩
            | some x =>
              have Hread := Lib.hid (read_some (by have := Hsz.out; omega) HM.out.objs Hout.out hrd)
              have HAp : Hid (appV τ M.sig M.tbs M.objs nm' vs = .ok x) := Lib.hid (by rw [Happ.out, HD.out, hrd]; rfl)
              clear hrd
              go_wp2_with (first
                | (go_at_call 73; (with_reducible refine Calls.mono (Hread.out _) ?_); rintro e w9 ⟨v9, rfl, hv9, hb9⟩; have Hv9 := Lib.hid hv9; have Hb9 := Lib.hid hb9; clear hv9 hb9))
              go_ret
              have hb := Hbr.out
              have hb39 := hb.trans (Hb9.out.mono hb.size)
              exact .inl ⟨x, by rw [Hbind.out]; exact HAp.out, v9, nvk, bvk, rfl, Hv9.out, HS3.out.next hb39, (HF.out.then Hwr3.out).then hb39⟩
end Go.Proofs.YtbnonccmlildnaaGreat
