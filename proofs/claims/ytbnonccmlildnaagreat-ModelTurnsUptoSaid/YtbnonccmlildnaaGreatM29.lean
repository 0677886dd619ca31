/- all: a body with all objects. -/
import Derived.Test.YtbnonccmlildnaaGreatM28
import Derived.Deep.RegionLaw
set_option linter.unusedSimpArgs false
set_option linter.unusedVariables false
namespace Go.Proofs.YtbnonccmlildnaaGreat
open Go.RowKit

variable {M : Mdl} {τ : Nat → List UInt8} {a : Nat} {ns : List ByteArray} {bs : List Nat} {nv bv : Value} {w : World}
theorem St.grownN {w9 : World} (h : St M a ns bs nv bv w) (hg : w.grownBy w9 nv.ownBlock) : w9.cell? ⟨a, 4, none⟩ = some nv ∧ w9.frozen? ⟨a, 4, none⟩ = false := by
  have hna : nv.ownBlock ≠ some a := fun e => by
    obtain ⟨_, _, cur, hc⟩ := own_block h.names e
    rw [h.row] at hc
    cases hc
  have hr := (hg.block a (Array.getElem?_eq_some_iff.1 h.row).1 (fun e => hna e.symm)).trans h.row
  exact ⟨by rw [cell_of_row w9 a 4 _ 66 (0, 0) hr]; rfl, frozen_of_row w9 a 4 _ 66 hr⟩
theorem St.grownB {w9 : World} (h : St M a ns bs nv bv w) (hg : w.grownBy w9 bv.ownBlock) : w9.cell? ⟨a, 5, none⟩ = some bv ∧ w9.frozen? ⟨a, 5, none⟩ = false := by
  have hna : bv.ownBlock ≠ some a := fun e => by
    obtain ⟨_, _, cur, hc⟩ := own_block h.bound e
    rw [h.row] at hc
    cases hc
  have hr := (hg.block a (Array.getElem?_eq_some_iff.1 h.row).1 (fun e => hna e.symm)).trans h.row
  exact ⟨by rw [cell_of_row w9 a 5 _ 66 (0, 0) hr]; rfl, frozen_of_row w9 a 5 _ 66 hr⟩
theorem infoV : (Tryz.prog.info? 71).map (fun i => (i.zero, i.size, i.bytes)) = some (some .nilIface, 1, 16) := by kernel_rfl
theorem st_frozen (h : St M a ns bs nv bv w) (i : Nat) : w.frozen? ⟨a, i, none⟩ = false := frozen_of_row w a i _ 66 h.row
/-- What 'all' tells. -/
def APost (M : Mdl) (τ : Nat → List UInt8) (a : Nat) (body : Tm) (xs : List ByteArray) (ns : List ByteArray) (bs : List Nat) (nv bv : Value) (w : World) (e : Ending) (w' : World) : Prop :=
  (∃ b, allVars M.objs (fun env => boolOf (evalT τ M.sig M.tbs M.objs body env)) xs (envOf ns bs) = .ok b ∧ BOk M a ns bs nv bv w b e w') ∨ (∃ er, allVars M.objs (fun env => boolOf (evalT τ M.sig M.tbs M.objs body env)) xs (envOf ns bs) = .error er ∧ VErr M e w')
set_option maxRecDepth 100000 in
set_option maxHeartbeats 4000000 in
theorem all_zero {p : Parts} {vars : Bd} {body : Tm} {f : Nat → Value} {k : Nat} (hs : St M a ns bs nv bv w) (hk : k = p.lv) (hla : p.la = 1) (hf : RowCells M.w0 p.A 7 1 f) (hL : TmV M.w0 body (f 0)) (hlv : p.lv ≤ 1000000)
    (hb : ValOK M τ a ns bs body (f 0)) (ht : ∀ x, evalT τ M.sig M.tbs M.objs body (envOf ns bs) = .ok x → ∃ b, x = .tr b) :
    Calls Tryz.prog 77 #[.pointer (some ⟨a, 0, none⟩), .agg p.arr, .int .i64 k] w (APost M τ a body [] ns bs nv bv w) := by
  have Hs := Lib.hid (hs.next (below_boxT w p))
  have Hb0 := Lib.hid (below_boxT w p)
  have HW0 : Hid (boxT w p = w.alloc (.cells #[.int .i64 p.op, .string p.name, .int .i64 p.sort, .string p.n, .slice p.A p.la p.ca, .slice p.V p.lv p.cv, .slice p.P p.lp p.cp] 29)) := Lib.hid rfl
  obtain ⟨q, hq⟩ := hL.parts
  obtain ⟨b, o, hA, h0, h1, h2, h3, h4, h5, h6⟩ := (hf.below Hs.out.below).get (j := 0) (by decide) hq
  simp only [Nat.zero_mul, Nat.add_zero] at h0 h1 h2 h3 h4 h5 h6
  rw [hq] at hb
  rw [HW0.out] at h0 h1 h2 h3 h4 h5 h6
  obtain ⟨op', nm', so', n', A', la', ca', V', lv', cv', P', lp', cp'⟩ := p
  dsimp only at hA hla hk hlv
  subst hA hla hk
  cases hr : evalT τ M.sig M.tbs M.objs body (envOf ns bs) with
  | error er =>
    have Hcall := Lib.hid (bool_err (hb.fails hr Hs.out))
    have Hev : Hid (allVars M.objs (fun env => boolOf (evalT τ M.sig M.tbs M.objs body env)) [] (envOf ns bs) = .error er) := Lib.hid (by simp only [allVars, hr, boolOf])
    clear hs hf hL hb ht hr hq
    unfold Parts.arr
    dsimp only at HW0 ⊢
    go_enter Tryz.func77, Tryz.ntmps77
    go_wp2_with (go_at_call 39; rw [← HW0.out]; refine Calls.mono Hcall.out ?_; rintro e w8 ⟨rfl, hb8⟩; have Hb8 := Lib.hid hb8; clear hb8)
    exact ⟨rfl, .inr ⟨er, Hev.out, rfl, Hb8.out⟩⟩
  | ok x =>
    obtain ⟨c, rfl⟩ := ht x hr
    have Hcall := Lib.hid (bool_ok Hs.out (hb.asks hr Hs.out))
    have Hev : Hid (allVars M.objs (fun env => boolOf (evalT τ M.sig M.tbs M.objs body env)) [] (envOf ns bs) = .ok c) := Lib.hid (by simp only [allVars, hr, boolOf, asBool])
    clear hs hf hL hb ht hr hq
    unfold Parts.arr
    dsimp only at HW0 ⊢
    go_enter Tryz.func77, Tryz.ntmps77
    go_wp2_with (go_at_call 39; rw [← HW0.out]; refine Calls.mono Hcall.out ?_; rintro e w8 ⟨nv8, bv8, rfl, hs8, hf8⟩; have HS8 := Lib.hid hs8; have HF8 := Lib.hid hf8; clear hs8 hf8)
    go_ret
    exact .inl ⟨c, Hev.out, nv8, bv8, rfl, HS8.out, HF8.out.ahead Hb0.out⟩
set_option maxRecDepth 100000 in
set_option maxHeartbeats 4000000 in
theorem all_more {p : Parts} {vars : Bd} {body : Tm} {k : Nat} {x : ByteArray} {sx : Int} (hs : St M a ns bs nv bv w) (hl : ns.length = bs.length) (hnl : ns.length ≤ 1000000) (ho : M.objs ≤ 1000) (hlv : p.lv = vars.length) (hlv2 : vars.length ≤ 1000000) (hx : vars[k]? = some (x, sx)) (hV : RowCells M.w0 p.V 2 vars.length (bval vars))
    (hrec : ∀ i, i < M.objs → ∀ nv bv w, St M a (ns ++ [x]) (bs ++ [i]) nv bv w → Calls Tryz.prog 77 #[.pointer (some ⟨a, 0, none⟩), .agg p.arr, .int .i64 (k + 1 : Nat)] w (APost M τ a body ((vars.drop (k + 1)).map (·.1)) (ns ++ [x]) (bs ++ [i]) nv bv w)) :
    Calls Tryz.prog 77 #[.pointer (some ⟨a, 0, none⟩), .agg p.arr, .int .i64 k] w (APost M τ a body ((vars.drop k).map (·.1)) ns bs nv bv w) := by
  have Hs := Lib.hid (hs.next (below_boxT w p))
  have Hb0 := Lib.hid (below_boxT w p)
  have HW0 : Hid (boxT w p = w.alloc (.cells #[.int .i64 p.op, .string p.name, .int .i64 p.sort, .string p.n, .slice p.A p.la p.ca, .slice p.V p.lv p.cv, .slice p.P p.lp p.cp] 29)) := Lib.hid rfl
  have hkl : k < vars.length := (List.getElem?_eq_some_iff.1 hx).1
  have Hdrop : Hid ((vars.drop k).map (·.1) = x :: (vars.drop (k + 1)).map (·.1)) := Lib.hid (by
    rw [List.drop_eq_getElem_cons hkl]
    obtain ⟨_, he⟩ := List.getElem?_eq_some_iff.1 hx
    rw [he]
    rfl)
  obtain ⟨vb, vo, hVA, hv0, hv1⟩ := (hV.below Hs.out.below).bound hx
  obtain ⟨_, _, s3, s4, s5⟩ := st_cells Hs.out
  obtain ⟨_, _, r3, r4, r5⟩ := st_cells hs
  have hasz : a < w.heap.size := (Array.getElem?_eq_some_iff.1 hs.row).1
  have Hlo : Hid (M.w0.heap.size ≤ w.heap.size) := Lib.hid hs.below.size
  have Hl := Lib.hid hl
  have Hrec := Lib.hid hrec
  have Ho := Lib.hid ho
  obtain ⟨i9, hi9, hz0, hz1, hz2⟩ := info_parts infoS
  have Hbox : Hid (((boxT w p).drew.alloc (.cells #[.string x] 9)).heap[w.heap.size]? = some (.cells p.arr 29 (0, 0)) ∧ w.heap.size < ((boxT w p).drew.alloc (.cells #[.string x] 9)).heap.size) := Lib.hid ⟨(Below.heap_alloc (boxT w p).drew _ w.heap.size (show w.heap.size < (boxT w p).heap.size by rw [boxT_size]; omega)).trans (heap_alloc_new w _), by show w.heap.size < ((boxT w p).drew.alloc (.cells #[.string x] 9)).heap.size; simp [boxT]; omega⟩
  have HsD := Lib.hid (Hs.out.next (((Below.refl (boxT w p).heap.size (boxT w p)).drew).alloc (Nat.le_refl (boxT w p).heap.size) (.cells #[.string x] 9)))
  have HbD : Hid (Below w.heap.size w ((boxT w p).drew.alloc (.cells #[.string x] 9))) := Lib.hid (Hb0.out.drew.alloc Hb0.out.size _)
  obtain ⟨op', nm', so', n', A', la', ca', V', lv', cv', P', lp', cp'⟩ := p
  dsimp only at hVA hlv
  subst hVA hlv
  have HW0' : Hid (∀ v i, (boxT w ⟨op', nm', so', n', A', la', ca', some ⟨vb, vo, none⟩, vars.length, cv', P', lp', cp'⟩).cell? ⟨w.heap.size, i, none⟩ = some v → True) := Lib.hid (fun _ _ _ => trivial)
  rw [HW0.out] at hv0 hv1 s3 s4 s5 Hs Hb0 HsD HbD Hbox
  clear hs hrec hl hV hx HW0' ho
  have k1 : (0 : Int) ≤ (k : Int) := by omega
  have k2 : (k : Int) < (vars.length : Int) := by omega
  have hne : ((k : Int) == (vars.length : Int)) = false := by rw [beq_eq_false_iff_ne]; omega
  unfold Parts.arr
  dsimp only at HW0 Hs Hb0 HsD HbD Hbox hv0 hv1 s3 s4 s5 ⊢
  generalize vars.length = nvars at *
  go_enter Tryz.func77, Tryz.ntmps77
  go_wp2_with fail
  go_cut [] from 20 to 34 (fun wx => Hid (∃ g cap, St M a (ns ++ [x]) bs (.slice (some ⟨g, 0, none⟩) (ns.length + 1) cap) bv wx ∧ Fr (stK a nv bv) (stK a (.slice (some ⟨g, 0, none⟩) (ns.length + 1) cap) bv) w wx ∧ wx.heap[w.heap.size]? = some (.cells (Parts.arr ⟨op', nm', so', n', A', la', ca', some ⟨vb, vo, none⟩, nvars, cv', P', lp', cp'⟩) 29 (0, 0))))
  case first =>
    go_region_law (refine step_append_one _ rfl (.tmp 24) (.tmp 31) 55 rfl M.w0.heap.size 9 i9 _ 16 Tryz.underlying55 hi9 hz0 hz1 hz2 rfl nv ns.length (ns.map Value.string) (by simp [Act.eval, Act.put]) (Hs.out.names.drew.alloc _) ⟨w.heap.size + 1, 0, none⟩ 1 (.string x) (by simp [Act.eval, Act.put]) (by simp) rfl (by simp only [maxLen]; omega) (by omega) (by have := Hlo.out; simp; omega) ?_; intro g9 cap9 w9 hq9 hg9 hat9; obtain ⟨hc9, hf9⟩ := HsD.out.grownN hg9; have Hq9 := Lib.hid hq9; have Hg9 := Lib.hid hg9; have Hat9 := Lib.hid hat9; clear hq9 hg9 hat9)
    all_goals
      go_wp2_with fail
      go_meet
      case rel =>
        obtain ⟨e1, e2⟩ := HsD.out.pushN Hq9.out Hg9.out (by rcases Hat9.out with e | e; exact .inl e; exact .inr (by rw [e]; simp))
        have hrow : nv.ownBlock ≠ some w.heap.size := fun e => by
          obtain ⟨_, _, cur, hcur⟩ := own_block HsD.out.names e
          rw [Hbox.out.1] at hcur
          cases hcur
        refine Lib.hid ⟨g9, cap9, e1, e2.ahead HbD.out, ?_⟩
        rw [Below.heap_setCell _ _ _ _ (by simp; omega), Hg9.out.block _ Hbox.out.2 (fun e => hrow e.symm)]
        exact Hbox.out.1
  case rest =>
    obtain ⟨g1, c1, hS1, hF1, hR1⟩ := hcut.out
    have HS1 := Lib.hid hS1
    have HF1 := Lib.hid hF1
    have HR1 := Lib.hid hR1
    obtain ⟨_, _, q3, q4, q5⟩ := st_cells hS1
    clear hS1 hF1 hcut s3 s4 s5 r3 r4 r5 hv0 hv1 HsD HbD Hs
    go_wp2_with fail
    obtain ⟨F, hF⟩ : ∃ F : Nat → Except Int Bool, F = fun i => allVars M.objs (fun env => boolOf (evalT τ M.sig M.tbs M.objs body env)) ((vars.drop (k + 1)).map (·.1)) (envOf ns bs ++ [(x, .ob i)]) := ⟨_, rfl⟩
    have HFi : Hid (∀ i, allVars M.objs (fun env => boolOf (evalT τ M.sig M.tbs M.objs body env)) ((vars.drop (k + 1)).map (·.1)) (envOf (ns ++ [x]) (bs ++ [i])) = F i) := Lib.hid (fun i => by rw [hF, envOf_snoc Hl.out])
    have HFa : Hid (allVars M.objs (fun env => boolOf (evalT τ M.sig M.tbs M.objs body env)) ((vars.drop k).map (·.1)) (envOf ns bs) = allObs F 0 M.objs) := Lib.hid (by rw [Hdrop.out, hF]; rfl)
    have Hnvl : Hid (bs.length ≤ 1000000) := Lib.hid (by have := Hl.out; omega)
    have Hkn : Hid (∀ j, stK a nv bv j → True) := Lib.hid (fun _ _ => trivial)
    obtain ⟨i71, hi71, hy0, hy1, hy2⟩ := info_parts infoV
    have hobj := Ho.out
    clear hF hnl hkl
    go_loopw [7, 39] (fun kv iv wr => ∃ (i : Nat) (b : Bool) (nvk bvk : Value), i ≤ M.objs ∧ iv = .int .i64 i ∧ kv = .bool b ∧ Hid (allObs F 0 M.objs = andR b (allObs F i (M.objs - i))) ∧ Hid (St M a (ns ++ [x]) bs nvk bvk wr) ∧ Hid (Fr (stK a nv bv) (stK a nvk bvk) w wr) ∧ Hid (wr.heap[w.heap.size]? = some (.cells (Parts.arr ⟨op', nm', so', n', A', la', ca', some ⟨vb, vo, none⟩, nvars, cv', P', lp', cp'⟩) 29 (0, 0)))) (fun _ iv _ => M.objs - (intOf iv).toNat)
    case atStart => exact ⟨0, true, _, bv, Nat.zero_le _, rfl, rfl, Lib.hid (by rw [Nat.sub_zero]; cases allObs F 0 M.objs <;> simp [andR]), HS1, HF1, HR1⟩
    case round =>
      obtain ⟨i, b, nvk, bvk, hi, rfl, rfl, Hand, HS, HF, HR⟩ := hrel
      clear q3 q4 q5
      obtain ⟨_, _, _, p4, p5⟩ := st_cells HS.out
      have fz4 := st_frozen HS.out 4
      have fz5 := st_frozen HS.out 5
      have hszw : w.heap.size < wr.heap.size := (Array.getElem?_eq_some_iff.1 HR.out).1
      have haw : a < wr.heap.size := by omega
      by_cases hlt : i < M.objs
      · have hbl := Hnvl.out
        have Hsub : Hid (M.objs - i = M.objs - (i + 1) + 1) := Lib.hid (by omega)
        have HSa := Lib.hid (HS.out.next ((Below.refl wr.heap.size wr).alloc (Nat.le_refl _) (.cells #[obV i] 71)))
        have hlo2 : M.w0.heap.size ≤ wr.heap.size := by have := Hlo.out; omega
        have hrb : bvk.ownBlock ≠ some w.heap.size := fun e => by
          obtain ⟨_, _, cur, hcur⟩ := own_block HS.out.bound e
          rw [HR.out] at hcur
          cases hcur
        have Hrb := Lib.hid hrb
        clear hrb
        cases hr : F i with
        | error er =>
          have Hrec2 : Hid (∀ nv bv w, St M a (ns ++ [x]) (bs ++ [i]) nv bv w → Calls Tryz.prog 77 #[.pointer (some ⟨a, 0, none⟩), .agg #[.int .i64 op', .string nm', .int .i64 so', .string n', .slice A' la' ca', .slice (some ⟨vb, vo, none⟩) nvars cv', .slice P' lp' cp'], .int .i64 ((k : Int) + 1)] w (VErr M)) := Lib.hid (fun nv bv w h => (Hrec.out i hlt nv bv w h).mono fun e w' hp => by
            rcases hp with ⟨b, hb, _⟩ | ⟨er', _, hv⟩
            · rw [HFi.out, hr] at hb; cases hb
            · exact hv)
          have Hfin : Hid (allObs F 0 M.objs = .error er) := Lib.hid (by rw [Hand.out, Hsub.out]; exact allObs_next.2 er hr)
          clear hr
          go_wp2_with (first
            | (at_builtin; refine wpList_append_own_at _ rfl (.tmp 46) (.tmp 49) 64 rfl M.w0.heap.size 71 i71 _ 1 16 Tryz.underlying64 hi71 hy0 hy1 hy2 rfl (by decide) bvk bs.length _ rfl HSa.out.bound ⟨wr.heap.size, 0, none⟩ 1 1 [obV i] rfl rfl (cell_one_new _ _ _) (by intro u hu; simp at hu; subst hu; rfl) (by simp only [maxLen]; omega) (by omega) (by simp; omega) ?_; intro v9 w9 hown9 hg9 _ hat9; obtain ⟨g9, c9, rfl, _, _, _⟩ := own_head hown9 (by omega); obtain ⟨hc9, hf9⟩ := HSa.out.grownB hg9; obtain ⟨hs10, hf10⟩ := HSa.out.pushB hown9 hg9 (by rcases hat9 with e | e; exact .inl e.symm; exact .inr (by simp [Value.ownBlock] at e; simp; omega)); have hr9 : w9.heap[w.heap.size]? = _ := (hg9.block _ (by simp; omega) (fun e => Hrb.out e.symm)).trans ((Below.heap_alloc wr (.cells #[obV i] 71) w.heap.size hszw).trans HR.out); obtain ⟨z0, z1, z2, z3, z4, z5, z6⟩ := box_cells hr9; dsimp only at z0 z1 z2 z3 z4 z5 z6; have HS10 := Lib.hid hs10; have HF10 := Lib.hid hf10; clear hown9 hg9 hat9 hs10 hf10 hr9)
            | (go_at_call 77; refine Calls.mono (Hrec2.out _ _ _ HS10.out) ?_; rintro e w11 ⟨rfl, hb11⟩; have Hb11 := Lib.hid hb11; clear hb11))
          exact ⟨rfl, .inr ⟨er, by rw [HFa.out]; exact Hfin.out, rfl, Hb11.out⟩⟩
        | ok b2 =>
          have Hrec2 : Hid (∀ nv bv w, St M a (ns ++ [x]) (bs ++ [i]) nv bv w → Calls Tryz.prog 77 #[.pointer (some ⟨a, 0, none⟩), .agg #[.int .i64 op', .string nm', .int .i64 so', .string n', .slice A' la' ca', .slice (some ⟨vb, vo, none⟩) nvars cv', .slice P' lp' cp'], .int .i64 ((k : Int) + 1)] w (BOk M a (ns ++ [x]) (bs ++ [i]) nv bv w b2)) := Lib.hid (fun nv bv w h => (Hrec.out i hlt nv bv w h).mono fun e w' hp => by
            rcases hp with ⟨b, hb, hk⟩ | ⟨er', he, _⟩
            · rw [HFi.out, hr] at hb; cases hb; exact hk
            · rw [HFi.out, hr] at he; cases he)
          have Hand2 : Hid (allObs F 0 M.objs = andR (b2 && b) (allObs F (i + 1) (M.objs - (i + 1)))) := Lib.hid (by rw [Hand.out, Hsub.out]; exact allObs_next.1 b2 hr)
          clear hr
          cases b2 with
          | true =>
            go_wp2_with (first
              | (at_builtin; refine wpList_append_own_at _ rfl (.tmp 46) (.tmp 49) 64 rfl M.w0.heap.size 71 i71 _ 1 16 Tryz.underlying64 hi71 hy0 hy1 hy2 rfl (by decide) bvk bs.length _ rfl HSa.out.bound ⟨wr.heap.size, 0, none⟩ 1 1 [obV i] rfl rfl (cell_one_new _ _ _) (by intro u hu; simp at hu; subst hu; rfl) (by simp only [maxLen]; omega) (by omega) (by simp; omega) ?_; intro v9 w9 hown9 hg9 _ hat9; obtain ⟨g9, c9, rfl, _, _, _⟩ := own_head hown9 (by omega); obtain ⟨hc9, hf9⟩ := HSa.out.grownB hg9; obtain ⟨hs10, hf10⟩ := HSa.out.pushB hown9 hg9 (by rcases hat9 with e | e; exact .inl e.symm; exact .inr (by simp [Value.ownBlock] at e; simp; omega)); have hr9 : w9.heap[w.heap.size]? = _ := (hg9.block _ (by simp; omega) (fun e => Hrb.out e.symm)).trans ((Below.heap_alloc wr (.cells #[obV i] 71) w.heap.size hszw).trans HR.out); obtain ⟨z0, z1, z2, z3, z4, z5, z6⟩ := box_cells hr9; dsimp only at z0 z1 z2 z3 z4 z5 z6; have HS10 := Lib.hid hs10; have HF10 := Lib.hid hf10; clear hown9 hg9 hat9 hs10 hf10 hr9)
              | (go_at_call 77; refine Calls.mono (Hrec2.out _ _ _ HS10.out) ?_; rintro e w11 ⟨nv11, bv11, rfl, hs11, hf11⟩; have hb11 : w11.ownsRow M.w0.heap.size 71 1 bv11 (bs.length + 1) ((bs ++ [i]).map obV) := (by have h5 := hs11.bound; rw [List.length_append] at h5; exact h5); obtain ⟨g11, c11, rfl, _, _, hc11⟩ := own_head hb11 (by simp); obtain ⟨_, _, _, _, v5⟩ := st_cells hs11; have fw5 := st_frozen hs11 5; have hcc : bs.length + 1 ≤ c11 := hc11; have HS11 := Lib.hid hs11; have HF11 := Lib.hid hf11; clear hs11 hf11 hb11 hc11))
            go_region
            go_wp2_with fail
            go_roundw
            case rel =>
              obtain ⟨e1, e2⟩ := HS11.out.popB (n := bs.length) rfl
              have hft := ((((Fr.of_below ((Below.refl wr.heap.size wr).alloc (Nat.le_refl _) (.cells #[obV i] 71))).trans HF10.out).trans HF11.out).trans e2).then ((Below.refl _ _).drew)
              exact ⟨i + 1, b, nv11, _, by omega, by go_num, rfl, Hand2, Lib.hid (e1.next ((Below.refl _ _).drew)), Lib.hid (HF.out.trans hft), Lib.hid ((hft.block _ hszw (HS.out.other HR.out (by decide) (by decide) (by decide))).trans HR.out)⟩
            case measure => simp [intOf]; omega
          | false =>
            go_wp2_with (first
              | (at_builtin; refine wpList_append_own_at _ rfl (.tmp 46) (.tmp 49) 64 rfl M.w0.heap.size 71 i71 _ 1 16 Tryz.underlying64 hi71 hy0 hy1 hy2 rfl (by decide) bvk bs.length _ rfl HSa.out.bound ⟨wr.heap.size, 0, none⟩ 1 1 [obV i] rfl rfl (cell_one_new _ _ _) (by intro u hu; simp at hu; subst hu; rfl) (by simp only [maxLen]; omega) (by omega) (by simp; omega) ?_; intro v9 w9 hown9 hg9 _ hat9; obtain ⟨g9, c9, rfl, _, _, _⟩ := own_head hown9 (by omega); obtain ⟨hc9, hf9⟩ := HSa.out.grownB hg9; obtain ⟨hs10, hf10⟩ := HSa.out.pushB hown9 hg9 (by rcases hat9 with e | e; exact .inl e.symm; exact .inr (by simp [Value.ownBlock] at e; simp; omega)); have hr9 : w9.heap[w.heap.size]? = _ := (hg9.block _ (by simp; omega) (fun e => Hrb.out e.symm)).trans ((Below.heap_alloc wr (.cells #[obV i] 71) w.heap.size hszw).trans HR.out); obtain ⟨z0, z1, z2, z3, z4, z5, z6⟩ := box_cells hr9; dsimp only at z0 z1 z2 z3 z4 z5 z6; have HS10 := Lib.hid hs10; have HF10 := Lib.hid hf10; clear hown9 hg9 hat9 hs10 hf10 hr9)
              | (go_at_call 77; refine Calls.mono (Hrec2.out _ _ _ HS10.out) ?_; rintro e w11 ⟨nv11, bv11, rfl, hs11, hf11⟩; have hb11 : w11.ownsRow M.w0.heap.size 71 1 bv11 (bs.length + 1) ((bs ++ [i]).map obV) := (by have h5 := hs11.bound; rw [List.length_append] at h5; exact h5); obtain ⟨g11, c11, rfl, _, _, hc11⟩ := own_head hb11 (by simp); obtain ⟨_, _, _, _, v5⟩ := st_cells hs11; have fw5 := st_frozen hs11 5; have hcc : bs.length + 1 ≤ c11 := hc11; have HS11 := Lib.hid hs11; have HF11 := Lib.hid hf11; clear hs11 hf11 hb11 hc11))
            go_region
            go_wp2_with fail
            go_roundw
            case rel =>
              obtain ⟨e1, e2⟩ := HS11.out.popB (n := bs.length) rfl
              have hft := ((((Fr.of_below ((Below.refl wr.heap.size wr).alloc (Nat.le_refl _) (.cells #[obV i] 71))).trans HF10.out).trans HF11.out).trans e2).then ((Below.refl _ _).drew)
              exact ⟨i + 1, false, nv11, _, by omega, by go_num, rfl, Hand2, Lib.hid (e1.next ((Below.refl _ _).drew)), Lib.hid (HF.out.trans hft), Lib.hid ((hft.block _ hszw (HS.out.other HR.out (by decide) (by decide) (by decide))).trans HR.out)⟩
            case measure => simp [intOf]; omega
      · have hin : i = M.objs := by omega
        subst hin
        have Hall : Hid (allObs F 0 M.objs = .ok b) := Lib.hid (by rw [Hand.out, Nat.sub_self]; simp [allObs, andR])
        have hnm : wr.ownsRow M.w0.heap.size 9 1 nvk (ns.length + 1) ((ns ++ [x]).map Value.string) := by have h5 := HS.out.names; rw [List.length_append] at h5; exact h5
        obtain ⟨g11, c11, rfl, _, _, hcc⟩ := own_head hnm (by omega)
        have hnb : ns.length ≤ 1000000 := by have h1 := Hl.out; have h2 := Hnvl.out; omega
        clear hnm
        go_wp2_with fail
        go_region
        go_wp2_with fail
        go_ret
        obtain ⟨e1, e2⟩ := HS.out.popN (n := ns.length) rfl
        exact .inl ⟨b, by rw [HFa.out]; exact Hall.out, _, bvk, rfl, e1.next ((Below.refl _ _).drew), (HF.out.trans e2).then ((Below.refl _ _).drew)⟩
end Go.Proofs.YtbnonccmlildnaaGreat

/- Formulas: equality, quantifiers, connectives. -/
namespace Go.Proofs.YtbnonccmlildnaaGreat
open Go.RowKit

variable {M : Mdl} {τ : Nat → List UInt8} {a : Nat} {ns : List ByteArray} {bs : List Nat} {nv bv : Value} {w : World}
theorem all_any {p : Parts} {vars : Bd} {body : Tm} {f : Nat → Value} {ns0 : List ByteArray} {bs0 : List Nat} (ho : M.objs ≤ 1000) (hl0 : ns0.length = bs0.length) (hn : ns0.length + vars.length ≤ 1000000) (hlv : p.lv = vars.length) (hV : RowCells M.w0 p.V 2 vars.length (bval vars)) (hla : p.la = 1) (hf : RowCells M.w0 p.A 7 1 f) (hL : TmV M.w0 body (f 0))
    (hb : ∀ ks : List Nat, ks.length = vars.length → (∀ j ∈ ks, j < M.objs) → ValOK M τ a (ns0 ++ vars.map (·.1)) (bs0 ++ ks) body (f 0) ∧ ∀ x, evalT τ M.sig M.tbs M.objs body (envOf (ns0 ++ vars.map (·.1)) (bs0 ++ ks)) = .ok x → ∃ b, x = .tr b) :
    ∀ (m k : Nat) (ks : List Nat), k + m = vars.length → ks.length = k → (∀ j ∈ ks, j < M.objs) → ∀ nv bv w, St M a (ns0 ++ (vars.take k).map (·.1)) (bs0 ++ ks) nv bv w →
      Calls Tryz.prog 77 #[.pointer (some ⟨a, 0, none⟩), .agg p.arr, .int .i64 k] w (APost M τ a body ((vars.drop k).map (·.1)) (ns0 ++ (vars.take k).map (·.1)) (bs0 ++ ks) nv bv w) := by
  intro m
  induction m with
  | zero =>
    intro k ks hk hks hj nv bv w hs
    have hkv : k = vars.length := by omega
    subst hkv
    rw [List.take_length] at hs ⊢
    rw [List.drop_length]
    obtain ⟨h1, h2⟩ := hb ks hks hj
    exact all_zero (vars := vars) hs hlv.symm hla hf hL (by omega) h1 h2
  | succ m ih =>
    intro k ks hk hks hj nv bv w hs
    have hx : vars[k]? = some vars[k] := List.getElem?_eq_getElem (by omega)
    have htk : (vars.take (k + 1)).map (·.1) = (vars.take k).map (·.1) ++ [vars[k].1] := by
      rw [List.take_add_one, hx, List.map_append]
      rfl
    refine all_more (x := vars[k].1) (sx := vars[k].2) hs (by simp; omega) (by simp; omega) ho hlv (by omega) hx hV fun i hi nv bv w hs2 => ?_
    have := ih (k + 1) (ks ++ [i]) (by omega) (by simp [hks]) (fun j hj2 => by
      rcases List.mem_append.1 hj2 with h | h
      · exact hj j h
      · simp at h; subst h; exact hi) nv bv w (by rw [htk, ← List.append_assoc, ← List.append_assoc]; exact hs2)
    rw [htk, ← List.append_assoc, ← List.append_assoc] at this
    exact this
/-- A formula's truth, or that it can't be told. -/
def BPost (M : Mdl) (a : Nat) (ns : List ByteArray) (bs : List Nat) (nv bv : Value) (w : World) (r : Except Int Vl) (e : Ending) (w' : World) : Prop :=
  (∃ b, r = .ok (.tr b) ∧ BOk M a ns bs nv bv w b e w') ∨ (∃ er, r = .error er ∧ VErr M e w')
/-- What is known of a list of two terms. -/
structure Two (M : Mdl) (τ : Nat → List UInt8) (a : Nat) (ns : List ByteArray) (bs : List Nat) (m : Nat) (p : Parts) (t0 t1 : Tm) (q0 q1 : Parts) : Prop where
  la : p.la = 2
  cells : ∃ b o, p.A = some ⟨b, o, none⟩ ∧ ∀ w, Below M.w0.heap.size M.w0 w → (∀ i, i < 7 → w.cell? ⟨b, o + i, none⟩ = q0.arr[i]?) ∧ (∀ i, i < 7 → w.cell? ⟨b, o + 7 + i, none⟩ = q1.arr[i]?)
  v0 : ValOK M τ a ns bs t0 (.agg q0.arr)
  v1 : ValOK M τ a ns bs t1 (.agg q1.arr)
  i0 : ∀ x, evalT τ M.sig M.tbs M.objs t0 (envOf ns bs) = .ok x → VlIn M m x
  i1 : ∀ x, evalT τ M.sig M.tbs M.objs t1 (envOf ns bs) = .ok x → VlIn M m x
theorem seven {w : World} {b o : Nat} {q : Parts} (h : ∀ i, i < 7 → w.cell? ⟨b, o + i, none⟩ = q.arr[i]?) : w.cell? ⟨b, o, none⟩ = some (.int .i64 q.op) ∧ w.cell? ⟨b, o + 1, none⟩ = some (.string q.name) ∧ w.cell? ⟨b, o + 2, none⟩ = some (.int .i64 q.sort) ∧ w.cell? ⟨b, o + 3, none⟩ = some (.string q.n) ∧ w.cell? ⟨b, o + 4, none⟩ = some (.slice q.A q.la q.ca) ∧ w.cell? ⟨b, o + 5, none⟩ = some (.slice q.V q.lv q.cv) ∧ w.cell? ⟨b, o + 6, none⟩ = some (.slice q.P q.lp q.cp) :=
  ⟨h 0 (by omega), h 1 (by omega), h 2 (by omega), h 3 (by omega), h 4 (by omega), h 5 (by omega), h 6 (by omega)⟩
theorem evals_pair {sig : List Fn} {tbs : List Tb} {objs : Nat} {env : Env} {t0 t1 : Tm} {F : List Vl → Except Int Vl} :
    (∀ e, evalT τ sig tbs objs t0 env = .error e → bindL (evals τ sig tbs objs [t0, t1] env) F = .error e) ∧ (∀ x e, evalT τ sig tbs objs t0 env = .ok x → evalT τ sig tbs objs t1 env = .error e → bindL (evals τ sig tbs objs [t0, t1] env) F = .error e) ∧
    (∀ x y, evalT τ sig tbs objs t0 env = .ok x → evalT τ sig tbs objs t1 env = .ok y → bindL (evals τ sig tbs objs [t0, t1] env) F = F [x, y]) := by
  refine ⟨fun e h => ?_, fun x e h k => ?_, fun x y h k => ?_⟩
  · simp [evals, h, consV, bindL]
  · simp [evals, h, k, consV, bindL]
  · simp [evals, h, k, consV, bindL]
set_option maxRecDepth 100000 in
set_option maxHeartbeats 4000000 in
theorem form_eq {L m : Nat} (hM : MOk M τ L) {p q0 q1 : Parts} {t0 t1 : Tm} {n : ByteArray} (hs : St M a ns bs nv bv w) (hop : p.op = 9) (h2 : Two M τ a ns bs m p t0 t1 q0 q1) (hm : m ≤ 1000000000000) :
    Calls Tryz.prog 43 #[.pointer (some ⟨a, 0, none⟩), .agg p.arr] w (BPost M a ns bs nv bv w (bindL (evals τ M.sig M.tbs M.objs [t0, t1] (envOf ns bs)) fun vs => .ok (combV τ 9 n vs))) := by
  obtain ⟨e1, e2, e3⟩ := evals_pair (τ := τ) (sig := M.sig) (tbs := M.tbs) (objs := M.objs) (env := envOf ns bs) (t0 := t0) (t1 := t1) (F := fun vs => .ok (combV τ 9 n vs))
  generalize bindL (evals τ M.sig M.tbs M.objs [t0, t1] (envOf ns bs)) (fun vs => .ok (combV τ 9 n vs)) = r at *
  obtain ⟨hla, ⟨b, o, hA, hc⟩, v0, v1, i0, i1⟩ := h2
  have Hs := Lib.hid (hs.next (below_boxT w p))
  have Hb0 := Lib.hid (below_boxT w p)
  have HW0 : Hid (boxT w p = w.alloc (.cells #[.int .i64 p.op, .string p.name, .int .i64 p.sort, .string p.n, .slice p.A p.la p.ca, .slice p.V p.lv p.cv, .slice p.P p.lp p.cp] 29)) := Lib.hid rfl
  have Hbox : Hid ((boxT w p).heap[w.heap.size]? = some (.cells p.arr 29 (0, 0)) ∧ w.heap.size < (boxT w p).heap.size) := Lib.hid ⟨heap_alloc_new w _, by rw [boxT_size]; omega⟩
  have Hc := Lib.hid hc
  obtain ⟨c0, c1, c2, c3, c4, c5, c6⟩ := seven (hc _ Hs.out.below).1
  rw [HW0.out] at c0 c1 c2 c3 c4 c5 c6
  obtain ⟨op', nm', so', n', A', la', ca', V', lv', cv', P', lp', cp'⟩ := p
  dsimp only at hA hla hop HW0
  subst hA hla hop
  clear hs hc
  unfold Parts.arr
  dsimp only at c0 c1 c2 c3 c4 c5 c6 ⊢
  cases hr0 : evalT τ M.sig M.tbs M.objs t0 (envOf ns bs) with
  | error er =>
    have Hcall := Lib.hid (v0.err er hr0 _ _ _ Hs.out)
    have Hr := Lib.hid (e1 er hr0)
    clear e1 e2 e3 v0 v1 i0 i1 hr0
    go_enter Tryz.func43, Tryz.ntmps43
    go_wp2_with (go_at_call 23; rw [← HW0.out]; refine Calls.mono Hcall.out ?_; rintro e w8 ⟨rfl, hb8⟩; have Hb8 := Lib.hid hb8; clear hb8)
    exact ⟨rfl, .inr ⟨er, Hr.out, rfl, Hb8.out⟩⟩
  | ok x =>
    have Hcall := Lib.hid (v0.ok x hr0 _ _ _ Hs.out)
    have Hin := Lib.hid (i0 x hr0)
    have Hv1 := Lib.hid v1
    cases hr1 : evalT τ M.sig M.tbs M.objs t1 (envOf ns bs) with
    | error er =>
      have Hcall1 := Lib.hid (v1.err er hr1)
      have Hr := Lib.hid (e2 x er hr0 hr1)
      clear e1 e2 e3 v0 v1 i0 i1 hr0 hr1
      have HM := Lib.hid hM
      have Hm := Lib.hid hm
      clear hM hm
      go_enter Tryz.func43, Tryz.ntmps43
      go_wp2_with (first
        | (go_at_call 23; first
            | (rw [← HW0.out]; refine Calls.mono Hcall.out ?_; rintro e w8 ⟨v8, nv8, bv8, rfl, hv8, hs8, hf8⟩; have HS8 := Lib.hid hs8; have HR8 := Lib.hid ((hf8.block _ Hbox.out.2 (Hs.out.other Hbox.out.1 (by decide) (by decide) (by decide))).trans Hbox.out.1); have HF8 := Lib.hid hf8; obtain ⟨T8, F8, u8, rfl, hm8, hcf8, hc8⟩ := text_any HM.out.text hv8 hs8.below Hin.out.1 Hm.out Hin.out.2; have Htx := Lib.hid hc8; clear hs8 hf8 hv8 hc8)
            | (refine Calls.mono (Hcall1.out _ _ _ HS9.out) ?_; rintro e w10 ⟨rfl, hb10⟩; have Hb10 := Lib.hid hb10; clear hb10))
        | (refine Calls.mono Htx.out ?_; rintro e w9 ⟨rfl, hb9⟩; have HS9 := Lib.hid (HS8.out.next hb9); have hr9 := (hb9.block _ ((Array.getElem?_eq_some_iff.1 HR8.out).1)).trans HR8.out; obtain ⟨z0, z1, z2, z3, z4, z5, z6⟩ := box_cells hr9; dsimp only at z0 z1 z2 z3 z4 z5 z6; obtain ⟨d0, d1, d2, d3, d4, d5, d6⟩ := seven (Hc.out _ HS9.out.below).2; have Hb9 := Lib.hid hb9; clear hb9 hr9))
      exact ⟨rfl, .inr ⟨er, Hr.out, rfl, Hb10.out⟩⟩
    | ok y =>
      have Hcall1 := Lib.hid (v1.ok y hr1)
      have Hin1 := Lib.hid (i1 y hr1)
      have Hr := Lib.hid (e3 x y hr0 hr1)
      clear e1 e2 e3 v0 v1 i0 i1 hr0 hr1
      have HM := Lib.hid hM
      have Hm := Lib.hid hm
      clear hM hm
      obtain ⟨s0, hs0⟩ : ∃ s, s = textV τ x := ⟨_, rfl⟩
      obtain ⟨s1, hs1⟩ : ∃ s, s = textV τ y := ⟨_, rfl⟩
      have HX := Lib.hid (And.intro hs0 hs1)
      clear hs0 hs1
      go_enter Tryz.func43, Tryz.ntmps43
      go_wp2_with (first
        | (go_at_call 23; first
            | (rw [← HW0.out]; refine Calls.mono Hcall.out ?_; rintro e w8 ⟨v8, nv8, bv8, rfl, hv8, hs8, hf8⟩; have HS8 := Lib.hid hs8; have HR8 := Lib.hid ((hf8.block _ Hbox.out.2 (Hs.out.other Hbox.out.1 (by decide) (by decide) (by decide))).trans Hbox.out.1); have HF8 := Lib.hid hf8; obtain ⟨T8, F8, u8, rfl, hm8, hcf8, hc8⟩ := text_any HM.out.text hv8 hs8.below Hin.out.1 Hm.out Hin.out.2; rw [← HX.out.1] at hc8; have Htx := Lib.hid hc8; clear hs8 hf8 hv8 hc8)
            | (refine Calls.mono (Hcall1.out _ _ _ HS9.out) ?_; rintro e w10 ⟨v10, nv10, bv10, rfl, hv10, hs10, hf10⟩; have HS10 := Lib.hid hs10; have HF10 := Lib.hid hf10; obtain ⟨T10, F10, u10, rfl, hm10, hcf10, hc10⟩ := text_any HM.out.text hv10 hs10.below Hin1.out.1 Hm.out Hin1.out.2; rw [← HX.out.2] at hc10; have Htx1 := Lib.hid hc10; clear hs10 hf10 hv10 hc10))
        | (refine Calls.mono Htx1.out ?_; rintro e w11 ⟨rfl, hb11⟩; have HS11 := Lib.hid (HS10.out.next hb11); have Hb11 := Lib.hid hb11; clear hb11)
        | (refine Calls.mono Htx.out ?_; rintro e w9 ⟨rfl, hb9⟩; have HS9 := Lib.hid (HS8.out.next hb9); have hr9 := (hb9.block _ ((Array.getElem?_eq_some_iff.1 HR8.out).1)).trans HR8.out; obtain ⟨z0, z1, z2, z3, z4, z5, z6⟩ := box_cells hr9; dsimp only at z0 z1 z2 z3 z4 z5 z6; obtain ⟨d0, d1, d2, d3, d4, d5, d6⟩ := seven (Hc.out _ HS9.out.below).2; have Hb9 := Lib.hid hb9; clear hb9 hr9))
      go_ret
      refine .inl ⟨_, ?_, nv10, bv10, rfl, HS11.out, (((HF8.out.ahead Hb0.out).then Hb9.out).trans HF10.out).then Hb11.out⟩
      rw [Hr.out]
      show Except.ok (Vl.tr ((textV τ x).toList == (textV τ y).toList)) = _
      rw [← HX.out.1, ← HX.out.2]
end Go.Proofs.YtbnonccmlildnaaGreat
