/- check of an operator that is an equality. -/
import Derived.Test.YtbnonccmlildnaaGreatM10
set_option linter.unusedSimpArgs false
set_option linter.unusedVariables false
namespace Go.Proofs.YtbnonccmlildnaaGreat
open Go.RowKit Go.Lib

set_option maxRecDepth 100000 in
set_option maxHeartbeats 4000000 in
theorem check_equal {w0 w' : World} {sig : List Fn} {K : Nat} {S : Option Addr} {cs : Nat} {bd : Bd} {op ts : Int} {name tn : ByteArray} {l : List Tm} {vars : Bd} {pat : List Tm} {p : Parts} {f : Nat → Value} (h : CkPre w0 w' sig K S cs bd op ts name tn l vars pat p) (hs : shapeB (.mk op name ts tn l vars pat) = true) (he : ofE sig op name ts l.length bd = 0) (h19 : op ≠ 19)
    (hnv : ∀ nv, NodeV w0 sig op name ts l.length nv → nv = .iface 159 (.agg #[]) ∧ SortOK w0 sig op ts name l.length 143 (.agg #[]))
    (hf : RowCells w0 p.A 7 l.length f) (hL : ∀ (j : Nat) (t : Tm), l[j]? = some t → TmV w0 t (f j)) (hck : ∀ (j : Nat) (t : Tm), l[j]? = some t → CkOK w0 sig S cs t (f j)) (hsz : bd.length + tws l ≤ 1000000) (hsh : shortTs l = true) :
    Calls Tryz.prog 30 #[.pointer (some ⟨K, 0, none⟩), .agg p.arr] w' (CheckIs w' K S sig.length cs bd (checkS sig (.mk op name ts tn l vars pat) bd)) := by
  have hcl := h.start
  obtain ⟨r1, r2⟩ := checkS_ok (vars := vars) (pat := pat) hs he h19
  have Hr1 := Lib.hid r1
  have Hr2 := Lib.hid r2
  have Hst := Lib.hid hcl
  have hK : K < w'.heap.size := by have := h.chk.1; omega
  have hla := h.parts.2.1
  have hwK := h.low
  have Hsp := Lib.hid (h.shape _ (h.data.trans (hcl.below.mono h.data.size)))
  have Hask : Hid (∀ W, Below w0.heap.size w0 W → ChkAt W K S sig.length cs bd → Calls Tryz.prog 62 #[.pointer (some ⟨K, 0, none⟩), .agg p.arr] W fun e w' => e = .returned (.tuple #[.iface 159 (.agg #[]), .int .i64 0]) ∧ SortOK w0 sig op ts name l.length 143 (.agg #[]) ∧ Below W.heap.size W w') := Lib.hid (fun W hW hc => (h.ask hs W hW hc).mono fun e w'' ⟨nv, h1, h2, h3⟩ => by
    obtain ⟨e1, e2⟩ := hnv nv (h2 he)
    rw [he, e1] at h1
    exact ⟨h1, e2, h3⟩)
  have Hdata : Hid (∀ W, Below K w' W → Below w0.heap.size w0 W) := Lib.hid (fun W hW => h.data.trans (hW.mono h.low))
  rw [hs] at Hsp
  have HW : Hid (boxT w' p = w'.alloc (.cells #[.int .i64 p.op, .string p.name, .int .i64 p.sort, .string p.n, .slice p.A p.la p.ca, .slice p.V p.lv p.cv, .slice p.P p.lp p.cp] 29)) := Lib.hid rfl
  have Hf := Lib.hid hf
  have HL := Lib.hid hL
  have Hck := Lib.hid hck
  have Hsz := Lib.hid hsz
  have Hsh := Lib.hid hsh
  have hll : l.length ≤ 1000000 := by
    have := length_tsizes l
    have := tsizes_tws l
    omega
  clear h hs he hnv hf hL hck hsz hsh hcl r1 r2
  obtain ⟨op', nm', so', n', A', la', ca', V', lv', cv', P', lp', cp'⟩ := p
  dsimp only at hla
  subst hla
  dsimp only at HW Hf
  obtain ⟨i3, hi3, hz0, hz1, hz2⟩ := info_parts info3
  have hm : ∀  w, (method 315 159 (.agg #[]) "avow/term.sort").run Tryz.prog w = .ok (143, .agg #[]) w := fun  _ => by kernel_rfl
  have hta : ∀  w, (Instr.typeAssert (.iface 159 (.agg #[])) 117 123 true).run Tryz.prog w = .ok (.tuple #[.agg #[.int .i64 0, .int .i64 0], .bool false]) w := fun  _ => by kernel_rfl
  unfold Parts.arr
  dsimp only
  go_enter Tryz.func30, Tryz.ntmps30
  go_wp2_with (first
    | (go_at_call 61; rw [← HW.out]; refine Calls.mono Hsp.out ?_; rintro e w5 ⟨rfl, hb5⟩; have H5 := Lib.hid (Hst.out.next hb5); obtain ⟨c0, c1, c2, c3, c4, c5, c6⟩ := box_cells H5.out.box; dsimp only at c0 c1 c2 c3 c4 c5 c6; clear hb5)
    | (go_at_call 62; refine Calls.mono (Hask.out _ (Hdata.out _ (H5.out.below.mono (by omega))) H5.out.chk) ?_; rintro e w6 ⟨rfl, hso, hb6⟩; have H6 := Lib.hid (H5.out.next hb6); have Hso := Lib.hid hso; obtain ⟨B6, cb6, hck6, _⟩ := H6.out.chk.row; obtain ⟨k0, k1⟩ := hck6.cells; obtain ⟨d0, d1, d2, d3, d4, d5, d6⟩ := box_cells H6.out.box; dsimp only at d0 d1 d2 d3 d4 d5 d6; have g4 : (w6.alloc (.cells #[.int .i64 0, .int .i64 0] 123)).cell? ⟨w'.heap.size, 4, none⟩ = some (.slice A' l.length ca') := cell_of_below ((Below.refl _ _).alloc (Nat.le_refl _) _) (Nat.le_refl _) d4; clear hb6 hso hck6))
  go_loopw [11, 55] (fun lv i wr => ∃ (k c : Nat) (A3 : Option Addr), k ≤ l.length ∧ i = .int .i64 k ∧ lv = .slice A3 k c ∧ Hid ((checksS sig (l.take k) bd).2 = 0) ∧ Hid (LInv w' wr K S sig.length cs bd ⟨op', nm', so', n', A', l.length, ca', V', lv', cv', P', lp', cp'⟩ A3 k c (checksS sig (l.take k) bd).1)) (fun _ i _ => l.length - (intOf i).toNat)
  case atStart =>
    refine ⟨0, 0, none, Nat.zero_le _, rfl, rfl, Lib.hid rfl, Lib.hid ?_⟩
    have H7 := H6.out.next ((Below.refl w6.heap.size w6).alloc (Nat.le_refl _) (.cells #[.int .i64 0, .int .i64 0] 123))
    exact ⟨H7.below.mono (by omega), kept33_below H7.below, H7.chk, H7.box, OwnQ.nil _ _ _, rfl, H7.below.size⟩
  case round =>
    obtain ⟨k, c, A3, hk, rfl, rfl, Hok, HI⟩ := hrel
    by_cases hlt : k < l.length
    · have Ht : Hid (l[k]? = some l[k]) := Lib.hid (List.getElem?_eq_getElem hlt)
      have Hv := Lib.hid (HL.out k _ Ht.out)
      obtain ⟨p, hp⟩ := Hv.out.parts
      have hwr : Below w0.heap.size w0 wr := Hdata.out _ HI.out.below
      obtain ⟨b, of, rfl, h0, h1, h2, h3, h4, h5, h6⟩ := (Hf.out.below hwr).get hlt hp
      have HIb : Hid (LInv w' (boxT wr p) K S sig.length cs bd ⟨op', nm', so', n', some ⟨b, of, none⟩, l.length, ca', V', lv', cv', P', lp', cp'⟩ A3 k c (checksS sig (l.take k) bd).1) := Lib.hid (HI.out.low (below_boxT wr p) hK)
      have Hcheck : Hid (Calls Tryz.prog 30 #[.pointer (some ⟨K, 0, none⟩), .agg p.arr] (boxT wr p) (CheckIs (boxT wr p) K S sig.length cs bd (checkS sig l[k] bd))) := Lib.hid (by
        have := Hck.out k _ Ht.out K bd (boxT wr p) (Hdata.out _ HIb.out.below) hwK HIb.out.chk (by have := tws_mem Ht.out; have := Hsz.out; omega) (shortTs_mem Ht.out Hsh.out)
        rw [hp] at this
        exact this)
      have Hst2 := Lib.hid (checksS_take sig bd hlt Hok.out)
      have HW2 : Hid (boxT wr p = wr.alloc (.cells #[.int .i64 p.op, .string p.name, .int .i64 p.sort, .string p.n, .slice p.A p.la p.ca, .slice p.V p.lv p.cv, .slice p.P p.lp p.cp] 29)) := Lib.hid rfl
      clear hp hwr
      obtain ⟨r, hr⟩ : ∃ r, r = checkS sig l[k] bd := ⟨_, rfl⟩
      rw [← hr] at Hcheck Hst2
      clear hr
      generalize l[k] = t at *
      obtain ⟨rs, re⟩ := r
      dsimp only at Hst2
      by_cases he : re = 0
      · have Hst3 := Lib.hid (Hst2.out.1 he)
        subst he
        clear Hst2
        go_wp2_with (first
          | (go_at_call 30; rw [← HW2.out]; refine Calls.mono Hcheck.out ?_; intro e w8 hb8; obtain ⟨he8, _, hI8, hs8⟩ := HIb.out.check hb8 hK; subst he8; have HI8 := Lib.hid (hI8 rfl); have Hs8 := Lib.hid hs8; clear hb8 hI8 hs8)
          | (at_builtin; refine wpList_append_q _ rfl (.tmp 68) (.tmp 70) 48 rfl w'.heap.size 3 i3 (.int .i64 0) 8 Tryz.underlying48 hi3 hz0 hz1 hz2 rfl (.slice A3 k c) ((checksS sig (l.take k) bd).1.map (Value.int .i64)) rfl (HI8.out.own.alloc _) ⟨w8.heap.size, 0, none⟩ 1 (.int .i64 rs) rfl (by simp) rfl (by rw [List.length_map, HI8.out.len]; simp only [maxLen]; omega) (by rw [List.length_map, HI8.out.len]; omega) (by have := HI8.out.base; simp; omega) ?_; intro g9 o9 cap9 w9 hq9 hg9 _; have HI9 := Lib.hid (LInv.append (HI8.out.low ((Below.refl _ _).alloc (Nat.le_refl _) (.cells #[.int .i64 rs] 3)) hK) hK (by rw [List.length_map, HI8.out.len]) hq9 hg9); have hn9 : ((checksS sig (l.take k) bd).1.map (Value.int .i64)).length + 1 = k + 1 := (by rw [List.length_map, HI8.out.len]); rw [hn9]; clear hq9 hg9 hn9))
        go_roundw
        case rel => exact ⟨k + 1, cap9, some ⟨g9, o9, none⟩, by omega, by go_num, rfl, Lib.hid (by rw [Hst3.out]), Lib.hid (by rw [Hst3.out]; exact HI9.out)⟩
        case measure => simp [intOf]; omega
      · have Hst3 := Lib.hid (Hst2.out.2 he)
        have Hre := Lib.hid he
        have hne : (re != 0) = true := by simpa using he
        clear Hst2 he
        go_wp2_with (go_at_call 30; rw [← HW2.out]; refine Calls.mono Hcheck.out ?_; intro e w8 hb8; obtain ⟨he8, hm8, _, _⟩ := HIb.out.check hb8 hK; subst he8; have Hm8 := Lib.hid hm8; clear hb8 hm8)
        go_ret2
        obtain ⟨more, m1, m2, m3⟩ := Hm8.out
        rw [Hr1.out (by rw [Hst3.out]; exact Hre.out), Hst3.out]
        exact ⟨rfl, m1, m2, more, m3, fun h => absurd h Hre.out⟩
    · have Hall : Hid ((checksS sig l bd).2 = 0) := Lib.hid (by
        have := Hok.out
        rwa [List.take_of_length_le (by omega)] at this)
      have HIl : Hid (LInv w' wr K S sig.length cs bd ⟨op', nm', so', n', A', l.length, ca', V', lv', cv', P', lp', cp'⟩ A3 k c (checksS sig l bd).1) := Lib.hid (by
        have := HI.out
        rwa [List.take_of_length_le (by omega)] at this)
      have Hrr := Lib.hid (Hr2.out Hall.out)
      have hkl : k = l.length := by omega
      subst hkl
      have Hsort := Lib.hid (Hso.out wr A3 c _ (Hdata.out _ HIl.out.below) HIl.out.ints HIl.out.len)
      obtain ⟨r, hr⟩ : ∃ r, r = nodeS sig op name ts (checksS sig l bd).1 := ⟨_, rfl⟩
      rw [← hr] at Hsort Hrr
      clear hr
      obtain ⟨r1, r2⟩ := r
      have hr2 : r2 = 0 ∨ (r2 != 0) = true := by
        by_cases h : r2 = 0
        · exact .inl h
        · exact .inr (by simpa using h)
      rcases hr2 with hr2 | hr2
      · subst hr2
        go_wp2_with (go_at_call 143; refine Calls.mono Hsort.out ?_; rintro e w8 ⟨rfl, hb8⟩; have HI8 := Lib.hid ((HIl.out.low hb8 hK).low ((Below.refl w8.heap.size w8).alloc (Nat.le_refl _) (.cells #[.int .i64 0, .int .i64 0] 123)) hK); obtain ⟨B8, cb8, hk0, hk1, hf0, hf1, hsl, hck8⟩ := HI8.out.chk.cut bd [] (by simp); have Hck8 := Lib.hid hck8; clear hb8 hck8)
        go_ret2
        rw [Hrr.out]
        exact ⟨rfl, HI8.out.below.setCell (p := ⟨K, 1, none⟩) (Nat.le_refl _) _, HI8.out.kept.setCell ⟨K, 1, none⟩ rfl _, [], by rw [List.append_nil]; exact Hck8.out, fun _ => rfl⟩
      · have Hr2 : Hid (r2 ≠ 0) := Lib.hid (by simpa using hr2)
        go_wp2_with (go_at_call 143; refine Calls.mono Hsort.out ?_; rintro e w8 ⟨rfl, hb8⟩; have HI8 := Lib.hid ((HIl.out.low hb8 hK).low ((Below.refl w8.heap.size w8).alloc (Nat.le_refl _) (.cells #[.int .i64 0, .int .i64 0] 123)) hK); obtain ⟨B8, cb8, hk0, hk1, hf0, hf1, hsl, hck8⟩ := HI8.out.chk.cut bd [] (by simp); have Hck8 := Lib.hid hck8; clear hb8 hck8)
        go_ret2
        rw [Hrr.out, if_pos Hr2.out]
        exact ⟨rfl, HI8.out.below.setCell (p := ⟨K, 1, none⟩) (Nat.le_refl _) _, HI8.out.kept.setCell ⟨K, 1, none⟩ rfl _, [], by rw [List.append_nil]; exact Hck8.out, fun _ => rfl⟩
end Go.Proofs.YtbnonccmlildnaaGreat

/- check of an operator that is a choice. -/
namespace Go.Proofs.YtbnonccmlildnaaGreat
open Go.RowKit Go.Lib

set_option maxRecDepth 100000 in
set_option maxHeartbeats 4000000 in
theorem check_ite {w0 w' : World} {sig : List Fn} {K : Nat} {S : Option Addr} {cs : Nat} {bd : Bd} {op ts : Int} {name tn : ByteArray} {l : List Tm} {vars : Bd} {pat : List Tm} {p : Parts} {f : Nat → Value} (h : CkPre w0 w' sig K S cs bd op ts name tn l vars pat p) (hs : shapeB (.mk op name ts tn l vars pat) = true) (he : ofE sig op name ts l.length bd = 0) (h19 : op ≠ 19)
    (hnv : ∀ nv, NodeV w0 sig op name ts l.length nv → nv = .iface 160 (.agg #[]) ∧ SortOK w0 sig op ts name l.length 144 (.agg #[]))
    (hf : RowCells w0 p.A 7 l.length f) (hL : ∀ (j : Nat) (t : Tm), l[j]? = some t → TmV w0 t (f j)) (hck : ∀ (j : Nat) (t : Tm), l[j]? = some t → CkOK w0 sig S cs t (f j)) (hsz : bd.length + tws l ≤ 1000000) (hsh : shortTs l = true) :
    Calls Tryz.prog 30 #[.pointer (some ⟨K, 0, none⟩), .agg p.arr] w' (CheckIs w' K S sig.length cs bd (checkS sig (.mk op name ts tn l vars pat) bd)) := by
  have hcl := h.start
  obtain ⟨r1, r2⟩ := checkS_ok (vars := vars) (pat := pat) hs he h19
  have Hr1 := Lib.hid r1
  have Hr2 := Lib.hid r2
  have Hst := Lib.hid hcl
  have hK : K < w'.heap.size := by have := h.chk.1; omega
  have hla := h.parts.2.1
  have hwK := h.low
  have Hsp := Lib.hid (h.shape _ (h.data.trans (hcl.below.mono h.data.size)))
  have Hask : Hid (∀ W, Below w0.heap.size w0 W → ChkAt W K S sig.length cs bd → Calls Tryz.prog 62 #[.pointer (some ⟨K, 0, none⟩), .agg p.arr] W fun e w' => e = .returned (.tuple #[.iface 160 (.agg #[]), .int .i64 0]) ∧ SortOK w0 sig op ts name l.length 144 (.agg #[]) ∧ Below W.heap.size W w') := Lib.hid (fun W hW hc => (h.ask hs W hW hc).mono fun e w'' ⟨nv, h1, h2, h3⟩ => by
    obtain ⟨e1, e2⟩ := hnv nv (h2 he)
    rw [he, e1] at h1
    exact ⟨h1, e2, h3⟩)
  have Hdata : Hid (∀ W, Below K w' W → Below w0.heap.size w0 W) := Lib.hid (fun W hW => h.data.trans (hW.mono h.low))
  rw [hs] at Hsp
  have HW : Hid (boxT w' p = w'.alloc (.cells #[.int .i64 p.op, .string p.name, .int .i64 p.sort, .string p.n, .slice p.A p.la p.ca, .slice p.V p.lv p.cv, .slice p.P p.lp p.cp] 29)) := Lib.hid rfl
  have Hf := Lib.hid hf
  have HL := Lib.hid hL
  have Hck := Lib.hid hck
  have Hsz := Lib.hid hsz
  have Hsh := Lib.hid hsh
  have hll : l.length ≤ 1000000 := by
    have := length_tsizes l
    have := tsizes_tws l
    omega
  clear h hs he hnv hf hL hck hsz hsh hcl r1 r2
  obtain ⟨op', nm', so', n', A', la', ca', V', lv', cv', P', lp', cp'⟩ := p
  dsimp only at hla
  subst hla
  dsimp only at HW Hf
  obtain ⟨i3, hi3, hz0, hz1, hz2⟩ := info_parts info3
  have hm : ∀  w, (method 315 160 (.agg #[]) "avow/term.sort").run Tryz.prog w = .ok (144, .agg #[]) w := fun  _ => by kernel_rfl
  have hta : ∀  w, (Instr.typeAssert (.iface 160 (.agg #[])) 117 123 true).run Tryz.prog w = .ok (.tuple #[.agg #[.int .i64 0, .int .i64 0], .bool false]) w := fun  _ => by kernel_rfl
  unfold Parts.arr
  dsimp only
  go_enter Tryz.func30, Tryz.ntmps30
  go_wp2_with (first
    | (go_at_call 61; rw [← HW.out]; refine Calls.mono Hsp.out ?_; rintro e w5 ⟨rfl, hb5⟩; have H5 := Lib.hid (Hst.out.next hb5); obtain ⟨c0, c1, c2, c3, c4, c5, c6⟩ := box_cells H5.out.box; dsimp only at c0 c1 c2 c3 c4 c5 c6; clear hb5)
    | (go_at_call 62; refine Calls.mono (Hask.out _ (Hdata.out _ (H5.out.below.mono (by omega))) H5.out.chk) ?_; rintro e w6 ⟨rfl, hso, hb6⟩; have H6 := Lib.hid (H5.out.next hb6); have Hso := Lib.hid hso; obtain ⟨B6, cb6, hck6, _⟩ := H6.out.chk.row; obtain ⟨k0, k1⟩ := hck6.cells; obtain ⟨d0, d1, d2, d3, d4, d5, d6⟩ := box_cells H6.out.box; dsimp only at d0 d1 d2 d3 d4 d5 d6; have g4 : (w6.alloc (.cells #[.int .i64 0, .int .i64 0] 123)).cell? ⟨w'.heap.size, 4, none⟩ = some (.slice A' l.length ca') := cell_of_below ((Below.refl _ _).alloc (Nat.le_refl _) _) (Nat.le_refl _) d4; clear hb6 hso hck6))
  go_loopw [11, 55] (fun lv i wr => ∃ (k c : Nat) (A3 : Option Addr), k ≤ l.length ∧ i = .int .i64 k ∧ lv = .slice A3 k c ∧ Hid ((checksS sig (l.take k) bd).2 = 0) ∧ Hid (LInv w' wr K S sig.length cs bd ⟨op', nm', so', n', A', l.length, ca', V', lv', cv', P', lp', cp'⟩ A3 k c (checksS sig (l.take k) bd).1)) (fun _ i _ => l.length - (intOf i).toNat)
  case atStart =>
    refine ⟨0, 0, none, Nat.zero_le _, rfl, rfl, Lib.hid rfl, Lib.hid ?_⟩
    have H7 := H6.out.next ((Below.refl w6.heap.size w6).alloc (Nat.le_refl _) (.cells #[.int .i64 0, .int .i64 0] 123))
    exact ⟨H7.below.mono (by omega), kept33_below H7.below, H7.chk, H7.box, OwnQ.nil _ _ _, rfl, H7.below.size⟩
  case round =>
    obtain ⟨k, c, A3, hk, rfl, rfl, Hok, HI⟩ := hrel
    by_cases hlt : k < l.length
    · have Ht : Hid (l[k]? = some l[k]) := Lib.hid (List.getElem?_eq_getElem hlt)
      have Hv := Lib.hid (HL.out k _ Ht.out)
      obtain ⟨p, hp⟩ := Hv.out.parts
      have hwr : Below w0.heap.size w0 wr := Hdata.out _ HI.out.below
      obtain ⟨b, of, rfl, h0, h1, h2, h3, h4, h5, h6⟩ := (Hf.out.below hwr).get hlt hp
      have HIb : Hid (LInv w' (boxT wr p) K S sig.length cs bd ⟨op', nm', so', n', some ⟨b, of, none⟩, l.length, ca', V', lv', cv', P', lp', cp'⟩ A3 k c (checksS sig (l.take k) bd).1) := Lib.hid (HI.out.low (below_boxT wr p) hK)
      have Hcheck : Hid (Calls Tryz.prog 30 #[.pointer (some ⟨K, 0, none⟩), .agg p.arr] (boxT wr p) (CheckIs (boxT wr p) K S sig.length cs bd (checkS sig l[k] bd))) := Lib.hid (by
        have := Hck.out k _ Ht.out K bd (boxT wr p) (Hdata.out _ HIb.out.below) hwK HIb.out.chk (by have := tws_mem Ht.out; have := Hsz.out; omega) (shortTs_mem Ht.out Hsh.out)
        rw [hp] at this
        exact this)
      have Hst2 := Lib.hid (checksS_take sig bd hlt Hok.out)
      have HW2 : Hid (boxT wr p = wr.alloc (.cells #[.int .i64 p.op, .string p.name, .int .i64 p.sort, .string p.n, .slice p.A p.la p.ca, .slice p.V p.lv p.cv, .slice p.P p.lp p.cp] 29)) := Lib.hid rfl
      clear hp hwr
      obtain ⟨r, hr⟩ : ∃ r, r = checkS sig l[k] bd := ⟨_, rfl⟩
      rw [← hr] at Hcheck Hst2
      clear hr
      generalize l[k] = t at *
      obtain ⟨rs, re⟩ := r
      dsimp only at Hst2
      by_cases he : re = 0
      · have Hst3 := Lib.hid (Hst2.out.1 he)
        subst he
        clear Hst2
        go_wp2_with (first
          | (go_at_call 30; rw [← HW2.out]; refine Calls.mono Hcheck.out ?_; intro e w8 hb8; obtain ⟨he8, _, hI8, hs8⟩ := HIb.out.check hb8 hK; subst he8; have HI8 := Lib.hid (hI8 rfl); have Hs8 := Lib.hid hs8; clear hb8 hI8 hs8)
          | (at_builtin; refine wpList_append_q _ rfl (.tmp 68) (.tmp 70) 48 rfl w'.heap.size 3 i3 (.int .i64 0) 8 Tryz.underlying48 hi3 hz0 hz1 hz2 rfl (.slice A3 k c) ((checksS sig (l.take k) bd).1.map (Value.int .i64)) rfl (HI8.out.own.alloc _) ⟨w8.heap.size, 0, none⟩ 1 (.int .i64 rs) rfl (by simp) rfl (by rw [List.length_map, HI8.out.len]; simp only [maxLen]; omega) (by rw [List.length_map, HI8.out.len]; omega) (by have := HI8.out.base; simp; omega) ?_; intro g9 o9 cap9 w9 hq9 hg9 _; have HI9 := Lib.hid (LInv.append (HI8.out.low ((Below.refl _ _).alloc (Nat.le_refl _) (.cells #[.int .i64 rs] 3)) hK) hK (by rw [List.length_map, HI8.out.len]) hq9 hg9); have hn9 : ((checksS sig (l.take k) bd).1.map (Value.int .i64)).length + 1 = k + 1 := (by rw [List.length_map, HI8.out.len]); rw [hn9]; clear hq9 hg9 hn9))
        go_roundw
        case rel => exact ⟨k + 1, cap9, some ⟨g9, o9, none⟩, by omega, by go_num, rfl, Lib.hid (by rw [Hst3.out]), Lib.hid (by rw [Hst3.out]; exact HI9.out)⟩
        case measure => simp [intOf]; omega
      · have Hst3 := Lib.hid (Hst2.out.2 he)
        have Hre := Lib.hid he
        have hne : (re != 0) = true := by simpa using he
        clear Hst2 he
        go_wp2_with (go_at_call 30; rw [← HW2.out]; refine Calls.mono Hcheck.out ?_; intro e w8 hb8; obtain ⟨he8, hm8, _, _⟩ := HIb.out.check hb8 hK; subst he8; have Hm8 := Lib.hid hm8; clear hb8 hm8)
        go_ret2
        obtain ⟨more, m1, m2, m3⟩ := Hm8.out
        rw [Hr1.out (by rw [Hst3.out]; exact Hre.out), Hst3.out]
        exact ⟨rfl, m1, m2, more, m3, fun h => absurd h Hre.out⟩
    · have Hall : Hid ((checksS sig l bd).2 = 0) := Lib.hid (by
        have := Hok.out
        rwa [List.take_of_length_le (by omega)] at this)
      have HIl : Hid (LInv w' wr K S sig.length cs bd ⟨op', nm', so', n', A', l.length, ca', V', lv', cv', P', lp', cp'⟩ A3 k c (checksS sig l bd).1) := Lib.hid (by
        have := HI.out
        rwa [List.take_of_length_le (by omega)] at this)
      have Hrr := Lib.hid (Hr2.out Hall.out)
      have hkl : k = l.length := by omega
      subst hkl
      have Hsort := Lib.hid (Hso.out wr A3 c _ (Hdata.out _ HIl.out.below) HIl.out.ints HIl.out.len)
      obtain ⟨r, hr⟩ : ∃ r, r = nodeS sig op name ts (checksS sig l bd).1 := ⟨_, rfl⟩
      rw [← hr] at Hsort Hrr
      clear hr
      obtain ⟨r1, r2⟩ := r
      have hr2 : r2 = 0 ∨ (r2 != 0) = true := by
        by_cases h : r2 = 0
        · exact .inl h
        · exact .inr (by simpa using h)
      rcases hr2 with hr2 | hr2
      · subst hr2
        go_wp2_with (go_at_call 144; refine Calls.mono Hsort.out ?_; rintro e w8 ⟨rfl, hb8⟩; have HI8 := Lib.hid ((HIl.out.low hb8 hK).low ((Below.refl w8.heap.size w8).alloc (Nat.le_refl _) (.cells #[.int .i64 0, .int .i64 0] 123)) hK); obtain ⟨B8, cb8, hk0, hk1, hf0, hf1, hsl, hck8⟩ := HI8.out.chk.cut bd [] (by simp); have Hck8 := Lib.hid hck8; clear hb8 hck8)
        go_ret2
        rw [Hrr.out]
        exact ⟨rfl, HI8.out.below.setCell (p := ⟨K, 1, none⟩) (Nat.le_refl _) _, HI8.out.kept.setCell ⟨K, 1, none⟩ rfl _, [], by rw [List.append_nil]; exact Hck8.out, fun _ => rfl⟩
      · have Hr2 : Hid (r2 ≠ 0) := Lib.hid (by simpa using hr2)
        go_wp2_with (go_at_call 144; refine Calls.mono Hsort.out ?_; rintro e w8 ⟨rfl, hb8⟩; have HI8 := Lib.hid ((HIl.out.low hb8 hK).low ((Below.refl w8.heap.size w8).alloc (Nat.le_refl _) (.cells #[.int .i64 0, .int .i64 0] 123)) hK); obtain ⟨B8, cb8, hk0, hk1, hf0, hf1, hsl, hck8⟩ := HI8.out.chk.cut bd [] (by simp); have Hck8 := Lib.hid hck8; clear hb8 hck8)
        go_ret2
        rw [Hrr.out, if_pos Hr2.out]
        exact ⟨rfl, HI8.out.below.setCell (p := ⟨K, 1, none⟩) (Nat.le_refl _) _, HI8.out.kept.setCell ⟨K, 1, none⟩ rfl _, [], by rw [List.append_nil]; exact Hck8.out, fun _ => rfl⟩
end Go.Proofs.YtbnonccmlildnaaGreat

/- check of an operator that is a function's. -/
namespace Go.Proofs.YtbnonccmlildnaaGreat
open Go.RowKit Go.Lib

set_option maxRecDepth 100000 in
set_option maxHeartbeats 4000000 in
theorem check_fun {w0 w' : World} {sig : List Fn} {K : Nat} {S : Option Addr} {cs : Nat} {bd : Bd} {op ts : Int} {name tn : ByteArray} {l : List Tm} {vars : Bd} {pat : List Tm} {p : Parts} {f : Nat → Value} (h : CkPre w0 w' sig K S cs bd op ts name tn l vars pat p) (hs : shapeB (.mk op name ts tn l vars pat) = true) (he : ofE sig op name ts l.length bd = 0) (h19 : op ≠ 19)
    (hnv : ∀ nv, NodeV w0 sig op name ts l.length nv → ∃ (fn : ByteArray) (fb : Option Addr) (fl fc : Nat) (fo : Int), nv = .iface 165 (.agg #[.string fn, .slice fb fl fc, .int .i64 fo]) ∧ SortOK w0 sig op ts name l.length 145 (.agg #[.string fn, .slice fb fl fc, .int .i64 fo]))
    (hf : RowCells w0 p.A 7 l.length f) (hL : ∀ (j : Nat) (t : Tm), l[j]? = some t → TmV w0 t (f j)) (hck : ∀ (j : Nat) (t : Tm), l[j]? = some t → CkOK w0 sig S cs t (f j)) (hsz : bd.length + tws l ≤ 1000000) (hsh : shortTs l = true) :
    Calls Tryz.prog 30 #[.pointer (some ⟨K, 0, none⟩), .agg p.arr] w' (CheckIs w' K S sig.length cs bd (checkS sig (.mk op name ts tn l vars pat) bd)) := by
  have hcl := h.start
  obtain ⟨r1, r2⟩ := checkS_ok (vars := vars) (pat := pat) hs he h19
  have Hr1 := Lib.hid r1
  have Hr2 := Lib.hid r2
  have Hst := Lib.hid hcl
  have hK : K < w'.heap.size := by have := h.chk.1; omega
  have hla := h.parts.2.1
  have hwK := h.low
  have Hsp := Lib.hid (h.shape _ (h.data.trans (hcl.below.mono h.data.size)))
  have Hask : Hid (∀ W, Below w0.heap.size w0 W → ChkAt W K S sig.length cs bd → Calls Tryz.prog 62 #[.pointer (some ⟨K, 0, none⟩), .agg p.arr] W fun e w' => ∃ (fn : ByteArray) (fb : Option Addr) (fl fc : Nat) (fo : Int), e = .returned (.tuple #[.iface 165 (.agg #[.string fn, .slice fb fl fc, .int .i64 fo]), .int .i64 0]) ∧ SortOK w0 sig op ts name l.length 145 (.agg #[.string fn, .slice fb fl fc, .int .i64 fo]) ∧ Below W.heap.size W w') := Lib.hid (fun W hW hc => (h.ask hs W hW hc).mono fun e w'' ⟨nv, h1, h2, h3⟩ => by
    obtain ⟨fn, fb, fl, fc, fo, e1, e2⟩ := hnv nv (h2 he)
    rw [he, e1] at h1
    exact ⟨fn, fb, fl, fc, fo, h1, e2, h3⟩)
  have Hdata : Hid (∀ W, Below K w' W → Below w0.heap.size w0 W) := Lib.hid (fun W hW => h.data.trans (hW.mono h.low))
  rw [hs] at Hsp
  have HW : Hid (boxT w' p = w'.alloc (.cells #[.int .i64 p.op, .string p.name, .int .i64 p.sort, .string p.n, .slice p.A p.la p.ca, .slice p.V p.lv p.cv, .slice p.P p.lp p.cp] 29)) := Lib.hid rfl
  have Hf := Lib.hid hf
  have HL := Lib.hid hL
  have Hck := Lib.hid hck
  have Hsz := Lib.hid hsz
  have Hsh := Lib.hid hsh
  have hll : l.length ≤ 1000000 := by
    have := length_tsizes l
    have := tsizes_tws l
    omega
  clear h hs he hnv hf hL hck hsz hsh hcl r1 r2
  obtain ⟨op', nm', so', n', A', la', ca', V', lv', cv', P', lp', cp'⟩ := p
  dsimp only at hla
  subst hla
  dsimp only at HW Hf
  obtain ⟨i3, hi3, hz0, hz1, hz2⟩ := info_parts info3
  have hm : ∀ (fn : ByteArray) (fb : Option Addr) (fl fc : Nat) (fo : Int) w, (method 315 165 (.agg #[.string fn, .slice fb fl fc, .int .i64 fo]) "avow/term.sort").run Tryz.prog w = .ok (145, .agg #[.string fn, .slice fb fl fc, .int .i64 fo]) w := fun _ _ _ _ _ _ => by kernel_rfl
  have hta : ∀ (fn : ByteArray) (fb : Option Addr) (fl fc : Nat) (fo : Int) w, (Instr.typeAssert (.iface 165 (.agg #[.string fn, .slice fb fl fc, .int .i64 fo])) 117 123 true).run Tryz.prog w = .ok (.tuple #[.agg #[.int .i64 0, .int .i64 0], .bool false]) w := fun _ _ _ _ _ _ => by kernel_rfl
  unfold Parts.arr
  dsimp only
  go_enter Tryz.func30, Tryz.ntmps30
  go_wp2_with (first
    | (go_at_call 61; rw [← HW.out]; refine Calls.mono Hsp.out ?_; rintro e w5 ⟨rfl, hb5⟩; have H5 := Lib.hid (Hst.out.next hb5); obtain ⟨c0, c1, c2, c3, c4, c5, c6⟩ := box_cells H5.out.box; dsimp only at c0 c1 c2 c3 c4 c5 c6; clear hb5)
    | (go_at_call 62; refine Calls.mono (Hask.out _ (Hdata.out _ (H5.out.below.mono (by omega))) H5.out.chk) ?_; rintro e w6 ⟨fn, fb, fl, fc, fo, rfl, hso, hb6⟩; have H6 := Lib.hid (H5.out.next hb6); have Hso := Lib.hid hso; obtain ⟨B6, cb6, hck6, _⟩ := H6.out.chk.row; obtain ⟨k0, k1⟩ := hck6.cells; obtain ⟨d0, d1, d2, d3, d4, d5, d6⟩ := box_cells H6.out.box; dsimp only at d0 d1 d2 d3 d4 d5 d6; have g4 : (w6.alloc (.cells #[.int .i64 0, .int .i64 0] 123)).cell? ⟨w'.heap.size, 4, none⟩ = some (.slice A' l.length ca') := cell_of_below ((Below.refl _ _).alloc (Nat.le_refl _) _) (Nat.le_refl _) d4; clear hb6 hso hck6))
  go_loopw [11, 55] (fun lv i wr => ∃ (k c : Nat) (A3 : Option Addr), k ≤ l.length ∧ i = .int .i64 k ∧ lv = .slice A3 k c ∧ Hid ((checksS sig (l.take k) bd).2 = 0) ∧ Hid (LInv w' wr K S sig.length cs bd ⟨op', nm', so', n', A', l.length, ca', V', lv', cv', P', lp', cp'⟩ A3 k c (checksS sig (l.take k) bd).1)) (fun _ i _ => l.length - (intOf i).toNat)
  case atStart =>
    refine ⟨0, 0, none, Nat.zero_le _, rfl, rfl, Lib.hid rfl, Lib.hid ?_⟩
    have H7 := H6.out.next ((Below.refl w6.heap.size w6).alloc (Nat.le_refl _) (.cells #[.int .i64 0, .int .i64 0] 123))
    exact ⟨H7.below.mono (by omega), kept33_below H7.below, H7.chk, H7.box, OwnQ.nil _ _ _, rfl, H7.below.size⟩
  case round =>
    obtain ⟨k, c, A3, hk, rfl, rfl, Hok, HI⟩ := hrel
    by_cases hlt : k < l.length
    · have Ht : Hid (l[k]? = some l[k]) := Lib.hid (List.getElem?_eq_getElem hlt)
      have Hv := Lib.hid (HL.out k _ Ht.out)
      obtain ⟨p, hp⟩ := Hv.out.parts
      have hwr : Below w0.heap.size w0 wr := Hdata.out _ HI.out.below
      obtain ⟨b, of, rfl, h0, h1, h2, h3, h4, h5, h6⟩ := (Hf.out.below hwr).get hlt hp
      have HIb : Hid (LInv w' (boxT wr p) K S sig.length cs bd ⟨op', nm', so', n', some ⟨b, of, none⟩, l.length, ca', V', lv', cv', P', lp', cp'⟩ A3 k c (checksS sig (l.take k) bd).1) := Lib.hid (HI.out.low (below_boxT wr p) hK)
      have Hcheck : Hid (Calls Tryz.prog 30 #[.pointer (some ⟨K, 0, none⟩), .agg p.arr] (boxT wr p) (CheckIs (boxT wr p) K S sig.length cs bd (checkS sig l[k] bd))) := Lib.hid (by
        have := Hck.out k _ Ht.out K bd (boxT wr p) (Hdata.out _ HIb.out.below) hwK HIb.out.chk (by have := tws_mem Ht.out; have := Hsz.out; omega) (shortTs_mem Ht.out Hsh.out)
        rw [hp] at this
        exact this)
      have Hst2 := Lib.hid (checksS_take sig bd hlt Hok.out)
      have HW2 : Hid (boxT wr p = wr.alloc (.cells #[.int .i64 p.op, .string p.name, .int .i64 p.sort, .string p.n, .slice p.A p.la p.ca, .slice p.V p.lv p.cv, .slice p.P p.lp p.cp] 29)) := Lib.hid rfl
      clear hp hwr
      obtain ⟨r, hr⟩ : ∃ r, r = checkS sig l[k] bd := ⟨_, rfl⟩
      rw [← hr] at Hcheck Hst2
      clear hr
      generalize l[k] = t at *
      obtain ⟨rs, re⟩ := r
      dsimp only at Hst2
      by_cases he : re = 0
      · have Hst3 := Lib.hid (Hst2.out.1 he)
        subst he
        clear Hst2
        go_wp2_with (first
          | (go_at_call 30; rw [← HW2.out]; refine Calls.mono Hcheck.out ?_; intro e w8 hb8; obtain ⟨he8, _, hI8, hs8⟩ := HIb.out.check hb8 hK; subst he8; have HI8 := Lib.hid (hI8 rfl); have Hs8 := Lib.hid hs8; clear hb8 hI8 hs8)
          | (at_builtin; refine wpList_append_q _ rfl (.tmp 68) (.tmp 70) 48 rfl w'.heap.size 3 i3 (.int .i64 0) 8 Tryz.underlying48 hi3 hz0 hz1 hz2 rfl (.slice A3 k c) ((checksS sig (l.take k) bd).1.map (Value.int .i64)) rfl (HI8.out.own.alloc _) ⟨w8.heap.size, 0, none⟩ 1 (.int .i64 rs) rfl (by simp) rfl (by rw [List.length_map, HI8.out.len]; simp only [maxLen]; omega) (by rw [List.length_map, HI8.out.len]; omega) (by have := HI8.out.base; simp; omega) ?_; intro g9 o9 cap9 w9 hq9 hg9 _; have HI9 := Lib.hid (LInv.append (HI8.out.low ((Below.refl _ _).alloc (Nat.le_refl _) (.cells #[.int .i64 rs] 3)) hK) hK (by rw [List.length_map, HI8.out.len]) hq9 hg9); have hn9 : ((checksS sig (l.take k) bd).1.map (Value.int .i64)).length + 1 = k + 1 := (by rw [List.length_map, HI8.out.len]); rw [hn9]; clear hq9 hg9 hn9))
        go_roundw
        case rel => exact ⟨k + 1, cap9, some ⟨g9, o9, none⟩, by omega, by go_num, rfl, Lib.hid (by rw [Hst3.out]), Lib.hid (by rw [Hst3.out]; exact HI9.out)⟩
        case measure => simp [intOf]; omega
      · have Hst3 := Lib.hid (Hst2.out.2 he)
        have Hre := Lib.hid he
        have hne : (re != 0) = true := by simpa using he
        clear Hst2 he
        go_wp2_with (go_at_call 30; rw [← HW2.out]; refine Calls.mono Hcheck.out ?_; intro e w8 hb8; obtain ⟨he8, hm8, _, _⟩ := HIb.out.check hb8 hK; subst he8; have Hm8 := Lib.hid hm8; clear hb8 hm8)
        go_ret2
        obtain ⟨more, m1, m2, m3⟩ := Hm8.out
        rw [Hr1.out (by rw [Hst3.out]; exact Hre.out), Hst3.out]
        exact ⟨rfl, m1, m2, more, m3, fun h => absurd h Hre.out⟩
    · have Hall : Hid ((checksS sig l bd).2 = 0) := Lib.hid (by
        have := Hok.out
        rwa [List.take_of_length_le (by omega)] at this)
      have HIl : Hid (LInv w' wr K S sig.length cs bd ⟨op', nm', so', n', A', l.length, ca', V', lv', cv', P', lp', cp'⟩ A3 k c (checksS sig l bd).1) := Lib.hid (by
        have := HI.out
        rwa [List.take_of_length_le (by omega)] at this)
      have Hrr := Lib.hid (Hr2.out Hall.out)
      have hkl : k = l.length := by omega
      subst hkl
      have Hsort := Lib.hid (Hso.out wr A3 c _ (Hdata.out _ HIl.out.below) HIl.out.ints HIl.out.len)
      obtain ⟨r, hr⟩ : ∃ r, r = nodeS sig op name ts (checksS sig l bd).1 := ⟨_, rfl⟩
      rw [← hr] at Hsort Hrr
      clear hr
      obtain ⟨r1, r2⟩ := r
      have hr2 : r2 = 0 ∨ (r2 != 0) = true := by
        by_cases h : r2 = 0
        · exact .inl h
        · exact .inr (by simpa using h)
      rcases hr2 with hr2 | hr2
      · subst hr2
        go_wp2_with (go_at_call 145; refine Calls.mono Hsort.out ?_; rintro e w8 ⟨rfl, hb8⟩; have HI8 := Lib.hid ((HIl.out.low hb8 hK).low ((Below.refl w8.heap.size w8).alloc (Nat.le_refl _) (.cells #[.int .i64 0, .int .i64 0] 123)) hK); obtain ⟨B8, cb8, hk0, hk1, hf0, hf1, hsl, hck8⟩ := HI8.out.chk.cut bd [] (by simp); have Hck8 := Lib.hid hck8; clear hb8 hck8)
        go_ret2
        rw [Hrr.out]
        exact ⟨rfl, HI8.out.below.setCell (p := ⟨K, 1, none⟩) (Nat.le_refl _) _, HI8.out.kept.setCell ⟨K, 1, none⟩ rfl _, [], by rw [List.append_nil]; exact Hck8.out, fun _ => rfl⟩
      · have Hr2 : Hid (r2 ≠ 0) := Lib.hid (by simpa using hr2)
        go_wp2_with (go_at_call 145; refine Calls.mono Hsort.out ?_; rintro e w8 ⟨rfl, hb8⟩; have HI8 := Lib.hid ((HIl.out.low hb8 hK).low ((Below.refl w8.heap.size w8).alloc (Nat.le_refl _) (.cells #[.int .i64 0, .int .i64 0] 123)) hK); obtain ⟨B8, cb8, hk0, hk1, hf0, hf1, hsl, hck8⟩ := HI8.out.chk.cut bd [] (by simp); have Hck8 := Lib.hid hck8; clear hb8 hck8)
        go_ret2
        rw [Hrr.out, if_pos Hr2.out]
        exact ⟨rfl, HI8.out.below.setCell (p := ⟨K, 1, none⟩) (Nat.le_refl _) _, HI8.out.kept.setCell ⟨K, 1, none⟩ rfl _, [], by rw [List.append_nil]; exact Hck8.out, fun _ => rfl⟩
end Go.Proofs.YtbnonccmlildnaaGreat
