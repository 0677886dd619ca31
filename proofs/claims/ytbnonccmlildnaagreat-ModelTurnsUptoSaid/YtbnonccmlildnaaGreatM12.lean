/- Variables that are bound: appended to those that are. -/
import Derived.Test.YtbnonccmlildnaaGreatM11
import Derived.Deep.DeepCutAuto
set_option linter.unusedSimpArgs false
set_option linter.unusedVariables false
namespace Go.Proofs.YtbnonccmlildnaaGreat
open Go.RowKit Go.Lib

theorem info33 : (Tryz.prog.info? 53).map (fun i => (i.zero, i.size, i.bytes)) = some (some (.agg #[.string ⟨#[]⟩, .int .i64 0]), 2, 24) := by kernel_rfl
theorem ChkAt.grown {w w9 : World} {K : Nat} {S B : Option Addr} {ns cs cb g cap : Nat} {bd vars : Bd} (h1 : CheckerAt w K S ns cs B bd.length cb) (h2 : w.ownsRow (K + 1) 53 2 (.slice B bd.length cb) bd.length (flat bd))
    (hq : w9.ownsRow (K + 1) 53 2 (.slice (some ⟨g, 0, none⟩) (bd.length + vars.length) cap) (bd.length + vars.length) (flat bd ++ flat vars)) (hg : w.grownBy w9 (Value.slice B bd.length cb).ownBlock) (hK : K + 1 ≤ w.heap.size) :
    ChkAt (w9.setCell ⟨K, 1, none⟩ (.slice (some ⟨g, 0, none⟩) (bd.length + vars.length) cap)) K S ns cs (bd ++ vars) ∧ Below K w (w9.setCell ⟨K, 1, none⟩ (.slice (some ⟨g, 0, none⟩) (bd.length + vars.length) cap)) ∧ OthersKept 53 (some K) w (w9.setCell ⟨K, 1, none⟩ (.slice (some ⟨g, 0, none⟩) (bd.length + vars.length) cap)) ∧ w9.cell? ⟨K, 1, none⟩ = some (.slice B bd.length cb) ∧ w9.frozen? ⟨K, 1, none⟩ = false := by
  have hown : ∀ k, (Value.slice B bd.length cb).ownBlock = some k → K + 1 ≤ k := fun k hk => (ownsRow_lt h2 k hk).1
  have hK9 : CheckerAt w9 K S ns cs B bd.length cb := (hg.block K (by omega) (fun e => by have := hown K e.symm; omega)).trans h1
  have hs := hg.size
  have hset : (w9.setCell ⟨K, 1, none⟩ (.slice (some ⟨g, 0, none⟩) (bd.length + vars.length) cap)).heap[K]? = some (.cells #[.slice S ns cs, .slice (some ⟨g, 0, none⟩) (bd.length + vars.length) cap] 84 (0, 0)) := by
    simp [World.setCell, Array.getElem?_modify, show w9.heap[K]? = _ from hK9]
  refine ⟨⟨by simp [World.setCell]; omega, some ⟨g, 0, none⟩, cap, ?_, ?_⟩, ?_, ?_, hK9.cells.2, by simp [World.frozen?, show w9.heap[K]? = _ from hK9]⟩
  · rw [List.length_append]
    exact hset
  · rw [List.length_append, flat_append]
    refine ownsRow_same hq fun k hk => Below.heap_setCell _ _ _ _ (fun e => ?_)
    have := (ownsRow_lt hq k hk).1
    simp at e
    omega
  · exact ((Below.refl K w).grown hg (by omega) (fun k hk => by have := hown k hk; omega)).setCell (p := ⟨K, 1, none⟩) (Nat.le_refl _) _
  · exact ((OthersKept.refl _ _ _).grown hg (fun k hk => by obtain ⟨_, cur, hc⟩ := ownsRow_lt h2 k hk; exact ⟨cur, _, hc⟩)).setCell ⟨K, 1, none⟩ rfl _
/-- The append itself, as one step of a region that draws. -/
theorem step_append_bd {w : World} {ops : Array Oper} {o : Oper} {a : Act} {Kc : Act → World → Prop} {Q : Exit → Act → World → Prop} {E : Prop} (hgd : o.guard = none) (s x : Operand)
    (ho : o.op = .call { callee := .builtin .append, args := #[s, x], argTypes := #[27, 27] }) {K : Nat} {B : Option Addr} {cb b of cv : Nat} {bd vars : Bd} (hs : a.eval s = .slice B bd.length cb) (hown : w.ownsRow (K + 1) 53 2 (.slice B bd.length cb) bd.length (flat bd))
    (hx : a.eval x = .slice (some ⟨b, of, none⟩) vars.length cv) (hV : RowCells w (some ⟨b, of, none⟩) 2 vars.length (bval vars)) (hv : 0 < vars.length) (hn : bd.length + vars.length ≤ 1000000) (hK : K + 1 ≤ w.heap.size)
    (h : ∀ g cap w', w'.ownsRow (K + 1) 53 2 (.slice (some ⟨g, 0, none⟩) (bd.length + vars.length) cap) (bd.length + vars.length) (flat bd ++ flat vars) → w.grownBy w' (Value.slice B bd.length cb).ownBlock → Kc (a.put o.dst (.slice (some ⟨g, 0, none⟩) (bd.length + vars.length) cap)) w') :
    if Region.wanted o (yielded ops a.tmps) = true then Oper.wp Tryz.prog o a w Kc Q else E := by
  have hw : Region.wanted o (yielded ops a.tmps) = true := by simp [Region.wanted, hgd]
  rw [if_pos hw]
  obtain ⟨i33, hi, hz0, hz1, hz2⟩ := info_parts info33
  obtain ⟨v', w', hr, hq, hg, hnil⟩ := run_append_own (P := Tryz.prog) w (K + 1) 27 o.type 53 i33 _ 2 24 Tryz.underlying27 hi hz0 hz1 hz2 rfl (by decide) _ bd.length (flat bd) hown ⟨b, of, none⟩ vars.length cv (flat vars) (flat_length vars) (fun j u hj => by rw [Addr.add_lit]; exact hV.flat j u hj) (fun u hu => by
    unfold flat at hu
    obtain ⟨v, _, hv⟩ := List.mem_flatMap.1 hu
    simp only [List.mem_cons, List.not_mem_nil, or_false] at hv
    rcases hv with rfl | rfl <;> rfl) (by simp only [maxLen]; omega) (by omega) hK
  rcases hq.2 with ⟨_, h0⟩ | ⟨g, cap, cur, rfl, hb, hh, r⟩
  · omega
  · unfold Oper.wp execOp
    simp only [ho, resolve, invoke, builtin, Sem.run_bind, Sem.run_pure, Result.andThen_ok, List.map_toArray, List.map_cons, List.map_nil, hs, hx, hr]
    exact h g cap w' hq hg
end Go.Proofs.YtbnonccmlildnaaGreat

/- check of a formula for all. -/
namespace Go.Proofs.YtbnonccmlildnaaGreat
open Go.RowKit Go.Lib

theorem checkS_all {sig : List Fn} {bd : Bd} {ts : Int} {name tn : ByteArray} {l : List Tm} {vars : Bd} {pat : List Tm} (hs : shapeB (.mk 19 name ts tn l vars pat) = true) :
    ((checksS sig l (bd ++ vars)).2 ≠ 0 → checkS sig (.mk 19 name ts tn l vars pat) bd = (0, (checksS sig l (bd ++ vars)).2)) ∧
    ((checksS sig l (bd ++ vars)).2 = 0 → ((fixedS 2 2 (checksS sig l (bd ++ vars)).1).2 ≠ 0 → checkS sig (.mk 19 name ts tn l vars pat) bd = (0, (fixedS 2 2 (checksS sig l (bd ++ vars)).1).2)) ∧
      ((fixedS 2 2 (checksS sig l (bd ++ vars)).1).2 = 0 → checkS sig (.mk 19 name ts tn l vars pat) bd = if patternsS sig pat (bd ++ vars) vars ≠ 0 then (0, patternsS sig pat (bd ++ vars) vars) else ((fixedS 2 2 (checksS sig l (bd ++ vars)).1).1, 0))) := by
  have he : ofE sig 19 name ts l.length bd = 0 := by unfold ofE; rw [if_neg (by decide), if_neg (by decide)]
  have hn : ∀ xs, nodeS sig 19 name ts xs = fixedS 2 2 xs := fun xs => by
    unfold nodeS
    rw [if_neg (by decide), if_neg (by decide), if_neg (by decide), if_neg (by decide), if_neg (by decide), if_neg (by decide), if_neg (by decide), if_neg (by decide)]
  constructor
  · intro h
    rw [checkS]
    rw [if_neg (by rw [hs]; simp), if_neg (by rw [he]; simp), if_pos rfl, if_pos h]
  · intro h
    constructor
    · intro h2
      rw [checkS]
      rw [if_neg (by rw [hs]; simp), if_neg (by rw [he]; simp), if_pos rfl, if_neg (by rw [h]; simp)]
      simp [hn, h2]
    · intro h2
      rw [checkS]
      rw [if_neg (by rw [hs]; simp), if_neg (by rw [he]; simp), if_pos rfl, if_neg (by rw [h]; simp)]
      simp only [hn, h2, true_and, if_true]
      rfl

set_option maxRecDepth 100000 in
set_option maxHeartbeats 8000000 in
theorem check_bind {w0 w' : World} {sig : List Fn} {K : Nat} {S : Option Addr} {cs : Nat} {bd : Bd} {ts : Int} {name tn : ByteArray} {l : List Tm} {vars : Bd} {pat : List Tm} {p : Parts} {f g : Nat → Value} (h : CkPre w0 w' sig K S cs bd 19 ts name tn l vars pat p) (hs : shapeB (.mk 19 name ts tn l vars pat) = true)
    (hf : RowCells w0 p.A 7 l.length f) (hL : ∀ (j : Nat) (t : Tm), l[j]? = some t → TmV w0 t (f j)) (hck : ∀ (j : Nat) (t : Tm), l[j]? = some t → CkOK w0 sig S cs t (f j))
    (hV : RowCells w0 p.V 2 vars.length (bval vars)) (hvl : 0 < vars.length) (hg : RowCells w0 p.P 7 pat.length g) (hP : ∀ (j : Nat) (t : Tm), pat[j]? = some t → TmV w0 t (g j)) (hckP : ∀ (j : Nat) (t : Tm), pat[j]? = some t → CkOK w0 sig S cs t (g j))
    (hsz : bd.length + vars.length + tws l + tws pat ≤ 1000000) (hsh : shortTs l = true) (hshP : shortTs pat = true) :
    Calls Tryz.prog 30 #[.pointer (some ⟨K, 0, none⟩), .agg p.arr] w' (CheckIs w' K S sig.length cs bd (checkS sig (.mk 19 name ts tn l vars pat) bd)) := by
  have hcl := h.start
  obtain ⟨r1, r2⟩ := checkS_all (sig := sig) (bd := bd) hs
  have Hr1 := Lib.hid r1
  have Hr2 := Lib.hid r2
  have Hst := Lib.hid hcl
  have hK : K < w'.heap.size := by have := h.chk.1; omega
  obtain ⟨hop, hla, hlv, hlp⟩ := h.parts
  have hwK := h.low
  have Hsp := Lib.hid (h.shape _ (h.data.trans (hcl.below.mono h.data.size)))
  have Hask : Hid (∀ W, Below w0.heap.size w0 W → ChkAt W K S sig.length cs bd → Calls Tryz.prog 62 #[.pointer (some ⟨K, 0, none⟩), .agg p.arr] W fun e w' => e = .returned (.tuple #[.iface 123 (.agg #[.int .i64 2, .int .i64 2]), .int .i64 0]) ∧ Below W.heap.size W w') := Lib.hid (fun W hW hc => (h.ask hs W hW hc).mono fun e w'' ⟨nv, h1, h2, h3⟩ => by
    have he : ofE sig 19 name ts l.length bd = 0 := by unfold ofE; rw [if_neg (by decide), if_neg (by decide)]
    rcases h2 he with ⟨h4, _⟩ | ⟨h4, _⟩ | ⟨_, _, h4⟩
    · exact absurd h4 (by decide)
    · exact absurd h4 (by decide)
    · rw [he, h4] at h1
      exact ⟨h1, h3⟩)
  have Hdata : Hid (∀ W, Below K w' W → Below w0.heap.size w0 W) := Lib.hid (fun W hW => h.data.trans (hW.mono h.low))
  rw [hs] at Hsp
  have HW : Hid (boxT w' p = w'.alloc (.cells #[.int .i64 p.op, .string p.name, .int .i64 p.sort, .string p.n, .slice p.A p.la p.ca, .slice p.V p.lv p.cv, .slice p.P p.lp p.cp] 29)) := Lib.hid rfl
  have Hf := Lib.hid hf
  have HL := Lib.hid hL
  have Hck := Lib.hid hck
  have HV := Lib.hid hV
  have Hsz := Lib.hid hsz
  have Hsh := Lib.hid hsh
  have Hpats : Hid (∀ W, Below w0.heap.size w0 W → K < W.heap.size → ChkAt W K S sig.length cs (bd ++ vars) → Calls Tryz.prog 63 #[.pointer (some ⟨K, 0, none⟩), .agg p.arr] W (PatsIs W K S sig.length cs (bd ++ vars) (patternsS sig pat (bd ++ vars) vars))) := Lib.hid (fun W hW hKW hc => by
    have := patterns_any (op := p.op) (ts := p.sort) (name := p.name) (tn := p.n) (A := p.A) (la := p.la) (ca := p.ca) (cv := p.cv) (cp := p.cp) (by omega) hg hP hV hckP K (bd ++ vars) W hW h.low hKW hc (by rw [List.length_append]; omega) hshP
    rw [← hlv, ← hlp] at this
    exact this)
  have hll : l.length ≤ 1000000 := by
    have := length_tsizes l
    have := tsizes_tws l
    omega
  clear h hs hf hL hck hsz hsh hcl r1 r2 hV hg hP hckP hshP
  obtain ⟨op', nm', so', n', A', la', ca', V', lv', cv', P', lp', cp'⟩ := p
  dsimp only at hla hop hlv hlp
  subst hla hlv hlp
  clear hop
  dsimp only at HW Hf HV
  obtain ⟨i3, hi3, hz0, hz1, hz2⟩ := info_parts info3
  have hm : ∀ w, (method 315 123 (.agg #[.int .i64 2, .int .i64 2]) "avow/term.sort").run Tryz.prog w = .ok (141, .agg #[.int .i64 2, .int .i64 2]) w := fun _ => by kernel_rfl
  have hta : ∀ w, (Instr.typeAssert (.iface 123 (.agg #[.int .i64 2, .int .i64 2])) 117 123 true).run Tryz.prog w = .ok (.tuple #[.agg #[.int .i64 2, .int .i64 2], .bool true]) w := fun _ => by kernel_rfl
  unfold Parts.arr
  dsimp only
  go_enter Tryz.func30, Tryz.ntmps30
  go_wp2_with (first
    | (go_at_call 61; rw [← HW.out]; refine Calls.mono Hsp.out ?_; rintro e w5 ⟨rfl, hb5⟩; have H5 := Lib.hid (Hst.out.next hb5); obtain ⟨c0, c1, c2, c3, c4, c5, c6⟩ := box_cells H5.out.box; dsimp only at c0 c1 c2 c3 c4 c5 c6; clear hb5)
    | (go_at_call 62; refine Calls.mono (Hask.out _ (Hdata.out _ (H5.out.below.mono (by omega))) H5.out.chk) ?_; rintro e w6 ⟨rfl, hb6⟩; have H6 := Lib.hid (H5.out.next hb6); have HBx : Hid (Below w6.heap.size w6 (w6.alloc (.cells #[.int .i64 2, .int .i64 2] 123))) := Lib.hid ((Below.refl _ _).alloc (Nat.le_refl _) _); have H7 := Lib.hid (H6.out.next HBx.out); obtain ⟨h06, B6, cb6, hck6, hown6⟩ := H6.out.chk; obtain ⟨k0, k1⟩ := hck6.cells; obtain ⟨d0, d1, d2, d3, d4, d5, d6⟩ := box_cells H7.out.box; dsimp only at d0 d1 d2 d3 d4 d5 d6; have hk1 := cell_of_below HBx.out (Nat.le_refl _) k1; have Hck6 := Lib.hid hck6; have Hown6 := Lib.hid hown6; clear hb6 hck6 hown6))
  have hvb : ∃ b of, V' = some ⟨b, of, none⟩ := by
    obtain ⟨b, of, hA, _⟩ := HV.out.bound (List.getElem?_eq_getElem hvl)
    exact ⟨b, of, hA⟩
  obtain ⟨vb, vo, rfl⟩ := hvb
  have HVd : Hid (RowCells (w6.alloc (.cells #[.int .i64 2, .int .i64 2] 123)).drew (some ⟨vb, vo, none⟩) 2 vars.length (bval vars)) := Lib.hid (HV.out.below (Hdata.out _ (H7.out.below.drew.mono (by omega))))
  have HownD : Hid ((w6.alloc (.cells #[.int .i64 2, .int .i64 2] 123)).drew.ownsRow (K + 1) 53 2 (.slice B6 (List.length bd) cb6) bd.length (flat bd)) := Lib.hid (ownsRow_same Hown6.out fun g hg => HBx.out.block g (by obtain ⟨_, cur, hc⟩ := ownsRow_lt Hown6.out g hg; exact (Array.getElem?_eq_some_iff.1 hc).1))
  have HckD : Hid (CheckerAt (w6.alloc (.cells #[.int .i64 2, .int .i64 2] 123)).drew K S sig.length cs B6 bd.length cb6) := Lib.hid (below_keeps HBx.out Hck6.out)
  have HKs : Hid (K + 1 ≤ (w6.alloc (.cells #[.int .i64 2, .int .i64 2] 123)).drew.heap.size ∧ bd.length + vars.length ≤ 1000000) := Lib.hid ⟨by have := h06; have := HBx.out.size; show K + 1 ≤ (w6.alloc (.cells #[.int .i64 2, .int .i64 2] 123)).heap.size; omega, by have := Hsz.out; omega⟩
  go_cut [] from 42 to 51 (fun wx => Hid (ChkAt wx K S sig.length cs (bd ++ vars) ∧ Below K w' wx ∧ OthersKept 53 (some K) w' wx ∧ w'.heap.size ≤ wx.heap.size ∧ wx.heap[w'.heap.size]? = some (.cells (Parts.arr ⟨op', nm', so', n', A', l.length, ca', some ⟨vb, vo, none⟩, vars.length, cv', P', pat.length, cp'⟩) 29 (0, 0))))
  case first =>
    go_region_law (refine step_append_bd (cv := cv') rfl (.tmp 46) (.tmp 48) rfl (by simp [Act.eval, Act.put]) HownD.out (by simp [Act.eval, Act.put]) HVd.out hvl HKs.out.2 HKs.out.1 ?_; intro g9 cap9 w9 hq9 hg9; obtain ⟨e1, e2, e3, e4, e5⟩ := ChkAt.grown HckD.out HownD.out hq9 hg9 HKs.out.1; have HX := Lib.hid (And.intro e1 (And.intro e2 e3)); have Hg9 := Lib.hid hg9; clear e1 e2 e3 hq9 hg9)
    all_goals
      go_wp2_with fail
      go_meet
      case rel =>
        exact Lib.hid ⟨HX.out.1, ((H7.out.below.drew.mono (by omega)).trans HX.out.2.1), (kept33_below H7.out.below).trans HX.out.2.2, ((H7.out.below.drew.mono (show K ≤ w'.heap.size by omega)).trans HX.out.2.1).size, row_kept33 H7.out.box HX.out.2.2 (by omega) (by decide)⟩
  case rest =>
    obtain ⟨bd2, Hbd2⟩ : ∃ bd2, Hid (bd2 = bd ++ vars) := ⟨_, Lib.hid rfl⟩
    have hc4 : wc.cell? ⟨w'.heap.size, 4, none⟩ = some (.slice A' l.length ca') := (box_cells hcut.out.2.2.2.2).2.2.2.2.1
    go_wp2_with fail
    go_loopw [11, 55] (fun lv i wr => ∃ (k c : Nat) (A3 : Option Addr), k ≤ l.length ∧ i = .int .i64 k ∧ lv = .slice A3 k c ∧ Hid ((checksS sig (l.take k) bd2).2 = 0) ∧ Hid (LInv w' wr K S sig.length cs bd2 ⟨op', nm', so', n', A', l.length, ca', some ⟨vb, vo, none⟩, vars.length, cv', P', pat.length, cp'⟩ A3 k c (checksS sig (l.take k) bd2).1)) (fun _ i _ => l.length - (intOf i).toNat)
    case atStart =>
      refine ⟨0, 0, none, Nat.zero_le _, rfl, rfl, Lib.hid rfl, Lib.hid ?_⟩
      exact ⟨hcut.out.2.1, hcut.out.2.2.1, by rw [Hbd2.out]; exact hcut.out.1, hcut.out.2.2.2.2, OwnQ.nil _ _ _, rfl, hcut.out.2.2.2.1⟩
    case round =>
      obtain ⟨k, c, A3, hk, rfl, rfl, Hok, HI⟩ := hrel
      by_cases hlt : k < l.length
      · have Ht : Hid (l[k]? = some l[k]) := Lib.hid (List.getElem?_eq_getElem hlt)
        have Hv := Lib.hid (HL.out k _ Ht.out)
        obtain ⟨p, hp⟩ := Hv.out.parts
        have hwr : Below w0.heap.size w0 wr := Hdata.out _ HI.out.below
        obtain ⟨b, of, rfl, h0, h1, h2, h3, h4, h5, h6⟩ := (Hf.out.below hwr).get hlt hp
        have HIb : Hid (LInv w' (boxT wr p) K S sig.length cs bd2 ⟨op', nm', so', n', some ⟨b, of, none⟩, l.length, ca', some ⟨vb, vo, none⟩, vars.length, cv', P', pat.length, cp'⟩ A3 k c (checksS sig (l.take k) bd2).1) := Lib.hid (HI.out.low (below_boxT wr p) hK)
        have Hcheck : Hid (Calls Tryz.prog 30 #[.pointer (some ⟨K, 0, none⟩), .agg p.arr] (boxT wr p) (CheckIs (boxT wr p) K S sig.length cs bd2 (checkS sig l[k] bd2))) := Lib.hid (by
          have := Hck.out k _ Ht.out K bd2 (boxT wr p) (Hdata.out _ HIb.out.below) hwK HIb.out.chk (by have := tws_mem Ht.out; have := Hsz.out; rw [Hbd2.out, List.length_append]; omega) (shortTs_mem Ht.out Hsh.out)
          rw [hp] at this
          exact this)
        have Hst2 := Lib.hid (checksS_take sig bd2 hlt Hok.out)
        have HW2 : Hid (boxT wr p = wr.alloc (.cells #[.int .i64 p.op, .string p.name, .int .i64 p.sort, .string p.n, .slice p.A p.la p.ca, .slice p.V p.lv p.cv, .slice p.P p.lp p.cp] 29)) := Lib.hid rfl
        clear hp hwr
        obtain ⟨r, hr⟩ : ∃ r, r = checkS sig l[k] bd2 := ⟨_, rfl⟩
        rw [← hr] at Hcheck Hst2
        clear hr
        generalize l[k] = t at *
        obtain ⟨rs, re⟩ := r
        dsimp only at Hst2
        by_cases he : re = 0
        · have Hst3 := Lib.hid (Hst2.out.1 he)
          subst he
          clear Hst2
          go_wp2_with (first
            | (go_at_call 30; rw [← HW2.out]; refine Calls.mono Hcheck.out ?_; intro e w8 hb8; obtain ⟨he8, _, hI8, hs8⟩ := HIb.out.check hb8 hK; subst he8; have HI8 := Lib.hid (hI8 rfl); have Hs8 := Lib.hid hs8; clear hb8 hI8 hs8)
            | (at_builtin; refine wpList_append_q _ rfl (.tmp 68) (.tmp 70) 48 rfl w'.heap.size 3 i3 (.int .i64 0) 8 Tryz.underlying48 hi3 hz0 hz1 hz2 rfl (.slice A3 k c) ((checksS sig (l.take k) bd2).1.map (Value.int .i64)) rfl (HI8.out.own.alloc _) ⟨w8.heap.size, 0, none⟩ 1 (.int .i64 rs) rfl (by simp) rfl (by rw [List.length_map, HI8.out.len]; simp only [maxLen]; omega) (by rw [List.length_map, HI8.out.len]; omega) (by have := HI8.out.base; simp; omega) ?_; intro g9 o9 cap9 w9 hq9 hg9 _; have HI9 := Lib.hid (LInv.append (HI8.out.low ((Below.refl _ _).alloc (Nat.le_refl _) (.cells #[.int .i64 rs] 3)) hK) hK (by rw [List.length_map, HI8.out.len]) hq9 hg9); have hn9 : ((checksS sig (l.take k) bd2).1.map (Value.int .i64)).length + 1 = k + 1 := (by rw [List.length_map, HI8.out.len]); rw [hn9]; clear hq9 hg9 hn9))
          go_roundw
          case rel => exact ⟨k + 1, cap9, some ⟨g9, o9, none⟩, by omega, by go_num, rfl, Lib.hid (by rw [Hst3.out]), Lib.hid (by rw [Hst3.out]; exact HI9.out)⟩
          case measure => simp [intOf]; omega
        · have Hst3 := Lib.hid (Hst2.out.2 he)
          have Hre := Lib.hid he
          have hne : (re != 0) = true := by simpa using he
          clear Hst2 he
          go_wp2_with (go_at_call 30; rw [← HW2.out]; refine Calls.mono Hcheck.out ?_; intro e w8 hb8; obtain ⟨he8, hm8, _, _⟩ := HIb.out.check hb8 hK; subst he8; have Hm8 := Lib.hid hm8; clear hb8 hm8)
          go_ret2
          obtain ⟨more, m1, m2, m3⟩ := Hm8.out
          rw [Hr1.out (by rw [← Hbd2.out, Hst3.out]; exact Hre.out), ← Hbd2.out, Hst3.out]
          exact ⟨rfl, m1, m2, vars ++ more, by rw [← List.append_assoc, ← Hbd2.out]; exact m3, fun h => absurd h Hre.out⟩
      · have Hall : Hid ((checksS sig l bd2).2 = 0) := Lib.hid (by
          have := Hok.out
          rwa [List.take_of_length_le (by omega)] at this)
        have HIl : Hid (LInv w' wr K S sig.length cs bd2 ⟨op', nm', so', n', A', l.length, ca', some ⟨vb, vo, none⟩, vars.length, cv', P', pat.length, cp'⟩ A3 k c (checksS sig l bd2).1) := Lib.hid (by
          have := HI.out
          rwa [List.take_of_length_le (by omega)] at this)
        have Hrr := Lib.hid (Hr2.out (by rw [← Hbd2.out]; exact Hall.out))
        rw [← Hbd2.out] at Hrr
        have hkl : k = l.length := by omega
        subst hkl
        have Hsort : Hid (Calls Tryz.prog 141 #[.agg #[.int .i64 2, .int .i64 2], .slice A3 l.length c] wr (SortIs wr (fixedS 2 2 (checksS sig l bd2).1))) := Lib.hid (by
          have := bind_any 2 2 HIl.out.ints (by rw [HIl.out.len]; omega)
          rwa [HIl.out.len] at this)
        obtain ⟨r, hr⟩ : ∃ r, r = fixedS 2 2 (checksS sig l bd2).1 := ⟨_, rfl⟩
        rw [← hr] at Hsort Hrr
        clear hr
        obtain ⟨r1, r2⟩ := r
        have hr2 : r2 = 0 ∨ ((r2 != 0) = true ∧ (r2 == 0) = false) := by
          by_cases h : r2 = 0
          · exact .inl h
          · exact .inr ⟨by simpa using h, by simpa using h⟩
        rcases hr2 with hr2 | ⟨hr2, hr3⟩
        · subst hr2
          have Hr3 := Lib.hid (Hrr.out.2 rfl)
          obtain ⟨q, Hq⟩ : ∃ q, Hid (q = patternsS sig pat bd2 vars) := ⟨_, Lib.hid rfl⟩
          rw [← Hbd2.out] at Hpats
          rw [← Hq.out] at Hpats Hr3
          have hq2 : q = 0 ∨ (q != 0) = true := by
            by_cases h : q = 0
            · exact .inl h
            · exact .inr (by simpa using h)
          rcases hq2 with hq2 | hq2
          · subst hq2
            go_wp2_with (first
              | (go_at_call 141; refine Calls.mono Hsort.out ?_; rintro e w8 ⟨rfl, hb8⟩; have HI8 := Lib.hid ((HIl.out.low hb8 hK).low ((Below.refl w8.heap.size w8).alloc (Nat.le_refl _) (.cells #[.int .i64 2, .int .i64 2] 123)) hK); obtain ⟨b0, b1, b2, b3, b4, b5, b6⟩ := box_cells HI8.out.box; dsimp only at b0 b1 b2 b3 b4 b5 b6; clear hb8)
              | (go_at_call 63; refine Calls.mono (Hpats.out _ (Hdata.out _ HI8.out.below) (by have := HI8.out.base; omega) HI8.out.chk) ?_; rintro e w9 ⟨rfl, hb9, hk9, more, hc9, _⟩; have HP1 : Hid (Below K w' w9 ∧ OthersKept 53 (some K) w' w9) := Lib.hid ⟨HI8.out.below.trans hb9, HI8.out.kept.trans hk9⟩; obtain ⟨B9, cb9, hk0, hk1, hf0, hf1, hsl, hck9⟩ := hc9.cut bd (vars ++ more) (by rw [Hbd2.out, List.append_assoc]); have Hck9 := Lib.hid hck9; generalize (bd2 ++ more).length = n9 at hk1 hsl; clear hb9 hk9 hc9 hck9))
            go_ret2
            rw [Hr3.out]
            exact ⟨rfl, HP1.out.1.setCell (p := ⟨K, 1, none⟩) (Nat.le_refl _) _, HP1.out.2.setCell ⟨K, 1, none⟩ rfl _, [], by rw [List.append_nil]; exact Hck9.out, fun _ => rfl⟩
          · have Hq2 : Hid (q ≠ 0) := Lib.hid (by simpa using hq2)
            go_wp2_with (first
              | (go_at_call 141; refine Calls.mono Hsort.out ?_; rintro e w8 ⟨rfl, hb8⟩; have HI8 := Lib.hid ((HIl.out.low hb8 hK).low ((Below.refl w8.heap.size w8).alloc (Nat.le_refl _) (.cells #[.int .i64 2, .int .i64 2] 123)) hK); obtain ⟨b0, b1, b2, b3, b4, b5, b6⟩ := box_cells HI8.out.box; dsimp only at b0 b1 b2 b3 b4 b5 b6; clear hb8)
              | (go_at_call 63; refine Calls.mono (Hpats.out _ (Hdata.out _ HI8.out.below) (by have := HI8.out.base; omega) HI8.out.chk) ?_; rintro e w9 ⟨rfl, hb9, hk9, more, hc9, _⟩; have HP1 : Hid (Below K w' w9 ∧ OthersKept 53 (some K) w' w9) := Lib.hid ⟨HI8.out.below.trans hb9, HI8.out.kept.trans hk9⟩; obtain ⟨B9, cb9, hk0, hk1, hf0, hf1, hsl, hck9⟩ := hc9.cut bd (vars ++ more) (by rw [Hbd2.out, List.append_assoc]); have Hck9 := Lib.hid hck9; generalize (bd2 ++ more).length = n9 at hk1 hsl; clear hb9 hk9 hc9 hck9))
            go_ret2
            rw [Hr3.out, if_pos Hq2.out]
            exact ⟨rfl, HP1.out.1.setCell (p := ⟨K, 1, none⟩) (Nat.le_refl _) _, HP1.out.2.setCell ⟨K, 1, none⟩ rfl _, [], by rw [List.append_nil]; exact Hck9.out, fun _ => rfl⟩
        · have Hr3 : Hid (r2 ≠ 0) := Lib.hid (by simpa using hr2)
          go_wp2_with (go_at_call 141; refine Calls.mono Hsort.out ?_; rintro e w8 ⟨rfl, hb8⟩; have HI8 := Lib.hid ((HIl.out.low hb8 hK).low ((Below.refl w8.heap.size w8).alloc (Nat.le_refl _) (.cells #[.int .i64 2, .int .i64 2] 123)) hK); obtain ⟨B8, cb8, hk0, hk1, hf0, hf1, hsl, hck8⟩ := HI8.out.chk.cut bd vars Hbd2.out; have Hck8 := Lib.hid hck8; clear hck8; clear hb8)
          go_ret2
          rw [Hrr.out.1 Hr3.out]
          exact ⟨rfl, HI8.out.below.setCell (p := ⟨K, 1, none⟩) (Nat.le_refl _) _, HI8.out.kept.setCell ⟨K, 1, none⟩ rfl _, [], by rw [List.append_nil]; exact Hck8.out, fun _ => rfl⟩
end Go.Proofs.YtbnonccmlildnaaGreat

/- check, whole. -/
namespace Go.Proofs.YtbnonccmlildnaaGreat
open Go.RowKit Go.Lib

theorem shape9 {ts : Int} {name tn : ByteArray} {l : List Tm} {vars : Bd} {pat : List Tm} (h : shapeB (.mk 9 name ts tn l vars pat) = true) : l.length = 2 := by
  simp [shapeB] at h
  omega
theorem shape16 {ts : Int} {name tn : ByteArray} {l : List Tm} {vars : Bd} {pat : List Tm} (h : shapeB (.mk 16 name ts tn l vars pat) = true) : l.length = 3 := by
  simp [shapeB] at h
  omega
theorem shape19 {ts : Int} {name tn : ByteArray} {l : List Tm} {vars : Bd} {pat : List Tm} (h : shapeB (.mk 19 name ts tn l vars pat) = true) : 0 < vars.length ∧ l.length = 1 ∧ 0 < pat.length := by
  simp [shapeB, bindsB] at h
  exact ⟨by omega, by omega, by omega⟩
theorem two_of {xs : List Int} (h : xs.length = 2) : ∃ a b, xs = [a, b] := by
  match xs, h with
  | [a, b], _ => exact ⟨a, b, rfl⟩
theorem three_of {xs : List Int} (h : xs.length = 3) : ∃ a b c, xs = [a, b, c] := by
  match xs, h with
  | [a, b, c], _ => exact ⟨a, b, c, rfl⟩
theorem sort_leaf (w0 : World) {sig : List Fn} {op ts : Int} {name : ByteArray} {n : Nat} {s : Int} (h : ∀ xs, nodeS sig op name ts xs = (s, 0)) : SortOK w0 sig op ts name n 142 (.agg #[.int .i64 s]) := fun W A3 c xs _ _ _ => by
  rw [h]
  exact leaf_any s
theorem sort_fixed (w0 : World) {sig : List Fn} {op ts : Int} {name : ByteArray} {n : Nat} {i o : Int} (hn : n ≤ 1000000) (h : ∀ xs, nodeS sig op name ts xs = fixedS i o xs) : SortOK w0 sig op ts name n 140 (.agg #[.int .i64 i, .int .i64 o]) := fun W A3 c xs _ hx hl => by
  rw [h, ← hl]
  exact fixed_any i o hx (by omega)
theorem nodeS_at (sig : List Fn) (name : ByteArray) (ts : Int) (xs : List Int) :
    nodeS sig 1 name ts xs = (1, 0) ∧ nodeS sig 2 name ts xs = (2, 0) ∧ nodeS sig 3 name ts xs = (2, 0) ∧ nodeS sig 18 name ts xs = (ts, 0) ∧ nodeS sig 9 name ts xs = equalS (xs.getD 0 0) (xs.getD 1 0) ∧ nodeS sig 10 name ts xs = fixedS 1 2 xs ∧ nodeS sig 11 name ts xs = fixedS 1 2 xs ∧
    nodeS sig 12 name ts xs = fixedS 1 1 xs ∧ nodeS sig 13 name ts xs = fixedS 1 1 xs ∧ nodeS sig 14 name ts xs = fixedS 1 1 xs ∧ nodeS sig 15 name ts xs = fixedS 1 1 xs ∧ nodeS sig 16 name ts xs = iteS (xs.getD 0 0) (xs.getD 1 0) (xs.getD 2 0) ∧
    nodeS sig 4 name ts xs = fixedS 2 2 xs ∧ nodeS sig 5 name ts xs = fixedS 2 2 xs ∧ nodeS sig 6 name ts xs = fixedS 2 2 xs ∧ nodeS sig 7 name ts xs = fixedS 2 2 xs ∧ nodeS sig 8 name ts xs = fixedS 2 2 xs ∧
    nodeS sig 17 name ts xs = match foundFn sig name with | some f => funS f.args f.out xs | none => (0, 32) := by
  simp [nodeS]
  cases foundFn sig name <;> rfl
theorem nodeV_op {w0 : World} {sig : List Fn} {op : Int} {name : ByteArray} {ts : Int} {n : Nat} {nv : Value} (h : NodeV w0 sig op name ts n nv) (h17 : op ≠ 17) (h18 : op ≠ 18) : nv = opV op := by
  rcases h with ⟨h, _⟩ | ⟨h, _⟩ | ⟨_, _, h⟩
  · exact absurd h h17
  · exact absurd h h18
  · exact h

theorem check_any {w : World} {sig : List Fn} {S : Option Addr} {cs : Nat} (hS : FnsAt w S sig) (hsl : sig.length ≤ 140737488355328) (ho : ∀ f ∈ sig, i64 f.out) {t : Tm} {v : Value} (h : TmV w t v) : CkOK w sig S cs t v := by
  induction h with
  | @mk op name sort n l vars pat A V P ca cv cp f g hbd hl hf hL hv hV hp hg hP ihL ihP =>
    intro K bd w' hb hK hc hsz hsh
    have htv : TmV w (.mk op name sort n l vars pat) (.agg (Parts.arr ⟨op, name, sort, n, A, l.length, ca, V, vars.length, cv, P, pat.length, cp⟩)) := .mk f g hbd hl hf hL hv hV hp hg hP
    simp only [tw] at hsz
    simp only [shortT, Bool.and_eq_true, decide_eq_true_eq] at hsh
    obtain ⟨⟨hs1, hs2⟩, hs3⟩ := hsh
    have hpre := ckPre htv hs1 hS hsl hb hK hc (by omega) hbd.l
    have hll : l.length ≤ 1000000 := by
      have := length_tsizes l
      have := tsizes_tws l
      omega
    show Calls Tryz.prog 30 #[.pointer (some ⟨K, 0, none⟩), .agg (Parts.arr ⟨op, name, sort, n, A, l.length, ca, V, vars.length, cv, P, pat.length, cp⟩)] w' _
    cases hsp : shapeB (.mk op name sort n l vars pat) with
    | false => exact check_form hpre hsp
    | true =>
      by_cases he : ofE sig op name sort l.length bd = 0
      · by_cases h19 : op = 19
        · subst h19
          obtain ⟨v0, _, _⟩ := shape19 hsp
          exact check_bind hpre hsp hf hL ihL hV v0 hg hP ihP (by omega) hs2 hs3
        · obtain ⟨n1, n2, n3, n18, n9, n10, n11, n12, n13, n14, n15, n16, n4, n5, n6, n7, n8, n17⟩ : _ := nodeS_at sig name sort []
          have hN := fun xs => nodeS_at sig name sort xs
          obtain ⟨o1, o2⟩ := shapeB_op hsp
          have hrest : bd.length + tws l ≤ 1000000 := by omega
          have hcase : op = 1 ∨ op = 2 ∨ op = 3 ∨ op = 18 ∨ op = 9 ∨ op = 16 ∨ op = 17 ∨ (op = 10 ∨ op = 11) ∨ (op = 12 ∨ op = 13 ∨ op = 14 ∨ op = 15) ∨ (op = 4 ∨ op = 5 ∨ op = 6 ∨ op = 7 ∨ op = 8) := by omega
          rcases hcase with rfl | rfl | rfl | rfl | rfl | rfl | rfl | hc3 | hc3 | hc3
          · exact check_leaf hpre hsp he h19 (fun nv hn => ⟨1, by rw [nodeV_op hn (by decide) (by decide)]; rfl, sort_leaf w fun xs => (hN xs).1⟩) hf hL ihL hrest hs2
          · exact check_leaf hpre hsp he h19 (fun nv hn => ⟨2, by rw [nodeV_op hn (by decide) (by decide)]; rfl, sort_leaf w fun xs => (hN xs).2.1⟩) hf hL ihL hrest hs2
          · exact check_leaf hpre hsp he h19 (fun nv hn => ⟨2, by rw [nodeV_op hn (by decide) (by decide)]; rfl, sort_leaf w fun xs => (hN xs).2.2.1⟩) hf hL ihL hrest hs2
          · exact check_leaf hpre hsp he h19 (fun nv hn => ⟨sort, by
              rcases hn with ⟨h, _⟩ | ⟨_, h⟩ | ⟨_, h, _⟩
              · exact absurd h (by decide)
              · exact h
              · exact absurd rfl h, sort_leaf w fun xs => (hN xs).2.2.2.1⟩) hf hL ihL hrest hs2
          · exact check_equal hpre hsp he h19 (fun nv hn => ⟨by rw [nodeV_op hn (by decide) (by decide)]; rfl, fun W A3 c xs _ hx hl3 => by
              rw [shape9 hsp] at hl3 ⊢
              obtain ⟨a, b, rfl⟩ := two_of hl3
              rw [(hN [a, b]).2.2.2.2.1]
              exact equal_any hx⟩) hf hL ihL hrest hs2
          · exact check_ite hpre hsp he h19 (fun nv hn => ⟨by rw [nodeV_op hn (by decide) (by decide)]; rfl, fun W A3 c xs _ hx hl3 => by
              rw [shape16 hsp] at hl3 ⊢
              obtain ⟨a, b, d, rfl⟩ := three_of hl3
              rw [(hN [a, b, d]).2.2.2.2.2.2.2.2.2.2.2.1]
              exact ite_any hx⟩) hf hL ihL hrest hs2
          · exact check_fun hpre hsp he h19 (fun nv hn => by
              rcases hn with ⟨_, fn, e1, e2, e3⟩ | ⟨h, _⟩ | ⟨h, _⟩
              · obtain ⟨B, c, e4, e5⟩ := e3
                refine ⟨fn.name, B, fn.args.length, c, fn.out, e4, fun W A3 c3 xs hW hx hl3 => ?_⟩
                have h17 := (hN xs).2.2.2.2.2.2.2.2.2.2.2.2.2.2.2.2.2
                rw [e1] at h17
                rw [h17]
                have hm : fn ∈ sig := by
                  unfold foundFn at e1
                  split at e1
                  · cases e1
                  · exact List.mem_of_getElem? e1
                have := fun_any (A := A3) (B := B) (ca := c3) (cb := c) fn.name fn.out hx (e5.mono hW) (by omega) (ho fn hm)
                rwa [hl3] at this
              · exact absurd h (by decide)
              · exact absurd rfl h) hf hL ihL hrest hs2
          · exact check_fixed hpre hsp he h19 (fun nv hn => ⟨1, 2, by rcases hc3 with rfl | rfl <;> (rw [nodeV_op hn (by decide) (by decide)]; rfl), sort_fixed w hll fun xs => by rcases hc3 with rfl | rfl <;> simp [nodeS]⟩) hf hL ihL hrest hs2
          · exact check_fixed hpre hsp he h19 (fun nv hn => ⟨1, 1, by rcases hc3 with rfl | rfl | rfl | rfl <;> (rw [nodeV_op hn (by decide) (by decide)]; rfl), sort_fixed w hll fun xs => by rcases hc3 with rfl | rfl | rfl | rfl <;> simp [nodeS]⟩) hf hL ihL hrest hs2
          · exact check_fixed hpre hsp he h19 (fun nv hn => ⟨2, 2, by rcases hc3 with rfl | rfl | rfl | rfl | rfl <;> (rw [nodeV_op hn (by decide) (by decide)]; rfl), sort_fixed w hll fun xs => by rcases hc3 with rfl | rfl | rfl | rfl | rfl <;> simp [nodeS]⟩) hf hL ihL hrest hs2
      · exact check_name hpre hsp he
end Go.Proofs.YtbnonccmlildnaaGreat

/- Check. -/
namespace Go.Proofs.YtbnonccmlildnaaGreat
open Go.RowKit Go.Lib

def checkTop (sig : List Fn) (t : Tm) : Int × Int := if 200 < tdepth t then (0, 33) else if 50000 < tsize t then (0, 34) else checkS sig t []
/-- A signature that came in. -/
structure SigAt (w : World) (S : Option Addr) (cs : Nat) (sig : List Fn) : Prop where
  at_ : FnsAt w S sig
  len : sig.length ≤ 140737488355328
  out : ∀ f ∈ sig, i64 f.out
set_option maxRecDepth 100000 in
set_option maxHeartbeats 4000000 in
theorem Check_any {w : World} {sig : List Fn} {S : Option Addr} {cs : Nat} (hS : SigAt w S cs sig) {t : Tm} {v : Value} (h : TmV w t v) (hsz : tw t ≤ 1000000) (hsh : shortT t = true) : ∀ w', Below w.heap.size w w' →
    Calls Tryz.prog 20 #[.slice S sig.length cs, v] w' (SortIs w' (checkTop sig t)) := by
  intro w' hb
  obtain ⟨p, rfl⟩ := h.parts
  have Hdeep : Hid (∀ W, Below w.heap.size w W → Calls Tryz.prog 28 #[.agg p.arr, .int .i64 (200 : Nat)] W fun e w'' => e = .returned (.bool (decide (200 < tdepth t))) ∧ Below W.heap.size W w'') := Lib.hid (fun W hW => deeper_any h 200 (by omega) W hW)
  have Hsize : Hid (∀ W, Below w.heap.size w W → Calls Tryz.prog 29 #[.agg p.arr, .int .i64 (50000 : Nat)] W fun e w'' => e = .returned (.int .i64 (min (tsize t) (50000 + 1) : Nat)) ∧ Below W.heap.size W w'') := Lib.hid (fun W hW => size_any h 50000 (by omega) W hW)
  have Hck : Hid (∀ W, Below w'.heap.size w' W → Calls Tryz.prog 30 #[.pointer (some ⟨W.heap.size, 0, none⟩), .agg p.arr] (W.alloc (.cells #[.slice S sig.length cs, .slice none 0 0] 84)) (CheckIs (W.alloc (.cells #[.slice S sig.length cs, .slice none 0 0] 84)) W.heap.size S sig.length cs [] (checkS sig t []))) := Lib.hid (fun W hW =>
    check_any hS.at_ hS.len hS.out h W.heap.size [] _ ((hb.trans (hW.mono hb.size)).alloc (by have := hb.size; have := hW.size; omega) _) (by have := hb.size; have := hW.size; omega) ⟨by simp, none, 0, heap_alloc_new W _, World.ownsRow_nil _ _ _ _⟩ (by simpa using hsz) hsh)
  have Hb0 : Hid (Below w'.heap.size w' (boxT w' p)) := Lib.hid (below_boxT _ _)
  have Hrow : Hid (∀ W, Below (boxT w' p).heap.size (boxT w' p) W → W.heap[w'.heap.size]? = some (.cells p.arr 29 (0, 0))) := Lib.hid (fun W hW => below_keeps hW (boxT_row w' p))
  have HbW : Hid (Below w.heap.size w (boxT w' p)) := Lib.hid (hb.trans ((below_boxT w' p).mono hb.size))
  have HW : Hid (boxT w' p = w'.alloc (.cells #[.int .i64 p.op, .string p.name, .int .i64 p.sort, .string p.n, .slice p.A p.la p.ca, .slice p.V p.lv p.cv, .slice p.P p.lp p.cp] 29)) := Lib.hid rfl
  clear h hb hS hsz hsh
  show Calls Tryz.prog 20 #[.slice S sig.length cs, .agg #[.int .i64 p.op, .string p.name, .int .i64 p.sort, .string p.n, .slice p.A p.la p.ca, .slice p.V p.lv p.cv, .slice p.P p.lp p.cp]] w' _
  by_cases hd : 200 < tdepth t
  · have Hr : Hid (checkTop sig t = (0, 33)) := Lib.hid (by unfold checkTop; rw [if_pos hd])
    rw [decide_eq_true hd] at Hdeep
    clear hd
    go_enter Tryz.func20, Tryz.ntmps20
    go_wp2_with (go_at_call 28; rw [← HW.out]; refine Calls.mono (Hdeep.out _ HbW.out) ?_; rintro e w5 ⟨rfl, hb5⟩; have H5 : Hid (Below w'.heap.size w' w5) := Lib.hid (Hb0.out.trans (hb5.mono Hb0.out.size)); clear hb5)
    go_ret2
    exact ⟨by rw [Hr.out]; rfl, H5.out⟩
  · rw [decide_eq_false hd] at Hdeep
    by_cases hs : 50000 < tsize t
    · have Hr : Hid (checkTop sig t = (0, 34)) := Lib.hid (by unfold checkTop; rw [if_neg hd, if_pos hs])
      have hm : (50000 : Int) < ((min (tsize t) (50000 + 1) : Nat) : Int) := by omega
      generalize ((min (tsize t) (50000 + 1) : Nat) : Int) = m at *
      clear hs hd
      go_enter Tryz.func20, Tryz.ntmps20
      go_wp2_with (first
        | (go_at_call 28; rw [← HW.out]; refine Calls.mono (Hdeep.out _ HbW.out) ?_; rintro e w5 ⟨rfl, hb5⟩; have Hb5 := Lib.hid hb5; have H5 : Hid (Below w'.heap.size w' w5) := Lib.hid (Hb0.out.trans (hb5.mono Hb0.out.size)); obtain ⟨c0, c1, c2, c3, c4, c5, c6⟩ := box_cells (Hrow.out _ hb5); clear hb5)
        | (go_at_call 29; refine Calls.mono (Hsize.out _ (HbW.out.trans (Hb5.out.mono HbW.out.size))) ?_; rintro e w6 ⟨rfl, hb6⟩; have H6 : Hid (Below w'.heap.size w' w6) := Lib.hid (H5.out.trans (hb6.mono H5.out.size)); clear hb6))
      go_ret2
      exact ⟨by rw [Hr.out]; rfl, H6.out⟩
    · have Hr : Hid (checkTop sig t = checkS sig t []) := Lib.hid (by unfold checkTop; rw [if_neg hd, if_neg hs])
      have hm : ((min (tsize t) (50000 + 1) : Nat) : Int) ≤ 50000 := by omega
      generalize ((min (tsize t) (50000 + 1) : Nat) : Int) = m at *
      clear hs hd
      go_enter Tryz.func20, Tryz.ntmps20
      go_wp2_with (first
        | (go_at_call 28; rw [← HW.out]; refine Calls.mono (Hdeep.out _ HbW.out) ?_; rintro e w5 ⟨rfl, hb5⟩; have Hb5 := Lib.hid hb5; have H5 : Hid (Below w'.heap.size w' w5) := Lib.hid (Hb0.out.trans (hb5.mono Hb0.out.size)); obtain ⟨c0, c1, c2, c3, c4, c5, c6⟩ := box_cells (Hrow.out _ hb5); clear hb5)
        | (go_at_call 29; refine Calls.mono (Hsize.out _ (HbW.out.trans (Hb5.out.mono HbW.out.size))) ?_; rintro e w6 ⟨rfl, hb6⟩; have H6 : Hid (Below w'.heap.size w' w6) := Lib.hid (H5.out.trans (hb6.mono H5.out.size)); have H6b : Hid (Below (boxT w' p).heap.size (boxT w' p) (w6.alloc (.cells #[.slice S sig.length cs, .slice none 0 0] 84))) := Lib.hid ((Hb5.out.trans (hb6.mono Hb5.out.size)).alloc (by have := Hb5.out.size; have := hb6.size; omega) _); obtain ⟨d0, d1, d2, d3, d4, d5, d6⟩ := box_cells (Hrow.out _ H6b.out); clear hb6)
        | (go_at_call 30; refine Calls.mono (Hck.out _ H6.out) ?_; rintro e w8 ⟨rfl, hb8, _⟩; have H8 : Hid (Below w'.heap.size w' w8) := Lib.hid ((H6.out.alloc H6.out.size _).trans (hb8.mono H6.out.size)); clear hb8))
      go_ret2
      exact ⟨by rw [Hr.out]; rfl, H8.out⟩
end Go.Proofs.YtbnonccmlildnaaGreat
