/- ModelTurns: the opposite of a formula; four terms; what Value tells. -/
import Derived.Test.YtbnonccmlildnaaGreatM39
set_option linter.unusedSimpArgs false
set_option linter.unusedVariables false
namespace Go.Proofs.YtbnonccmlildnaaGreat
open Go.RowKit Go.Lib

theorem ts_one {W : World} {K : Nat} {p : Parts} {t : Tm} (hrow : W.heap[K]? = some (.cells p.arr 29 (0, 0))) (ht : TmV W t (.agg p.arr)) : TsV W [t] (.slice (some ⟨K, 0, none⟩) 1 1) := by
  refine ⟨_, 1, rfl, Nat.le_refl _, fun _ => .agg p.arr, .inr ⟨K, 0, rfl, fun j hj => ⟨rfl, fun i hi => ?_⟩⟩, fun j u hu => ?_⟩
  · have hj0 : j = 0 := by simp at hj; omega
    subst hj0
    rw [cell_of_row W _ _ _ 29 (0, 0) hrow]
    simp [Value.cells]
  · match j, hu with
    | 0, hu => cases hu; exact ht
    | j + 1, hu => simp at hu
def NotIs (t : Tm) (w : World) (e : Ending) (w' : World) : Prop := ∃ pp : Parts, e = .returned (.agg pp.arr) ∧ TmV w' (opT 4 [t]) (.agg pp.arr) ∧ Below w.heap.size w w'
set_option maxRecDepth 100000 in
set_option maxHeartbeats 1000000 in
theorem not_any {w0 : World} {t : Tm} {p : Parts} (ht : TmV w0 t (.agg p.arr)) (w : World) (hw : Below w0.heap.size w0 w) : Calls Tryz.prog 13 #[.agg p.arr] w (NotIs t w) := by
  obtain ⟨op, nm, so, nn, A, la, ca, V, lv, cv, P, lp, cp⟩ := p
  have Ht := Lib.hid (ht.mono hw)
  obtain ⟨r0, r1, r2, hsz, hb0⟩ := three_rows_at w (.cells #[.int .i64 op, .string nm, .int .i64 so, .string nn, .slice A la ca, .slice V lv cv, .slice P lp cp] 29) (.cells #[.int .i64 4, .string ⟨#[]⟩, .int .i64 0, .string ⟨#[]⟩, .slice (some ⟨w.heap.size + 1 + 1, 0, none⟩) 1 1, .slice none 0 0, .slice none 0 0] 29) (.cells #[.int .i64 op, .string nm, .int .i64 so, .string nn, .slice A la ca, .slice V lv cv, .slice P lp cp] 29)
  obtain ⟨W3, hW3⟩ : ∃ W3, W3 = ((w.alloc (.cells #[.int .i64 op, .string nm, .int .i64 so, .string nn, .slice A la ca, .slice V lv cv, .slice P lp cp] 29)).alloc (.cells #[.int .i64 4, .string ⟨#[]⟩, .int .i64 0, .string ⟨#[]⟩, .slice (some ⟨w.heap.size + 1 + 1, 0, none⟩) 1 1, .slice none 0 0, .slice none 0 0] 29)).alloc (.cells #[.int .i64 op, .string nm, .int .i64 so, .string nn, .slice A la ca, .slice V lv cv, .slice P lp cp] 29) := ⟨_, rfl⟩
  rw [← hW3] at r0 r1 r2 hsz hb0
  have hT : TmV W3 (opT 4 [t]) (.agg (Parts.arr ⟨4, ⟨#[]⟩, 0, ⟨#[]⟩, some ⟨w.heap.size + 1 + 1, 0, none⟩, 1, 1, none, 0, 0, none, 0, 0⟩)) :=
    TmV.make (bds_small (by omega) (by decide) (by decide) (by simp) (by simp)) (ts_one (p := ⟨op, nm, so, nn, A, la, ca, V, lv, cv, P, lp, cp⟩) r2 (Ht.out.mono hb0)) (BsV.nil _) (TsV.nil _)
  have Hfin := Lib.hid (And.intro r1 (And.intro hT hb0))
  have HW3 := Lib.hid hW3
  clear hW3 hT r0 r1 r2 hb0 ht hw hsz
  unfold Parts.arr
  go_enter Tryz.func13, Tryz.ntmps13
  go_wp2_with fail
  obtain ⟨hrow, hT, hbS⟩ := Hfin.out
  rw [← HW3.out]
  exact bodyPost_ret (results_cell_row rfl _ _ (w.heap.size + 1) 29 _ (0, 0) _ rfl hrow Tryz.underlying29 rfl (by kernel_rfl)) rfl ⟨_, rfl, hT, hbS⟩
set_option maxHeartbeats 1000000 in
theorem light_four {w W : World} {a b : Tm} {p q : Parts} {S T : Option Addr} {cs ns ct : Nat} {tbs : List Tb} (o0 : Int) (ha : TmV w a (.agg p.arr)) (hb' : TmV w b (.agg q.arr)) (hT : TbsAt w T tbs) (hnt : tbs.length ≤ 140737488355328) (hns : ns ≤ 140737488355328) (hb : Below w.heap.size w W) :
    Calls Tryz.prog 8 #[.slice S ns cs, .agg #[.slice T tbs.length ct, .int .i64 o0], .slice (some ⟨W.heap.size, 0, none⟩) 4 4] (W.alloc (.cells (p.arr ++ q.arr ++ p.arr ++ q.arr) 29)) (LightIs (lightB 200 [a, b, a, b]) (W.alloc (.cells (p.arr ++ q.arr ++ p.arr ++ q.arr) 29))) := by
  have hb2 : Below W.heap.size W (W.alloc (.cells (p.arr ++ q.arr ++ p.arr ++ q.arr) 29)) := (Below.refl _ _).alloc (Nat.le_refl _) _
  have hrow := heap_alloc_new W (.cells (p.arr ++ q.arr ++ p.arr ++ q.arr) 29)
  have ha2 := (ha.mono hb).mono hb2
  have hb3 := (hb'.mono hb).mono hb2
  refine lightM_any o0 ((hT.mono hb).mono hb2) hnt hns (l := [a, b, a, b]) (f := fun j => if j = 0 ∨ j = 2 then .agg p.arr else .agg q.arr) (.inr ⟨_, 0, rfl, fun j hj => ?_⟩) (fun j t ht => ?_) (by simp) _ (Below.refl _ _)
  · have h4 : j = 0 ∨ j = 1 ∨ j = 2 ∨ j = 3 := by simp at hj; omega
    rcases h4 with rfl | rfl | rfl | rfl
    all_goals
      refine ⟨rfl, fun i hi => ?_⟩
      rw [cell_of_row _ _ _ _ 29 (0, 0) hrow]
      have h7 : i = 0 ∨ i = 1 ∨ i = 2 ∨ i = 3 ∨ i = 4 ∨ i = 5 ∨ i = 6 := by omega
      rcases h7 with rfl | rfl | rfl | rfl | rfl | rfl | rfl <;> simp [Value.cells, Parts.arr]
  · match j, ht with
    | 0, ht => cases ht; exact ha2
    | 1, ht => cases ht; exact hb3
    | 2, ht => cases ht; exact ha2
    | 3, ht => cases ht; exact hb3
    | j + 4, ht => simp at ht
/-- What is known of what is looked into. -/
structure ModOK (w : World) (sig : List Fn) (S : Option Addr) (cs : Nat) (tbs : List Tb) (T : Option Addr) (tab : Nat → Nat) : Prop where
  sg : SigAt w S cs sig
  tb : TbsAt w T tbs
  ntbs : tbs.length ≤ 140737488355328
  outs : tabsL 1048576 tbs
  tab : TabAt tab w
theorem ModOK.mono {w w' : World} {sig : List Fn} {S : Option Addr} {cs : Nat} {tbs : List Tb} {T : Option Addr} {tab : Nat → Nat} (h : ModOK w sig S cs tbs T tab) (hb : Below w.heap.size w w') : ModOK w' sig S cs tbs T tab :=
  ⟨⟨h.sg.at_.mono hb, h.sg.len, h.sg.out⟩, h.tb.mono hb, h.ntbs, h.outs, fun j hj => cell_of_below hb (Nat.le_refl _) (h.tab j hj)⟩
def objsOf (o : Int) : Nat := (min (max o 0) 1000).toNat
theorem value_tab {w : World} {sig : List Fn} {S T : Option Addr} {cs ct : Nat} {tbs : List Tb} {tab : Nat → Nat} (h : ModOK w sig S cs tbs T tab) (o : Int) {t : Tm} {v : Value} (ht : TmV w t v) (hn : numsT 1048576 t = true) (htw : tw t ≤ 1000000) (hsh : shortT t = true) :
    ∀ W, Below w.heap.size w W → Calls Tryz.prog 9 #[.slice S sig.length cs, .agg #[.slice T tbs.length ct, .int .i64 o], v] W (ValueIs (tauT tab) (valueS (tauT tab) sig tbs (objsOf o) t) W) :=
  Value_any (M := ⟨sig, tbs, o, objsOf o, S, cs, T, ct, w⟩) (L := 1048576) ⟨h.sg.at_, h.tb, by show objsOf o ≤ 1000; unfold objsOf; omega, text_tab h.tab (by show objsOf o ≤ 1000; unfold objsOf; omega), h.outs, by decide, h.sg.len, h.ntbs⟩ h.sg.out (by show (objsOf o : Int) = min (max o 0) 1000; unfold objsOf; omega) ht hn htw hsh
end Go.Proofs.YtbnonccmlildnaaGreat

/- ModelTurns: the walk. -/
namespace Go.Proofs.YtbnonccmlildnaaGreat
open Go.RowKit Go.Lib

def txB : Bool → ByteArray
  | true => ⟨#[116, 114, 117, 101]⟩
  | false => ⟨#[102, 97, 108, 115, 101]⟩
theorem txB_eq (τ : Nat → List UInt8) (b : Bool) : textV τ (.tr b) = txB b := by cases b <;> rfl
theorem no_word {τ : Nat → List UInt8} {v : Vl} (h : ¬ ∃ b, v = .tr b) : ((textV τ v).toList == [116, 114, 117, 101]) = false ∧ ((textV τ v).toList == [102, 97, 108, 115, 101]) = false := by
  constructor
  · rw [beq_eq_false_iff_ne]
    intro e
    exact h ⟨true, text_true (b := true) (e.trans (by kernel_rfl))⟩
  · rw [beq_eq_false_iff_ne]
    intro e
    exact h ⟨false, text_true (b := false) (e.trans (by kernel_rfl))⟩
theorem value_word {w : World} {sig : List Fn} {S T : Option Addr} {cs ct : Nat} {tbs : List Tb} {tab : Nat → Nat} (h : ModOK w sig S cs tbs T tab) (o : Int) {t : Tm} {r : Bool} (hr : valueS (tauT tab) sig tbs (objsOf o) t = .ok (.tr r)) (hn : numsT 1048576 t = true) (htw : tw t ≤ 1000000) (hsh : shortT t = true) :
    ∀ W v, Below w.heap.size w W → TmV W t v → Calls Tryz.prog 9 #[.slice S sig.length cs, .agg #[.slice T tbs.length ct, .int .i64 o], v] W fun e w' => e = .returned (.tuple #[.string (txB r), .int .i64 0]) ∧ Below W.heap.size W w' := fun W v hW hv =>
  (value_tab (ct := ct) (h.mono hW) o hv hn htw hsh W (Below.refl _ _)).mono fun e w' hp => by
    obtain ⟨hp, hb⟩ := hp
    rw [hr] at hp
    rcases hp with ⟨x, hx, he⟩ | ⟨er, z, hx, _⟩
    · cases hx
      rw [txB_eq] at he
      exact ⟨he, hb⟩
    · cases hx
theorem arr_four (p q : Parts) : p.arr ++ q.arr ++ p.arr ++ q.arr = #[.int .i64 p.op, .string p.name, .int .i64 p.sort, .string p.n, .slice p.A p.la p.ca, .slice p.V p.lv p.cv, .slice p.P p.lp p.cp, .int .i64 q.op, .string q.name, .int .i64 q.sort, .string q.n, .slice q.A q.la q.ca, .slice q.V q.lv q.cv, .slice q.P q.lp q.cp, .int .i64 p.op, .string p.name, .int .i64 p.sort, .string p.n, .slice p.A p.la p.ca, .slice p.V p.lv p.cv, .slice p.P p.lp p.cp, .int .i64 q.op, .string q.name, .int .i64 q.sort, .string q.n, .slice q.A q.la q.ca, .slice q.V q.lv q.cv, .slice q.P q.lp q.cp] := by simp [Parts.arr]
def turn10 (S T : Option Addr) (ns cs nt ct : Nat) (o0 : Int) (a b : Tm) (pa pb : Parts) (r : ByteArray) : Nat → World → Value → Prop
  | 0, _, v => v = .slice S ns cs
  | 1, _, v => v = .agg #[.slice T nt ct, .int .i64 o0]
  | 2, _, v => v = .func (.func 13) #[] #[]
  | 3, _, v => v = .agg pa.arr
  | 4, _, v => v = .agg pb.arr
  | 5, w, v => ∃ g : Nat, v = .slice (some ⟨g, 0, none⟩) 2 2 ∧ TsV w [a, b] v
  | 6, w, v => ∃ g : Nat, v = .agg (Parts.arr ⟨5, ⟨#[]⟩, 0, ⟨#[]⟩, some ⟨g, 0, none⟩, 2, 2, none, 0, 0, none, 0, 0⟩) ∧ TmV w (opT 5 [a, b]) v
  | 7, w, v => ∃ pp : Parts, v = .agg pp.arr ∧ TmV w (opT 4 [opT 5 [a, b]]) v
  | 8, _, v => v = .tuple #[.string r, .int .i64 0]
  | 9, _, v => v = .tuple #[.string r, .int .i64 0]
  | 10, _, v => v = .string r
  | 11, _, v => v = .int .i64 0
  | 12, _, v => v = .string r
  | 13, _, v => v = .int .i64 0
  | _, _, _ => True
theorem turn10_keep (S T : Option Addr) (ns cs nt ct : Nat) (o0 : Int) (a b : Tm) (pa pb : Parts) (r : ByteArray) (i : Nat) (w w' : World) (v : Value) (h : turn10 S T ns cs nt ct o0 a b pa pb r i w v) (hb : Below w.heap.size w w') : turn10 S T ns cs nt ct o0 a b pa pb r i w' v :=
  match i, h with
  | 0, h => h
  | 1, h => h
  | 2, h => h
  | 3, h => h
  | 4, h => h
  | 5, ⟨g, h1, h2⟩ => ⟨g, h1, h2.mono hb⟩
  | 6, ⟨g, h1, h2⟩ => ⟨g, h1, h2.mono hb⟩
  | 7, ⟨pp, h1, h2⟩ => ⟨pp, h1, h2.mono hb⟩
  | 8, h => h
  | 9, h => h
  | 10, h => h
  | 11, h => h
  | 12, h => h
  | 13, h => h
  | n + 14, _ => trivial
def turn11 (S T : Option Addr) (ns cs nt ct : Nat) (o0 : Int) (a b : Tm) (pa pb : Parts) (r : ByteArray) : Nat → World → Value → Prop
  | 0, _, v => v = .slice S ns cs
  | 1, _, v => v = .agg #[.slice T nt ct, .int .i64 o0]
  | 2, _, v => v = .func (.func 13) #[] #[]
  | 3, _, v => v = .agg pa.arr
  | 4, w, v => ∃ pp : Parts, v = .agg pp.arr ∧ TmV w (opT 4 [a]) v
  | 5, _, v => v = .func (.func 13) #[] #[]
  | 6, _, v => v = .agg pb.arr
  | 7, w, v => ∃ pp : Parts, v = .agg pp.arr ∧ TmV w (opT 4 [b]) v
  | 8, w, v => ∃ g : Nat, v = .slice (some ⟨g, 0, none⟩) 2 2 ∧ TsV w [opT 4 [a], opT 4 [b]] v
  | 9, w, v => ∃ g : Nat, v = .agg (Parts.arr ⟨6, ⟨#[]⟩, 0, ⟨#[]⟩, some ⟨g, 0, none⟩, 2, 2, none, 0, 0, none, 0, 0⟩) ∧ TmV w (opT 6 [opT 4 [a], opT 4 [b]]) v
  | 10, _, v => v = .tuple #[.string r, .int .i64 0]
  | 11, _, v => v = .tuple #[.string r, .int .i64 0]
  | 12, _, v => v = .string r
  | 13, _, v => v = .int .i64 0
  | 14, _, v => v = .string r
  | 15, _, v => v = .int .i64 0
  | _, _, _ => True
theorem turn11_keep (S T : Option Addr) (ns cs nt ct : Nat) (o0 : Int) (a b : Tm) (pa pb : Parts) (r : ByteArray) (i : Nat) (w w' : World) (v : Value) (h : turn11 S T ns cs nt ct o0 a b pa pb r i w v) (hb : Below w.heap.size w w') : turn11 S T ns cs nt ct o0 a b pa pb r i w' v :=
  match i, h with
  | 0, h => h
  | 1, h => h
  | 2, h => h
  | 3, h => h
  | 4, ⟨pp, h1, h2⟩ => ⟨pp, h1, h2.mono hb⟩
  | 5, h => h
  | 6, h => h
  | 7, ⟨pp, h1, h2⟩ => ⟨pp, h1, h2.mono hb⟩
  | 8, ⟨g, h1, h2⟩ => ⟨g, h1, h2.mono hb⟩
  | 9, ⟨g, h1, h2⟩ => ⟨g, h1, h2.mono hb⟩
  | 10, h => h
  | 11, h => h
  | 12, h => h
  | 13, h => h
  | 14, h => h
  | 15, h => h
  | n + 16, _ => trivial
def turn12 (S T : Option Addr) (ns cs nt ct : Nat) (o0 : Int) (a b : Tm) (pa pb : Parts) (r : ByteArray) : Nat → World → Value → Prop
  | 0, _, v => v = .slice S ns cs
  | 1, _, v => v = .agg #[.slice T nt ct, .int .i64 o0]
  | 2, _, v => v = .func (.func 13) #[] #[]
  | 3, _, v => v = .agg pa.arr
  | 4, w, v => ∃ pp : Parts, v = .agg pp.arr ∧ TmV w (opT 4 [a]) v
  | 5, _, v => v = .tuple #[.string r, .int .i64 0]
  | 6, _, v => v = .tuple #[.string r, .int .i64 0]
  | 7, _, v => v = .string r
  | 8, _, v => v = .int .i64 0
  | 9, _, v => v = .string r
  | 10, _, v => v = .int .i64 0
  | _, _, _ => True
theorem turn12_keep (S T : Option Addr) (ns cs nt ct : Nat) (o0 : Int) (a b : Tm) (pa pb : Parts) (r : ByteArray) (i : Nat) (w w' : World) (v : Value) (h : turn12 S T ns cs nt ct o0 a b pa pb r i w v) (hb : Below w.heap.size w w') : turn12 S T ns cs nt ct o0 a b pa pb r i w' v :=
  match i, h with
  | 0, h => h
  | 1, h => h
  | 2, h => h
  | 3, h => h
  | 4, ⟨pp, h1, h2⟩ => ⟨pp, h1, h2.mono hb⟩
  | 5, h => h
  | 6, h => h
  | 7, h => h
  | 8, h => h
  | 9, h => h
  | 10, h => h
  | n + 11, _ => trivial
set_option maxRecDepth 100000 in
set_option maxHeartbeats 16000000 in
theorem modelTurns_any {w : World} {sig : List Fn} {S T : Option Addr} {cs ct : Nat} {tbs : List Tb} {tab : Nat → Nat} (h : ModOK w sig S cs tbs T tab) {o0 : Int} {a b : Tm} {pa pb : Parts} (ha : TmV w a (.agg pa.arr)) (hb : TmV w b (.agg pb.arr)) (hna : numsT 1048576 a = true) (hnb : numsT 1048576 b = true) :
    Calls Tryz.prog 5 #[.slice S sig.length cs, .agg #[.slice T tbs.length ct, .int .i64 o0], .agg pa.arr, .agg pb.arr] w (BoolIs true w) := by
  obtain ⟨aop, anm, aso, ann, aA, ala, aca, aV, alv, acv, aP, alp, acp⟩ := pa
  obtain ⟨bop, bnm, bso, bnn, bA, bla, bca, bV, blv, bcv, bP, blp, bcp⟩ := pb
  obtain ⟨r0, r1, r2, hsz, hb0⟩ := three_rows_at w (.cells #[.slice T tbs.length ct, .int .i64 o0] 25) (.cells #[.int .i64 aop, .string anm, .int .i64 aso, .string ann, .slice aA ala aca, .slice aV alv acv, .slice aP alp acp] 29) (.cells #[.int .i64 bop, .string bnm, .int .i64 bso, .string bnn, .slice bA bla bca, .slice bV blv bcv, .slice bP blp bcp] 29)
  obtain ⟨W1, hW1⟩ : ∃ W1, W1 = ((w.alloc (.cells #[.slice T tbs.length ct, .int .i64 o0] 25)).alloc (.cells #[.int .i64 aop, .string anm, .int .i64 aso, .string ann, .slice aA ala aca, .slice aV alv acv, .slice aP alp acp] 29)).alloc (.cells #[.int .i64 bop, .string bnm, .int .i64 bso, .string bnn, .slice bA bla bca, .slice bV blv bcv, .slice bP blp bcp] 29) := ⟨_, rfl⟩
  rw [← hW1] at r0 r1 r2 hsz hb0
  have HR1 : Hid (∀ W, Below W1.heap.size W1 W → W.heap[w.heap.size]? = some (.cells #[.slice T tbs.length ct, .int .i64 o0] 25 (0, 0)) ∧ W.heap[w.heap.size + 1]? = some (.cells (Parts.arr ⟨aop, anm, aso, ann, aA, ala, aca, aV, alv, acv, aP, alp, acp⟩) 29 (0, 0)) ∧ W.heap[w.heap.size + 1 + 1]? = some (.cells (Parts.arr ⟨bop, bnm, bso, bnn, bA, bla, bca, bV, blv, bcv, bP, blp, bcp⟩) 29 (0, 0))) := Lib.hid (fun W hW => ⟨(hW.block _ (by omega)).trans r0, (hW.block _ (by omega)).trans r1, (hW.block _ (by omega)).trans r2⟩)
  have HW1 := Lib.hid hW1
  have Hb0 := Lib.hid hb0
  have HM := Lib.hid h
  have HTa := Lib.hid ha
  have HTb := Lib.hid hb
  have Hna := Lib.hid hna
  have Hnb := Lib.hid hnb
  have hns := h.sg.len
  have hnt := h.ntbs
  clear hW1 r0 r1 r2 hb0 h ha hb hna hnb hsz
  show Calls Tryz.prog 5 #[.slice S sig.length cs, .agg #[.slice T tbs.length ct, .int .i64 o0], .agg #[.int .i64 aop, .string anm, .int .i64 aso, .string ann, .slice aA ala aca, .slice aV alv acv, .slice aP alp acp], .agg #[.int .i64 bop, .string bnm, .int .i64 bso, .string bnn, .slice bA bla bca, .slice bV blv bcv, .slice bP blp bcp]] w _
  go_enter Tryz.func5, Tryz.ntmps5
  go_upto_region 3 with (go_at_call 7; rw [← HW1.out]; refine Calls.mono (known_any W1) ?_; rintro e w1 ⟨rfl, hb1⟩; have Hb1 := Lib.hid hb1; clear hb1)
  have HBw := Lib.hid (Hb0.out.trans (Hb1.out.mono Hb0.out.size))
  have HRow : Hid (∀ W, Below w1.heap.size w1 W → W.heap[w.heap.size]? = some (.cells #[.slice T tbs.length ct, .int .i64 o0] 25 (0, 0)) ∧ W.heap[w.heap.size + 1]? = some (.cells (Parts.arr ⟨aop, anm, aso, ann, aA, ala, aca, aV, alv, acv, aP, alp, acp⟩) 29 (0, 0)) ∧ W.heap[w.heap.size + 1 + 1]? = some (.cells (Parts.arr ⟨bop, bnm, bso, bnn, bA, bla, bca, bV, blv, bcv, bP, blp, bcp⟩) 29 (0, 0))) := Lib.hid (fun W hW => HR1.out W (Hb1.out.trans (hW.mono Hb1.out.size)))
  clear HR1 Hb0 Hb1 HW1
  obtain ⟨hr0, hr1, hr2⟩ := HRow.out w1 (Below.refl _ _)
  have m0 : w1.cell? ⟨w.heap.size, 0, none⟩ = some (.slice T tbs.length ct) := by rw [cell_of_row _ _ 0 _ _ _ hr0]; rfl
  have m1 : w1.cell? ⟨w.heap.size, 1, none⟩ = some (.int .i64 o0) := by rw [cell_of_row _ _ 1 _ _ _ hr0]; rfl
  obtain ⟨x0, x1, x2, x3, x4, x5, x6⟩ := box_cells hr1
  obtain ⟨y0, y1, y2, y3, y4, y5, y6⟩ := box_cells hr2
  dsimp only at x0 x1 x2 x3 x4 x5 x6 y0 y1 y2 y3 y4 y5 y6
  clear hr0 hr1 hr2
  have Hlight : Hid (Calls Tryz.prog 8 #[.slice S sig.length cs, .agg #[.slice T tbs.length ct, .int .i64 o0], .slice (some ⟨w1.heap.size, 0, none⟩) 4 4] (w1.alloc (.cells #[.int .i64 aop, .string anm, .int .i64 aso, .string ann, .slice aA ala aca, .slice aV alv acv, .slice aP alp acp, .int .i64 bop, .string bnm, .int .i64 bso, .string bnn, .slice bA bla bca, .slice bV blv bcv, .slice bP blp bcp, .int .i64 aop, .string anm, .int .i64 aso, .string ann, .slice aA ala aca, .slice aV alv acv, .slice aP alp acp, .int .i64 bop, .string bnm, .int .i64 bso, .string bnn, .slice bA bla bca, .slice bV blv bcv, .slice bP blp bcp] 29)) (LightIs (lightB 200 [a, b, a, b]) (w1.alloc (.cells #[.int .i64 aop, .string anm, .int .i64 aso, .string ann, .slice aA ala aca, .slice aV alv acv, .slice aP alp acp, .int .i64 bop, .string bnm, .int .i64 bso, .string bnn, .slice bA bla bca, .slice bV blv bcv, .slice bP blp bcp, .int .i64 aop, .string anm, .int .i64 aso, .string ann, .slice aA ala aca, .slice aV alv acv, .slice aP alp acp, .int .i64 bop, .string bnm, .int .i64 bso, .string bnn, .slice bA bla bca, .slice bV blv bcv, .slice bP blp bcp] 29)))) := Lib.hid (by
    have h := light_four (cs := cs) (S := S) (ns := sig.length) (ct := ct) o0 HTa.out HTb.out HM.out.tb hnt hns HBw.out
    rw [arr_four] at h
    exact h)
  go_wp2_with fail
  go_at_call 8
  refine Calls.mono Hlight.out ?_
  rintro e w3 ⟨lb, rfl, hlb, hb3⟩
  have Hb13 : Hid (Below w1.heap.size w1 w3) := Lib.hid (((Below.refl w1.heap.size w1).alloc (Nat.le_refl _) _).trans (hb3.mono (by simp)))
  clear hb3 Hlight x0 x1 x2 x3 x4 x5 x6 y0 y1 y2 y3 y4 y5 y6 m0 m1
  cases lb with
  | false =>
    go_wp2_with fail
    go_ret
    exact ⟨rfl, HBw.out.trans (Hb13.out.mono HBw.out.size)⟩
  | true =>
    have hl := hlb rfl
    have Hsz : Hid (tw a ≤ 100 ∧ tw b ≤ 100 ∧ shortT a = true ∧ shortT b = true) := Lib.hid (by
      unfold lightB at hl
      have h0 := of_decide_eq_true hl
      obtain ⟨h1, h2, _⟩ := wgts_tw [a, b, a, b] 0 0 h0
      simp only [tws] at h1
      simp only [shortTs, Bool.and_eq_true] at h2
      exact ⟨by omega, by omega, h2.1, h2.2.1⟩)
    clear hl hlb
    have Hva : Hid (∀ W, Below w.heap.size w W → Calls Tryz.prog 9 #[.slice S sig.length cs, .agg #[.slice T tbs.length ct, .int .i64 o0], .agg #[.int .i64 aop, .string anm, .int .i64 aso, .string ann, .slice aA ala aca, .slice aV alv acv, .slice aP alp acp]] W (ValueIs (tauT tab) (valueS (tauT tab) sig tbs (objsOf o0) a) W)) := Lib.hid (fun W hW => value_tab HM.out o0 HTa.out Hna.out (by have := Hsz.out.1; omega) Hsz.out.2.2.1 W hW)
    have Hvb : Hid (∀ W, Below w.heap.size w W → Calls Tryz.prog 9 #[.slice S sig.length cs, .agg #[.slice T tbs.length ct, .int .i64 o0], .agg #[.int .i64 bop, .string bnm, .int .i64 bso, .string bnn, .slice bA bla bca, .slice bV blv bcv, .slice bP blp bcp]] W (ValueIs (tauT tab) (valueS (tauT tab) sig tbs (objsOf o0) b) W)) := Lib.hid (fun W hW => value_tab HM.out o0 HTb.out Hnb.out (by have := Hsz.out.2.1; omega) Hsz.out.2.2.2 W hW)
    obtain ⟨hr0, hr1, hr2⟩ := HRow.out w3 Hb13.out
    have m0 : w3.cell? ⟨w.heap.size, 0, none⟩ = some (.slice T tbs.length ct) := by rw [cell_of_row _ _ 0 _ _ _ hr0]; rfl
    have m1 : w3.cell? ⟨w.heap.size, 1, none⟩ = some (.int .i64 o0) := by rw [cell_of_row _ _ 1 _ _ _ hr0]; rfl
    obtain ⟨x0, x1, x2, x3, x4, x5, x6⟩ := box_cells hr1
    dsimp only at x0 x1 x2 x3 x4 x5 x6
    clear hr0 hr1 hr2
    have HB3 := Lib.hid (HBw.out.trans (Hb13.out.mono HBw.out.size))
    cases hva : valueS (tauT tab) sig tbs (objsOf o0) a with
    | error era =>
      rw [hva] at Hva
      clear hva
      go_wp2_with (first
        | (go_at_call 9; refine Calls.mono (Hvb.out w4 (HB3.out.trans (Hb4.out.mono HB3.out.size))) ?_; rintro e w5 ⟨hv5, hb5⟩; obtain ⟨s5, z5, rfl⟩ : ∃ s z, e = .returned (.tuple #[.string s, .int .i64 z]) := (by rcases hv5 with ⟨_, _, h3⟩ | ⟨_, z, _, _, _, h3⟩; exact ⟨_, _, h3⟩; exact ⟨_, _, h3⟩); have Hb5 := Lib.hid hb5; clear hv5 hb5)
        | (go_at_call 9; refine Calls.mono (Hva.out w3 HB3.out) ?_; rintro e w4 ⟨hv4, hb4⟩; obtain ⟨za, hza, rfl⟩ : ∃ z : Int, ¬ z = 0 ∧ e = .returned (.tuple #[.string .empty, .int .i64 z]) := (by rcases hv4 with ⟨_, h, _⟩ | ⟨_, z, h, _, h2, h3⟩; cases h; exact ⟨z, h2, h3⟩); have hza2 : (za == 0) = false := (by simpa using hza); obtain ⟨hr0, hr1, hr2⟩ := HRow.out w4 (Hb13.out.trans (hb4.mono Hb13.out.size)); have m0 : w4.cell? ⟨w.heap.size, 0, none⟩ = some (.slice T tbs.length ct) := (by rw [cell_of_row _ _ 0 _ _ _ hr0]; rfl); have m1 : w4.cell? ⟨w.heap.size, 1, none⟩ = some (.int .i64 o0) := (by rw [cell_of_row _ _ 1 _ _ _ hr0]; rfl); obtain ⟨y0, y1, y2, y3, y4, y5, y6⟩ := box_cells hr2; dsimp only at y0 y1 y2 y3 y4 y5 y6; have Hb4 := Lib.hid hb4; clear hv4 hb4 hr0 hr1 hr2))
      go_ret
      exact ⟨rfl, HB3.out.trans ((Hb4.out.trans (Hb5.out.mono Hb4.out.size)).mono HB3.out.size)⟩
    | ok xa =>
      rw [hva] at Hva
      have HVa := Lib.hid hva
      clear hva
      cases hvb : valueS (tauT tab) sig tbs (objsOf o0) b with
      | error erb =>
        rw [hvb] at Hvb
        clear hvb
        go_wp2_with (first
          | (go_at_call 9; refine Calls.mono (Hvb.out w4 (HB3.out.trans (Hb4.out.mono HB3.out.size))) ?_; rintro e w5 ⟨hv5, hb5⟩; obtain ⟨zb, hzb, rfl⟩ : ∃ z : Int, ¬ z = 0 ∧ e = .returned (.tuple #[.string .empty, .int .i64 z]) := (by rcases hv5 with ⟨_, h, _⟩ | ⟨_, z, h, _, h2, h3⟩; cases h; exact ⟨z, h2, h3⟩); have hzb2 : (zb == 0) = false := (by simpa using hzb); have Hb5 := Lib.hid hb5; clear hv5 hb5)
          | (go_at_call 9; refine Calls.mono (Hva.out w3 HB3.out) ?_; rintro e w4 ⟨hv4, hb4⟩; obtain rfl : e = .returned (.tuple #[.string (textV (tauT tab) xa), .int .i64 0]) := (by rcases hv4 with ⟨_, h, h3⟩ | ⟨_, z, h, _⟩; cases h; exact h3; cases h); obtain ⟨hr0, hr1, hr2⟩ := HRow.out w4 (Hb13.out.trans (hb4.mono Hb13.out.size)); have m0 : w4.cell? ⟨w.heap.size, 0, none⟩ = some (.slice T tbs.length ct) := (by rw [cell_of_row _ _ 0 _ _ _ hr0]; rfl); have m1 : w4.cell? ⟨w.heap.size, 1, none⟩ = some (.int .i64 o0) := (by rw [cell_of_row _ _ 1 _ _ _ hr0]; rfl); obtain ⟨y0, y1, y2, y3, y4, y5, y6⟩ := box_cells hr2; dsimp only at y0 y1 y2 y3 y4 y5 y6; have Hb4 := Lib.hid hb4; clear hv4 hb4 hr0 hr1 hr2))
        go_ret
        exact ⟨rfl, HB3.out.trans ((Hb4.out.trans (Hb5.out.mono Hb4.out.size)).mono HB3.out.size)⟩
      | ok xb =>
        rw [hvb] at Hvb
        have HVb := Lib.hid hvb
        clear hvb
        by_cases hx : ∃ x, xa = .tr x
        · obtain ⟨x, rfl⟩ := hx
          by_cases hy : ∃ y, xb = .tr y
          · obtain ⟨y, rfl⟩ := hy
            obtain ⟨t1, t2, t3⟩ := turns HVa.out HVb.out (Nat.le_trans (tdepth_tsize a) (Nat.le_trans (tsize_tw a) (by have := Hsz.out.1; omega))) (Nat.le_trans (tdepth_tsize b) (Nat.le_trans (tsize_tw b) (by have := Hsz.out.2.1; omega))) (Nat.le_trans (tsize_tw a) (by have := Hsz.out.1; omega)) (Nat.le_trans (tsize_tw b) (by have := Hsz.out.2.1; omega))
            have Hv10 := Lib.hid (value_word HM.out o0 t1 (by simp [opT, numsT, numsTs, Hna.out, Hnb.out]) (by simp only [opT, tw, tws, List.length_nil]; have := Hsz.out.1; have := Hsz.out.2.1; omega) (by simp [opT, shortT, shortTs, Hsz.out.2.2.1, Hsz.out.2.2.2]) (ct := ct))
            have Hv11 := Lib.hid (value_word HM.out o0 t2 (by simp [opT, numsT, numsTs, Hna.out, Hnb.out]) (by simp only [opT, tw, tws, List.length_nil]; have := Hsz.out.1; have := Hsz.out.2.1; omega) (by simp [opT, shortT, shortTs, Hsz.out.2.2.1, Hsz.out.2.2.2]) (ct := ct))
            have Hv12 := Lib.hid (value_word HM.out o0 t3 (by simp [opT, numsT, numsTs, Hna.out]) (by simp only [opT, tw, tws, List.length_nil]; have := Hsz.out.1; omega) (by simp [opT, shortT, shortTs, Hsz.out.2.2.1]) (ct := ct))
            obtain ⟨s10, hs10⟩ : ∃ s, s = txB (!(x && y)) := ⟨_, rfl⟩
            obtain ⟨s11, hs11⟩ : ∃ s, s = txB (!x || !y) := ⟨_, rfl⟩
            obtain ⟨s12, hs12⟩ : ∃ s, s = txB (!x) := ⟨_, rfl⟩
            rw [← hs10] at Hv10
            rw [← hs11] at Hv11
            rw [← hs12] at Hv12
            have Hs := Lib.hid (And.intro hs10 (And.intro hs11 hs12))
            clear hs10 hs11 hs12
            clear t1 t2 t3 HVa HVb Hna Hnb Hsz
            go_upto_region 7 with (first
              | (go_at_call 9; refine Calls.mono (Hvb.out w4 (HB3.out.trans (Hb4.out.mono HB3.out.size))) ?_; rintro e w5 ⟨hv5, hb5⟩; obtain rfl : e = .returned (.tuple #[.string (txB y), .int .i64 0]) := (by rcases hv5 with ⟨_, h, h3⟩ | ⟨_, z, h, _⟩; cases h; rw [← txB_eq (tauT tab)]; exact h3; cases h); have Hb5 := Lib.hid hb5; clear hv5 hb5)
              | (go_at_call 9; refine Calls.mono (Hva.out w3 HB3.out) ?_; rintro e w4 ⟨hv4, hb4⟩; obtain rfl : e = .returned (.tuple #[.string (txB x), .int .i64 0]) := (by rcases hv4 with ⟨_, h, h3⟩ | ⟨_, z, h, _⟩; cases h; rw [← txB_eq (tauT tab)]; exact h3; cases h); obtain ⟨hr0, hr1, hr2⟩ := HRow.out w4 (Hb13.out.trans (hb4.mono Hb13.out.size)); have m0 : w4.cell? ⟨w.heap.size, 0, none⟩ = some (.slice T tbs.length ct) := (by rw [cell_of_row _ _ 0 _ _ _ hr0]; rfl); have m1 : w4.cell? ⟨w.heap.size, 1, none⟩ = some (.int .i64 o0) := (by rw [cell_of_row _ _ 1 _ _ _ hr0]; rfl); obtain ⟨y0, y1, y2, y3, y4, y5, y6⟩ := box_cells hr2; dsimp only at y0 y1 y2 y3 y4 y5 y6; have Hb4 := Lib.hid hb4; clear hv4 hb4 hr0 hr1 hr2))
            have hb35 := Hb13.out.trans ((Hb4.out.trans (Hb5.out.mono Hb4.out.size)).mono Hb13.out.size)
            have HBw5 := Lib.hid (HBw.out.trans (hb35.mono HBw.out.size))
            have HRow5 : Hid (∀ W, Below w5.heap.size w5 W → W.heap[w.heap.size]? = some (.cells #[.slice T tbs.length ct, .int .i64 o0] 25 (0, 0)) ∧ W.heap[w.heap.size + 1]? = some (.cells (Parts.arr ⟨aop, anm, aso, ann, aA, ala, aca, aV, alv, acv, aP, alp, acp⟩) 29 (0, 0)) ∧ W.heap[w.heap.size + 1 + 1]? = some (.cells (Parts.arr ⟨bop, bnm, bso, bnn, bA, bla, bca, bV, blv, bcv, bP, blp, bcp⟩) 29 (0, 0))) := Lib.hid (fun W hW => HRow.out W (hb35.trans (hW.mono hb35.size)))
            clear HRow HBw hb35 Hva Hvb HB3 Hb13 Hb4 Hb5 m0 m1 x0 x1 x2 x3 x4 x5 x6 y0 y1 y2 y3 y4 y5 y6
            have HRow := HRow5
            have HBw := HBw5
            clear HRow5 HBw5
            go_cut [66] from 45 (fun s66 wx => s66 = .bool false ∧ Hid (w5 = wx))
            case first =>
              cases x <;> cases y
              all_goals
                simp only [txB]
                go_wp2_with fail
                go_meet
                case rel => exact ⟨rfl, Lib.hid rfl⟩
            case rest =>
              obtain ⟨rfl, HWx⟩ := hcut
              rw [← HWx.out]
              clear HWx
              go_wp2_with fail
              refine wp_region_makes [0,1,2,3,4,5,6,7,8,9,10,11,12,13] [] (by kernel_rfl) (by kernel_rfl) (turn10_keep S T sig.length cs tbs.length ct o0 a b ⟨aop, anm, aso, ann, aA, ala, aca, aV, alv, acv, aP, alp, acp⟩ ⟨bop, bnm, bso, bnn, bA, bla, bca, bV, blv, bcv, bP, blp, bcp⟩ s10) ?_ ?_
              · generalize Exit.then _ _ = Q2
                intro j o9 ho hi a' w' hb hfr hd K hK
                have hbd : Below w5.heap.size w5 w' := (Below.refl w5.heap.size w5).drew.trans hb
                obtain ⟨hr0, hr1, hr2⟩ := HRow.out w' hbd
                have m0 : w'.cell? ⟨w.heap.size, 0, none⟩ = some (.slice T tbs.length ct) := by rw [cell_of_row _ _ 0 _ _ _ hr0]; rfl
                have m1 : w'.cell? ⟨w.heap.size, 1, none⟩ = some (.int .i64 o0) := by rw [cell_of_row _ _ 1 _ _ _ hr0]; rfl
                obtain ⟨x0, x1, x2, x3, x4, x5, x6⟩ := box_cells hr1
                obtain ⟨y0, y1, y2, y3, y4, y5, y6⟩ := box_cells hr2
                dsimp only at x0 x1 x2 x3 x4 x5 x6 y0 y1 y2 y3 y4 y5 y6
                have hv0 : a'.tmps.getD 0 undef = .slice S sig.length cs := hfr 0 (by kernel_rfl)
                have hv5 : a'.tmps.getD 5 undef = .pointer (some ⟨w.heap.size, 0, none⟩) := hfr 5 (by kernel_rfl)
                have hv6 : a'.tmps.getD 6 undef = .pointer (some ⟨w.heap.size + 1, 0, none⟩) := hfr 6 (by kernel_rfl)
                have hv7 : a'.tmps.getD 7 undef = .pointer (some ⟨w.heap.size + 1 + 1, 0, none⟩) := hfr 7 (by kernel_rfl)
                have hv13 : a'.tmps.getD 13 undef = .func (.func 13) #[] #[] := hfr 13 (by kernel_rfl)
                rw [Array.getD_eq_getD_getElem?] at hv0 hv5 hv6 hv7 hv13
                have HK := Lib.hid hK
                have Hw' : Hid (Below w.heap.size w w') := Lib.hid (HBw.out.trans (hbd.mono HBw.out.size))
                clear hb hK hfr hbd hr0 hr1 hr2
                match j, ho with
                | 0, ho =>
                  cases ho
                  clear hd
                  go_simp
                  exact HK.out _ _ rfl (Below.refl _ _)
                | 1, ho =>
                  cases ho
                  clear hd
                  go_simp
                  exact HK.out _ _ rfl (Below.refl _ _)
                | 2, ho =>
                  cases ho
                  clear hd
                  go_simp
                  exact HK.out _ _ rfl (Below.refl _ _)
                | 3, ho =>
                  cases ho
                  clear hd
                  go_simp
                  exact HK.out _ _ rfl (Below.refl _ _)
                | 4, ho =>
                  cases ho
                  clear hd
                  go_simp
                  exact HK.out _ _ rfl (Below.refl _ _)
                | 5, ho =>
                  cases ho
                  have f1 := hd ⟨3, .data⟩ (by simp) rfl _ _ rfl rfl
                  have f2 := hd ⟨4, .data⟩ (by simp) rfl _ _ rfl rfl
                  simp only [turn10, Parts.arr, Array.getD_eq_getD_getElem?] at f1 f2
                  clear hd
                  go_simp
                  have h2 := TsV.two (HTa.out.mono Hw'.out) (HTb.out.mono Hw'.out) 29
                  rw [arr_two] at h2
                  exact HK.out _ _ ⟨w'.heap.size, rfl, h2⟩ ((Below.refl _ _).alloc (Nat.le_refl _) _)
                | 6, ho =>
                  cases ho
                  obtain ⟨g1, f1, ht1⟩ := hd ⟨5, .data⟩ (by simp) rfl _ _ rfl rfl
                  simp only [turn10, Parts.arr, Array.getD_eq_getD_getElem?] at f1
                  rw [Array.getD_eq_getD_getElem?, f1] at ht1
                  have HT1 := Lib.hid ht1
                  clear ht1
                  clear hd
                  go_simp
                  exact HK.out _ _ ⟨g1, rfl, TmV.make (bds_small (by omega) (by decide) (by decide) (by simp) (by simp)) HT1.out (BsV.nil _) (TsV.nil _)⟩ (Below.refl _ _)
                | 7, ho =>
                  cases ho
                  have f1 := hd ⟨2, .data⟩ (by simp) rfl _ _ rfl rfl
                  obtain ⟨g2, f2, ht2⟩ := hd ⟨6, .data⟩ (by simp) rfl _ _ rfl rfl
                  simp only [turn10, Parts.arr, Array.getD_eq_getD_getElem?] at f1 f2
                  rw [Array.getD_eq_getD_getElem?, f2] at ht2
                  have HT2 := Lib.hid ht2
                  clear ht2
                  clear hd
                  go_simp
                  refine (not_any (p := ⟨5, ⟨#[]⟩, 0, ⟨#[]⟩, some ⟨g2, 0, none⟩, 2, 2, none, 0, 0, none, 0, 0⟩) HT2.out w' (Below.refl _ _)).mono ?_
                  rintro e w9 ⟨⟨c0, c1, c2, c3, c4, c5, c6, c7, c8, c9, c10, c11, c12⟩, rfl, ht9, hb9⟩
                  exact HK.out _ _ ⟨⟨c0, c1, c2, c3, c4, c5, c6, c7, c8, c9, c10, c11, c12⟩, rfl, ht9⟩ hb9
                | 8, ho =>
                  cases ho
                  have f1 := hd ⟨0, .data⟩ (by simp) rfl _ _ rfl rfl
                  have f2 := hd ⟨1, .data⟩ (by simp) rfl _ _ rfl rfl
                  obtain ⟨⟨e2op, e2nm, e2so, e2nn, e2A, e2la, e2ca, e2V, e2lv, e2cv, e2P, e2lp, e2cp⟩, f3, ht3⟩ := hd ⟨7, .data⟩ (by simp) rfl _ _ rfl rfl
                  simp only [turn10, Parts.arr, Array.getD_eq_getD_getElem?] at f1 f2 f3
                  rw [Array.getD_eq_getD_getElem?, f3] at ht3
                  have HT3 := Lib.hid ht3
                  clear ht3
                  clear hd
                  go_simp
                  refine (Hv10.out w' _ Hw'.out HT3.out).mono ?_
                  rintro e w9 ⟨rfl, hb9⟩
                  exact HK.out _ _ rfl hb9
                | 9, ho =>
                  cases ho
                  have f1 := hd ⟨8, .data⟩ (by simp) rfl _ _ rfl rfl
                  simp only [turn10, Parts.arr, Array.getD_eq_getD_getElem?] at f1
                  clear hd
                  go_simp
                  exact HK.out _ _ rfl (Below.refl _ _)
                | 10, ho =>
                  cases ho
                  have f1 := hd ⟨9, .data⟩ (by simp) rfl _ _ rfl rfl
                  simp only [turn10, Parts.arr, Array.getD_eq_getD_getElem?] at f1
                  clear hd
                  go_simp
                  exact HK.out _ _ rfl (Below.refl _ _)
                | 11, ho =>
                  cases ho
                  have f1 := hd ⟨9, .data⟩ (by simp) rfl _ _ rfl rfl
                  simp only [turn10, Parts.arr, Array.getD_eq_getD_getElem?] at f1
                  clear hd
                  go_simp
                  exact HK.out _ _ rfl (Below.refl _ _)
                | 12, ho =>
                  cases ho
                  have f1 := hd ⟨10, .data⟩ (by simp) rfl _ _ rfl rfl
                  simp only [turn10, Parts.arr, Array.getD_eq_getD_getElem?] at f1
                  clear hd
                  go_simp
                  exact HK.out _ _ rfl (Below.refl _ _)
                | 13, ho =>
                  cases ho
                  have f1 := hd ⟨11, .data⟩ (by simp) rfl _ _ rfl rfl
                  simp only [turn10, Parts.arr, Array.getD_eq_getD_getElem?] at f1
                  clear hd
                  go_simp
                  exact HK.out _ _ rfl (Below.refl _ _)
                | n + 14, ho => simp at ho
              · intro fuel listed a' w5x hc hm hall
                obtain ⟨gg, ha, hh⟩ := hm.act (ds := [68, 69, 70, 71, 72, 73, 74, 75, 76, 67, 77, 78, 14, 15]) (by kernel_rfl)
                have hl : listed = #[true,true,true,true,true,true,true,true,true,true,true,true,true,true] := by
                  have hs : listed.size = 14 := hm.size
                  rw [listed_all listed, hs]
                  simp only [List.range, List.range.loop, List.map, hall 0 (by simp), hall 1 (by simp), hall 2 (by simp), hall 3 (by simp), hall 4 (by simp), hall 5 (by simp), hall 6 (by simp), hall 7 (by simp), hall 8 (by simp), hall 9 (by simp), hall 10 (by simp), hall 11 (by simp), hall 12 (by simp), hall 13 (by simp)]
                have eS : gg 14 = .string s10 := hh 12 _ _ (hall 12 (by simp)) rfl rfl
                have eZ : gg 15 = .int .i64 0 := hh 13 _ _ (hall 13 (by simp)) rfl rfl
                have hbd : Below w5.heap.size w5 w5x := (Below.refl w5.heap.size w5).drew.trans hm.inv
                have HBx := Lib.hid (HBw.out.trans (hbd.mono HBw.out.size))
                have HRowx : Hid (∀ W, Below w5x.heap.size w5x W → W.heap[w.heap.size]? = some (.cells #[.slice T tbs.length ct, .int .i64 o0] 25 (0, 0)) ∧ W.heap[w.heap.size + 1]? = some (.cells (Parts.arr ⟨aop, anm, aso, ann, aA, ala, aca, aV, alv, acv, aP, alp, acp⟩) 29 (0, 0)) ∧ W.heap[w.heap.size + 1 + 1]? = some (.cells (Parts.arr ⟨bop, bnm, bso, bnn, bA, bla, bca, bV, blv, bcv, bP, blp, bcp⟩) 29 (0, 0))) := Lib.hid (fun W hW => HRow.out W (hbd.trans (hW.mono hbd.size)))
                subst hl
                clear hm hall hh hbd HRow HBw
                have HRow := HRowx
                have HBw := HBx
                clear HRowx HBx
                subst ha
                simp only [setAll]
                rw [eS, eZ]
                clear eS eZ hc
                generalize gg 68 = gx68, gg 69 = gx69, gg 70 = gx70, gg 71 = gx71, gg 72 = gx72, gg 73 = gx73, gg 74 = gx74, gg 75 = gx75, gg 76 = gx76, gg 67 = gx67, gg 77 = gx77, gg 78 = gx78
                simp only [List.setIfInBounds_toArray, List.set_cons_zero, List.set_cons_succ]
                refine wpAny_done (by kernel_rfl) ?_ _
                try dsimp only [Exit.then]
                obtain ⟨wy, hwy⟩ : ∃ wy, wy = w5x := ⟨_, rfl⟩
                rw [← hwy] at HRow HBw
                rw [← hwy]
                clear hwy
                go_wp2_with fail
                refine wp_region_makes [0,1,2,3,4,5,6,7,8,9,10,11,12,13,14,15] [] (by kernel_rfl) (by kernel_rfl) (turn11_keep S T sig.length cs tbs.length ct o0 a b ⟨aop, anm, aso, ann, aA, ala, aca, aV, alv, acv, aP, alp, acp⟩ ⟨bop, bnm, bso, bnn, bA, bla, bca, bV, blv, bcv, bP, blp, bcp⟩ s11) ?_ ?_
                · generalize Exit.then _ _ = Q2
                  intro j o9 ho hi a' w' hb hfr hd K hK
                  have hbd : Below wy.heap.size wy w' := (Below.refl wy.heap.size wy).drew.trans hb
                  obtain ⟨hr0, hr1, hr2⟩ := HRow.out w' hbd
                  have m0 : w'.cell? ⟨w.heap.size, 0, none⟩ = some (.slice T tbs.length ct) := by rw [cell_of_row _ _ 0 _ _ _ hr0]; rfl
                  have m1 : w'.cell? ⟨w.heap.size, 1, none⟩ = some (.int .i64 o0) := by rw [cell_of_row _ _ 1 _ _ _ hr0]; rfl
                  obtain ⟨x0, x1, x2, x3, x4, x5, x6⟩ := box_cells hr1
                  obtain ⟨y0, y1, y2, y3, y4, y5, y6⟩ := box_cells hr2
                  dsimp only at x0 x1 x2 x3 x4 x5 x6 y0 y1 y2 y3 y4 y5 y6
                  have hv0 : a'.tmps.getD 0 undef = .slice S sig.length cs := hfr 0 (by kernel_rfl)
                  have hv5 : a'.tmps.getD 5 undef = .pointer (some ⟨w.heap.size, 0, none⟩) := hfr 5 (by kernel_rfl)
                  have hv6 : a'.tmps.getD 6 undef = .pointer (some ⟨w.heap.size + 1, 0, none⟩) := hfr 6 (by kernel_rfl)
                  have hv7 : a'.tmps.getD 7 undef = .pointer (some ⟨w.heap.size + 1 + 1, 0, none⟩) := hfr 7 (by kernel_rfl)
                  have hv13 : a'.tmps.getD 13 undef = .func (.func 13) #[] #[] := hfr 13 (by kernel_rfl)
                  rw [Array.getD_eq_getD_getElem?] at hv0 hv5 hv6 hv7 hv13
                  have HK := Lib.hid hK
                  have Hw' : Hid (Below w.heap.size w w') := Lib.hid (HBw.out.trans (hbd.mono HBw.out.size))
                  clear hb hK hfr hbd hr0 hr1 hr2
                  match j, ho with
                  | 0, ho =>
                    cases ho
                    clear hd
                    go_simp
                    exact HK.out _ _ rfl (Below.refl _ _)
                  | 1, ho =>
                    cases ho
                    clear hd
                    go_simp
                    exact HK.out _ _ rfl (Below.refl _ _)
                  | 2, ho =>
                    cases ho
                    clear hd
                    go_simp
                    exact HK.out _ _ rfl (Below.refl _ _)
                  | 3, ho =>
                    cases ho
                    clear hd
                    go_simp
                    exact HK.out _ _ rfl (Below.refl _ _)
                  | 4, ho =>
                    cases ho
                    have f1 := hd ⟨2, .data⟩ (by simp) rfl _ _ rfl rfl
                    have f2 := hd ⟨3, .data⟩ (by simp) rfl _ _ rfl rfl
                    simp only [turn11, Parts.arr, Array.getD_eq_getD_getElem?] at f1 f2
                    clear hd
                    go_simp
                    refine (not_any HTa.out w' Hw'.out).mono ?_
                    rintro e w9 ⟨⟨c0, c1, c2, c3, c4, c5, c6, c7, c8, c9, c10, c11, c12⟩, rfl, ht9, hb9⟩
                    exact HK.out _ _ ⟨⟨c0, c1, c2, c3, c4, c5, c6, c7, c8, c9, c10, c11, c12⟩, rfl, ht9⟩ hb9
                  | 5, ho =>
                    cases ho
                    clear hd
                    go_simp
                    exact HK.out _ _ rfl (Below.refl _ _)
                  | 6, ho =>
                    cases ho
                    clear hd
                    go_simp
                    exact HK.out _ _ rfl (Below.refl _ _)
                  | 7, ho =>
                    cases ho
                    have f1 := hd ⟨5, .data⟩ (by simp) rfl _ _ rfl rfl
                    have f2 := hd ⟨6, .data⟩ (by simp) rfl _ _ rfl rfl
                    simp only [turn11, Parts.arr, Array.getD_eq_getD_getElem?] at f1 f2
                    clear hd
                    go_simp
                    refine (not_any HTb.out w' Hw'.out).mono ?_
                    rintro e w9 ⟨⟨c0, c1, c2, c3, c4, c5, c6, c7, c8, c9, c10, c11, c12⟩, rfl, ht9, hb9⟩
                    exact HK.out _ _ ⟨⟨c0, c1, c2, c3, c4, c5, c6, c7, c8, c9, c10, c11, c12⟩, rfl, ht9⟩ hb9
                  | 8, ho =>
                    cases ho
                    obtain ⟨⟨e0op, e0nm, e0so, e0nn, e0A, e0la, e0ca, e0V, e0lv, e0cv, e0P, e0lp, e0cp⟩, f1, ht1⟩ := hd ⟨4, .data⟩ (by simp) rfl _ _ rfl rfl
                    obtain ⟨⟨e1op, e1nm, e1so, e1nn, e1A, e1la, e1ca, e1V, e1lv, e1cv, e1P, e1lp, e1cp⟩, f2, ht2⟩ := hd ⟨7, .data⟩ (by simp) rfl _ _ rfl rfl
                    simp only [turn11, Parts.arr, Array.getD_eq_getD_getElem?] at f1 f2
                    rw [Array.getD_eq_getD_getElem?, f1] at ht1
                    have HT1 := Lib.hid ht1
                    clear ht1
                    rw [Array.getD_eq_getD_getElem?, f2] at ht2
                    have HT2 := Lib.hid ht2
                    clear ht2
                    clear hd
                    go_simp
                    have h2 := TsV.two (p := ⟨e0op, e0nm, e0so, e0nn, e0A, e0la, e0ca, e0V, e0lv, e0cv, e0P, e0lp, e0cp⟩) (q := ⟨e1op, e1nm, e1so, e1nn, e1A, e1la, e1ca, e1V, e1lv, e1cv, e1P, e1lp, e1cp⟩) HT1.out HT2.out 29
                    rw [arr_two] at h2
                    exact HK.out _ _ ⟨w'.heap.size, rfl, h2⟩ ((Below.refl _ _).alloc (Nat.le_refl _) _)
                  | 9, ho =>
                    cases ho
                    obtain ⟨g1, f1, ht1⟩ := hd ⟨8, .data⟩ (by simp) rfl _ _ rfl rfl
                    simp only [turn11, Parts.arr, Array.getD_eq_getD_getElem?] at f1
                    rw [Array.getD_eq_getD_getElem?, f1] at ht1
                    have HT1 := Lib.hid ht1
                    clear ht1
                    clear hd
                    go_simp
                    exact HK.out _ _ ⟨g1, rfl, TmV.make (bds_small (by omega) (by decide) (by decide) (by simp) (by simp)) HT1.out (BsV.nil _) (TsV.nil _)⟩ (Below.refl _ _)
                  | 10, ho =>
                    cases ho
                    have f1 := hd ⟨0, .data⟩ (by simp) rfl _ _ rfl rfl
                    have f2 := hd ⟨1, .data⟩ (by simp) rfl _ _ rfl rfl
                    obtain ⟨g3, f3, ht3⟩ := hd ⟨9, .data⟩ (by simp) rfl _ _ rfl rfl
                    simp only [turn11, Parts.arr, Array.getD_eq_getD_getElem?] at f1 f2 f3
                    rw [Array.getD_eq_getD_getElem?, f3] at ht3
                    have HT3 := Lib.hid ht3
                    clear ht3
                    clear hd
                    go_simp
                    refine (Hv11.out w' _ Hw'.out HT3.out).mono ?_
                    rintro e w9 ⟨rfl, hb9⟩
                    exact HK.out _ _ rfl hb9
                  | 11, ho =>
                    cases ho
                    have f1 := hd ⟨10, .data⟩ (by simp) rfl _ _ rfl rfl
                    simp only [turn11, Parts.arr, Array.getD_eq_getD_getElem?] at f1
                    clear hd
                    go_simp
                    exact HK.out _ _ rfl (Below.refl _ _)
                  | 12, ho =>
                    cases ho
                    have f1 := hd ⟨11, .data⟩ (by simp) rfl _ _ rfl rfl
                    simp only [turn11, Parts.arr, Array.getD_eq_getD_getElem?] at f1
                    clear hd
                    go_simp
                    exact HK.out _ _ rfl (Below.refl _ _)
                  | 13, ho =>
                    cases ho
                    have f1 := hd ⟨11, .data⟩ (by simp) rfl _ _ rfl rfl
                    simp only [turn11, Parts.arr, Array.getD_eq_getD_getElem?] at f1
                    clear hd
                    go_simp
                    exact HK.out _ _ rfl (Below.refl _ _)
                  | 14, ho =>
                    cases ho
                    have f1 := hd ⟨12, .data⟩ (by simp) rfl _ _ rfl rfl
                    simp only [turn11, Parts.arr, Array.getD_eq_getD_getElem?] at f1
                    clear hd
                    go_simp
                    exact HK.out _ _ rfl (Below.refl _ _)
                  | 15, ho =>
                    cases ho
                    have f1 := hd ⟨13, .data⟩ (by simp) rfl _ _ rfl rfl
                    simp only [turn11, Parts.arr, Array.getD_eq_getD_getElem?] at f1
                    clear hd
                    go_simp
                    exact HK.out _ _ rfl (Below.refl _ _)
                  | n + 16, ho => simp at ho
                · intro fuel listed a' wyx hc hm hall
                  obtain ⟨gg, ha, hh⟩ := hm.act (ds := [80, 81, 82, 83, 84, 85, 86, 87, 88, 89, 90, 79, 91, 92, 16, 17]) (by kernel_rfl)
                  have hl : listed = #[true,true,true,true,true,true,true,true,true,true,true,true,true,true,true,true] := by
                    have hs : listed.size = 16 := hm.size
                    rw [listed_all listed, hs]
                    simp only [List.range, List.range.loop, List.map, hall 0 (by simp), hall 1 (by simp), hall 2 (by simp), hall 3 (by simp), hall 4 (by simp), hall 5 (by simp), hall 6 (by simp), hall 7 (by simp), hall 8 (by simp), hall 9 (by simp), hall 10 (by simp), hall 11 (by simp), hall 12 (by simp), hall 13 (by simp), hall 14 (by simp), hall 15 (by simp)]
                  have eS : gg 16 = .string s11 := hh 14 _ _ (hall 14 (by simp)) rfl rfl
                  have eZ : gg 17 = .int .i64 0 := hh 15 _ _ (hall 15 (by simp)) rfl rfl
                  have hbd : Below wy.heap.size wy wyx := (Below.refl wy.heap.size wy).drew.trans hm.inv
                  have HBx := Lib.hid (HBw.out.trans (hbd.mono HBw.out.size))
                  have HRowx : Hid (∀ W, Below wyx.heap.size wyx W → W.heap[w.heap.size]? = some (.cells #[.slice T tbs.length ct, .int .i64 o0] 25 (0, 0)) ∧ W.heap[w.heap.size + 1]? = some (.cells (Parts.arr ⟨aop, anm, aso, ann, aA, ala, aca, aV, alv, acv, aP, alp, acp⟩) 29 (0, 0)) ∧ W.heap[w.heap.size + 1 + 1]? = some (.cells (Parts.arr ⟨bop, bnm, bso, bnn, bA, bla, bca, bV, blv, bcv, bP, blp, bcp⟩) 29 (0, 0))) := Lib.hid (fun W hW => HRow.out W (hbd.trans (hW.mono hbd.size)))
                  subst hl
                  clear hm hall hh hbd HRow HBw
                  have HRow := HRowx
                  have HBw := HBx
                  clear HRowx HBx
                  subst ha
                  simp only [setAll]
                  rw [eS, eZ]
                  clear eS eZ hc
                  generalize gg 80 = gx80, gg 81 = gx81, gg 82 = gx82, gg 83 = gx83, gg 84 = gx84, gg 85 = gx85, gg 86 = gx86, gg 87 = gx87, gg 88 = gx88, gg 89 = gx89, gg 90 = gx90, gg 79 = gx79, gg 91 = gx91, gg 92 = gx92
                  simp only [List.setIfInBounds_toArray, List.set_cons_zero, List.set_cons_succ]
                  refine wpAny_done (by kernel_rfl) ?_ _
                  try dsimp only [Exit.then]
                  obtain ⟨wz, hwz⟩ : ∃ wz, wz = wyx := ⟨_, rfl⟩
                  rw [← hwz] at HRow HBw
                  rw [← hwz]
                  clear hwz
                  go_wp2_with fail
                  refine wp_region_makes [0,1,2,3,4,5,6,7,8,9,10] [] (by kernel_rfl) (by kernel_rfl) (turn12_keep S T sig.length cs tbs.length ct o0 a b ⟨aop, anm, aso, ann, aA, ala, aca, aV, alv, acv, aP, alp, acp⟩ ⟨bop, bnm, bso, bnn, bA, bla, bca, bV, blv, bcv, bP, blp, bcp⟩ s12) ?_ ?_
                  · generalize Exit.then _ _ = Q2
                    intro j o9 ho hi a' w' hb hfr hd K hK
                    have hbd : Below wz.heap.size wz w' := (Below.refl wz.heap.size wz).drew.trans hb
                    obtain ⟨hr0, hr1, hr2⟩ := HRow.out w' hbd
                    have m0 : w'.cell? ⟨w.heap.size, 0, none⟩ = some (.slice T tbs.length ct) := by rw [cell_of_row _ _ 0 _ _ _ hr0]; rfl
                    have m1 : w'.cell? ⟨w.heap.size, 1, none⟩ = some (.int .i64 o0) := by rw [cell_of_row _ _ 1 _ _ _ hr0]; rfl
                    obtain ⟨x0, x1, x2, x3, x4, x5, x6⟩ := box_cells hr1
                    obtain ⟨y0, y1, y2, y3, y4, y5, y6⟩ := box_cells hr2
                    dsimp only at x0 x1 x2 x3 x4 x5 x6 y0 y1 y2 y3 y4 y5 y6
                    have hv0 : a'.tmps.getD 0 undef = .slice S sig.length cs := hfr 0 (by kernel_rfl)
                    have hv5 : a'.tmps.getD 5 undef = .pointer (some ⟨w.heap.size, 0, none⟩) := hfr 5 (by kernel_rfl)
                    have hv6 : a'.tmps.getD 6 undef = .pointer (some ⟨w.heap.size + 1, 0, none⟩) := hfr 6 (by kernel_rfl)
                    have hv7 : a'.tmps.getD 7 undef = .pointer (some ⟨w.heap.size + 1 + 1, 0, none⟩) := hfr 7 (by kernel_rfl)
                    have hv13 : a'.tmps.getD 13 undef = .func (.func 13) #[] #[] := hfr 13 (by kernel_rfl)
                    rw [Array.getD_eq_getD_getElem?] at hv0 hv5 hv6 hv7 hv13
                    have HK := Lib.hid hK
                    have Hw' : Hid (Below w.heap.size w w') := Lib.hid (HBw.out.trans (hbd.mono HBw.out.size))
                    clear hb hK hfr hbd hr0 hr1 hr2
                    match j, ho with
                    | 0, ho =>
                      cases ho
                      clear hd
                      go_simp
                      exact HK.out _ _ rfl (Below.refl _ _)
                    | 1, ho =>
                      cases ho
                      clear hd
                      go_simp
                      exact HK.out _ _ rfl (Below.refl _ _)
                    | 2, ho =>
                      cases ho
                      clear hd
                      go_simp
                      exact HK.out _ _ rfl (Below.refl _ _)
                    | 3, ho =>
                      cases ho
                      clear hd
                      go_simp
                      exact HK.out _ _ rfl (Below.refl _ _)
                    | 4, ho =>
                      cases ho
                      have f1 := hd ⟨2, .data⟩ (by simp) rfl _ _ rfl rfl
                      have f2 := hd ⟨3, .data⟩ (by simp) rfl _ _ rfl rfl
                      simp only [turn12, Parts.arr, Array.getD_eq_getD_getElem?] at f1 f2
                      clear hd
                      go_simp
                      refine (not_any HTa.out w' Hw'.out).mono ?_
                      rintro e w9 ⟨⟨c0, c1, c2, c3, c4, c5, c6, c7, c8, c9, c10, c11, c12⟩, rfl, ht9, hb9⟩
                      exact HK.out _ _ ⟨⟨c0, c1, c2, c3, c4, c5, c6, c7, c8, c9, c10, c11, c12⟩, rfl, ht9⟩ hb9
                    | 5, ho =>
                      cases ho
                      have f1 := hd ⟨0, .data⟩ (by simp) rfl _ _ rfl rfl
                      have f2 := hd ⟨1, .data⟩ (by simp) rfl _ _ rfl rfl
                      obtain ⟨⟨e2op, e2nm, e2so, e2nn, e2A, e2la, e2ca, e2V, e2lv, e2cv, e2P, e2lp, e2cp⟩, f3, ht3⟩ := hd ⟨4, .data⟩ (by simp) rfl _ _ rfl rfl
                      simp only [turn12, Parts.arr, Array.getD_eq_getD_getElem?] at f1 f2 f3
                      rw [Array.getD_eq_getD_getElem?, f3] at ht3
                      have HT3 := Lib.hid ht3
                      clear ht3
                      clear hd
                      go_simp
                      refine (Hv12.out w' _ Hw'.out HT3.out).mono ?_
                      rintro e w9 ⟨rfl, hb9⟩
                      exact HK.out _ _ rfl hb9
                    | 6, ho =>
                      cases ho
                      have f1 := hd ⟨5, .data⟩ (by simp) rfl _ _ rfl rfl
                      simp only [turn12, Parts.arr, Array.getD_eq_getD_getElem?] at f1
                      clear hd
                      go_simp
                      exact HK.out _ _ rfl (Below.refl _ _)
                    | 7, ho =>
                      cases ho
                      have f1 := hd ⟨6, .data⟩ (by simp) rfl _ _ rfl rfl
                      simp only [turn12, Parts.arr, Array.getD_eq_getD_getElem?] at f1
                      clear hd
                      go_simp
                      exact HK.out _ _ rfl (Below.refl _ _)
                    | 8, ho =>
                      cases ho
                      have f1 := hd ⟨6, .data⟩ (by simp) rfl _ _ rfl rfl
                      simp only [turn12, Parts.arr, Array.getD_eq_getD_getElem?] at f1
                      clear hd
                      go_simp
                      exact HK.out _ _ rfl (Below.refl _ _)
                    | 9, ho =>
                      cases ho
                      have f1 := hd ⟨7, .data⟩ (by simp) rfl _ _ rfl rfl
                      simp only [turn12, Parts.arr, Array.getD_eq_getD_getElem?] at f1
                      clear hd
                      go_simp
                      exact HK.out _ _ rfl (Below.refl _ _)
                    | 10, ho =>
                      cases ho
                      have f1 := hd ⟨8, .data⟩ (by simp) rfl _ _ rfl rfl
                      simp only [turn12, Parts.arr, Array.getD_eq_getD_getElem?] at f1
                      clear hd
                      go_simp
                      exact HK.out _ _ rfl (Below.refl _ _)
                    | n + 11, ho => simp at ho
                  · intro fuel listed a' wzx hc hm hall
                    obtain ⟨gg, ha, hh⟩ := hm.act (ds := [94, 95, 96, 97, 98, 99, 93, 100, 101, 18, 19]) (by kernel_rfl)
                    have hl : listed = #[true,true,true,true,true,true,true,true,true,true,true] := by
                      have hs : listed.size = 11 := hm.size
                      rw [listed_all listed, hs]
                      simp only [List.range, List.range.loop, List.map, hall 0 (by simp), hall 1 (by simp), hall 2 (by simp), hall 3 (by simp), hall 4 (by simp), hall 5 (by simp), hall 6 (by simp), hall 7 (by simp), hall 8 (by simp), hall 9 (by simp), hall 10 (by simp)]
                    have eS : gg 18 = .string s12 := hh 9 _ _ (hall 9 (by simp)) rfl rfl
                    have eZ : gg 19 = .int .i64 0 := hh 10 _ _ (hall 10 (by simp)) rfl rfl
                    have hbd : Below wz.heap.size wz wzx := (Below.refl wz.heap.size wz).drew.trans hm.inv
                    have HBx := Lib.hid (HBw.out.trans (hbd.mono HBw.out.size))
                    have HRowx : Hid (∀ W, Below wzx.heap.size wzx W → W.heap[w.heap.size]? = some (.cells #[.slice T tbs.length ct, .int .i64 o0] 25 (0, 0)) ∧ W.heap[w.heap.size + 1]? = some (.cells (Parts.arr ⟨aop, anm, aso, ann, aA, ala, aca, aV, alv, acv, aP, alp, acp⟩) 29 (0, 0)) ∧ W.heap[w.heap.size + 1 + 1]? = some (.cells (Parts.arr ⟨bop, bnm, bso, bnn, bA, bla, bca, bV, blv, bcv, bP, blp, bcp⟩) 29 (0, 0))) := Lib.hid (fun W hW => HRow.out W (hbd.trans (hW.mono hbd.size)))
                    subst hl
                    clear hm hall hh hbd HRow HBw
                    have HRow := HRowx
                    have HBw := HBx
                    clear HRowx HBx
                    subst ha
                    simp only [setAll]
                    rw [eS, eZ]
                    clear eS eZ hc
                    generalize gg 94 = gx94, gg 95 = gx95, gg 96 = gx96, gg 97 = gx97, gg 98 = gx98, gg 99 = gx99, gg 93 = gx93, gg 100 = gx100, gg 101 = gx101
                    simp only [List.setIfInBounds_toArray, List.set_cons_zero, List.set_cons_succ]
                    refine wpAny_done (by kernel_rfl) ?_ _
                    try dsimp only [Exit.then]
                    clear HRow Hv10 Hv11 Hv12
                    obtain ⟨hs10, hs11, hs12⟩ := Hs.out
                    subst hs10 hs11 hs12
                    clear Hs
                    cases x <;> cases y
                    all_goals
                      simp only [txB, Bool.not_true, Bool.not_false, Bool.and_true, Bool.and_false, Bool.true_and, Bool.false_and, Bool.or_true, Bool.or_false, Bool.true_or, Bool.false_or]
                      go_wp2_with fail
                      go_ret
                      exact ⟨rfl, HBw.out⟩
          · obtain ⟨n1, n2⟩ := no_word (τ := tauT tab) hy
            generalize hgen : textV (tauT tab) xb = tb at *
            go_wp2_with (first
              | (go_at_call 9; refine Calls.mono (Hvb.out w4 (HB3.out.trans (Hb4.out.mono HB3.out.size))) ?_; rintro e w5 ⟨hv5, hb5⟩; obtain rfl : e = .returned (.tuple #[.string tb, .int .i64 0]) := (by rcases hv5 with ⟨_, h, h3⟩ | ⟨_, z, h, _⟩; cases h; rw [← hgen]; exact h3; cases h); have Hb5 := Lib.hid hb5; clear hv5 hb5)
              | (go_at_call 9; refine Calls.mono (Hva.out w3 HB3.out) ?_; rintro e w4 ⟨hv4, hb4⟩; obtain rfl : e = .returned (.tuple #[.string (txB x), .int .i64 0]) := (by rcases hv4 with ⟨_, h, h3⟩ | ⟨_, z, h, _⟩; cases h; rw [← txB_eq (tauT tab)]; exact h3; cases h); obtain ⟨hr0, hr1, hr2⟩ := HRow.out w4 (Hb13.out.trans (hb4.mono Hb13.out.size)); have m0 : w4.cell? ⟨w.heap.size, 0, none⟩ = some (.slice T tbs.length ct) := (by rw [cell_of_row _ _ 0 _ _ _ hr0]; rfl); have m1 : w4.cell? ⟨w.heap.size, 1, none⟩ = some (.int .i64 o0) := (by rw [cell_of_row _ _ 1 _ _ _ hr0]; rfl); obtain ⟨y0, y1, y2, y3, y4, y5, y6⟩ := box_cells hr2; dsimp only at y0 y1 y2 y3 y4 y5 y6; have Hb4 := Lib.hid hb4; clear hv4 hb4 hr0 hr1 hr2))
            all_goals
              go_ret
              exact ⟨rfl, HB3.out.trans ((Hb4.out.trans (Hb5.out.mono Hb4.out.size)).mono HB3.out.size)⟩
        · obtain ⟨n1, n2⟩ := no_word (τ := tauT tab) hx
          generalize hgen : textV (tauT tab) xa = ta at *
          go_wp2_with (first
            | (go_at_call 9; refine Calls.mono (Hvb.out w4 (HB3.out.trans (Hb4.out.mono HB3.out.size))) ?_; rintro e w5 ⟨hv5, hb5⟩; obtain ⟨s5, z5, rfl⟩ : ∃ s z, e = .returned (.tuple #[.string s, .int .i64 z]) := (by rcases hv5 with ⟨_, _, h3⟩ | ⟨_, z, _, _, _, h3⟩; exact ⟨_, _, h3⟩; exact ⟨_, _, h3⟩); have Hb5 := Lib.hid hb5; clear hv5 hb5)
            | (go_at_call 9; refine Calls.mono (Hva.out w3 HB3.out) ?_; rintro e w4 ⟨hv4, hb4⟩; obtain rfl : e = .returned (.tuple #[.string ta, .int .i64 0]) := (by rcases hv4 with ⟨_, h, h3⟩ | ⟨_, z, h, _⟩; cases h; rw [← hgen]; exact h3; cases h); obtain ⟨hr0, hr1, hr2⟩ := HRow.out w4 (Hb13.out.trans (hb4.mono Hb13.out.size)); have m0 : w4.cell? ⟨w.heap.size, 0, none⟩ = some (.slice T tbs.length ct) := (by rw [cell_of_row _ _ 0 _ _ _ hr0]; rfl); have m1 : w4.cell? ⟨w.heap.size, 1, none⟩ = some (.int .i64 o0) := (by rw [cell_of_row _ _ 1 _ _ _ hr0]; rfl); obtain ⟨y0, y1, y2, y3, y4, y5, y6⟩ := box_cells hr2; dsimp only at y0 y1 y2 y3 y4 y5 y6; have Hb4 := Lib.hid hb4; clear hv4 hb4 hr0 hr1 hr2))
          all_goals
            go_ret
            exact ⟨rfl, HB3.out.trans ((Hb4.out.trans (Hb5.out.mono Hb4.out.size)).mono HB3.out.size)⟩
end Go.Proofs.YtbnonccmlildnaaGreat
