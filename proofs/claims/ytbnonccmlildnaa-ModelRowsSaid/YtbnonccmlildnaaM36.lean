/- Value: what a term is worth, as a text, or the error. -/
import Derived.Test.YtbnonccmlildnaaM35
import Derived.StillTailTactics
set_option linter.unusedSimpArgs false
set_option linter.unusedVariables false
namespace Go.Proofs.Ytbnonccmlildnaa
open Go.RowKit

/-- What Value hands back. -/
def ValueIs (τ : Nat → List UInt8) (r : Except Int Vl) (w : World) (e : Ending) (w' : World) : Prop :=
  ((∃ x, r = .ok x ∧ e = .returned (.tuple #[.string (textV τ x), .int .i64 0])) ∨ (∃ er z, r = .error er ∧ (z = er ∨ z = 40) ∧ z ≠ 0 ∧ e = .returned (.tuple #[.string .empty, .int .i64 z]))) ∧ Below w.heap.size w w'
/-- The same structure, later. -/
def Mdl.at_ (M : Mdl) (w : World) : Mdl := ⟨M.sig, M.tbs, M.o0, M.objs, M.S, M.cs, M.T, M.ct, w⟩
section
variable {M : Mdl} {τ : Nat → List UInt8} {L : Nat}
theorem MOk.later (h : MOk M τ L) {w : World} (hb : Below M.w0.heap.size M.w0 w) : MOk (M.at_ w) τ L where
  fns := h.fns.mono hb
  tbs := h.tbs.mono hb
  objs := h.objs
  text k hk := ⟨(h.text k hk).1, fun w' hw' => (h.text k hk).2 w' (hb.trans (hw'.mono hb.size))⟩
  outs := h.outs
  small := h.small
  nsig := h.nsig
  ntbs := h.ntbs
theorem four_rows (w : World) (a b c d : Obj) : ((((w.alloc a).alloc b).alloc c).alloc d).heap[w.heap.size]? = some a ∧ ((((w.alloc a).alloc b).alloc c).alloc d).heap[w.heap.size + 1]? = some b ∧ ((((w.alloc a).alloc b).alloc c).alloc d).heap[w.heap.size + 1 + 1]? = some c ∧ ((((w.alloc a).alloc b).alloc c).alloc d).heap[w.heap.size + 1 + 1 + 1]? = some d ∧ ((((w.alloc a).alloc b).alloc c).alloc d).heap.size = w.heap.size + 4 := by
  have s1 : (w.alloc a).heap.size = w.heap.size + 1 := by simp
  have s2 : ((w.alloc a).alloc b).heap.size = w.heap.size + 1 + 1 := by simp
  have s3 : (((w.alloc a).alloc b).alloc c).heap.size = w.heap.size + 1 + 1 + 1 := by simp
  refine ⟨?_, ?_, ?_, ?_, by simp⟩
  · rw [Below.heap_alloc _ _ _ (by omega), Below.heap_alloc _ _ _ (by omega), Below.heap_alloc _ _ _ (by omega)]; exact heap_alloc_new w a
  · rw [Below.heap_alloc _ _ _ (by omega), Below.heap_alloc _ _ _ (by omega), ← s1]; exact heap_alloc_new _ b
  · rw [Below.heap_alloc _ _ _ (by omega), ← s2]; exact heap_alloc_new _ c
  · rw [← s3]; exact heap_alloc_new _ d
theorem unfrozen_later {w w3 : World} {B k t : Nat} {cs : Array Value} (h : w.heap[k]? = some (.cells cs t (0, 0))) (hb : Below B w w3) (hk : k < B) (i : Nat) : w3.frozen? ⟨k, i, none⟩ = false := frozen_of_row w3 k i _ t ((hb.block k hk).trans h)
theorem cell_later {w w3 : World} {B k t : Nat} {cs : Array Value} (h : w.heap[k]? = some (.cells cs t (0, 0))) (hb : Below B w w3) (hk : k < B) (i : Nat) (hi : i < cs.size) : w3.cell? ⟨k, i, none⟩ = some cs[i] := by
  rw [cell_of_row w3 k i _ t (0, 0) ((hb.block k hk).trans h)]
  exact Array.getElem?_eq_getElem hi
theorem res9 {t : Array Value} {w : World} {ko ke : Nat} {s : ByteArray} {z : Int} (h6 : t.getD 6 undef = .pointer (some ⟨ko, 0, none⟩)) (h7 : t.getD 7 undef = .pointer (some ⟨ke, 0, none⟩)) (hs : w.cell? ⟨ko, 0, none⟩ = some (.string s)) (hz : w.cell? ⟨ke, 0, none⟩ = some (.int .i64 z)) :
    (results Try.f6 t).run Try.prog w = .ok (.tuple #[.string s, .int .i64 z]) w := by
  have h6' : t[6]?.getD undef = .pointer (some ⟨ko, 0, none⟩) := by rw [← h6]; simp
  have h7' : t[7]?.getD undef = .pointer (some ⟨ke, 0, none⟩) := by rw [← h7]; simp
  simp [results, Try.results9, go_sem, h6', h7', hs, hz]
theorem two_stores {w : World} {ko ke : Nat} {a b : Value} (ho : w.heap[ko]? = some (.cells #[a] 9 (0, 0))) (he : w.heap[ke]? = some (.cells #[b] 41 (0, 0))) (hne : ¬ ke = ko) (u v : Value) :
    ((w.setCell ⟨ko, 0, none⟩ u).setCell ⟨ke, 0, none⟩ v).cell? ⟨ko, 0, none⟩ = some u ∧ ((w.setCell ⟨ko, 0, none⟩ u).setCell ⟨ke, 0, none⟩ v).cell? ⟨ke, 0, none⟩ = some v := by
  have h1 : (w.setCell ⟨ko, 0, none⟩ u).heap[ko]? = some (.cells #[u] 9 (0, 0)) := heap_setCell_same w ko 0 _ 9 u ho
  have h2 : (w.setCell ⟨ko, 0, none⟩ u).heap[ke]? = some (.cells #[b] 41 (0, 0)) := by rw [Below.heap_setCell _ _ _ _ hne]; exact he
  have h3 : ((w.setCell ⟨ko, 0, none⟩ u).setCell ⟨ke, 0, none⟩ v).heap[ke]? = some (.cells #[v] 41 (0, 0)) := heap_setCell_same _ ke 0 _ 41 v h2
  have h4 : ((w.setCell ⟨ko, 0, none⟩ u).setCell ⟨ke, 0, none⟩ v).heap[ko]? = some (.cells #[u] 9 (0, 0)) := by rw [Below.heap_setCell _ _ _ _ (fun e => hne e.symm)]; exact h1
  exact ⟨by rw [cell_of_row _ _ 0 _ 9 (0, 0) h4]; rfl, by rw [cell_of_row _ _ 0 _ 41 (0, 0) h3]; rfl⟩
/-- A drawn region that reads, and a call behind it: the world behind the draw by a name. -/
theorem still_tail {P : Program} {id : Nat} {Q : Exit → Act → World → Prop} {a : Act} {w W : World} {l : List Oper} (n : Nat) (hm : P.follows .mixedOrders = true) (hB : Region.lexTailB .any l.toArray n = true) (hW : W = w.drew)
    (h : wpStill P l.toArray W (fun a' => wpList P l.toArray Q (l.drop n) a' W) (l.take n) a) : (Code.region id l.toArray true).wp P Q a w := by
  subst hW
  exact wp_region_still_tail n hm hB h
/-- What is left behind a new block, and a draw. -/
theorem alloc_drew {w1 w3 : World} {o : Obj} (hb : Below w1.heap.size w1 w3) {w5 : World} (h5 : w5 = (w3.alloc o).drew) : Below w1.heap.size w1 w5 ∧ w5.heap[w3.heap.size]? = some o ∧ w5.heap.size = w3.heap.size + 1 := by
  subst h5
  exact ⟨below_drewN (hb.alloc hb.size o) 1, heap_alloc_new w3 o, by simp⟩
theorem world_cells {w : World} {a : Nat} {c0 c1 c2 c3 c4 c5 : Value} (h : w.heap[a]? = some (.cells #[c0, c1, c2, c3, c4, c5] 56 (0, 0))) :
    w.cell? ⟨a, 0, none⟩ = some c0 ∧ w.cell? ⟨a, 1, none⟩ = some c1 ∧ w.cell? ⟨a, 2, none⟩ = some c2 ∧ w.cell? ⟨a, 3, none⟩ = some c3 ∧ w.cell? ⟨a, 4, none⟩ = some c4 ∧ w.cell? ⟨a, 5, none⟩ = some c5 := by
  refine ⟨?_, ?_, ?_, ?_, ?_, ?_⟩
  · rw [cell_of_row _ _ 0 _ _ _ h]; rfl
  · rw [cell_of_row _ _ 1 _ _ _ h]; rfl
  · rw [cell_of_row _ _ 2 _ _ _ h]; rfl
  · rw [cell_of_row _ _ 3 _ _ _ h]; rfl
  · rw [cell_of_row _ _ 4 _ _ _ h]; rfl
  · rw [cell_of_row _ _ 5 _ _ _ h]; rfl
/-- The stacks at the beginning. -/
theorem st_new {M : Mdl} {w3 w5 w6 : World} (h5 : Below w3.heap.size w3 w5) (hr5 : w5.heap[w3.heap.size]? = some (.cells #[.slice M.S M.sig.length M.cs, .slice M.T M.tbs.length M.ct, .int .i64 M.o0, .int .i64 M.objs, .slice none 0 0, .slice none 0 0] 56 (0, 0))) (h6 : Below w5.heap.size w5 w6) :
    St (M.at_ w3) w3.heap.size [] [] (.slice none 0 0) (.slice none 0 0) w6 where
  below := h5.trans (h6.mono h5.size)
  lo := Nat.le_refl _
  row := (h6.block _ (Array.getElem?_eq_some_iff.1 hr5).1).trans hr5
  names := World.ownsRow_nil _ _ _ _
  bound := World.ownsRow_nil _ _ _ _
theorem later_facts {w W1 w3 : World} {m0 m1 t0 t1 t2 t3 t4 t5 t6 : Value}
    (h : W1.heap[w.heap.size]? = some (.cells #[m0, m1] 46 (0, 0)) ∧ W1.heap[w.heap.size + 1]? = some (.cells #[t0, t1, t2, t3, t4, t5, t6] 40 (0, 0)) ∧ W1.heap[w.heap.size + 1 + 1]? = some (.cells #[.string ⟨#[]⟩] 9 (0, 0)) ∧ W1.heap[w.heap.size + 1 + 1 + 1]? = some (.cells #[.int .i64 0] 41 (0, 0)) ∧ W1.heap.size = w.heap.size + 4) (hb : Below W1.heap.size W1 w3) :
    w3.frozen? ⟨w.heap.size + 1 + 1, 0, none⟩ = false ∧ w3.frozen? ⟨w.heap.size + 1 + 1 + 1, 0, none⟩ = false ∧ w3.cell? ⟨w.heap.size + 1 + 1, 0, none⟩ = some (.string ⟨#[]⟩) ∧ w3.cell? ⟨w.heap.size + 1 + 1 + 1, 0, none⟩ = some (.int .i64 0) ∧
    w3.cell? ⟨w.heap.size, 0, none⟩ = some m0 ∧ w3.cell? ⟨w.heap.size, 1, none⟩ = some m1 ∧ w3.cell? ⟨w.heap.size + 1, 0, none⟩ = some t0 ∧ w3.cell? ⟨w.heap.size + 1, 1, none⟩ = some t1 ∧ w3.cell? ⟨w.heap.size + 1, 2, none⟩ = some t2 ∧ w3.cell? ⟨w.heap.size + 1, 3, none⟩ = some t3 ∧ w3.cell? ⟨w.heap.size + 1, 4, none⟩ = some t4 ∧ w3.cell? ⟨w.heap.size + 1, 5, none⟩ = some t5 ∧ w3.cell? ⟨w.heap.size + 1, 6, none⟩ = some t6 ∧
    w.heap.size + 1 + 1 + 1 < w3.heap.size ∧ w.heap.size + 1 + 1 < w3.heap.size ∧ w.heap.size + 1 < w3.heap.size ∧ w.heap.size < w3.heap.size := by
  obtain ⟨h0, h1, h2, h3, h4⟩ := h
  have hs := hb.size
  have k0 := (hb.block _ (by omega)).trans h0
  have k1 := (hb.block _ (by omega)).trans h1
  have k2 := (hb.block _ (by omega)).trans h2
  have k3 := (hb.block _ (by omega)).trans h3
  refine ⟨frozen_of_row _ _ 0 _ 9 k2, frozen_of_row _ _ 0 _ 41 k3, ?_, ?_, ?_, ?_, ?_, ?_, ?_, ?_, ?_, ?_, ?_, by omega, by omega, by omega, by omega⟩
  · rw [cell_of_row _ _ 0 _ _ _ k2]; rfl
  · rw [cell_of_row _ _ 0 _ _ _ k3]; rfl
  · rw [cell_of_row _ _ 0 _ _ _ k0]; rfl
  · rw [cell_of_row _ _ 1 _ _ _ k0]; rfl
  · rw [cell_of_row _ _ 0 _ _ _ k1]; rfl
  · rw [cell_of_row _ _ 1 _ _ _ k1]; rfl
  · rw [cell_of_row _ _ 2 _ _ _ k1]; rfl
  · rw [cell_of_row _ _ 3 _ _ _ k1]; rfl
  · rw [cell_of_row _ _ 4 _ _ _ k1]; rfl
  · rw [cell_of_row _ _ 5 _ _ _ k1]; rfl
  · rw [cell_of_row _ _ 6 _ _ _ k1]; rfl
set_option maxRecDepth 100000 in
set_option maxHeartbeats 4000000 in
theorem Value_any (hM : MOk M τ L) (hS : ∀ f ∈ M.sig, i64 f.out) (ho : (M.objs : Int) = min (max M.o0 0) 1000) {t : Tm} {v : Value} (h : TmV M.w0 t v) (hn : numsT L t = true) (hwt : tw t ≤ 1000000) (hsh : shortT t = true) :
    ∀ w, Below M.w0.heap.size M.w0 w → Calls Try.prog 6 #[.slice M.S M.sig.length M.cs, .agg #[.slice M.T M.tbs.length M.ct, .int .i64 M.o0], v] w (ValueIs τ (valueS τ M.sig M.tbs M.objs t) w) := by
  intro w hb
  obtain ⟨p, rfl⟩ := h.parts
  obtain ⟨W1, hW1⟩ : ∃ W1, W1 = (((w.alloc (.cells #[.slice M.T M.tbs.length M.ct, .int .i64 M.o0] 46)).alloc (.cells p.arr 40)).alloc (.cells #[.string ⟨#[]⟩] 9)).alloc (.cells #[.int .i64 0] 41) := ⟨_, rfl⟩
  have hb1 : Below w.heap.size w W1 := by
    rw [hW1]
    exact ((((Below.refl _ _).alloc (Nat.le_refl _) _).alloc (by simp) _).alloc (by simp; omega) _).alloc (by simp; omega) _
  have hbM := hb.trans (hb1.mono hb.size)
  have Hck := Lib.hid (Check_any (cs := M.cs) ⟨hM.fns, hM.nsig, hS⟩ h hwt hsh W1 hbM)
  have HW1 : Hid (W1 = (((w.alloc (.cells #[.slice M.T M.tbs.length M.ct, .int .i64 M.o0] 46)).alloc (.cells #[.int .i64 p.op, .string p.name, .int .i64 p.sort, .string p.n, .slice p.A p.la p.ca, .slice p.V p.lv p.cv, .slice p.P p.lp p.cp] 40)).alloc (.cells #[.string ⟨#[]⟩] 9)).alloc (.cells #[.int .i64 0] 41)) := Lib.hid hW1
  have hrows : W1.heap[w.heap.size]? = some (.cells #[.slice M.T M.tbs.length M.ct, .int .i64 M.o0] 46 (0, 0)) ∧ W1.heap[w.heap.size + 1]? = some (.cells p.arr 40 (0, 0)) ∧ W1.heap[w.heap.size + 1 + 1]? = some (.cells #[.string ⟨#[]⟩] 9 (0, 0)) ∧ W1.heap[w.heap.size + 1 + 1 + 1]? = some (.cells #[.int .i64 0] 41 (0, 0)) ∧ W1.heap.size = w.heap.size + 4 := by
    rw [hW1]
    exact four_rows w _ _ _ _
  have Hrows := Lib.hid hrows
  have Hb1 := Lib.hid hb1
  clear hW1 hb1 hrows
  by_cases hc : (checkTop M.sig t).2 = 0
  · have Hobj : Hid ((M.objs : Int) = min (max M.o0 0) 1000) := Lib.hid ho
    have Hasks := Lib.hid (fun w (hb : Below M.w0.heap.size M.w0 w) => asks_any hM.objs h w hb)
    have HbM := Lib.hid hbM
    generalize hobj : min (max M.o0 0) 1000 = ob at *
    have hob : ob = (M.objs : Int) := ho.symm
    cases ha : asksT M.objs t with
    | true =>
      have Hr : Hid (valueS τ M.sig M.tbs M.objs t = .error 41) := Lib.hid (by unfold valueS; rw [if_neg (by simpa using hc), if_pos ha])
      have hc2 : ((checkTop M.sig t).2 == 0) = true := by simpa using hc
      rw [ha] at Hasks
      generalize checkTop M.sig t = r at *
      generalize valueS τ M.sig M.tbs M.objs t = R at *
      obtain ⟨op', nm', so', n', A', la', ca', V', lv', cv', P', lp', cp'⟩ := p
      unfold Parts.arr at *
      dsimp only at *
      clear h ho
      go_enter_defers Try.func6, Try.ntmps6
      go_wp2_with (go_at_call 9; rw [← HW1.out]; refine Calls.mono Hck.out ?_; rintro e w3 ⟨rfl, hb3⟩; obtain ⟨fo, fe, co, ce, cm0, cm1, ct0, ct1, ct2, ct3, ct4, ct5, ct6, q0, q1, q2, q3⟩ := later_facts Hrows.out hb3; have Hb3 := Lib.hid hb3; clear hb3)
      obtain ⟨w5, hw5⟩ : ∃ w5, w5 = (w3.alloc (.cells #[.slice M.S M.sig.length M.cs, .slice M.T M.tbs.length M.ct, .int .i64 M.o0, .int .i64 M.objs, .slice none 0 0, .slice none 0 0] 56)).drew := ⟨_, rfl⟩
      obtain ⟨hb5, hr5, hz5⟩ := alloc_drew Hb3.out hw5
      clear fo fe co ce cm0 cm1 ct0 ct1 ct2 ct3 ct4 ct5 ct6
      obtain ⟨fo, fe, co, ce, cm0, cm1, ct0, ct1, ct2, ct3, ct4, ct5, ct6, _, _, _, _⟩ := later_facts Hrows.out hb5
      obtain ⟨d0, d1, d2, d3, d4, d5⟩ := world_cells hr5
      have Hb5 := Lib.hid hb5
      have Hr5 := Lib.hid hr5
      clear hb5 hr5
      refine still_tail 5 (by kernel_rfl) (by kernel_rfl) hw5 ?_
      clear hw5
      simp only [List.take_succ_cons, List.take_zero, List.drop_succ_cons, List.drop_zero]
      repeat still_step
      refine wpStill_nil ?_
      go_wp2_with (go_at_call 10; refine Calls.mono (Hasks.out w5 (HbM.out.trans (Hb5.out.mono HbM.out.size))) ?_; rintro e w6 ⟨rfl, hb6⟩; obtain ⟨fo, fe, co, ce, cm0, cm1, ct0, ct1, ct2, ct3, ct4, ct5, ct6, _, _, _, _⟩ := later_facts Hrows.out (Hb5.out.trans (hb6.mono Hb5.out.size)); have Hb6 := Lib.hid hb6; clear hb6)
      have hrs := Hrows.out.2.2.2.2
      have hB6 := Hb5.out.trans (Hb6.out.mono Hb5.out.size)
      have h2 := two_stores ((hB6.block _ (by omega)).trans Hrows.out.2.2.1) ((hB6.block _ (by omega)).trans Hrows.out.2.2.2.1) (by omega) (.string ⟨#[]⟩) (.int .i64 41)
      refine ⟨_, res9 rfl rfl h2.1 h2.2, .inr ⟨_, _, Hr.out, .inl rfl, by decide, rfl⟩, ?_⟩
      exact ((Hb1.out.trans (hB6.mono Hb1.out.size)).setCell (p := ⟨w.heap.size + 1 + 1, 0, none⟩) (by show w.heap.size ≤ w.heap.size + 1 + 1; omega) _).setCell (p := ⟨w.heap.size + 1 + 1 + 1, 0, none⟩) (by show w.heap.size ≤ w.heap.size + 1 + 1 + 1; omega) _
    | false =>
      have Hr : Hid (valueS τ M.sig M.tbs M.objs t = evalT τ M.sig M.tbs M.objs t []) := Lib.hid (by unfold valueS; rw [if_neg (by simpa using hc), ha]; rfl)
      have hct : tdepth t ≤ 200 ∧ tsize t ≤ 50000 ∧ (checkS M.sig t []).2 = 0 := by
        unfold checkTop at hc
        by_cases h3 : 200 < tdepth t
        · rw [if_pos h3] at hc; cases hc
        rw [if_neg h3] at hc
        by_cases h4 : 50000 < tsize t
        · rw [if_pos h4] at hc; cases hc
        rw [if_neg h4] at hc
        exact ⟨by omega, by omega, hc⟩
      have hpre : ∀ w3, TPre (M.at_ w3) L t [] [] [] := fun w3 => ⟨hct.2.2, EnvOK.nil, ha, hn, by simpa using hwt, hct.2.1, rfl, by simp⟩
      have hval : ∀ w3, Below M.w0.heap.size M.w0 w3 → ValOK (M.at_ w3) τ w3.heap.size [] [] t (.agg p.arr) := fun w3 hb3 => value_any (M := M.at_ w3) (hM.later hb3) (h.mono hb3) [] [] [] (hpre w3)
      have hmf : ∀ (fn : Go.Fn) (first cap : Array Value) (w : World), (Instr.makeFunc fn first cap).run Try.prog w = .ok (.func fn first cap) w := fun _ _ _ _ => rfl
      have hc2 : ((checkTop M.sig t).2 == 0) = true := by simpa using hc
      rw [ha] at Hasks
      have HM := Lib.hid hM
      cases hv : evalT τ M.sig M.tbs M.objs t [] with
      | error er =>
        have Hval : Hid (∀ w3 w6, Below M.w0.heap.size M.w0 w3 → St (M.at_ w3) w3.heap.size [] [] (.slice none 0 0) (.slice none 0 0) w6 → Calls Try.prog 12 #[.pointer (some ⟨w3.heap.size, 0, none⟩), .agg p.arr] w6 (VErr (M.at_ w3))) := Lib.hid (fun w3 w6 hb3 hs => (hval w3 hb3).err er hv _ _ _ hs)
        rw [hv] at Hr
        clear hval hpre hv
        generalize checkTop M.sig t = r at *
        generalize valueS τ M.sig M.tbs M.objs t = R at *
        obtain ⟨op', nm', so', n', A', la', ca', V', lv', cv', P', lp', cp'⟩ := p
        unfold Parts.arr at *
        dsimp only at *
        clear h ho hM
        go_enter_defers Try.func6, Try.ntmps6
        go_wp2_with (go_at_call 9; rw [← HW1.out]; refine Calls.mono Hck.out ?_; rintro e w3 ⟨rfl, hb3⟩; obtain ⟨fo, fe, co, ce, cm0, cm1, ct0, ct1, ct2, ct3, ct4, ct5, ct6, q0, q1, q2, q3⟩ := later_facts Hrows.out hb3; have Hb3 := Lib.hid hb3; clear hb3)
        obtain ⟨w5, hw5⟩ : ∃ w5, w5 = (w3.alloc (.cells #[.slice M.S M.sig.length M.cs, .slice M.T M.tbs.length M.ct, .int .i64 M.o0, .int .i64 M.objs, .slice none 0 0, .slice none 0 0] 56)).drew := ⟨_, rfl⟩
        obtain ⟨hb5, hr5, hz5⟩ := alloc_drew Hb3.out hw5
        have HB35 := Lib.hid (alloc_drew (Below.refl w3.heap.size w3) hw5).1
        clear fo fe co ce cm0 cm1 ct0 ct1 ct2 ct3 ct4 ct5 ct6
        obtain ⟨fo, fe, co, ce, cm0, cm1, ct0, ct1, ct2, ct3, ct4, ct5, ct6, _, _, _, _⟩ := later_facts Hrows.out hb5
        obtain ⟨d0, d1, d2, d3, d4, d5⟩ := world_cells hr5
        have Hb5 := Lib.hid hb5
        have Hr5 := Lib.hid hr5
        clear hb5 hr5
        refine still_tail 5 (by kernel_rfl) (by kernel_rfl) hw5 ?_
        clear hw5
        simp only [List.take_succ_cons, List.take_zero, List.drop_succ_cons, List.drop_zero]
        repeat still_step
        refine wpStill_nil ?_
        go_wp2_with (first
          | (go_at_call 10; refine Calls.mono (Hasks.out w5 (HbM.out.trans (Hb5.out.mono HbM.out.size))) ?_; rintro e w6 ⟨rfl, hb6⟩; obtain ⟨fo, fe, co, ce, cm0, cm1, ct0, ct1, ct2, ct3, ct4, ct5, ct6, _, _, _, _⟩ := later_facts Hrows.out (Hb5.out.trans (hb6.mono Hb5.out.size)); have Hb6 := Lib.hid hb6; have Hst := Lib.hid (st_new (M := M) HB35.out Hr5.out hb6); clear hb6)
          | (go_at_call 12; refine Calls.mono (Hval.out w3 w6 (HbM.out.trans (Hb3.out.mono HbM.out.size)) Hst.out) ?_; rintro e w8 ⟨rfl, hb8⟩; have Hb8 : Hid (Below w3.heap.size w3 w8) := Lib.hid hb8; clear hb8))
        refine leaves_cons (f := 11) (args := #[.pointer (some ⟨w.heap.size + 1 + 1, 0, none⟩), .pointer (some ⟨w.heap.size + 1 + 1 + 1, 0, none⟩)]) (by simp) (by simp [go_sem]) ?_
        have hrs := Hrows.out.2.2.2.2
        have hs3 := Hb3.out.size
        have k2 := (Hb8.out.block _ (by omega)).trans ((Hb3.out.block _ (by omega)).trans Hrows.out.2.2.1)
        have k3 := (Hb8.out.block _ (by omega)).trans ((Hb3.out.block _ (by omega)).trans Hrows.out.2.2.2.1)
        refine (catch_fail k2 k3).mono ?_
        rintro e u' w9 ⟨rfl, rfl, hc9⟩
        refine ⟨_, res9 rfl rfl (by rw [cell_of_row _ _ 0 _ _ _ hc9.out]; rfl) (by rw [cell_of_row _ _ 0 _ _ _ hc9.err]; rfl), .inr ⟨_, _, Hr.out, .inr rfl, by decide, rfl⟩, ?_⟩
        exact (Hb1.out.trans (Hb3.out.mono Hb1.out.size)).trans ((Hb8.out.mono (by omega)).trans (hc9.fr.below (fun k hk => by rcases hk with rfl | rfl <;> omega) (by have := Hb8.out.size; omega)))
      | ok x =>
        have Hval : Hid (∀ w3 w6, Below M.w0.heap.size M.w0 w3 → St (M.at_ w3) w3.heap.size [] [] (.slice none 0 0) (.slice none 0 0) w6 → Calls Try.prog 12 #[.pointer (some ⟨w3.heap.size, 0, none⟩), .agg p.arr] w6 (VOk (M.at_ w3) w3.heap.size [] [] (.slice none 0 0) (.slice none 0 0) w6 x)) := Lib.hid (fun w3 w6 hb3 hs => (hval w3 hb3).ok x hv _ _ _ hs)
        have Hin : Hid (VlIn M (L * 50000) x) := Lib.hid ((hpre w).vlin (hM.later hb) hv)
        have Hm := Lib.hid (small_m hM)
        obtain ⟨s0, hs0⟩ : ∃ s, s = textV τ x := ⟨_, rfl⟩
        have HX := Lib.hid hs0
        rw [hv] at Hr
        clear hval hpre hv hs0
        generalize checkTop M.sig t = r at *
        generalize valueS τ M.sig M.tbs M.objs t = R at *
        obtain ⟨op', nm', so', n', A', la', ca', V', lv', cv', P', lp', cp'⟩ := p
        unfold Parts.arr at *
        dsimp only at *
        clear h ho hM
        go_enter_defers Try.func6, Try.ntmps6
        go_wp2_with (go_at_call 9; rw [← HW1.out]; refine Calls.mono Hck.out ?_; rintro e w3 ⟨rfl, hb3⟩; obtain ⟨fo, fe, co, ce, cm0, cm1, ct0, ct1, ct2, ct3, ct4, ct5, ct6, q0, q1, q2, q3⟩ := later_facts Hrows.out hb3; have Hb3 := Lib.hid hb3; clear hb3)
        obtain ⟨w5, hw5⟩ : ∃ w5, w5 = (w3.alloc (.cells #[.slice M.S M.sig.length M.cs, .slice M.T M.tbs.length M.ct, .int .i64 M.o0, .int .i64 M.objs, .slice none 0 0, .slice none 0 0] 56)).drew := ⟨_, rfl⟩
        obtain ⟨hb5, hr5, hz5⟩ := alloc_drew Hb3.out hw5
        have HB35 := Lib.hid (alloc_drew (Below.refl w3.heap.size w3) hw5).1
        clear fo fe co ce cm0 cm1 ct0 ct1 ct2 ct3 ct4 ct5 ct6
        obtain ⟨fo, fe, co, ce, cm0, cm1, ct0, ct1, ct2, ct3, ct4, ct5, ct6, _, _, _, _⟩ := later_facts Hrows.out hb5
        obtain ⟨d0, d1, d2, d3, d4, d5⟩ := world_cells hr5
        have Hb5 := Lib.hid hb5
        have Hr5 := Lib.hid hr5
        clear hb5 hr5
        refine still_tail 5 (by kernel_rfl) (by kernel_rfl) hw5 ?_
        clear hw5
        simp only [List.take_succ_cons, List.take_zero, List.drop_succ_cons, List.drop_zero]
        repeat still_step
        refine wpStill_nil ?_
        go_wp2_with (first
          | (go_at_call 10; refine Calls.mono (Hasks.out w5 (HbM.out.trans (Hb5.out.mono HbM.out.size))) ?_; rintro e w6 ⟨rfl, hb6⟩; obtain ⟨fo, fe, co, ce, cm0, cm1, ct0, ct1, ct2, ct3, ct4, ct5, ct6, _, _, _, _⟩ := later_facts Hrows.out (Hb5.out.trans (hb6.mono Hb5.out.size)); have Hb6 := Lib.hid hb6; have Hst := Lib.hid (st_new (M := M) HB35.out Hr5.out hb6); clear hb6)
          | (refine Calls.mono Htx.out ?_; rintro e w9 ⟨rfl, hb9⟩; obtain ⟨fo, fe, co, ce, cm0, cm1, ct0, ct1, ct2, ct3, ct4, ct5, ct6, _, _, _, _⟩ := later_facts Hrows.out (Hb3.out.trans ((Hb8.out.trans (hb9.mono Hb8.out.size)).mono Hb3.out.size)); have Hb9 := Lib.hid hb9; clear hb9)
          | (go_at_call 12; refine Calls.mono (Hval.out w3 w6 (HbM.out.trans (Hb3.out.mono HbM.out.size)) Hst.out) ?_; rintro e w8 ⟨v8, nv8, bv8, rfl, hv8, hs8, hf8⟩; obtain ⟨T8, F8, u8, rfl, hm8, hcf8, hc8⟩ := text_any (HM.out.later (HbM.out.trans (Hb3.out.mono HbM.out.size))).text hv8 hs8.below Hin.out.1 Hm.out (Hin.out.2); rw [← HX.out] at hc8; have Htx := Lib.hid hc8; have Hb8 : Hid (Below w3.heap.size w3 w8) := Lib.hid hs8.below; clear hs8 hf8 hv8 hc8))
        refine leaves_cons (f := 11) (args := #[.pointer (some ⟨w.heap.size + 1 + 1, 0, none⟩), .pointer (some ⟨w.heap.size + 1 + 1 + 1, 0, none⟩)]) (by simp) (by simp [go_sem]) ?_
        have hrs := Hrows.out.2.2.2.2
        have hs3 := Hb3.out.size
        have hs8 := Hb8.out.size
        have k2 := (Hb9.out.block _ (by omega)).trans ((Hb8.out.block _ (by omega)).trans ((Hb3.out.block _ (by omega)).trans Hrows.out.2.2.1))
        have k3 := (Hb9.out.block _ (by omega)).trans ((Hb8.out.block _ (by omega)).trans ((Hb3.out.block _ (by omega)).trans Hrows.out.2.2.2.1))
        have h2 := two_stores k2 k3 (by omega) (.string s0) (.int .i64 0)
        refine catch_none.mono ?_
        rintro e u' w10 ⟨rfl, rfl, rfl⟩
        refine ⟨_, res9 rfl rfl h2.1 h2.2, .inl ⟨x, Hr.out, by rw [HX.out]⟩, ?_⟩
        have hB9 : Below w.heap.size w w9 := (Hb1.out.trans (Hb3.out.mono Hb1.out.size)).trans ((Hb8.out.mono (by omega)).trans (Hb9.out.mono (by omega)))
        exact (hB9.setCell (p := ⟨w.heap.size + 1 + 1, 0, none⟩) (by show w.heap.size ≤ w.heap.size + 1 + 1; omega) _).setCell (p := ⟨w.heap.size + 1 + 1 + 1, 0, none⟩) (by show w.heap.size ≤ w.heap.size + 1 + 1 + 1; omega) _
  · have Hr : Hid (valueS τ M.sig M.tbs M.objs t = .error (checkTop M.sig t).2) := Lib.hid (by unfold valueS; rw [if_pos hc])
    have hc2 : ¬ ((checkTop M.sig t).2 == 0) = true := by simpa using hc
    generalize checkTop M.sig t = r at *
    generalize valueS τ M.sig M.tbs M.objs t = R at *
    obtain ⟨op', nm', so', n', A', la', ca', V', lv', cv', P', lp', cp'⟩ := p
    unfold Parts.arr at *
    dsimp only at *
    clear h
    go_enter_defers Try.func6, Try.ntmps6
    go_wp2_with (go_at_call 9; rw [← HW1.out]; refine Calls.mono Hck.out ?_; rintro e w3 ⟨rfl, hb3⟩; have fo := unfrozen_later Hrows.out.2.2.1 hb3 (by have := Hrows.out.2.2.2.2; omega) 0; have fe := unfrozen_later Hrows.out.2.2.2.1 hb3 (by have := Hrows.out.2.2.2.2; omega) 0; have co : w3.cell? ⟨w.heap.size + 1 + 1, 0, none⟩ = some (.string ⟨#[]⟩) := cell_later Hrows.out.2.2.1 hb3 (by have := Hrows.out.2.2.2.2; omega) 0 (by simp); have ce : w3.cell? ⟨w.heap.size + 1 + 1 + 1, 0, none⟩ = some (.int .i64 0) := cell_later Hrows.out.2.2.2.1 hb3 (by have := Hrows.out.2.2.2.2; omega) 0 (by simp); have q0 : w.heap.size + 1 + 1 + 1 < w3.heap.size := by { have h1 := Hrows.out.2.2.2.2; have h2 := hb3.size; omega }; have Hb3 := Lib.hid hb3; clear hb3)
    have hrs := Hrows.out.2.2.2.2
    have h2 := two_stores ((Hb3.out.block _ (by omega)).trans Hrows.out.2.2.1) ((Hb3.out.block _ (by omega)).trans Hrows.out.2.2.2.1) (by omega) (.string ⟨#[]⟩) (.int .i64 r.2)
    refine ⟨_, res9 rfl rfl h2.1 h2.2, .inr ⟨_, _, Hr.out, .inl rfl, hc, rfl⟩, ?_⟩
    exact ((Hb1.out.trans (Hb3.out.mono Hb1.out.size)).setCell (p := ⟨w.heap.size + 1 + 1, 0, none⟩) (by show w.heap.size ≤ w.heap.size + 1 + 1; omega) _).setCell (p := ⟨w.heap.size + 1 + 1 + 1, 0, none⟩) (by show w.heap.size ≤ w.heap.size + 1 + 1 + 1; omega) _
end
end Go.Proofs.Ytbnonccmlildnaa

/- Lists of terms, of bounds, in memory; terms that are made. -/
namespace Go.Proofs.Ytbnonccmlildnaa
open Go.RowKit Go.Lib

def TsV (w : World) (l : List Tm) (v : Value) : Prop := ∃ A c, v = .slice A l.length c ∧ l.length ≤ c ∧ ∃ f, RowCells w A 7 l.length f ∧ ∀ (j : Nat) (t : Tm), l[j]? = some t → TmV w t (f j)
def BsV (w : World) (vars : Bd) (v : Value) : Prop := ∃ A c, v = .slice A vars.length c ∧ vars.length ≤ c ∧ RowCells w A 2 vars.length fun j => match vars[j]? with | some (s, k) => .agg #[.string s, .int .i64 k] | none => .nilFunc
theorem TsV.mono {w w' : World} {l : List Tm} {v : Value} (h : TsV w l v) (hb : Below w.heap.size w w') : TsV w' l v := by
  obtain ⟨A, c, e, hc, f, hf, hL⟩ := h
  exact ⟨A, c, e, hc, f, hf.below hb, fun j t ht => (hL j t ht).mono hb⟩
theorem BsV.mono {w w' : World} {l : Bd} {v : Value} (h : BsV w l v) (hb : Below w.heap.size w w') : BsV w' l v := by
  obtain ⟨A, c, e, hc, hf⟩ := h
  exact ⟨A, c, e, hc, hf.below hb⟩
theorem TsV.nil (w : World) : TsV w [] (.slice none 0 0) := ⟨none, 0, rfl, Nat.le_refl _, fun _ => .nilFunc, .inl rfl, by simp⟩
theorem BsV.nil (w : World) : BsV w [] (.slice none 0 0) := ⟨none, 0, rfl, Nat.le_refl _, .inl rfl⟩
theorem TmV.make {w : World} {op : Int} {name : ByteArray} {sort : Int} {n : ByteArray} {l : List Tm} {vars : Bd} {pat : List Tm} {vl vv vp : Value} (hb : Bds op sort name n l.length vars pat.length) (hl : TsV w l vl) (hv : BsV w vars vv) (hp : TsV w pat vp) :
    TmV w (.mk op name sort n l vars pat) (.agg #[.int .i64 op, .string name, .int .i64 sort, .string n, vl, vv, vp]) := by
  obtain ⟨A, c, rfl, hc, f, hf, hL⟩ := hl
  obtain ⟨V, cv, rfl, hcv, hV⟩ := hv
  obtain ⟨P, cp, rfl, hcp, g, hg, hP⟩ := hp
  exact .mk f g hb hc hf hL hcv hV hcp hg hP
theorem TmV.head {w : World} {t : Tm} {v : Value} (h : TmV w t v) : v.cells[0]? = some (.int .i64 (opOf t)) := by
  cases h
  rfl
theorem TmV.seven {w : World} {t : Tm} {v : Value} (h : TmV w t v) : v.cells.size = 7 := by
  cases h
  rfl
/-- A slice of one, of two, in a block of its own. -/
theorem TsV.one {w : World} {t : Tm} {p : Parts} (h : TmV w t (.agg p.arr)) (T : TypeId) : TsV (w.alloc (.cells p.arr T)) [t] (.slice (some ⟨w.heap.size, 0, none⟩) 1 1) := by
  refine ⟨_, _, rfl, Nat.le_refl _, fun _ => .agg p.arr, .inr ⟨_, _, rfl, fun j hj => ⟨h.seven, fun i hi => ?_⟩⟩, fun j t' ht => ?_⟩
  · have hj0 : j = 0 := by simp at hj; exact hj
    subst hj0
    rw [cell_of_row _ w.heap.size _ p.arr T (0, 0) (heap_alloc_new w _)]
    simp [Value.cells]
  · cases j with
    | zero => simp at ht; subst ht; exact h.mono ((Below.refl _ _).alloc (Nat.le_refl _) _)
    | succ j => simp at ht
theorem TsV.two {w : World} {t u : Tm} {p q : Parts} (h : TmV w t (.agg p.arr)) (h' : TmV w u (.agg q.arr)) (T : TypeId) : TsV (w.alloc (.cells (p.arr ++ q.arr) T)) [t, u] (.slice (some ⟨w.heap.size, 0, none⟩) 2 2) := by
  have hb : Below w.heap.size w (w.alloc (.cells (p.arr ++ q.arr) T)) := (Below.refl _ _).alloc (Nat.le_refl _) _
  refine ⟨_, _, rfl, Nat.le_refl _, fun j => if j = 0 then .agg p.arr else .agg q.arr, .inr ⟨_, _, rfl, fun j hj => ?_⟩, fun j t' ht => ?_⟩
  · have h2 : j = 0 ∨ j = 1 := by simp at hj; omega
    have hps : p.arr.size = 7 := rfl
    have hqs : q.arr.size = 7 := rfl
    rcases h2 with rfl | rfl
    · refine ⟨h.seven, fun i hi => ?_⟩
      rw [cell_of_row _ w.heap.size _ _ T (0, 0) (heap_alloc_new w _)]
      simp only [Nat.zero_add, Nat.zero_mul, if_true, Value.cells]
      rw [Array.getElem?_append_left (by omega)]
    · refine ⟨h'.seven, fun i hi => ?_⟩
      rw [cell_of_row _ w.heap.size _ _ T (0, 0) (heap_alloc_new w _)]
      simp only [Nat.zero_add, Nat.one_mul, Value.cells]
      rw [Array.getElem?_append_right (by omega)]
      simp [hps]
  · match j, ht with
    | 0, ht => simp at ht; subst ht; exact h.mono hb
    | 1, ht => simp at ht; subst ht; exact h'.mono hb
    | j + 2, ht => simp at ht
theorem BsV.one (w : World) (s : ByteArray) (k : Int) (T : TypeId) : BsV (w.alloc (.cells #[.string s, .int .i64 k] T)) [(s, k)] (.slice (some ⟨w.heap.size, 0, none⟩) 1 1) := by
  refine ⟨_, _, rfl, Nat.le_refl _, .inr ⟨_, _, rfl, fun j hj => ?_⟩⟩
  have hj0 : j = 0 := by simp at hj; exact hj
  subst hj0
  refine ⟨rfl, fun i hi => ?_⟩
  rw [cell_of_row _ w.heap.size _ _ T (0, 0) (heap_alloc_new w _)]
  simp [Value.cells]

end Go.Proofs.Ytbnonccmlildnaa

/- Holds, where all hold. -/
namespace Go.Proofs.Ytbnonccmlildnaa
open Go.RowKit

/-- True, with no error. -/
def TrueIs (w : World) (e : Ending) (w' : World) : Prop := e = .returned (.tuple #[.string ⟨#[116, 114, 117, 101]⟩, .int .i64 0]) ∧ Below w.heap.size w w'
def HoldsIs (w : World) (e : Ending) (w' : World) : Prop := e = .returned (.tuple #[.bool true, .int .i64 0]) ∧ Below w.heap.size w w'
set_option maxRecDepth 100000 in
set_option maxHeartbeats 4000000 in
theorem holds_true {w0 : World} {len : Nat} {A T : Option Addr} {c ct nt : Nat} {o0 : Int} {sv : Value} {f : Nat → Value} (hf : RowCells w0 A 7 len f) (hp : ∀ j, j < len → ∃ p : Parts, f j = .agg p.arr) (hl : len ≤ 140737488355328)
    (hV : ∀ j, j < len → ∀ w, Below w0.heap.size w0 w → Calls Try.prog 6 #[sv, .agg #[.slice T nt ct, .int .i64 o0], f j] w (TrueIs w))
    (hC : ∀ j, j < len → ∀ w, Below w0.heap.size w0 w → Calls Try.prog 9 #[sv, f j] w (SortIs w (2, 0))) (W : World) (hW : Below w0.heap.size w0 W) :
    Calls Try.prog 8 #[sv, .agg #[.slice T nt ct, .int .i64 o0], .slice A len c] W (HoldsIs W) := by
  have Hf := Lib.hid hf
  have Hp := Lib.hid hp
  have HV := Lib.hid hV
  have HC := Lib.hid hC
  obtain ⟨W1, hW1⟩ : ∃ W1, W1 = W.alloc (.cells #[.slice T nt ct, .int .i64 o0] 46) := ⟨_, rfl⟩
  have Hb1 : Hid (Below W.heap.size W W1) := Lib.hid (by rw [hW1]; exact (Below.refl _ _).alloc (Nat.le_refl _) _)
  have Hr1 : Hid (W1.heap[W.heap.size]? = some (.cells #[.slice T nt ct, .int .i64 o0] 46 (0, 0)) ∧ W.heap.size < W1.heap.size) := Lib.hid (by rw [hW1]; exact ⟨heap_alloc_new W _, by simp⟩)
  have HW := Lib.hid hW
  have HW1 := Lib.hid hW1
  clear hf hp hV hC hW hW1
  go_enter Try.func8, Try.ntmps8
  go_wp2_with fail
  go_loopw [8, 9, 18] (fun ok fm i wr => ∃ k : Nat, k ≤ len ∧ i = .int .i64 k ∧ ok = .bool true ∧ fm = .bool true ∧ Hid (Below W1.heap.size W1 wr)) (fun _ _ i _ => len - (intOf i).toNat)
  case atStart => exact ⟨0, Nat.zero_le _, rfl, rfl, rfl, Lib.hid (by rw [HW1.out]; exact Below.refl _ _)⟩
  case round =>
    obtain ⟨k, hk, rfl, rfl, rfl, Hbr⟩ := hrel
    have Hbw : Hid (Below w0.heap.size w0 wr) := Lib.hid ((HW.out.trans (Hb1.out.mono HW.out.size)).trans (Hbr.out.mono (by have := HW.out.size; have := Hb1.out.size; omega)))
    have hrow := (Hbr.out.block _ Hr1.out.2).trans Hr1.out.1
    have c0 : wr.cell? ⟨W.heap.size, 0, none⟩ = some (.slice T nt ct) := by rw [cell_of_row _ _ 0 _ _ _ hrow]; rfl
    have c1 : wr.cell? ⟨W.heap.size, 1, none⟩ = some (.int .i64 o0) := by rw [cell_of_row _ _ 1 _ _ _ hrow]; rfl
    have q0 : W.heap.size < wr.heap.size := by have := Hr1.out.2; have := Hbr.out.size; omega
    by_cases hlt : k < len
    · obtain ⟨p, hpp⟩ := Hp.out k hlt
      obtain ⟨b, o, rfl, h0, h1, h2, h3, h4, h5, h6⟩ := (Hf.out.below Hbw.out).get hlt hpp
      have hV1 := HV.out k hlt
      have hC1 := HC.out k hlt
      rw [hpp] at hV1 hC1
      have HV1 := Lib.hid hV1
      have HC1 := Lib.hid hC1
      have Hbx := Lib.hid (below_boxT wr p)
      have Hbox : Hid ((boxT wr p).heap[wr.heap.size]? = some (.cells p.arr 40 (0, 0)) ∧ wr.heap.size < (boxT wr p).heap.size) := Lib.hid ⟨heap_alloc_new wr _, by rw [boxT_size]; omega⟩
      have HB : Hid (boxT wr p = wr.alloc (.cells #[.int .i64 p.op, .string p.name, .int .i64 p.sort, .string p.n, .slice p.A p.la p.ca, .slice p.V p.lv p.cv, .slice p.P p.lp p.cp] 40)) := Lib.hid rfl
      clear hpp hV1 hC1 hrow
      go_wp2_with (first
        | (go_at_call 6; rw [← HB.out]; refine Calls.mono (HV1.out _ (Hbw.out.trans (Hbx.out.mono Hbw.out.size))) ?_; rintro e w3 ⟨rfl, hb3⟩; obtain ⟨d0, d1, d2, d3, d4, d5, d6⟩ := box_cells ((hb3.block _ Hbox.out.2).trans Hbox.out.1); have Hb3 := Lib.hid hb3; clear hb3)
        | (go_at_call 9; refine Calls.mono (HC1.out w3 ((Hbw.out.trans (Hbx.out.mono Hbw.out.size)).trans (Hb3.out.mono (by have := Hbw.out.size; have := Hbx.out.size; omega)))) ?_; rintro e w4 ⟨rfl, hb4⟩; have Hb4 := Lib.hid hb4; clear hb4))
      go_roundw
      case rel => exact ⟨k + 1, by omega, by go_num, rfl, rfl, Lib.hid (Hbr.out.trans ((Hbx.out.trans ((Hb3.out.trans (Hb4.out.mono Hb3.out.size)).mono Hbx.out.size)).mono Hbr.out.size))⟩
      case measure => simp [intOf]; omega
    · clear hrow
      go_wp2_with fail
      go_ret2
      exact ⟨rfl, Hb1.out.trans (Hbr.out.mono Hb1.out.size)⟩
end Go.Proofs.Ytbnonccmlildnaa

/- known: the chapter's example. -/
namespace Go.Proofs.Ytbnonccmlildnaa
open Go.RowKit

def fB : ByteArray := ⟨#[102]⟩
def eB : ByteArray := ⟨#[]⟩
theorem bds_small {op : Int} {name n : ByteArray} {ll lp : Nat} (ho : 0 ≤ op ∧ op ≤ 100) (hn : name.size ≤ 1000000) (hk : n.size ≤ 1000000) (hl : ll ≤ 100) (hp : lp ≤ 100) : Bds op 0 name n ll [] lp :=
  ⟨by unfold i64; omega, by unfold i64; omega, by omega, by omega, by omega, by simp, by omega, by simp⟩
/-- f of a numeral. -/
def appF (s : ByteArray) : Tm := .mk 17 fB 0 eB [.mk 1 eB 0 s [] [] []] [] []
def TmIs (t : Tm) (w : World) (e : Ending) (w' : World) : Prop := ∃ v, e = .returned v ∧ TmV w' t v ∧ Below w.heap.size w w'
set_option maxRecDepth 100000 in
set_option maxHeartbeats 2000000 in
theorem appF_any (s : ByteArray) (hs : s.size ≤ 100) (w : World) : Calls Try.prog 7 #[.string s] w (TmIs (appF s) w) := by
  go_enter Try.func7, Try.ntmps7
  go_wp2_with fail
  have hone : ∀ w : World, TmV w (.mk 1 eB 0 s [] [] []) (.agg (Parts.arr ⟨1, eB, 0, s, none, 0, 0, none, 0, 0, none, 0, 0⟩)) := fun w =>
    TmV.make (bds_small (by omega) (by decide) (by omega) (by simp) (by simp)) (TsV.nil w) (BsV.nil w) (TsV.nil w)
  obtain ⟨W, hW⟩ : ∃ W, W = w.alloc (.cells #[.int .i64 17, .string fB, .int .i64 0, .string eB, .slice (some ⟨w.heap.size + 1, 0, none⟩) 1 1, .slice none 0 0, .slice none 0 0] 40) := ⟨_, rfl⟩
  have hz : W.heap.size = w.heap.size + 1 := by rw [hW]; simp
  have h1 := TsV.one (hone W) 40
  rw [hz] at h1
  have hrow : (W.alloc (.cells (Parts.arr ⟨1, eB, 0, s, none, 0, 0, none, 0, 0, none, 0, 0⟩) 40)).heap[w.heap.size]? = some (.cells #[.int .i64 17, .string fB, .int .i64 0, .string eB, .slice (some ⟨w.heap.size + 1, 0, none⟩) 1 1, .slice none 0 0, .slice none 0 0] 40 (0, 0)) := by
    rw [Below.heap_alloc _ _ _ (by omega), hW]; exact heap_alloc_new w _
  have hb : Below w.heap.size w (W.alloc (.cells (Parts.arr ⟨1, eB, 0, s, none, 0, 0, none, 0, 0, none, 0, 0⟩) 40)) := by
    have h0 : Below w.heap.size w W := by rw [hW]; exact (Below.refl _ _).alloc (Nat.le_refl _) _
    exact h0.alloc h0.size _
  have ht : TmV (W.alloc (.cells (Parts.arr ⟨1, eB, 0, s, none, 0, 0, none, 0, 0, none, 0, 0⟩) 40)) (appF s) (.agg #[.int .i64 17, .string fB, .int .i64 0, .string eB, .slice (some ⟨w.heap.size + 1, 0, none⟩) 1 1, .slice none 0 0, .slice none 0 0]) :=
    TmV.make (bds_small (by omega) (by decide) (by decide) (by simp) (by simp)) h1 (BsV.nil _) (TsV.nil _)
  subst hW
  exact bodyPost_ret (results_cell_row rfl _ _ w.heap.size 40 #[.int .i64 17, .string fB, .int .i64 0, .string eB, .slice (some ⟨w.heap.size + 1, 0, none⟩) 1 1, .slice none 0 0, .slice none 0 0] (0, 0) _ rfl hrow Try.underlying40 rfl (by kernel_rfl)) rfl ⟨_, rfl, ht, hb⟩
end Go.Proofs.Ytbnonccmlildnaa

/- The chapter's example, plainly. -/
namespace Go.Proofs.Ytbnonccmlildnaa
open Go.RowKit Go.Lib

def nB (k : UInt8) : ByteArray := ⟨#[k]⟩
def exSig : List Fn := [⟨fB, [1], 1⟩]
def exTbs : List Tb := [⟨fB, [([nB 49], nB 53)], nB 48⟩]
def exT : Tm := .mk 11 eB 0 eB [appF (nB 50), appF (nB 49)] [] []
def tT : Tm := .mk 2 eB 0 eB [] [] []
theorem itoa1 : itoa 1 = [49] := by unfold itoa; rw [if_neg (by decide), show (1 : Int).toNat = 1 from rfl, decDigits, dif_pos (by decide)]; rfl
theorem itoa2 : itoa 2 = [50] := by unfold itoa; rw [if_neg (by decide), show (2 : Int).toNat = 2 from rfl, decDigits, dif_pos (by decide)]; rfl
theorem ex_check : checkTop exSig exT = (2, 0) := by kernel_rfl
theorem ex_checkT : checkTop exSig tT = (2, 0) := by kernel_rfl
theorem ex_asks : asksT 0 exT = false := by kernel_rfl
theorem ex_asksT : asksT 0 tT = false := by kernel_rfl
theorem val_n (k : UInt8) (z : Int) (h : valB (nB k) = z) (τ : Nat → List UInt8) (tbs : List Tb) : evalT τ exSig tbs 0 (.mk 1 eB 0 (nB k) [] [] []) [] = .ok (.num z) := by
  subst h
  rw [evalT_op (by decide) (by decide) (by decide)]
  rfl
theorem val_f (k : UInt8) (z : Int) (h : valB (nB k) = z) (τ : Nat → List UInt8) (tbs : List Tb) : evalT τ exSig tbs 0 (appF (nB k)) [] = appV τ exSig tbs 0 fB [.num z] := by
  unfold appF
  simp only [evalT, evals]
  rw [if_neg (by decide)]
  have := val_n k z h τ tbs
  simp only [evalT, evals] at this
  rw [this]
  rfl
theorem ex_app2 (τ : Nat → List UInt8) : appV τ exSig exTbs 0 fB [.num 2] = .ok (.num 0) := by
  have ht : tableOf exTbs fB = some ⟨fB, [([nB 49], nB 53)], nB 48⟩ := by kernel_rfl
  have ho : outOf exSig fB = 1 := by kernel_rfl
  have hx : [Vl.num 2].map (textV τ) = [⟨#[50]⟩] := by show [(⟨(itoa 2).toArray⟩ : ByteArray)] = _; rw [itoa2]
  have hr : readV (rowOf [([nB 49], nB 53)] [⟨#[50]⟩] (nB 48)) 1 0 = some (.num 0) := by kernel_rfl
  unfold appV
  rw [ht, ho, hx]
  dsimp only
  rw [hr]
theorem ex_app1 (τ : Nat → List UInt8) : appV τ exSig exTbs 0 fB [.num 1] = .ok (.num 5) := by
  have ht : tableOf exTbs fB = some ⟨fB, [([nB 49], nB 53)], nB 48⟩ := by kernel_rfl
  have ho : outOf exSig fB = 1 := by kernel_rfl
  have hx : [Vl.num 1].map (textV τ) = [⟨#[49]⟩] := by show [(⟨(itoa 1).toArray⟩ : ByteArray)] = _; rw [itoa1]
  have hr : readV (rowOf [([nB 49], nB 53)] [⟨#[49]⟩] (nB 48)) 1 0 = some (.num 5) := by kernel_rfl
  unfold appV
  rw [ht, ho, hx]
  dsimp only
  rw [hr]
theorem ex_value (τ : Nat → List UInt8) : valueS τ exSig exTbs 0 exT = .ok (.tr true) := by
  unfold valueS
  rw [ex_check, if_neg (by decide), ex_asks]
  show evalT τ exSig exTbs 0 exT [] = _
  unfold exT
  rw [evalT_op (by decide) (by decide) (by decide)]
  rw [evals_two ((val_f 50 2 (by kernel_rfl) τ exTbs).trans (ex_app2 τ)) ((val_f 49 1 (by kernel_rfl) τ exTbs).trans (ex_app1 τ))]
  rfl
theorem ex_valueT (τ : Nat → List UInt8) : valueS τ exSig exTbs 0 tT = .ok (.tr true) := by
  unfold valueS
  rw [ex_checkT, if_neg (by decide), ex_asksT]
  rfl
theorem ex_none (τ : Nat → List UInt8) : valueS τ exSig [] 0 exT = .error 40 := by
  unfold valueS
  rw [ex_check, if_neg (by decide), ex_asks]
  show evalT τ exSig [] 0 exT [] = _
  unfold exT
  rw [evalT_op (by decide) (by decide) (by decide)]
  simp only [evals]
  rw [val_f 50 2 (by kernel_rfl) τ []]
  rfl
end Go.Proofs.Ytbnonccmlildnaa

/- ModelRows, plainly. -/
namespace Go.Proofs.Ytbnonccmlildnaa
open Go.RowKit Go.Lib

/-- The digits of a small number. -/
def dig3 (k : Nat) : List UInt8 :=
  if k < 10 then [UInt8.ofNat (48 + k)] else if k < 100 then [UInt8.ofNat (48 + k / 10), UInt8.ofNat (48 + k % 10)] else [UInt8.ofNat (48 + k / 10 / 10), UInt8.ofNat (48 + k / 10 % 10), UInt8.ofNat (48 + k % 10)]
def num8 (n : Int) : List UInt8 := if n < 0 then 45 :: dig3 n.natAbs else dig3 n.natAbs
def n8B (n : Int) : ByteArray := ⟨(num8 n).toArray⟩
theorem dec3 {k : Nat} (h : k < 1000) : decDigits k = dig3 k := by
  unfold dig3
  by_cases h1 : k < 10
  · rw [if_pos h1, decDigits, dif_pos h1]
  · rw [if_neg h1, decDigits, dif_neg h1]
    by_cases h2 : k < 100
    · rw [if_pos h2, decDigits, dif_pos (by omega)]
      rfl
    · rw [if_neg h2, decDigits, dif_neg (by omega), decDigits, dif_pos (by omega)]
      rfl
theorem itoa8 {n : Int} (h : n.natAbs < 1000) : itoa n = num8 n := by
  unfold itoa num8
  by_cases h0 : n < 0
  · rw [if_pos h0, if_pos h0, dec3 h]
  · rw [if_neg h0, if_neg h0, show n.toNat = n.natAbs by omega, dec3 h]
/-- All numbers of eight bits at once. -/
theorem int8_all (p : Int → Bool) (h : (List.range 256).all (fun k => p ((k : Int) - 128)) = true) {n : Int} (h1 : -128 ≤ n) (h2 : n ≤ 127) : p n = true := by
  have := List.all_eq_true.1 h (n + 128).toNat (by simp; omega)
  rw [show (((n + 128).toNat : Nat) : Int) - 128 = n by omega] at this
  exact this
theorem n8_val {n : Int} (h1 : -128 ≤ n) (h2 : n ≤ 127) : valB (n8B n) = n := by
  have := int8_all (fun n => decide (valB (n8B n) = n)) (by kernel_rfl) h1 h2
  simpa using this
theorem n8_right {n : Int} (h1 : -128 ≤ n) (h2 : n ≤ 127) : rightB (n8B n) = true := int8_all (fun n => rightB (n8B n)) (by kernel_rfl) h1 h2
theorem n8_check {n : Int} (h1 : -128 ≤ n) (h2 : n ≤ 127) : checkTop exSig (appF (n8B n)) = (1, 0) := by
  have := int8_all (fun n => decide (checkTop exSig (appF (n8B n)) = (1, 0))) (by kernel_rfl) h1 h2
  simpa using this
theorem n8_asks (n : Int) : asksT 0 (appF (n8B n)) = false := by kernel_rfl
theorem n8_size {n : Int} (h1 : -128 ≤ n) (h2 : n ≤ 127) : (n8B n).size ≤ 4 := by
  have := int8_all (fun n => decide ((n8B n).size ≤ 4)) (by kernel_rfl) h1 h2
  simpa using this
/-- The rows of the table. -/
def rowsT (rows : List (Int × Int)) : List (List ByteArray × ByteArray) := rows.map fun r => ([n8B r.1], n8B r.2)
/-- The first row that fits. -/
def wantI : List (Int × Int) → Int → Int → Int
  | [], _, o => o
  | r :: rs, a, o => if r.1 = a then r.2 else wantI rs a o
theorem wantI_le {rows : List (Int × Int)} {a o : Int} (h : ∀ r ∈ rows, -128 ≤ r.2 ∧ r.2 ≤ 127) (ho : -128 ≤ o ∧ o ≤ 127) : -128 ≤ wantI rows a o ∧ wantI rows a o ≤ 127 := by
  induction rows with
  | nil => exact ho
  | cons r rs ih =>
    unfold wantI
    split
    · exact h r (by simp)
    · exact ih fun r hr => h r (by simp [hr])
theorem rows_row {rows : List (Int × Int)} {a o : Int} (h : ∀ r ∈ rows, -128 ≤ r.1 ∧ r.1 ≤ 127) (ha : -128 ≤ a ∧ a ≤ 127) : rowOf (rowsT rows) [n8B a] (n8B o) = n8B (wantI rows a o) := by
  induction rows with
  | nil => rfl
  | cons r rs ih =>
    have hr := h r (by simp)
    unfold rowsT wantI
    rw [List.map_cons, rowOf]
    by_cases he : r.1 = a
    · rw [if_pos (by rw [he]), if_pos he]
    · rw [if_neg, if_neg he]
      · exact ih fun r hr => h r (by simp [hr])
      · intro hx
        have hx2 := (maps_eq (xs := [n8B r.1]) (ys := [n8B a])).1 hx
        simp only [List.cons.injEq, and_true] at hx2
        have h1 := n8_val hr.1 hr.2
        rw [hx2, n8_val ha.1 ha.2] at h1
        exact he h1.symm
def rowsTbs (rows : List (Int × Int)) (o : Int) : List Tb := [⟨fB, rowsT rows, n8B o⟩, ⟨fB, [], ⟨#[55, 55]⟩⟩]
theorem rows_value (τ : Nat → List UInt8) {rows : List (Int × Int)} {a o : Int} (h : ∀ r ∈ rows, (-128 ≤ r.1 ∧ r.1 ≤ 127) ∧ (-128 ≤ r.2 ∧ r.2 ≤ 127)) (ha : -128 ≤ a ∧ a ≤ 127) (ho : -128 ≤ o ∧ o ≤ 127) :
    valueS τ exSig (rowsTbs rows o) 0 (appF (n8B a)) = .ok (.num (wantI rows a o)) ∧ textV τ (.num (wantI rows a o)) = n8B (wantI rows a o) := by
  obtain ⟨w1, w2⟩ := wantI_le (a := a) (fun r hr => (h r hr).2) ho
  constructor
  · unfold valueS
    rw [n8_check ha.1 ha.2, if_neg (by decide), n8_asks]
    show evalT τ exSig (rowsTbs rows o) 0 (appF (n8B a)) [] = _
    unfold appF
    simp only [evalT, evals]
    rw [if_neg (by decide)]
    have hn : evalT τ exSig (rowsTbs rows o) 0 (.mk 1 eB 0 (n8B a) [] [] []) [] = .ok (.num a) := by
      rw [evalT_op (by decide) (by decide) (by decide)]
      show Except.ok (Vl.num (valB (n8B a))) = _
      rw [n8_val ha.1 ha.2]
    simp only [evalT, evals] at hn
    rw [hn]
    show appV τ exSig (rowsTbs rows o) 0 fB [.num a] = _
    have hi : [Vl.num a].map (textV τ) = [n8B a] := by
      show [(⟨(itoa a).toArray⟩ : ByteArray)] = _
      rw [itoa8 (by omega)]
      rfl
    have ht : tableOf (rowsTbs rows o) fB = some ⟨fB, rowsT rows, n8B o⟩ := by
      unfold tableOf rowsTbs
      rw [List.find?_cons]
      rw [show ((fB.toList == fB.toList) = true) from by kernel_rfl]
    unfold appV
    rw [ht, show outOf exSig fB = 1 from by kernel_rfl, hi]
    dsimp only
    rw [rows_row (fun r hr => (h r hr).1) ha]
    unfold readV
    rw [if_pos rfl, if_pos (n8_right w1 w2), n8_val w1 w2]
  · show (⟨(itoa _).toArray⟩ : ByteArray) = _
    rw [itoa8 (by omega)]
    rfl
end Go.Proofs.Ytbnonccmlildnaa
