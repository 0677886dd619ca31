/- Value: what a term is worth, as a text, or the error. -/
import Derived.Test.YtbnonccmlildnaaGreatM35
import Derived.StillTailTactics
set_option linter.unusedSimpArgs false
set_option linter.unusedVariables false
namespace Go.Proofs.YtbnonccmlildnaaGreat
open Go.RowKit

/-- What Value hands back. -/
def ValueIs (τ : Nat → List UInt8) (r : Except Int Vl) (w : World) (e : Ending) (w' : World) : Prop :=
  ((∃ x, r = .ok x ∧ e = .returned (.tuple #[.string (textV τ x), .int .i64 0])) ∨ (∃ er z, r = .error er ∧ (z = er ∨ z = 40) ∧ z ≠ 0 ∧ e = .returned (.tuple #[.string .empty, .int .i64 z]))) ∧ Below w.heap.size w w'
/-- The same structure, later. -/
def Mdl.at_ (M : Mdl) (w : World) : Mdl := ⟨M.sig, M.tbs, M.o0, M.objs, M.S, M.cs, M.T, M.ct, w⟩
section
variable {M : Mdl} {τ : Nat → List UInt8} {L : Nat}
theorem MOk.later (h : MOk M τ L) {w : World} (hb : Below M.w0.heap.size M.w0 w) : MOk (M.at_ w) τ L where
  fns := h.fns.mono hb
  tbs := h.tbs.mono hb
  objs := h.objs
  text k hk := ⟨(h.text k hk).1, fun w' hw' => (h.text k hk).2 w' (hb.trans (hw'.mono hb.size))⟩
  outs := h.outs
  small := h.small
  nsig := h.nsig
  ntbs := h.ntbs
theorem four_rows (w : World) (a b c d : Obj) : ((((w.alloc a).alloc b).alloc c).alloc d).heap[w.heap.size]? = some a ∧ ((((w.alloc a).alloc b).alloc c).alloc d).heap[w.heap.size + 1]? = some b ∧ ((((w.alloc a).alloc b).alloc c).alloc d).heap[w.heap.size + 1 + 1]? = some c ∧ ((((w.alloc a).alloc b).alloc c).alloc d).heap[w.heap.size + 1 + 1 + 1]? = some d ∧ ((((w.alloc a).alloc b).alloc c).alloc d).heap.size = w.heap.size + 4 := by
  have s1 : (w.alloc a).heap.size = w.heap.size + 1 := by simp
  have s2 : ((w.alloc a).alloc b).heap.size = w.heap.size + 1 + 1 := by simp
  have s3 : (((w.alloc a).alloc b).alloc c).heap.size = w.heap.size + 1 + 1 + 1 := by simp
  refine ⟨?_, ?_, ?_, ?_, by simp⟩
  · rw [Below.heap_alloc _ _ _ (by omega), Below.heap_alloc _ _ _ (by omega), Below.heap_alloc _ _ _ (by omega)]; exact heap_alloc_new w a
  · rw [Below.heap_alloc _ _ _ (by omega), Below.heap_alloc _ _ _ (by omega), ← s1]; exact heap_alloc_new _ b
  · rw [Below.heap_alloc _ _ _ (by omega), ← s2]; exact heap_alloc_new _ c
  · rw [← s3]; exact heap_alloc_new _ d
theorem unfrozen_later {w w3 : World} {B k t : Nat} {cs : Array Value} (h : w.heap[k]? = some (.cells cs t (0, 0))) (hb : Below B w w3) (hk : k < B) (i : Nat) : w3.frozen? ⟨k, i, none⟩ = false := frozen_of_row w3 k i _ t ((hb.block k hk).trans h)
theorem cell_later {w w3 : World} {B k t : Nat} {cs : Array Value} (h : w.heap[k]? = some (.cells cs t (0, 0))) (hb : Below B w w3) (hk : k < B) (i : Nat) (hi : i < cs.size) : w3.cell? ⟨k, i, none⟩ = some cs[i] := by
  rw [cell_of_row w3 k i _ t (0, 0) ((hb.block k hk).trans h)]
  exact Array.getElem?_eq_getElem hi
theorem res9 {t : Array Value} {w : World} {ko ke : Nat} {s : ByteArray} {z : Int} (h6 : t.getD 6 undef = .pointer (some ⟨ko, 0, none⟩)) (h7 : t.getD 7 undef = .pointer (some ⟨ke, 0, none⟩)) (hs : w.cell? ⟨ko, 0, none⟩ = some (.string s)) (hz : w.cell? ⟨ke, 0, none⟩ = some (.int .i64 z)) :
    (results Tryz.f9 t).run Tryz.prog w = .ok (.tuple #[.string s, .int .i64 z]) w := by
  have h6' : t[6]?.getD undef = .pointer (some ⟨ko, 0, none⟩) := by rw [← h6]; simp
  have h7' : t[7]?.getD undef = .pointer (some ⟨ke, 0, none⟩) := by rw [← h7]; simp
  simp [results, Tryz.results9, go_sem, h6', h7', hs, hz]
theorem two_stores {w : World} {ko ke : Nat} {a b : Value} (ho : w.heap[ko]? = some (.cells #[a] 9 (0, 0))) (he : w.heap[ke]? = some (.cells #[b] 32 (0, 0))) (hne : ¬ ke = ko) (u v : Value) :
    ((w.setCell ⟨ko, 0, none⟩ u).setCell ⟨ke, 0, none⟩ v).cell? ⟨ko, 0, none⟩ = some u ∧ ((w.setCell ⟨ko, 0, none⟩ u).setCell ⟨ke, 0, none⟩ v).cell? ⟨ke, 0, none⟩ = some v := by
  have h1 : (w.setCell ⟨ko, 0, none⟩ u).heap[ko]? = some (.cells #[u] 9 (0, 0)) := heap_setCell_same w ko 0 _ 9 u ho
  have h2 : (w.setCell ⟨ko, 0, none⟩ u).heap[ke]? = some (.cells #[b] 32 (0, 0)) := by rw [Below.heap_setCell _ _ _ _ hne]; exact he
  have h3 : ((w.setCell ⟨ko, 0, none⟩ u).setCell ⟨ke, 0, none⟩ v).heap[ke]? = some (.cells #[v] 32 (0, 0)) := heap_setCell_same _ ke 0 _ 32 v h2
  have h4 : ((w.setCell ⟨ko, 0, none⟩ u).setCell ⟨ke, 0, none⟩ v).heap[ko]? = some (.cells #[u] 9 (0, 0)) := by rw [Below.heap_setCell _ _ _ _ (fun e => hne e.symm)]; exact h1
  exact ⟨by rw [cell_of_row _ _ 0 _ 9 (0, 0) h4]; rfl, by rw [cell_of_row _ _ 0 _ 32 (0, 0) h3]; rfl⟩
/-- A drawn region that reads, and a call behind it: the world behind the draw by a name. -/
theorem still_tail {P : Program} {id : Nat} {Q : Exit → Act → World → Prop} {a : Act} {w W : World} {l : List Oper} (n : Nat) (hm : P.follows .mixedOrders = true) (hB : Region.lexTailB .any l.toArray n = true) (hW : W = w.drew)
    (h : wpStill P l.toArray W (fun a' => wpList P l.toArray Q (l.drop n) a' W) (l.take n) a) : (Code.region id l.toArray true).wp P Q a w := by
  subst hW
  exact wp_region_still_tail n hm hB h
/-- What is left behind a new block, and a draw. -/
theorem alloc_drew {w1 w3 : World} {o : Obj} (hb : Below w1.heap.size w1 w3) {w5 : World} (h5 : w5 = (w3.alloc o).drew) : Below w1.heap.size w1 w5 ∧ w5.heap[w3.heap.size]? = some o ∧ w5.heap.size = w3.heap.size + 1 := by
  subst h5
  exact ⟨below_drewN (hb.alloc hb.size o) 1, heap_alloc_new w3 o, by simp⟩
theorem world_cells {w : World} {a : Nat} {c0 c1 c2 c3 c4 c5 : Value} (h : w.heap[a]? = some (.cells #[c0, c1, c2, c3, c4, c5] 66 (0, 0))) :
    w.cell? ⟨a, 0, none⟩ = some c0 ∧ w.cell? ⟨a, 1, none⟩ = some c1 ∧ w.cell? ⟨a, 2, none⟩ = some c2 ∧ w.cell? ⟨a, 3, none⟩ = some c3 ∧ w.cell? ⟨a, 4, none⟩ = some c4 ∧ w.cell? ⟨a, 5, none⟩ = some c5 := by
  refine ⟨?_, ?_, ?_, ?_, ?_, ?_⟩
  · rw [cell_of_row _ _ 0 _ _ _ h]; rfl
  · rw [cell_of_row _ _ 1 _ _ _ h]; rfl
  · rw [cell_of_row _ _ 2 _ _ _ h]; rfl
  · rw [cell_of_row _ _ 3 _ _ _ h]; rfl
  · rw [cell_of_row _ _ 4 _ _ _ h]; rfl
  · rw [cell_of_row _ _ 5 _ _ _ h]; rfl
/-- The stacks at the beginning. -/
theorem st_new {M : Mdl} {w3 w5 w6 : World} (h5 : Below w3.heap.size w3 w5) (hr5 : w5.heap[w3.heap.size]? = some (.cells #[.slice M.S M.sig.length M.cs, .slice M.T M.tbs.length M.ct, .int .i64 M.o0, .int .i64 M.objs, .slice none 0 0, .slice none 0 0] 66 (0, 0))) (h6 : Below w5.heap.size w5 w6) :
    St (M.at_ w3) w3.heap.size [] [] (.slice none 0 0) (.slice none 0 0) w6 where
  below := h5.trans (h6.mono h5.size)
  lo := Nat.le_refl _
  row := (h6.block _ (Array.getElem?_eq_some_iff.1 hr5).1).trans hr5
  names := World.ownsRow_nil _ _ _ _
  bound := World.ownsRow_nil _ _ _ _
theorem later_facts {w W1 w3 : World} {m0 m1 t0 t1 t2 t3 t4 t5 t6 : Value}
    (h : W1.heap[w.heap.size]? = some (.cells #[m0, m1] 25 (0, 0)) ∧ W1.heap[w.heap.size + 1]? = some (.cells #[t0, t1, t2, t3, t4, t5, t6] 29 (0, 0)) ∧ W1.heap[w.heap.size + 1 + 1]? = some (.cells #[.string ⟨#[]⟩] 9 (0, 0)) ∧ W1.heap[w.heap.size + 1 + 1 + 1]? = some (.cells #[.int .i64 0] 32 (0, 0)) ∧ W1.heap.size = w.heap.size + 4) (hb : Below W1.heap.size W1 w3) :
    w3.frozen? ⟨w.heap.size + 1 + 1, 0, none⟩ = false ∧ w3.frozen? ⟨w.heap.size + 1 + 1 + 1, 0, none⟩ = false ∧ w3.cell? ⟨w.heap.size + 1 + 1, 0, none⟩ = some (.string ⟨#[]⟩) ∧ w3.cell? ⟨w.heap.size + 1 + 1 + 1, 0, none⟩ = some (.int .i64 0) ∧
    w3.cell? ⟨w.heap.size, 0, none⟩ = some m0 ∧ w3.cell? ⟨w.heap.size, 1, none⟩ = some m1 ∧ w3.cell? ⟨w.heap.size + 1, 0, none⟩ = some t0 ∧ w3.cell? ⟨w.heap.size + 1, 1, none⟩ = some t1 ∧ w3.cell? ⟨w.heap.size + 1, 2, none⟩ = some t2 ∧ w3.cell? ⟨w.heap.size + 1, 3, none⟩ = some t3 ∧ w3.cell? ⟨w.heap.size + 1, 4, none⟩ = some t4 ∧ w3.cell? ⟨w.heap.size + 1, 5, none⟩ = some t5 ∧ w3.cell? ⟨w.heap.size + 1, 6, none⟩ = some t6 ∧
    w.heap.size + 1 + 1 + 1 < w3.heap.size ∧ w.heap.size + 1 + 1 < w3.heap.size ∧ w.heap.size + 1 < w3.heap.size ∧ w.heap.size < w3.heap.size := by
  obtain ⟨h0, h1, h2, h3, h4⟩ := h
  have hs := hb.size
  have k0 := (hb.block _ (by omega)).trans h0
  have k1 := (hb.block _ (by omega)).trans h1
  have k2 := (hb.block _ (by omega)).trans h2
  have k3 := (hb.block _ (by omega)).trans h3
  refine ⟨frozen_of_row _ _ 0 _ 9 k2, frozen_of_row _ _ 0 _ 32 k3, ?_, ?_, ?_, ?_, ?_, ?_, ?_, ?_, ?_, ?_, ?_, by omega, by omega, by omega, by omega⟩
  · rw [cell_of_row _ _ 0 _ _ _ k2]; rfl
  · rw [cell_of_row _ _ 0 _ _ _ k3]; rfl
  · rw [cell_of_row _ _ 0 _ _ _ k0]; rfl
  · rw [cell_of_row _ _ 1 _ _ _ k0]; rfl
  · rw [cell_of_row _ _ 0 _ _ _ k1]; rfl
  · rw [cell_of_row _ _ 1 _ _ _ k1]; rfl
  · rw [cell_of_row _ _ 2 _ _ _ k1]; rfl
  · rw [cell_of_row _ _ 3 _ _ _ k1]; rfl
  · rw [cell_of_row _ _ 4 _ _ _ k1]; rfl
  · rw [cell_of_row _ _ 5 _ _ _ k1]; rfl
  · rw [cell_of_row _ _ 6 _ _ _ k1]; rfl
set_option maxRecDepth 100000 in
set_option maxHeartbeats 4000000 in
theorem Value_any (hM : MOk M τ L) (hS : ∀ f ∈ M.sig, i64 f.out) (ho : (M.objs : Int) = min (max M.o0 0) 1000) {t : Tm} {v : Value} (h : TmV M.w0 t v) (hn : numsT L t = true) (hwt : tw t ≤ 1000000) (hsh : shortT t = true) :
    ∀ w, Below M.w0.heap.size M.w0 w → Calls Tryz.prog 9 #[.slice M.S M.sig.length M.cs, .agg #[.slice M.T M.tbs.length M.ct, .int .i64 M.o0], v] w (ValueIs τ (valueS τ M.sig M.tbs M.objs t) w) := by
  intro w hb
  obtain ⟨p, rfl⟩ := h.parts
  obtain ⟨W1, hW1⟩ : ∃ W1, W1 = (((w.alloc (.cells #[.slice M.T M.tbs.length M.ct, .int .i64 M.o0] 25)).alloc (.cells p.arr 29)).alloc (.cells #[.string ⟨#[]⟩] 9)).alloc (.cells #[.int .i64 0] 32) := ⟨_, rfl⟩
  have hb1 : Below w.heap.size w W1 := by
    rw [hW1]
    exact ((((Below.refl _ _).alloc (Nat.le_refl _) _).alloc (by simp) _).alloc (by simp; omega) _).alloc (by simp; omega) _
  have hbM := hb.trans (hb1.mono hb.size)
  have Hck := Lib.hid (Check_any (cs := M.cs) ⟨hM.fns, hM.nsig, hS⟩ h hwt hsh W1 hbM)
  have HW1 : Hid (W1 = (((w.alloc (.cells #[.slice M.T M.tbs.length M.ct, .int .i64 M.o0] 25)).alloc (.cells #[.int .i64 p.op, .string p.name, .int .i64 p.sort, .string p.n, .slice p.A p.la p.ca, .slice p.V p.lv p.cv, .slice p.P p.lp p.cp] 29)).alloc (.cells #[.string ⟨#[]⟩] 9)).alloc (.cells #[.int .i64 0] 32)) := Lib.hid hW1
  have hrows : W1.heap[w.heap.size]? = some (.cells #[.slice M.T M.tbs.length M.ct, .int .i64 M.o0] 25 (0, 0)) ∧ W1.heap[w.heap.size + 1]? = some (.cells p.arr 29 (0, 0)) ∧ W1.heap[w.heap.size + 1 + 1]? = some (.cells #[.string ⟨#[]⟩] 9 (0, 0)) ∧ W1.heap[w.heap.size + 1 + 1 + 1]? = some (.cells #[.int .i64 0] 32 (0, 0)) ∧ W1.heap.size = w.heap.size + 4 := by
    rw [hW1]
    exact four_rows w _ _ _ _
  have Hrows := Lib.hid hrows
  have Hb1 := Lib.hid hb1
  clear hW1 hb1 hrows
  by_cases hc : (checkTop M.sig t).2 = 0
  · have Hobj : Hid ((M.objs : Int) = min (max M.o0 0) 1000) := Lib.hid ho
    have Hasks := Lib.hid (fun w (hb : Below M.w0.heap.size M.w0 w) => asks_any hM.objs h w hb)
    have HbM := Lib.hid hbM
    generalize hobj : min (max M.o0 0) 1000 = ob at *
    have hob : ob = (M.objs : Int) := ho.symm
    cases ha : asksT M.objs t with
    | true =>
      have Hr : Hid (valueS τ M.sig M.tbs M.objs t = .error 41) := Lib.hid (by unfold valueS; rw [if_neg (by simpa using hc), if_pos ha])
      have hc2 : ((checkTop M.sig t).2 == 0) = true := by simpa using hc
      rw [ha] at Hasks
      generalize checkTop M.sig t = r at *
      generalize valueS τ M.sig M.tbs M.objs t = R at *
      obtain ⟨op', nm', so', n', A', la', ca', V', lv', cv', P', lp', cp'⟩ := p
      unfold Parts.arr at *
      dsimp only at *
      clear h ho
      go_enter_defers Tryz.func9, Tryz.ntmps9
      go_wp2_with (go_at_call 20; rw [← HW1.out]; refine Calls.mono Hck.out ?_; rintro e w3 ⟨rfl, hb3⟩; obtain ⟨fo, fe, co, ce, cm0, cm1, ct0, ct1, ct2, ct3, ct4, ct5, ct6, q0, q1, q2, q3⟩ := later_facts Hrows.out hb3; have Hb3 := Lib.hid hb3; clear hb3)
      obtain ⟨w5, hw5⟩ : ∃ w5, w5 = (w3.alloc (.cells #[.slice M.S M.sig.length M.cs, .slice M.T M.tbs.length M.ct, .int .i64 M.o0, .int .i64 M.objs, .slice none 0 0, .slice none 0 0] 66)).drew := ⟨_, rfl⟩
      obtain ⟨hb5, hr5, hz5⟩ := alloc_drew Hb3.out hw5
      clear fo fe co ce cm0 cm1 ct0 ct1 ct2 ct3 ct4 ct5 ct6
      obtain ⟨fo, fe, co, ce, cm0, cm1, ct0, ct1, ct2, ct3, ct4, ct5, ct6, _, _, _, _⟩ := later_facts Hrows.out hb5
      obtain ⟨d0, d1, d2, d3, d4, d5⟩ := world_cells hr5
      have Hb5 := Lib.hid hb5
      have Hr5 := Lib.hid hr5
      clear hb5 hr5
      refine still_tail 5 (by kernel_rfl) (by kernel_rfl) hw5 ?_
      clear hw5
      simp only [List.take_succ_cons, List.take_zero, List.drop_succ_cons, List.drop_zero]
      repeat still_step
      refine wpStill_nil ?_
      go_wp2_with (go_at_call 21; refine Calls.mono (Hasks.out w5 (HbM.out.trans (Hb5.out.mono HbM.out.size))) ?_; rintro e w6 ⟨rfl, hb6⟩; obtain ⟨fo, fe, co, ce, cm0, cm1, ct0, ct1, ct2, ct3, ct4, ct5, ct6, _, _, _, _⟩ := later_facts Hrows.out (Hb5.out.trans (hb6.mono Hb5.out.size)); have Hb6 := Lib.hid hb6; clear hb6)
      have hrs := Hrows.out.2.2.2.2
      have hB6 := Hb5.out.trans (Hb6.out.mono Hb5.out.size)
      have h2 := two_stores ((hB6.block _ (by omega)).trans Hrows.out.2.2.1) ((hB6.block _ (by omega)).trans Hrows.out.2.2.2.1) (by omega) (.string ⟨#[]⟩) (.int .i64 41)
      refine ⟨_, res9 rfl rfl h2.1 h2.2, .inr ⟨_, _, Hr.out, .inl rfl, by decide, rfl⟩, ?_⟩
      exact ((Hb1.out.trans (hB6.mono Hb1.out.size)).setCell (p := ⟨w.heap.size + 1 + 1, 0, none⟩) (by show w.heap.size ≤ w.heap.size + 1 + 1; omega) _).setCell (p := ⟨w.heap.size + 1 + 1 + 1, 0, none⟩) (by show w.heap.size ≤ w.heap.size + 1 + 1 + 1; omega) _
    | false =>
      have Hr : Hid (valueS τ M.sig M.tbs M.objs t = evalT τ M.sig M.tbs M.objs t []) := Lib.hid (by unfold valueS; rw [if_neg (by simpa using hc), ha]; rfl)
      have hct : tdepth t ≤ 200 ∧ tsize t ≤ 50000 ∧ (checkS M.sig t []).2 = 0 := by
        unfold checkTop at hc
        by_cases h3 : 200 < tdepth t
        · rw [if_pos h3] at hc; cases hc
        rw [if_neg h3] at hc
        by_cases h4 : 50000 < tsize t
        · rw [if_pos h4] at hc; cases hc
        rw [if_neg h4] at hc
        exact ⟨by omega, by omega, hc⟩
      have hpre : ∀ w3, TPre (M.at_ w3) L t [] [] [] := fun w3 => ⟨hct.2.2, EnvOK.nil, ha, hn, by simpa using hwt, hct.2.1, rfl, by simp⟩
      have hval : ∀ w3, Below M.w0.heap.size M.w0 w3 → ValOK (M.at_ w3) τ w3.heap.size [] [] t (.agg p.arr) := fun w3 hb3 => value_any (M := M.at_ w3) (hM.later hb3) (h.mono hb3) [] [] [] (hpre w3)
      have hmf : ∀ (fn : Go.Fn) (first cap : Array Value) (w : World), (Instr.makeFunc fn first cap).run Tryz.prog w = .ok (.func fn first cap) w := fun _ _ _ _ => rfl
      have hc2 : ((checkTop M.sig t).2 == 0) = true := by simpa using hc
      rw [ha] at Hasks
      have HM := Lib.hid hM
      cases hv : evalT τ M.sig M.tbs M.objs t [] with
      | error er =>
        have Hval : Hid (∀ w3 w6, Below M.w0.heap.size M.w0 w3 → St (M.at_ w3) w3.heap.size [] [] (.slice none 0 0) (.slice none 0 0) w6 → Calls Tryz.prog 23 #[.pointer (some ⟨w3.heap.size, 0, none⟩), .agg p.arr] w6 (VErr (M.at_ w3))) := Lib.hid (fun w3 w6 hb3 hs => (hval w3 hb3).err er hv _ _ _ hs)
        rw [hv] at Hr
        clear hval hpre hv
        generalize checkTop M.sig t = r at *
        generalize valueS τ M.sig M.tbs M.objs t = R at *
        obtain ⟨op', nm', so', n', A', la', ca', V', lv', cv', P', lp', cp'⟩ := p
        unfold Parts.arr at *
        dsimp only at *
        clear h ho hM
        go_enter_defers Tryz.func9, Tryz.ntmps9
        go_wp2_with (go_at_call 20; rw [← HW1.out]; refine Calls.mono Hck.out ?_; rintro e w3 ⟨rfl, hb3⟩; obtain ⟨fo, fe, co, ce, cm0, cm1, ct0, ct1, ct2, ct3, ct4, ct5, ct6, q0, q1, q2, q3⟩ := later_facts Hrows.out hb3; have Hb3 := Lib.hid hb3; clear hb3)
        obtain ⟨w5, hw5⟩ : ∃ w5, w5 = (w3.alloc (.cells #[.slice M.S M.sig.length M.cs, .slice M.T M.tbs.length M.ct, .int .i64 M.o0, .int .i64 M.objs, .slice none 0 0, .slice none 0 0] 66)).drew := ⟨_, rfl⟩
        obtain ⟨hb5, hr5, hz5⟩ := alloc_drew Hb3.out hw5
        have HB35 := Lib.hid (alloc_drew (Below.refl w3.heap.size w3) hw5).1
        clear fo fe co ce cm0 cm1 ct0 ct1 ct2 ct3 ct4 ct5 ct6
        obtain ⟨fo, fe, co, ce, cm0, cm1, ct0, ct1, ct2, ct3, ct4, ct5, ct6, _, _, _, _⟩ := later_facts Hrows.out hb5
        obtain ⟨d0, d1, d2, d3, d4, d5⟩ := world_cells hr5
        have Hb5 := Lib.hid hb5
        have Hr5 := Lib.hid hr5
        clear hb5 hr5
        refine still_tail 5 (by kernel_rfl) (by kernel_rfl) hw5 ?_
        clear hw5
        simp only [List.take_succ_cons, List.take_zero, List.drop_succ_cons, List.drop_zero]
        repeat still_step
        refine wpStill_nil ?_
        go_wp2_with (first
          | (go_at_call 21; refine Calls.mono (Hasks.out w5 (HbM.out.trans (Hb5.out.mono HbM.out.size))) ?_; rintro e w6 ⟨rfl, hb6⟩; obtain ⟨fo, fe, co, ce, cm0, cm1, ct0, ct1, ct2, ct3, ct4, ct5, ct6, _, _, _, _⟩ := later_facts Hrows.out (Hb5.out.trans (hb6.mono Hb5.out.size)); have Hb6 := Lib.hid hb6; have Hst := Lib.hid (st_new (M := M) HB35.out Hr5.out hb6); clear hb6)
          | (go_at_call 23; refine Calls.mono (Hval.out w3 w6 (HbM.out.trans (Hb3.out.mono HbM.out.size)) Hst.out) ?_; rintro e w8 ⟨rfl, hb8⟩; have Hb8 : Hid (Below w3.heap.size w3 w8) := Lib.hid hb8; clear hb8))
        refine leaves_cons (f := 22) (args := #[.pointer (some ⟨w.heap.size + 1 + 1, 0, none⟩), .pointer (some ⟨w.heap.size + 1 + 1 + 1, 0, none⟩)]) (by simp) (by simp [go_sem]) ?_
        have hrs := Hrows.out.2.2.2.2
        have hs3 := Hb3.out.size
        have k2 := (Hb8.out.block _ (by omega)).trans ((Hb3.out.block _ (by omega)).trans Hrows.out.2.2.1)
        have k3 := (Hb8.out.block _ (by omega)).trans ((Hb3.out.block _ (by omega)).trans Hrows.out.2.2.2.1)
        refine (catch_fail k2 k3).mono ?_
        rintro e u' w9 ⟨rfl, rfl, hc9⟩
        refine ⟨_, res9 rfl rfl (by rw [cell_of_row _ _ 0 _ _ _ hc9.out]; rfl) (by rw [cell_of_row _ _ 0 _ _ _ hc9.err]; rfl), .inr ⟨_, _, Hr.out, .inr rfl, by decide, rfl⟩, ?_⟩
        exact (Hb1.out.trans (Hb3.out.mono Hb1.out.size)).trans ((Hb8.out.mono (by omega)).trans (hc9.fr.below (fun k hk => by rcases hk with rfl | rfl <;> omega) (by have := Hb8.out.size; omega)))
      | ok x =>
        have Hval : Hid (∀ w3 w6, Below M.w0.heap.size M.w0 w3 → St (M.at_ w3) w3.heap.size [] [] (.slice none 0 0) (.slice none 0 0) w6 → Calls Tryz.prog 23 #[.pointer (some ⟨w3.heap.size, 0, none⟩), .agg p.arr] w6 (VOk (M.at_ w3) w3.heap.size [] [] (.slice none 0 0) (.slice none 0 0) w6 x)) := Lib.hid (fun w3 w6 hb3 hs => (hval w3 hb3).ok x hv _ _ _ hs)
        have Hin : Hid (VlIn M (L * 50000) x) := Lib.hid ((hpre w).vlin (hM.later hb) hv)
        have Hm := Lib.hid (small_m hM)
        obtain ⟨s0, hs0⟩ : ∃ s, s = textV τ x := ⟨_, rfl⟩
        have HX := Lib.hid hs0
        rw [hv] at Hr
        clear hval hpre hv hs0
        generalize checkTop M.sig t = r at *
        generalize valueS τ M.sig M.tbs M.objs t = R at *
        obtain ⟨op', nm', so', n', A', la', ca', V', lv', cv', P', lp', cp'⟩ := p
        unfold Parts.arr at *
        dsimp only at *
        clear h ho hM
        go_enter_defers Tryz.func9, Tryz.ntmps9
        go_wp2_with (go_at_call 20; rw [← HW1.out]; refine Calls.mono Hck.out ?_; rintro e w3 ⟨rfl, hb3⟩; obtain ⟨fo, fe, co, ce, cm0, cm1, ct0, ct1, ct2, ct3, ct4, ct5, ct6, q0, q1, q2, q3⟩ := later_facts Hrows.out hb3; have Hb3 := Lib.hid hb3; clear hb3)
        obtain ⟨w5, hw5⟩ : ∃ w5, w5 = (w3.alloc (.cells #[.slice M.S M.sig.length M.cs, .slice M.T M.tbs.length M.ct, .int .i64 M.o0, .int .i64 M.objs, .slice none 0 0, .slice none 0 0] 66)).drew := ⟨_, rfl⟩
        obtain ⟨hb5, hr5, hz5⟩ := alloc_drew Hb3.out hw5
        have HB35 := Lib.hid (alloc_drew (Below.refl w3.heap.size w3) hw5).1
        clear fo fe co ce cm0 cm1 ct0 ct1 ct2 ct3 ct4 ct5 ct6
        obtain ⟨fo, fe, co, ce, cm0, cm1, ct0, ct1, ct2, ct3, ct4, ct5, ct6, _, _, _, _⟩ := later_facts Hrows.out hb5
        obtain ⟨d0, d1, d2, d3, d4, d5⟩ := world_cells hr5
        have Hb5 := Lib.hid hb5
        have Hr5 := Lib.hid hr5
        clear hb5 hr5
        refine still_tail 5 (by kernel_rfl) (by kernel_rfl) hw5 ?_
        clear hw5
        simp only [List.take_succ_cons, List.take_zero, List.drop_succ_cons, List.drop_zero]
        repeat still_step
        refine wpStill_nil ?_
        go_wp2_with (first
          | (go_at_call 21; refine Calls.mono (Hasks.out w5 (HbM.out.trans (Hb5.out.mono HbM.out.size))) ?_; rintro e w6 ⟨rfl, hb6⟩; obtain ⟨fo, fe, co, ce, cm0, cm1, ct0, ct1, ct2, ct3, ct4, ct5, ct6, _, _, _, _⟩ := later_facts Hrows.out (Hb5.out.trans (hb6.mono Hb5.out.size)); have Hb6 := Lib.hid hb6; have Hst := Lib.hid (st_new (M := M) HB35.out Hr5.out hb6); clear hb6)
          | (refine Calls.mono Htx.out ?_; rintro e w9 ⟨rfl, hb9⟩; obtain ⟨fo, fe, co, ce, cm0, cm1, ct0, ct1, ct2, ct3, ct4, ct5, ct6, _, _, _, _⟩ := later_facts Hrows.out (Hb3.out.trans ((Hb8.out.trans (hb9.mono Hb8.out.size)).mono Hb3.out.size)); have Hb9 := Lib.hid hb9; clear hb9)
          | (go_at_call 23; refine Calls.mono (Hval.out w3 w6 (HbM.out.trans (Hb3.out.mono HbM.out.size)) Hst.out) ?_; rintro e w8 ⟨v8, nv8, bv8, rfl, hv8, hs8, hf8⟩; obtain ⟨T8, F8, u8, rfl, hm8, hcf8, hc8⟩ := text_any (HM.out.later (HbM.out.trans (Hb3.out.mono HbM.out.size))).text hv8 hs8.below Hin.out.1 Hm.out (Hin.out.2); rw [← HX.out] at hc8; have Htx := Lib.hid hc8; have Hb8 : Hid (Below w3.heap.size w3 w8) := Lib.hid hs8.below; clear hs8 hf8 hv8 hc8))
        refine leaves_cons (f := 22) (args := #[.pointer (some ⟨w.heap.size + 1 + 1, 0, none⟩), .pointer (some ⟨w.heap.size + 1 + 1 + 1, 0, none⟩)]) (by simp) (by simp [go_sem]) ?_
        have hrs := Hrows.out.2.2.2.2
        have hs3 := Hb3.out.size
        have hs8 := Hb8.out.size
        have k2 := (Hb9.out.block _ (by omega)).trans ((Hb8.out.block _ (by omega)).trans ((Hb3.out.block _ (by omega)).trans Hrows.out.2.2.1))
        have k3 := (Hb9.out.block _ (by omega)).trans ((Hb8.out.block _ (by omega)).trans ((Hb3.out.block _ (by omega)).trans Hrows.out.2.2.2.1))
        have h2 := two_stores k2 k3 (by omega) (.string s0) (.int .i64 0)
        refine catch_none.mono ?_
        rintro e u' w10 ⟨rfl, rfl, rfl⟩
        refine ⟨_, res9 rfl rfl h2.1 h2.2, .inl ⟨x, Hr.out, by rw [HX.out]⟩, ?_⟩
        have hB9 : Below w.heap.size w w9 := (Hb1.out.trans (Hb3.out.mono Hb1.out.size)).trans ((Hb8.out.mono (by omega)).trans (Hb9.out.mono (by omega)))
        exact (hB9.setCell (p := ⟨w.heap.size + 1 + 1, 0, none⟩) (by show w.heap.size ≤ w.heap.size + 1 + 1; omega) _).setCell (p := ⟨w.heap.size + 1 + 1 + 1, 0, none⟩) (by show w.heap.size ≤ w.heap.size + 1 + 1 + 1; omega) _
  · have Hr : Hid (valueS τ M.sig M.tbs M.objs t = .error (checkTop M.sig t).2) := Lib.hid (by unfold valueS; rw [if_pos hc])
    have hc2 : ¬ ((checkTop M.sig t).2 == 0) = true := by simpa using hc
    generalize checkTop M.sig t = r at *
    generalize valueS τ M.sig M.tbs M.objs t = R at *
    obtain ⟨op', nm', so', n', A', la', ca', V', lv', cv', P', lp', cp'⟩ := p
    unfold Parts.arr at *
    dsimp only at *
    clear h
    go_enter_defers Tryz.func9, Tryz.ntmps9
    go_wp2_with (go_at_call 20; rw [← HW1.out]; refine Calls.mono Hck.out ?_; rintro e w3 ⟨rfl, hb3⟩; have fo := unfrozen_later Hrows.out.2.2.1 hb3 (by have := Hrows.out.2.2.2.2; omega) 0; have fe := unfrozen_later Hrows.out.2.2.2.1 hb3 (by have := Hrows.out.2.2.2.2; omega) 0; have co : w3.cell? ⟨w.heap.size + 1 + 1, 0, none⟩ = some (.string ⟨#[]⟩) := cell_later Hrows.out.2.2.1 hb3 (by have := Hrows.out.2.2.2.2; omega) 0 (by simp); have ce : w3.cell? ⟨w.heap.size + 1 + 1 + 1, 0, none⟩ = some (.int .i64 0) := cell_later Hrows.out.2.2.2.1 hb3 (by have := Hrows.out.2.2.2.2; omega) 0 (by simp); have q0 : w.heap.size + 1 + 1 + 1 < w3.heap.size := by { have h1 := Hrows.out.2.2.2.2; have h2 := hb3.size; omega }; have Hb3 := Lib.hid hb3; clear hb3)
    have hrs := Hrows.out.2.2.2.2
    have h2 := two_stores ((Hb3.out.block _ (by omega)).trans Hrows.out.2.2.1) ((Hb3.out.block _ (by omega)).trans Hrows.out.2.2.2.1) (by omega) (.string ⟨#[]⟩) (.int .i64 r.2)
    refine ⟨_, res9 rfl rfl h2.1 h2.2, .inr ⟨_, _, Hr.out, .inl rfl, hc, rfl⟩, ?_⟩
    exact ((Hb1.out.trans (Hb3.out.mono Hb1.out.size)).setCell (p := ⟨w.heap.size + 1 + 1, 0, none⟩) (by show w.heap.size ≤ w.heap.size + 1 + 1; omega) _).setCell (p := ⟨w.heap.size + 1 + 1 + 1, 0, none⟩) (by show w.heap.size ≤ w.heap.size + 1 + 1 + 1; omega) _
end
end Go.Proofs.YtbnonccmlildnaaGreat

/- Lists of terms, of bounds, in memory; terms that are made. -/
namespace Go.Proofs.YtbnonccmlildnaaGreat
open Go.RowKit Go.Lib

def TsV (w : World) (l : List Tm) (v : Value) : Prop := ∃ A c, v = .slice A l.length c ∧ l.length ≤ c ∧ ∃ f, RowCells w A 7 l.length f ∧ ∀ (j : Nat) (t : Tm), l[j]? = some t → TmV w t (f j)
def BsV (w : World) (vars : Bd) (v : Value) : Prop := ∃ A c, v = .slice A vars.length c ∧ vars.length ≤ c ∧ RowCells w A 2 vars.length fun j => match vars[j]? with | some (s, k) => .agg #[.string s, .int .i64 k] | none => .nilFunc
theorem TsV.mono {w w' : World} {l : List Tm} {v : Value} (h : TsV w l v) (hb : Below w.heap.size w w') : TsV w' l v := by
  obtain ⟨A, c, e, hc, f, hf, hL⟩ := h
  exact ⟨A, c, e, hc, f, hf.below hb, fun j t ht => (hL j t ht).mono hb⟩
theorem BsV.mono {w w' : World} {l : Bd} {v : Value} (h : BsV w l v) (hb : Below w.heap.size w w') : BsV w' l v := by
  obtain ⟨A, c, e, hc, hf⟩ := h
  exact ⟨A, c, e, hc, hf.below hb⟩
theorem TsV.nil (w : World) : TsV w [] (.slice none 0 0) := ⟨none, 0, rfl, Nat.le_refl _, fun _ => .nilFunc, .inl rfl, by simp⟩
theorem BsV.nil (w : World) : BsV w [] (.slice none 0 0) := ⟨none, 0, rfl, Nat.le_refl _, .inl rfl⟩
theorem TmV.make {w : World} {op : Int} {name : ByteArray} {sort : Int} {n : ByteArray} {l : List Tm} {vars : Bd} {pat : List Tm} {vl vv vp : Value} (hb : Bds op sort name n l.length vars pat.length) (hl : TsV w l vl) (hv : BsV w vars vv) (hp : TsV w pat vp) :
    TmV w (.mk op name sort n l vars pat) (.agg #[.int .i64 op, .string name, .int .i64 sort, .string n, vl, vv, vp]) := by
  obtain ⟨A, c, rfl, hc, f, hf, hL⟩ := hl
  obtain ⟨V, cv, rfl, hcv, hV⟩ := hv
  obtain ⟨P, cp, rfl, hcp, g, hg, hP⟩ := hp
  exact .mk f g hb hc hf hL hcv hV hcp hg hP
theorem TmV.head {w : World} {t : Tm} {v : Value} (h : TmV w t v) : v.cells[0]? = some (.int .i64 (opOf t)) := by
  cases h
  rfl
theorem TmV.seven {w : World} {t : Tm} {v : Value} (h : TmV w t v) : v.cells.size = 7 := by
  cases h
  rfl
/-- A slice of one, of two, in a block of its own. -/
theorem TsV.one {w : World} {t : Tm} {p : Parts} (h : TmV w t (.agg p.arr)) (T : TypeId) : TsV (w.alloc (.cells p.arr T)) [t] (.slice (some ⟨w.heap.size, 0, none⟩) 1 1) := by
  refine ⟨_, _, rfl, Nat.le_refl _, fun _ => .agg p.arr, .inr ⟨_, _, rfl, fun j hj => ⟨h.seven, fun i hi => ?_⟩⟩, fun j t' ht => ?_⟩
  · have hj0 : j = 0 := by simp at hj; exact hj
    subst hj0
    rw [cell_of_row _ w.heap.size _ p.arr T (0, 0) (heap_alloc_new w _)]
    simp [Value.cells]
  · cases j with
    | zero => simp at ht; subst ht; exact h.mono ((Below.refl _ _).alloc (Nat.le_refl _) _)
    | succ j => simp at ht
theorem TsV.two {w : World} {t u : Tm} {p q : Parts} (h : TmV w t (.agg p.arr)) (h' : TmV w u (.agg q.arr)) (T : TypeId) : TsV (w.alloc (.cells (p.arr ++ q.arr) T)) [t, u] (.slice (some ⟨w.heap.size, 0, none⟩) 2 2) := by
  have hb : Below w.heap.size w (w.alloc (.cells (p.arr ++ q.arr) T)) := (Below.refl _ _).alloc (Nat.le_refl _) _
  refine ⟨_, _, rfl, Nat.le_refl _, fun j => if j = 0 then .agg p.arr else .agg q.arr, .inr ⟨_, _, rfl, fun j hj => ?_⟩, fun j t' ht => ?_⟩
  · have h2 : j = 0 ∨ j = 1 := by simp at hj; omega
    have hps : p.arr.size = 7 := rfl
    have hqs : q.arr.size = 7 := rfl
    rcases h2 with rfl | rfl
    · refine ⟨h.seven, fun i hi => ?_⟩
      rw [cell_of_row _ w.heap.size _ _ T (0, 0) (heap_alloc_new w _)]
      simp only [Nat.zero_add, Nat.zero_mul, if_true, Value.cells]
      rw [Array.getElem?_append_left (by omega)]
    · refine ⟨h'.seven, fun i hi => ?_⟩
      rw [cell_of_row _ w.heap.size _ _ T (0, 0) (heap_alloc_new w _)]
      simp only [Nat.zero_add, Nat.one_mul, Value.cells]
      rw [Array.getElem?_append_right (by omega)]
      simp [hps]
  · match j, ht with
    | 0, ht => simp at ht; subst ht; exact h.mono hb
    | 1, ht => simp at ht; subst ht; exact h'.mono hb
    | j + 2, ht => simp at ht
theorem BsV.one (w : World) (s : ByteArray) (k : Int) (T : TypeId) : BsV (w.alloc (.cells #[.string s, .int .i64 k] T)) [(s, k)] (.slice (some ⟨w.heap.size, 0, none⟩) 1 1) := by
  refine ⟨_, _, rfl, Nat.le_refl _, .inr ⟨_, _, rfl, fun j hj => ?_⟩⟩
  have hj0 : j = 0 := by simp at hj; exact hj
  subst hj0
  refine ⟨rfl, fun i hi => ?_⟩
  rw [cell_of_row _ w.heap.size _ _ T (0, 0) (heap_alloc_new w _)]
  simp [Value.cells]

end Go.Proofs.YtbnonccmlildnaaGreat

/- How light terms are. -/
namespace Go.Proofs.YtbnonccmlildnaaGreat
open Go.RowKit Go.Lib

mutual
def wgt (most : Nat) : Tm → Nat → Nat
  | .mk _ name _ n l vars pat, deep => if 60 < deep then most + 1 else if 100 < name.size then most + 1 else if 500 < n.size then most + 1 else wgts most pat (deep + 1) (wgts most l (deep + 1) (1 + vars.length))
def wgts (most : Nat) : List Tm → Nat → Nat → Nat
  | [], _, acc => acc
  | t :: ts, deep, acc => if most < acc then acc else wgts most ts deep (acc + wgt most t deep)
end
theorem wgts_le {most deep B : Nat} : ∀ (l : List Tm) (acc : Nat), (∀ t ∈ l, wgt most t deep ≤ B) → acc ≤ most + B → wgts most l deep acc ≤ most + B
  | [], acc, _, h => by simpa [wgts] using h
  | t :: ts, acc, hl, h => by
    simp only [wgts]
    by_cases hc : most < acc
    · rw [if_pos hc]
      exact h
    · rw [if_neg hc]
      have := hl t (by simp)
      exact wgts_le ts _ (fun u hu => hl u (by simp [hu])) (by omega)
def wcap (most deep : Nat) : Nat := 140737488355330 + (62 - deep) * (most + 1)
theorem wcap_step {most deep : Nat} (h : deep ≤ 60) : most + wcap most (deep + 1) ≤ wcap most deep := by
  have e : 62 - deep = (62 - (deep + 1)) + 1 := by omega
  simp only [wcap]
  rw [e, Nat.add_mul]
  omega
theorem TmV.wgt_le {w : World} {t : Tm} {v : Value} (h : TmV w t v) {most : Nat} (hm : most ≤ 1000000) : ∀ deep, wgt most t deep ≤ wcap most deep := by
  induction h with
  | @mk op name sort n l vars pat A V P ca cv cp f g hbd hl hf hL hv hV hp hg hP ihL ihP =>
    intro deep
    have hvl := hbd.v
    have hcap : most + 1 ≤ wcap most deep := by simp only [wcap]; omega
    simp only [wgt]
    by_cases h1 : 60 < deep
    · rw [if_pos h1]; exact hcap
    · rw [if_neg h1]
      by_cases h2 : 100 < name.size
      · rw [if_pos h2]; exact hcap
      · rw [if_neg h2]
        by_cases h3 : 500 < n.size
        · rw [if_pos h3]; exact hcap
        · rw [if_neg h3]
          have hst := wcap_step (most := most) (show deep ≤ 60 by omega)
          refine Nat.le_trans (wgts_le pat _ (fun t ht => ?_) (wgts_le l _ (fun t ht => ?_) ?_)) hst
          · obtain ⟨j, hj, rfl⟩ := List.getElem_of_mem ht
            exact ihP j _ (List.getElem?_eq_getElem hj) _
          · obtain ⟨j, hj, rfl⟩ := List.getElem_of_mem ht
            exact ihL j _ (List.getElem?_eq_getElem hj) _
          · simp only [wcap]; omega
theorem wgts_drop {most deep : Nat} {l : List Tm} {k acc : Nat} (hk : k < l.length) (ha : acc ≤ most) : wgts most (l.drop k) deep acc = wgts most (l.drop (k + 1)) deep (acc + wgt most l[k] deep) := by
  rw [List.drop_eq_getElem_cons hk, wgts, if_neg (by omega)]
theorem wgts_end {most deep : Nat} {l : List Tm} {k acc : Nat} (h : ¬ (k < l.length ∧ acc ≤ most)) : wgts most (l.drop k) deep acc = acc := by
  by_cases hk : k < l.length
  · rw [List.drop_eq_getElem_cons hk, wgts, if_pos (by omega)]
  · rw [List.drop_eq_nil_of_le (by omega), wgts]
def WgtOK (w0 : World) (most : Nat) (t : Tm) (v : Value) : Prop := ∀ (deep : Nat), deep ≤ 61 → ∀ W, Below w0.heap.size w0 W → Calls Tryz.prog 27 #[v, .int .i64 deep, .int .i64 most] W fun e w' => e = .returned (.int .i64 (wgt most t deep)) ∧ Below W.heap.size W w'
theorem wcap_small {most deep : Nat} (hm : most ≤ 1000000) : wcap most deep ≤ 140737600000000 := by
  have h : (62 - deep) * (most + 1) ≤ 62 * 1000001 := Nat.mul_le_mul (by omega) (by omega)
  simp only [wcap]
  omega
set_option maxRecDepth 100000 in
set_option maxHeartbeats 4000000 in
theorem weight_any {w0 : World} {t : Tm} {v : Value} (h : TmV w0 t v) {most : Nat} (hm : most ≤ 1000000) : WgtOK w0 most t v := by
  induction h with
  | @mk op name sort n l vars pat A V P ca cv cp f g hbd hl hf hL hv hV hp hg hP ihL ihP =>
    intro deep hdeep W hW
    have hrow0 : Hid ((W.alloc (.cells (Parts.arr ⟨op, name, sort, n, A, l.length, ca, V, vars.length, cv, P, pat.length, cp⟩) 29)).heap[W.heap.size]? = some (.cells (Parts.arr ⟨op, name, sort, n, A, l.length, ca, V, vars.length, cv, P, pat.length, cp⟩) 29 (0, 0))) := Lib.hid (heap_alloc_new W _)
    have hb0 : Hid (Below W.heap.size W (W.alloc (.cells (Parts.arr ⟨op, name, sort, n, A, l.length, ca, V, vars.length, cv, P, pat.length, cp⟩) 29))) := Lib.hid ((Below.refl _ _).alloc (Nat.le_refl _) _)
    have HL := Lib.hid hL
    have HP := Lib.hid hP
    have Hf := Lib.hid hf
    have Hg := Lib.hid hg
    have Hih := Lib.hid ihL
    have HihP := Lib.hid ihP
    have HW := Lib.hid hW
    have hb1 := hbd.l
    have hb2 := hbd.v
    have hb3 := hbd.p
    have Hsm := Lib.hid (fun d => wcap_small (deep := d) hm)
    have Hm := Lib.hid hm
    clear hf ihL ihP hL hP hg hV hW hbd hl hv hp
    by_cases h1 : (60 : Int) < (deep : Int)
    · have Hr : Hid (wgt most (.mk op name sort n l vars pat) deep = most + 1) := Lib.hid (by simp only [wgt]; rw [if_pos (by omega)])
      go_enter Tryz.func27, Tryz.ntmps27
      go_wp2_with fail
      go_ret
      exact ⟨by rw [Hr.out]; rfl, hb0.out⟩
    · by_cases h2 : (100 : Int) < (name.size : Int)
      · have Hr : Hid (wgt most (.mk op name sort n l vars pat) deep = most + 1) := Lib.hid (by simp only [wgt]; rw [if_neg (by omega), if_pos (by omega)])
        go_enter Tryz.func27, Tryz.ntmps27
        go_wp2_with fail
        go_ret
        exact ⟨by rw [Hr.out]; rfl, hb0.out⟩
      · by_cases h3 : (500 : Int) < (n.size : Int)
        · have Hr : Hid (wgt most (.mk op name sort n l vars pat) deep = most + 1) := Lib.hid (by simp only [wgt]; rw [if_neg (by omega), if_neg (by omega), if_pos (by omega)])
          go_enter Tryz.func27, Tryz.ntmps27
          go_wp2_with fail
          go_ret
          exact ⟨by rw [Hr.out]; rfl, hb0.out⟩
        · have Hr : Hid (wgt most (.mk op name sort n l vars pat) deep = wgts most pat (deep + 1) (wgts most l (deep + 1) (1 + vars.length))) := Lib.hid (by simp only [wgt]; rw [if_neg (by omega), if_neg (by omega), if_neg (by omega)])
          have hd60 : deep ≤ 60 := by omega
          go_enter Tryz.func27, Tryz.ntmps27
          go_wp2_with fail
          go_loopw [7, 8] (fun nv i wr => ∃ k acc : Nat, k ≤ l.length ∧ nv = .int .i64 acc ∧ i = .int .i64 k ∧ acc ≤ 140737700000000 ∧ Hid (wgts most (l.drop k) (deep + 1) acc = wgts most l (deep + 1) (1 + vars.length)) ∧ Hid (wr.heap[W.heap.size]? = some (.cells (Parts.arr ⟨op, name, sort, n, A, l.length, ca, V, vars.length, cv, P, pat.length, cp⟩) 29 (0, 0))) ∧ Hid (Below W.heap.size W wr)) (fun _ i _ => l.length - (Go.RowKit.intOf i).toNat)
          case atStart => exact ⟨0, 1 + vars.length, by omega, by go_num, rfl, by omega, Lib.hid rfl, hrow0, hb0⟩
          case round =>
            obtain ⟨k, acc, hk, rfl, rfl, hacc, HE, HR, HB⟩ := hrel
            obtain ⟨c0, c1, c2, c3, c4, c5, c6⟩ := box_cells HR.out
            dsimp only at c0 c1 c2 c3 c4 c5 c6
            by_cases hlt : k < l.length ∧ acc ≤ most
            · obtain ⟨hk1, ha1⟩ := hlt
              have hk2 : (k : Int) < (l.length : Int) := by omega
              have ha2 : (acc : Int) ≤ (most : Int) := by omega
              have Ht : Hid (l[k]? = some l[k]) := Lib.hid (List.getElem?_eq_getElem hk1)
              have HE2 : Hid (wgts most (l.drop (k + 1)) (deep + 1) (acc + wgt most l[k] (deep + 1)) = wgts most (l.drop k) (deep + 1) acc) := Lib.hid (wgts_drop hk1 ha1).symm
              have Hv := Lib.hid (HL.out k _ Ht.out)
              obtain ⟨p, hp⟩ := Hv.out.parts
              have Hp := Lib.hid hp
              have hq := Nat.le_trans (Hv.out.wgt_le Hm.out (deep + 1)) (Hsm.out _)
              have hwr0 : Below w0.heap.size w0 wr := HW.out.trans (HB.out.mono HW.out.size)
              obtain ⟨b, o, rfl, e0, e1, e2, e3, e4, e5, e6⟩ := (Hf.out.below hwr0).get hk1 hp
              have Hc : Hid (Calls Tryz.prog 27 #[.agg #[.int .i64 p.op, .string p.name, .int .i64 p.sort, .string p.n, .slice p.A p.la p.ca, .slice p.V p.lv p.cv, .slice p.P p.lp p.cp], .int .i64 ((deep : Int) + 1), .int .i64 most] wr fun e w'' => e = .returned (.int .i64 (wgt most l[k] (deep + 1))) ∧ Below wr.heap.size wr w'') := Lib.hid (by
                have := Hih.out k _ Ht.out (deep + 1) (by omega) wr hwr0
                rw [Hp.out, show ((deep + 1 : Nat) : Int) = (deep : Int) + 1 from by omega] at this
                exact this)
              clear hp hwr0
              generalize wgt most l[k] (deep + 1) = q at *
              clear Hv Ht
              go_wp2_with (go_at_call 27; (with_reducible refine Calls.mono Hc.out ?_); rintro e w3 ⟨rfl, hb3⟩; have Hb3 := Lib.hid hb3; clear hb3)
              go_roundw
              case rel => exact ⟨k + 1, acc + q, by omega, by go_num, by go_num, by omega, Lib.hid (HE2.out.trans HE.out), Lib.hid (below_keeps Hb3.out HR.out), Lib.hid (HB.out.trans (Hb3.out.mono HB.out.size))⟩
              case measure => simp [Go.RowKit.intOf]; omega
            · have HX := Lib.hid ((wgts_end (deep := deep + 1) hlt).symm.trans HE.out)
              by_cases hk1 : k < l.length
              · have ha1 : ¬ acc ≤ most := fun h => hlt ⟨hk1, h⟩
                have hk2 : (k : Int) < (l.length : Int) := by omega
                have ha2 : ¬ (acc : Int) ≤ (most : Int) := by omega
                clear hlt hk1
                have HX1 := HX
                have hac1 := hacc
                rename World => wu
                go_wp2_with fail
                go_loopw [7, 9] (fun nv i wr => ∃ k acc2 : Nat, k ≤ pat.length ∧ nv = .int .i64 acc2 ∧ i = .int .i64 k ∧ acc2 ≤ 140737700000000 ∧ Hid (wgts most (pat.drop k) (deep + 1) acc2 = wgts most pat (deep + 1) acc) ∧ Hid (wr.heap[W.heap.size]? = some (.cells (Parts.arr ⟨op, name, sort, n, A, l.length, ca, V, vars.length, cv, P, pat.length, cp⟩) 29 (0, 0))) ∧ Hid (Below W.heap.size W wr)) (fun _ i _ => pat.length - (Go.RowKit.intOf i).toNat)
                case atStart => exact ⟨0, acc, by omega, rfl, rfl, by omega, Lib.hid rfl, HR, HB⟩
                case round =>
                  rename_i HR0 HB0 _
                  obtain ⟨k, acc, hk, rfl, rfl, hacc, HE, HR, HB⟩ := hrel
                  obtain ⟨c0, c1, c2, c3, c4, c5, c6⟩ := box_cells HR.out
                  dsimp only at c0 c1 c2 c3 c4 c5 c6
                  by_cases hlt : k < pat.length ∧ acc ≤ most
                  · obtain ⟨hk1, ha1⟩ := hlt
                    have hk2 : (k : Int) < (pat.length : Int) := by omega
                    have ha2 : (acc : Int) ≤ (most : Int) := by omega
                    have Ht : Hid (pat[k]? = some pat[k]) := Lib.hid (List.getElem?_eq_getElem hk1)
                    have HE2 : Hid (wgts most (pat.drop (k + 1)) (deep + 1) (acc + wgt most pat[k] (deep + 1)) = wgts most (pat.drop k) (deep + 1) acc) := Lib.hid (wgts_drop hk1 ha1).symm
                    have Hv := Lib.hid (HP.out k _ Ht.out)
                    obtain ⟨p, hp⟩ := Hv.out.parts
                    have Hp := Lib.hid hp
                    have hq := Nat.le_trans (Hv.out.wgt_le Hm.out (deep + 1)) (Hsm.out _)
                    have hwr0 : Below w0.heap.size w0 wr := HW.out.trans (HB.out.mono HW.out.size)
                    obtain ⟨b, o, rfl, e0, e1, e2, e3, e4, e5, e6⟩ := (Hg.out.below hwr0).get hk1 hp
                    have Hc : Hid (Calls Tryz.prog 27 #[.agg #[.int .i64 p.op, .string p.name, .int .i64 p.sort, .string p.n, .slice p.A p.la p.ca, .slice p.V p.lv p.cv, .slice p.P p.lp p.cp], .int .i64 ((deep : Int) + 1), .int .i64 most] wr fun e w'' => e = .returned (.int .i64 (wgt most pat[k] (deep + 1))) ∧ Below wr.heap.size wr w'') := Lib.hid (by
                      have := HihP.out k _ Ht.out (deep + 1) (by omega) wr hwr0
                      rw [Hp.out, show ((deep + 1 : Nat) : Int) = (deep : Int) + 1 from by omega] at this
                      exact this)
                    clear hp hwr0
                    generalize wgt most pat[k] (deep + 1) = q at *
                    clear Hv Ht
                    go_wp2_with (go_at_call 27; (with_reducible refine Calls.mono Hc.out ?_); rintro e w3 ⟨rfl, hb3⟩; have Hb3 := Lib.hid hb3; clear hb3)
                    go_roundw
                    case rel => exact ⟨k + 1, acc + q, by omega, by go_num, by go_num, by omega, Lib.hid (HE2.out.trans HE.out), Lib.hid (below_keeps Hb3.out HR.out), Lib.hid (HB.out.trans (Hb3.out.mono HB.out.size))⟩
                    case measure => simp [Go.RowKit.intOf]; omega
                  · have HX := Lib.hid ((wgts_end (deep := deep + 1) hlt).symm.trans HE.out)
                    by_cases hk1 : k < pat.length
                    · have ha1 : ¬ acc ≤ most := fun h => hlt ⟨hk1, h⟩
                      have hk2 : (k : Int) < (pat.length : Int) := by omega
                      have ha2 : ¬ (acc : Int) ≤ (most : Int) := by omega
                      go_wp2_with fail
                      go_ret
                      exact ⟨by rw [Hr.out, ← HX1.out, ← HX.out]; rfl, HB.out⟩
                    · have hk2 : ¬ (k : Int) < (pat.length : Int) := by omega
                      go_wp2_with fail
                      go_ret
                      exact ⟨by rw [Hr.out, ← HX1.out, ← HX.out]; rfl, HB.out⟩
              · have hk2 : ¬ (k : Int) < (l.length : Int) := by omega
                clear hlt hk1
                have HX1 := HX
                have hac1 := hacc
                rename World => wu
                go_wp2_with fail
                go_loopw [7, 9] (fun nv i wr => ∃ k acc2 : Nat, k ≤ pat.length ∧ nv = .int .i64 acc2 ∧ i = .int .i64 k ∧ acc2 ≤ 140737700000000 ∧ Hid (wgts most (pat.drop k) (deep + 1) acc2 = wgts most pat (deep + 1) acc) ∧ Hid (wr.heap[W.heap.size]? = some (.cells (Parts.arr ⟨op, name, sort, n, A, l.length, ca, V, vars.length, cv, P, pat.length, cp⟩) 29 (0, 0))) ∧ Hid (Below W.heap.size W wr)) (fun _ i _ => pat.length - (Go.RowKit.intOf i).toNat)
                case atStart => exact ⟨0, acc, by omega, rfl, rfl, by omega, Lib.hid rfl, HR, HB⟩
                case round =>
                  rename_i HR0 HB0 _
                  obtain ⟨k, acc, hk, rfl, rfl, hacc, HE, HR, HB⟩ := hrel
                  obtain ⟨c0, c1, c2, c3, c4, c5, c6⟩ := box_cells HR.out
                  dsimp only at c0 c1 c2 c3 c4 c5 c6
                  by_cases hlt : k < pat.length ∧ acc ≤ most
                  · obtain ⟨hk1, ha1⟩ := hlt
                    have hk2 : (k : Int) < (pat.length : Int) := by omega
                    have ha2 : (acc : Int) ≤ (most : Int) := by omega
                    have Ht : Hid (pat[k]? = some pat[k]) := Lib.hid (List.getElem?_eq_getElem hk1)
                    have HE2 : Hid (wgts most (pat.drop (k + 1)) (deep + 1) (acc + wgt most pat[k] (deep + 1)) = wgts most (pat.drop k) (deep + 1) acc) := Lib.hid (wgts_drop hk1 ha1).symm
                    have Hv := Lib.hid (HP.out k _ Ht.out)
                    obtain ⟨p, hp⟩ := Hv.out.parts
                    have Hp := Lib.hid hp
                    have hq := Nat.le_trans (Hv.out.wgt_le Hm.out (deep + 1)) (Hsm.out _)
                    have hwr0 : Below w0.heap.size w0 wr := HW.out.trans (HB.out.mono HW.out.size)
                    obtain ⟨b, o, rfl, e0, e1, e2, e3, e4, e5, e6⟩ := (Hg.out.below hwr0).get hk1 hp
                    have Hc : Hid (Calls Tryz.prog 27 #[.agg #[.int .i64 p.op, .string p.name, .int .i64 p.sort, .string p.n, .slice p.A p.la p.ca, .slice p.V p.lv p.cv, .slice p.P p.lp p.cp], .int .i64 ((deep : Int) + 1), .int .i64 most] wr fun e w'' => e = .returned (.int .i64 (wgt most pat[k] (deep + 1))) ∧ Below wr.heap.size wr w'') := Lib.hid (by
                      have := HihP.out k _ Ht.out (deep + 1) (by omega) wr hwr0
                      rw [Hp.out, show ((deep + 1 : Nat) : Int) = (deep : Int) + 1 from by omega] at this
                      exact this)
                    clear hp hwr0
                    generalize wgt most pat[k] (deep + 1) = q at *
                    clear Hv Ht
                    go_wp2_with (go_at_call 27; (with_reducible refine Calls.mono Hc.out ?_); rintro e w3 ⟨rfl, hb3⟩; have Hb3 := Lib.hid hb3; clear hb3)
                    go_roundw
                    case rel => exact ⟨k + 1, acc + q, by omega, by go_num, by go_num, by omega, Lib.hid (HE2.out.trans HE.out), Lib.hid (below_keeps Hb3.out HR.out), Lib.hid (HB.out.trans (Hb3.out.mono HB.out.size))⟩
                    case measure => simp [Go.RowKit.intOf]; omega
                  · have HX := Lib.hid ((wgts_end (deep := deep + 1) hlt).symm.trans HE.out)
                    by_cases hk1 : k < pat.length
                    · have ha1 : ¬ acc ≤ most := fun h => hlt ⟨hk1, h⟩
                      have hk2 : (k : Int) < (pat.length : Int) := by omega
                      have ha2 : ¬ (acc : Int) ≤ (most : Int) := by omega
                      go_wp2_with fail
                      go_ret
                      exact ⟨by rw [Hr.out, ← HX1.out, ← HX.out]; rfl, HB.out⟩
                    · have hk2 : ¬ (k : Int) < (pat.length : Int) := by omega
                      go_wp2_with fail
                      go_ret
                      exact ⟨by rw [Hr.out, ← HX1.out, ← HX.out]; rfl, HB.out⟩
end Go.Proofs.YtbnonccmlildnaaGreat

/- Light: the walk; what a light term is. -/
namespace Go.Proofs.YtbnonccmlildnaaGreat
open Go.RowKit Go.Lib

def lightB (most : Nat) (l : List Tm) : Bool := decide (wgts most l 0 0 ≤ most)
mutual
def nmT : Tm → Bool
  | .mk _ name _ _ l _ pat => decide (name.size ≤ 100) && nmTs l && nmTs pat
def nmTs : List Tm → Bool
  | [] => true
  | t :: ts => nmT t && nmTs ts
end
theorem nmTs_mem {l : List Tm} {k : Nat} {t : Tm} (h : l[k]? = some t) (hs : nmTs l = true) : nmT t = true := by
  induction l generalizing k with
  | nil => simp at h
  | cons u l ih =>
    simp only [nmTs, Bool.and_eq_true] at hs
    cases k with
    | zero => simp at h; subst h; exact hs.1
    | succ k => exact ih (k := k) (by simpa using h) hs.2
mutual
theorem wgt_tw {most : Nat} : ∀ (t : Tm) (deep : Nat), wgt most t deep ≤ most → tw t ≤ wgt most t deep ∧ shortT t = true ∧ nmT t = true
  | .mk op name sort n l vars pat, deep, h => by
    simp only [wgt] at h ⊢
    by_cases h1 : 60 < deep
    · rw [if_pos h1] at h; omega
    · rw [if_neg h1] at h ⊢
      by_cases h2 : 100 < name.size
      · rw [if_pos h2] at h; omega
      · rw [if_neg h2] at h ⊢
        by_cases h3 : 500 < n.size
        · rw [if_pos h3] at h; omega
        · rw [if_neg h3] at h ⊢
          obtain ⟨a1, a2, a3⟩ := wgts_tw pat (deep + 1) _ h
          obtain ⟨b1, b2, b3⟩ := wgts_tw l (deep + 1) (1 + vars.length) (Nat.le_trans (Nat.le_add_right _ _) (Nat.le_trans a1 h))
          refine ⟨by simp only [tw]; omega, ?_, ?_⟩
          · simp only [shortT, a2, b2, Bool.and_true, decide_eq_true_eq]
            omega
          · simp only [nmT, a3, b3, Bool.and_true, Bool.and_eq_true, decide_eq_true_eq]
            omega
theorem wgts_tw {most : Nat} : ∀ (l : List Tm) (deep acc : Nat), wgts most l deep acc ≤ most → acc + tws l ≤ wgts most l deep acc ∧ shortTs l = true ∧ nmTs l = true
  | [], deep, acc, h => by simp [wgts, tws, shortTs, nmTs]
  | t :: ts, deep, acc, h => by
    simp only [wgts] at h ⊢
    by_cases hc : most < acc
    · rw [if_pos hc] at h; omega
    · rw [if_neg hc] at h ⊢
      obtain ⟨a1, a2, a3⟩ := wgts_tw ts deep _ h
      obtain ⟨b1, b2, b3⟩ := wgt_tw t deep (Nat.le_trans (Nat.le_trans (Nat.le_add_left _ acc) (Nat.le_add_right _ (tws ts))) (Nat.le_trans a1 h))
      refine ⟨by simp only [tws]; omega, by simp [shortTs, a2, b2], by simp [nmTs, a3, b3]⟩
end
theorem light_mem {most : Nat} {l : List Tm} (h : lightB most l = true) {t : Tm} (ht : t ∈ l) : tw t ≤ most ∧ shortT t = true ∧ nmT t = true := by
  unfold lightB at h
  have h0 := of_decide_eq_true h
  obtain ⟨h1, h2, h3⟩ := wgts_tw l 0 0 h0
  obtain ⟨j, hj, rfl⟩ := List.getElem_of_mem ht
  have e := List.getElem?_eq_getElem hj
  exact ⟨by have := tws_mem e; omega, shortTs_mem e h2, nmTs_mem e h3⟩
set_option maxRecDepth 100000 in
set_option maxHeartbeats 4000000 in
theorem light_any {w0 : World} {l : List Tm} {A : Option Addr} {c : Nat} {f : Nat → Value} (hf : RowCells w0 A 7 l.length f) (hL : ∀ (j : Nat) (t : Tm), l[j]? = some t → TmV w0 t (f j)) (hl : l.length ≤ 140737488355328) {most : Nat} (hm : most ≤ 1000000) (W : World) (hW : Below w0.heap.size w0 W) :
    Calls Tryz.prog 18 #[.slice A l.length c, .int .i64 most] W fun e w' => e = .returned (.bool (lightB most l)) ∧ Below W.heap.size W w' := by
  have HL := Lib.hid hL
  have Hf := Lib.hid hf
  have HW := Lib.hid hW
  have Hm := Lib.hid hm
  have Hsm := Lib.hid (fun d => wcap_small (deep := d) hm)
  clear hf hL hW
  go_enter Tryz.func18, Tryz.ntmps18
  go_wp2_with fail
  go_loopw [5, 6] (fun nv i wr => ∃ k acc : Nat, k ≤ l.length ∧ nv = .int .i64 acc ∧ i = .int .i64 k ∧ acc ≤ 140737700000000 ∧ Hid (wgts most (l.drop k) 0 acc = wgts most l 0 0) ∧ Hid (Below W.heap.size W wr)) (fun _ i _ => l.length - (Go.RowKit.intOf i).toNat)
  case atStart => exact ⟨0, 0, by omega, rfl, rfl, by omega, Lib.hid rfl, Lib.hid (Below.refl _ _)⟩
  case round =>
    obtain ⟨k, acc, hk, rfl, rfl, hacc, HE, HB⟩ := hrel
    by_cases hlt : k < l.length ∧ acc ≤ most
    · obtain ⟨hk1, ha1⟩ := hlt
      have hk2 : (k : Int) < (l.length : Int) := by omega
      have ha2 : (acc : Int) ≤ (most : Int) := by omega
      have Ht : Hid (l[k]? = some l[k]) := Lib.hid (List.getElem?_eq_getElem hk1)
      have HE2 : Hid (wgts most (l.drop (k + 1)) 0 (acc + wgt most l[k] 0) = wgts most (l.drop k) 0 acc) := Lib.hid (wgts_drop hk1 ha1).symm
      have Hv := Lib.hid (HL.out k _ Ht.out)
      obtain ⟨p, hp⟩ := Hv.out.parts
      have Hp := Lib.hid hp
      have hq := Nat.le_trans (Hv.out.wgt_le Hm.out 0) (Hsm.out _)
      have hwr0 : Below w0.heap.size w0 wr := HW.out.trans (HB.out.mono HW.out.size)
      obtain ⟨b, o, rfl, e0, e1, e2, e3, e4, e5, e6⟩ := (Hf.out.below hwr0).get hk1 hp
      have Hc : Hid (Calls Tryz.prog 27 #[.agg #[.int .i64 p.op, .string p.name, .int .i64 p.sort, .string p.n, .slice p.A p.la p.ca, .slice p.V p.lv p.cv, .slice p.P p.lp p.cp], .int .i64 0, .int .i64 most] wr fun e w'' => e = .returned (.int .i64 (wgt most l[k] 0)) ∧ Below wr.heap.size wr w'') := Lib.hid (by
        have := weight_any Hv.out Hm.out 0 (by omega) wr hwr0
        rw [Hp.out] at this
        exact this)
      clear hp hwr0
      generalize wgt most l[k] 0 = q at *
      clear Hv Ht
      go_wp2_with (go_at_call 27; (with_reducible refine Calls.mono Hc.out ?_); rintro e w3 ⟨rfl, hb3⟩; have Hb3 := Lib.hid hb3; clear hb3)
      go_roundw
      case rel => exact ⟨k + 1, acc + q, by omega, by go_num, by go_num, by omega, Lib.hid (HE2.out.trans HE.out), Lib.hid (HB.out.trans (Hb3.out.mono HB.out.size))⟩
      case measure => simp [Go.RowKit.intOf]; omega
    · have HX := Lib.hid ((wgts_end (deep := 0) hlt).symm.trans HE.out)
      have Hr : Hid (lightB most l = decide (acc ≤ most)) := Lib.hid (by unfold lightB; rw [← HX.out])
      by_cases hk1 : k < l.length
      · have ha1 : ¬ acc ≤ most := fun h => hlt ⟨hk1, h⟩
        have hk2 : (k : Int) < (l.length : Int) := by omega
        have ha2 : ¬ (acc : Int) ≤ (most : Int) := by omega
        have Hr2 : Hid (lightB most l = false) := Lib.hid (by rw [Hr.out]; simp; omega)
        clear hlt ha1
        go_wp2_with fail
        go_ret
        exact ⟨by rw [Hr2.out]; rfl, HB.out⟩
      · have hk2 : ¬ (k : Int) < (l.length : Int) := by omega
        clear hlt
        go_wp2_with fail
        go_ret
        exact ⟨by rw [Hr.out]; rfl, HB.out⟩
end Go.Proofs.YtbnonccmlildnaaGreat

/- cost: some number is told. -/
namespace Go.Proofs.YtbnonccmlildnaaGreat
open Go.RowKit

def CostIs (w : World) (e : Ending) (w' : World) : Prop := ∃ z : Int, e = .returned (.int .i64 z) ∧ Below w.heap.size w w'
set_option maxRecDepth 100000 in
set_option maxHeartbeats 4000000 in
theorem cost_list {w0 : World} {l : List Tm} {A : Option Addr} {c : Nat} {f : Nat → Value} {objs : Int} (hf : RowCells w0 A 7 l.length f) (hp : ∀ j, j < l.length → ∃ p : Parts, f j = .agg p.arr) (hl : l.length ≤ 140737488355328)
    (hb : ∀ j (p : Parts), j < l.length → f j = .agg p.arr → p.lv ≤ 140737488355328 ∧ ∀ W, Below w0.heap.size w0 W → Calls Tryz.prog 19 #[.slice p.A p.la p.ca, .int .i64 objs] W (CostIs W)) (W : World) (hW : Below w0.heap.size w0 W) :
    Calls Tryz.prog 19 #[.slice A l.length c, .int .i64 objs] W (CostIs W) := by
  have Hf := Lib.hid hf
  have Hp := Lib.hid hp
  have Hb := Lib.hid hb
  have HW := Lib.hid hW
  generalize l.length = len at *
  clear hf hp hb hW
  go_enter Tryz.func19, Tryz.ntmps19
  go_wp2_with fail
  go_loopw [5, 6] (fun n i wr => ∃ (k : Nat) (z : Int), k ≤ len ∧ i = .int .i64 k ∧ n = .int .i64 z ∧ Hid (Below W.heap.size W wr)) (fun _ i _ => len - (intOf i).toNat)
  case atStart => exact ⟨0, 1, Nat.zero_le _, rfl, rfl, Lib.hid (Below.refl _ _)⟩
  case round =>
    obtain ⟨k, z, hk, rfl, rfl, Hbr⟩ := hrel
    by_cases hz : z ≤ 3000
    · by_cases hlt : k < len
      · obtain ⟨p, hpp⟩ := Hp.out k hlt
        obtain ⟨b, o, rfl, h0, h1, h2, h3, h4, h5, h6⟩ := (Hf.out.below (HW.out.trans (Hbr.out.mono HW.out.size))).get hlt hpp
        have Hq := Lib.hid (Hb.out k p hlt hpp)
        have Hcell : Hid (∀ w3, Below wr.heap.size wr w3 → w3.cell? ⟨b, o + k * 7, none⟩ = some (.int .i64 p.op) ∧ w3.cell? ⟨b, o + k * 7 + 5, none⟩ = some (.slice p.V p.lv p.cv)) := Lib.hid (fun w3 hw3 => by
          obtain ⟨b', o', e, g0, g1, g2, g3, g4, g5, g6⟩ := (Hf.out.below ((HW.out.trans (Hbr.out.mono HW.out.size)).trans (hw3.mono (by have := HW.out.size; have := Hbr.out.size; omega)))).get hlt hpp
          cases e
          exact ⟨g0, g5⟩)
        have hplv := Hq.out.1
        have Hcall : Hid (Calls Tryz.prog 19 #[.slice p.A p.la p.ca, .int .i64 objs] wr (CostIs wr)) := Lib.hid (Hq.out.2 wr (HW.out.trans (Hbr.out.mono HW.out.size)))
        clear hpp Hq
        by_cases hop : p.op = 19
        · rw [hop] at h0 Hcell
          go_wp2_with (go_at_call 19; refine Calls.mono Hcall.out ?_; rintro e w3 ⟨z3, rfl, hb3⟩; obtain ⟨d0, d5⟩ := Hcell.out w3 hb3; have Hb3 := Lib.hid hb3; clear hb3)
          go_loop [7, 8] (fun kk v => ∃ (j : Nat) (z4 : Int), j ≤ p.lv ∧ v = .int .i64 j ∧ kk = .int .i64 z4) (fun _ v => p.lv - (intOf v).toNat)
          case atStart => exact ⟨0, z3, Nat.zero_le _, rfl, rfl⟩
          case round =>
            obtain ⟨j, z4, hj, rfl, rfl⟩ := hrel
            by_cases hz4 : z4 ≤ 3000
            · by_cases hjl : j < p.lv
              · go_wp2_with fail
                go_round
                case rel => exact ⟨j + 1, _, by omega, by go_num, rfl⟩
                case measure => simp [intOf]; omega
              · go_wp2_with fail
                go_roundw
                case rel => exact ⟨k + 1, _, by omega, by go_num, rfl, Lib.hid (Hbr.out.trans (Hb3.out.mono Hbr.out.size))⟩
                case measure => simp [intOf]; omega
            · by_cases hjl : j < p.lv
              · go_wp2_with fail
                go_roundw
                case rel => exact ⟨k + 1, _, by omega, by go_num, rfl, Lib.hid (Hbr.out.trans (Hb3.out.mono Hbr.out.size))⟩
                case measure => simp [intOf]; omega
              · go_wp2_with fail
                go_roundw
                case rel => exact ⟨k + 1, _, by omega, by go_num, rfl, Lib.hid (Hbr.out.trans (Hb3.out.mono Hbr.out.size))⟩
                case measure => simp [intOf]; omega
        · go_wp2_with (go_at_call 19; refine Calls.mono Hcall.out ?_; rintro e w3 ⟨z3, rfl, hb3⟩; obtain ⟨d0, d5⟩ := Hcell.out w3 hb3; have Hb3 := Lib.hid hb3; clear hb3)
          go_roundw
          case rel => exact ⟨k + 1, _, by omega, by go_num, rfl, Lib.hid (Hbr.out.trans (Hb3.out.mono Hbr.out.size))⟩
          case measure => simp [intOf]; omega
      · go_wp2_with fail
        go_ret
        exact ⟨z, rfl, Hbr.out⟩
    · by_cases hlt : k < len
      · go_wp2_with fail
        go_ret
        exact ⟨z, rfl, Hbr.out⟩
      · go_wp2_with fail
        go_ret
        exact ⟨z, rfl, Hbr.out⟩
theorem cost_of {w0 : World} {t : Tm} {v : Value} (h : TmV w0 t v) (objs : Int) : ∀ p : Parts, v = .agg p.arr → p.lv ≤ 140737488355328 ∧ ∀ W, Below w0.heap.size w0 W → Calls Tryz.prog 19 #[.slice p.A p.la p.ca, .int .i64 objs] W (CostIs W) := by
  induction h with
  | @mk op name sort n l vars pat A V P ca cv cp f g hbd hl hf hL hv hV hp hg hP ihL _ =>
    intro p hpp
    have hq : p = ⟨op, name, sort, n, A, l.length, ca, V, vars.length, cv, P, pat.length, cp⟩ := by
      obtain ⟨_, _, _, _, _, _, _, _, _, _, _, _, _⟩ := p
      simp only [Parts.arr, Value.agg.injEq, Array.mk.injEq, List.cons.injEq] at hpp
      simp_all
    subst hq
    exact ⟨hbd.v, fun W hW => cost_list hf (fun j hj => (hL j _ (List.getElem?_eq_getElem hj)).parts) hbd.l (fun j q hj hjq => ihL j _ (List.getElem?_eq_getElem hj) q hjq) W hW⟩
/-- cost, of any terms. -/
theorem cost_any {w0 : World} {l : List Tm} {A : Option Addr} {c : Nat} {f : Nat → Value} (objs : Int) (hf : RowCells w0 A 7 l.length f) (hL : ∀ (j : Nat) (t : Tm), l[j]? = some t → TmV w0 t (f j)) (hl : l.length ≤ 140737488355328) (W : World) (hW : Below w0.heap.size w0 W) :
    Calls Tryz.prog 19 #[.slice A l.length c, .int .i64 objs] W (CostIs W) :=
  cost_list hf (fun j hj => (hL j _ (List.getElem?_eq_getElem hj)).parts) hl (fun j q hj hjq => cost_of (hL j _ (List.getElem?_eq_getElem hj)) objs q hjq) W hW
end Go.Proofs.YtbnonccmlildnaaGreat

/- light. -/
namespace Go.Proofs.YtbnonccmlildnaaGreat
open Go.RowKit

/-- What light tells: if yes, the terms are light. -/
def LightIs (lb : Bool) (w : World) (e : Ending) (w' : World) : Prop := ∃ b, e = .returned (.bool b) ∧ (b = true → lb = true) ∧ Below w.heap.size w w'
set_option maxRecDepth 100000 in
set_option maxHeartbeats 4000000 in
theorem lightM_any {w0 : World} {l : List Tm} {A S T : Option Addr} {c ct cs ns : Nat} {f : Nat → Value} {tbs : List Tb} (o0 : Int) (hT : TbsAt w0 T tbs) (hnt : tbs.length ≤ 140737488355328) (hns : ns ≤ 140737488355328) (hf : RowCells w0 A 7 l.length f) (hL : ∀ (j : Nat) (t : Tm), l[j]? = some t → TmV w0 t (f j)) (hl : l.length ≤ 140737488355328) (W : World) (hW : Below w0.heap.size w0 W) :
    Calls Tryz.prog 8 #[.slice S ns cs, .agg #[.slice T tbs.length ct, .int .i64 o0], .slice A l.length c] W (LightIs (lightB 200 l) W) := by
  obtain ⟨W1, hW1⟩ : ∃ W1, W1 = W.alloc (.cells #[.slice T tbs.length ct, .int .i64 o0] 25) := ⟨_, rfl⟩
  have hb1 : Below W.heap.size W W1 := by rw [hW1]; exact (Below.refl _ _).alloc (Nat.le_refl _) _
  have Hr1 : Hid (W1.heap[W.heap.size]? = some (.cells #[.slice T tbs.length ct, .int .i64 o0] 25 (0, 0)) ∧ W.heap.size < W1.heap.size) := Lib.hid (by rw [hW1]; exact ⟨heap_alloc_new W _, by simp⟩)
  have HlL := Lib.hid (fun w (hb : Below w0.heap.size w0 w) => light_any (c := c) hf hL hl (most := 200) (by decide) w hb)
  have HlC := Lib.hid (fun w (hb : Below w0.heap.size w0 w) => cost_any (c := c) o0 hf hL hl w hb)
  have HT : Hid (∀ (j : Nat), j < tbs.length → ∀ w, Below w0.heap.size w0 w → ∃ b o A n c, T = some ⟨b, o, none⟩ ∧ n ≤ 140737488355328 ∧ w.cell? ⟨b, o + j * 3 + 1, none⟩ = some (.slice A n c)) := Lib.hid (fun j hj w hb => by
    have ht : tbs[j]? = some tbs[j] := List.getElem?_eq_getElem hj
    obtain ⟨b, o, B, c, hA, _, h1, _, _⟩ := (hT.mono hb).get ht
    exact ⟨b, o, B, _, c, hA, hT.len ht, h1⟩)
  have HW := Lib.hid hW
  have Hb1 := Lib.hid hb1
  have HW1 := Lib.hid hW1
  generalize lightB 200 l = lb at *
  generalize tbs.length = nt at *
  generalize l.length = len at *
  clear hf hL hW hb1 hW1 hT
  go_enter Tryz.func8, Tryz.ntmps8
  go_wp2_with fail
  go_loopw [7, 8] (fun n i wr => ∃ (k : Nat) (z : Int), k ≤ nt ∧ i = .int .i64 k ∧ n = .int .i64 z ∧ Hid (Below W1.heap.size W1 wr)) (fun _ i _ => nt - (intOf i).toNat)
  case atStart => exact ⟨0, 0, Nat.zero_le _, rfl, rfl, Lib.hid (by rw [HW1.out]; exact Below.refl _ _)⟩
  case round =>
    obtain ⟨k, z, hk, rfl, rfl, Hbr⟩ := hrel
    have hbw : Below w0.heap.size w0 wr := (HW.out.trans (Hb1.out.mono HW.out.size)).trans (Hbr.out.mono (by have := HW.out.size; have := Hb1.out.size; omega))
    have hrow := (Hbr.out.block _ Hr1.out.2).trans Hr1.out.1
    have c0 : wr.cell? ⟨W.heap.size, 0, none⟩ = some (.slice T nt ct) := by rw [cell_of_row _ _ 0 _ _ _ hrow]; rfl
    have c1 : wr.cell? ⟨W.heap.size, 1, none⟩ = some (.int .i64 o0) := by rw [cell_of_row _ _ 1 _ _ _ hrow]; rfl
    have Hbw := Lib.hid hbw
    have Hfin : Hid (∀ w3, Below wr.heap.size wr w3 → Below W.heap.size W w3) := Lib.hid (fun w3 hw3 => Hb1.out.trans ((Hbr.out.trans (hw3.mono Hbr.out.size)).mono Hb1.out.size))
    have Hc1 : Hid (∀ w3, Below wr.heap.size wr w3 → w3.cell? ⟨W.heap.size, 1, none⟩ = some (.int .i64 o0)) := Lib.hid (fun w3 hw3 => cell_of_below hw3 (Nat.le_refl _) c1)
    clear hrow hbw
    by_cases hz : z ≤ 300
    · by_cases hlt : k < nt
      · obtain ⟨b, o, B, n, cc, rfl, hn, h1⟩ := HT.out k hlt wr Hbw.out
        go_wp2_with fail
        go_roundw
        case rel => exact ⟨k + 1, _, by omega, by go_num, rfl, Hbr⟩
        case measure => simp [intOf]; omega
      · by_cases h40 : ns ≤ 40
        · have h40i : (ns : Int) ≤ 40 := by omega
          cases lb with
          | false =>
            go_wp2_with (go_at_call 18; refine (HlL.out wr Hbw.out).mono ?_; rintro e w3 ⟨rfl, hb3⟩; have Hb3 := Lib.hid hb3; clear hb3)
            go_ret
            exact ⟨_, rfl, fun h => by simp at h, Hfin.out _ Hb3.out⟩
          | true =>
            go_wp2_with (first
              | (go_at_call 18; refine (HlL.out wr Hbw.out).mono ?_; rintro e w3 ⟨rfl, hb3⟩; have d1 := Hc1.out w3 hb3; have Hb3 := Lib.hid hb3; clear hb3)
              | (go_at_call 19; refine Calls.mono (HlC.out w3 (Hbw.out.trans (Hb3.out.mono Hbw.out.size))) ?_; rintro e w4 ⟨z4, rfl, hb4⟩; have Hb4 := Lib.hid hb4; clear hb4))
            go_ret
            exact ⟨_, rfl, fun h => rfl, Hfin.out _ (Hb3.out.trans (Hb4.out.mono Hb3.out.size))⟩
        · have h40i : ¬ (ns : Int) ≤ 40 := by omega
          go_wp2_with fail
          go_ret
          exact ⟨_, rfl, fun h => by simp at h, Hfin.out _ (Below.refl _ _)⟩
    · by_cases hlt : k < nt
      · by_cases h40 : (ns : Int) ≤ 40
        · go_wp2_with fail
          go_ret
          exact ⟨_, rfl, fun h => by simp at h, Hfin.out _ (Below.refl _ _)⟩
        · go_wp2_with fail
          go_ret
          exact ⟨_, rfl, fun h => by simp at h, Hfin.out _ (Below.refl _ _)⟩
      · by_cases h40 : (ns : Int) ≤ 40
        · go_wp2_with fail
          go_ret
          exact ⟨_, rfl, fun h => by simp at h, Hfin.out _ (Below.refl _ _)⟩
        · go_wp2_with fail
          go_ret
          exact ⟨_, rfl, fun h => by simp at h, Hfin.out _ (Below.refl _ _)⟩
end Go.Proofs.YtbnonccmlildnaaGreat
