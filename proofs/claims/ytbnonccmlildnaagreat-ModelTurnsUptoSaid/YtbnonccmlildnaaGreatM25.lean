/- Names from the innermost one on. -/
import Derived.Test.YtbnonccmlildnaaGreatM24
import Derived.Lib.OwnBridge
import Derived.Test.YtbnonccmlildnaaGreatM16
import Derived.Test.YtbnonccmlildnaaGreatM18
set_option linter.unusedSimpArgs false
set_option linter.unusedVariables false
namespace Go.Proofs.YtbnonccmlildnaaGreat
open Go.RowKit Go.Lib Go.Sort

theorem own_strs {w : World} {base g n c : Nat} {xs : List ByteArray} (h : w.ownsRow base 9 1 (.slice (some ⟨g, 0, none⟩) n c) n (xs.map Value.string)) : xs.length = n ∧ ∀ j, j < xs.length → w.cell? ⟨g, 0 + j, none⟩ = some (.string (xs.getD j ByteArray.empty)) := by
  have hl : xs.length = n := by simpa using h.1
  refine ⟨hl, fun j hj => ?_⟩
  rw [Nat.zero_add, h.cellAt j (by omega), List.getElem?_map, List.getElem?_eq_getElem hj]
  simp [List.getD, List.getElem?_eq_getElem hj]
theorem rev_strs {w : World} {base g n c : Nat} {xs : List ByteArray} (h : w.ownsRow base 9 1 (.slice (some ⟨g, 0, none⟩) n c) n (xs.map Value.string)) (hb : n ≤ 9223372036854775807) :
    Calls Tryz.prog 75 #[.slice (some ⟨g, 0, none⟩) n c] w fun e w' => e = .returned (.tuple #[]) ∧ w'.ownsRow base 9 1 (.slice (some ⟨g, 0, none⟩) n c) n (xs.reverse.map Value.string) ∧ Below base w w' := by
  rw [← map_encStr] at h
  obtain ⟨g', c', e, hg1, _, _, _, hl, hH⟩ := holds_of_ownsRow h (by simp)
  cases e
  have hxl : xs.length = n := by simpa using hl
  have hrev := Tryz.slices_Reverse_string g 0 c (xs.map (·.data.toList)) w hH (by simpa [hxl] using hb)
  rw [show (xs.map (·.data.toList)).length = n by simp [hxl]] at hrev
  refine hrev.mono ?_
  rintro e w' ⟨rfl, k, rfl⟩
  refine ⟨rfl, ?_, below_putRow (Below.refl _ _) hg1⟩
  have how := ownsRow_putRow (q := k) (ys := (xs.map (·.data.toList)).reverse) h (by simp [hxl]) (Nat.le_refl n)
  rw [List.take_of_length_le (by simp [hxl]), ← List.map_reverse, map_encStr] at how
  rw [← List.map_reverse]
  exact how
set_option maxHeartbeats 1000000 in
theorem reversed_ex {w : World} {base : Nat} {xs : List ByteArray} {v : Value} (h : w.ownsRow base 9 1 v xs.length (xs.map Value.string)) (h0 : 0 < xs.length) (hb : xs.length ≤ 1000000) :
    Calls Tryz.prog 42 #[v] w fun e w' => ∃ g c, e = .returned (.slice (some ⟨g, 0, none⟩) xs.length c) ∧ w'.ownsRow w.heap.size 9 1 (.slice (some ⟨g, 0, none⟩) xs.length c) xs.length (xs.reverse.map Value.string) ∧ Below w.heap.size w w' := by
  obtain ⟨g, c, rfl, _, _, _⟩ := own_head h h0
  have hcl := Tryz.slices_Clone_string g 0 xs.length c xs w (Nat.le_refl _) (by omega) (own_strs h).2
  rw [List.take_length] at hcl
  have Hcl := Lib.hid hcl
  clear hcl h
  generalize hn : xs.length = n at *
  have Hn := Lib.hid hn
  clear hn
  go_enter Tryz.func42, Tryz.ntmps42
  go_wp2_with (first
    | (go_at_call 74; refine Hcl.out.mono ?_; rintro e w5 ⟨v5, rfl, ho5, _, hb5⟩; obtain ⟨g5, c5, rfl, _, _, _⟩ := own_head ho5 h0; have Hrev := Lib.hid (rev_strs ho5 (by omega)); have Hb5 := Lib.hid hb5; clear ho5 hb5)
    | (go_at_call 75; refine Hrev.out.mono ?_; rintro e w6 ⟨rfl, ho6, hb6⟩; have Ho6 := Lib.hid ho6; have Hb6 := Lib.hid hb6; clear ho6 hb6))
  go_ret
  exact ⟨g5, c5, rfl, Ho6.out, Hb5.out.trans Hb6.out⟩
end Go.Proofs.YtbnonccmlildnaaGreat

/- What is asked of a term: its value; as a number, as a truth. -/
namespace Go.Proofs.YtbnonccmlildnaaGreat
open Go.RowKit Go.Lib

theorem Fr.out {K K' : Nat → Prop} {a b c : World} (h : Fr K K' a b) (h2 : Below a.heap.size b c) : Fr K K' a c :=
  ⟨h2.os.trans h.os, h2.tape.trans h.tape, h2.output.trans h.output, Nat.le_trans h.size h2.size, fun k hk hn => (h2.block k hk).trans (h.block k hk hn), h.newer⟩
/-- A step that is taken behind others, all of whose writes are new. -/
theorem Fr.ahead {K K' : Nat → Prop} {a b c : World} (h : Below a.heap.size a b) (h2 : Fr K K' b c) : Fr K K' a c := (Fr.of_below h).trans h2
section
variable {M : Mdl} {a : Nat} {ns : List ByteArray} {bs : List Nat} {nv bv nv' bv' : Value} {w w' : World}
theorem St.setCell (h : St M a ns bs nv bv w) {K : Nat} (hK : ¬ stK a nv bv K) (hlo : M.w0.heap.size ≤ K) (i : Nat) (v : Value) : St M a ns bs nv bv (w.setCell ⟨K, i, none⟩ v) := by
  refine ⟨h.below.setCell (p := ⟨K, i, none⟩) hlo v, h.lo, ?_, ownsRow_setCell_other h.names (fun e => hK (.inr (.inl e))) v, ownsRow_setCell_other h.bound (fun e => hK (.inr (.inr e))) v⟩
  rw [Below.heap_setCell _ _ _ _ (fun e => hK (.inl e.symm))]
  exact h.row
/-- What is new behind a step is none of the stacks'. -/
theorem St.fresh {K' : Nat → Prop} (h : St M a ns bs nv bv w) (hf : Fr (stK a nv bv) K' w w') {k : Nat} (h1 : ∀ j, stK a nv bv j → j ≠ k) (h2 : k < w.heap.size) : ¬ K' k := fun hk => (hf.newer k hk).elim (fun e => h1 k e rfl) (fun e => by omega)
end
/-- What is asked of a term tells its value. -/
def Asks (M : Mdl) (a : Nat) (ns : List ByteArray) (bs : List Nat) (nv bv : Value) (w : World) (v : Value) (x : Vl) : Prop :=
  ∀ w', Below w.heap.size w w' → Calls Tryz.prog 23 #[.pointer (some ⟨a, 0, none⟩), v] w' (VOk M a ns bs nv bv w' x)
def Fails (M : Mdl) (a : Nat) (w : World) (v : Value) : Prop := ∀ w', Below w.heap.size w w' → Calls Tryz.prog 23 #[.pointer (some ⟨a, 0, none⟩), v] w' (VErr M)
/-- A number is handed back. -/
def NOk (M : Mdl) (a : Nat) (ns : List ByteArray) (bs : List Nat) (nv bv : Value) (w : World) (z : Int) (e : Ending) (w' : World) : Prop :=
  ∃ u nv' bv', e = .returned u ∧ NumAt w' u z ∧ St M a ns bs nv' bv' w' ∧ Fr (stK a nv bv) (stK a nv' bv') w w'
def BOk (M : Mdl) (a : Nat) (ns : List ByteArray) (bs : List Nat) (nv bv : Value) (w : World) (b : Bool) (e : Ending) (w' : World) : Prop :=
  ∃ nv' bv', e = .returned (.bool b) ∧ St M a ns bs nv' bv' w' ∧ Fr (stK a nv bv) (stK a nv' bv') w w'
variable {M : Mdl} {a : Nat} {ns : List ByteArray} {bs : List Nat} {nv bv nv' bv' : Value} {w w' : World}
theorem box_parts (p : Parts) : #[Value.int .i64 p.op, .string p.name, .int .i64 p.sort, .string p.n, .slice p.A p.la p.ca, .slice p.V p.lv p.cv, .slice p.P p.lp p.cp] = p.arr := rfl
theorem assert_num {A : Option Addr} {n c : Nat} {b : Bool} (w : World) : (Instr.typeAssert (.iface 93 (.agg #[.slice A n c, .bool b])) 71 93 false).run Tryz.prog w = .ok (.agg #[.slice A n c, .bool b]) w := by kernel_rfl
theorem assert_tr (b : Bool) (w : World) : (Instr.typeAssert (.iface 100 (.bool b)) 71 100 false).run Tryz.prog w = .ok (.bool b) w := by kernel_rfl
theorem field_num {A : Option Addr} {n c : Nat} {b : Bool} (w : World) : (Instr.field 93 (.agg #[.slice A n c, .bool b]) 0).run Tryz.prog w = .ok (.agg #[.slice A n c, .bool b]) w := by kernel_rfl
theorem bool_ok {p : Parts} {b : Bool} (hs : St M a ns bs nv bv w) (h : Asks M a ns bs nv bv w (.agg p.arr) (.tr b)) :
    Calls Tryz.prog 39 #[.pointer (some ⟨a, 0, none⟩), .agg p.arr] w (BOk M a ns bs nv bv w b) := by
  have hta := assert_tr b
  have Hc := Lib.hid (h _ (below_boxT w p))
  have Hb := Lib.hid (below_boxT w p)
  clear h hs
  show Calls Tryz.prog 39 #[.pointer (some ⟨a, 0, none⟩), .agg #[.int .i64 p.op, .string p.name, .int .i64 p.sort, .string p.n, .slice p.A p.la p.ca, .slice p.V p.lv p.cv, .slice p.P p.lp p.cp]] w _
  go_enter Tryz.func39, Tryz.ntmps39
  go_wp2_with (go_at_call 23; refine Calls.mono Hc.out ?_; rintro e w5 ⟨v5, nv5, bv5, rfl, rfl, hs5, hf5⟩; have Hs5 := Lib.hid hs5; have Hf5 := Lib.hid hf5; clear hs5 hf5)
  go_ret
  exact ⟨nv5, bv5, rfl, Hs5.out, Hf5.out.ahead Hb.out⟩
theorem bool_err {p : Parts} (h : Fails M a w (.agg p.arr)) : Calls Tryz.prog 39 #[.pointer (some ⟨a, 0, none⟩), .agg p.arr] w (VErr M) := by
  have Hc := Lib.hid (h _ (below_boxT w p))
  clear h
  show Calls Tryz.prog 39 #[.pointer (some ⟨a, 0, none⟩), .agg #[.int .i64 p.op, .string p.name, .int .i64 p.sort, .string p.n, .slice p.A p.la p.ca, .slice p.V p.lv p.cv, .slice p.P p.lp p.cp]] w _
  go_enter Tryz.func39, Tryz.ntmps39
  go_wp2_with (go_at_call 23; refine Calls.mono Hc.out ?_; rintro e w5 ⟨rfl, hb5⟩; have Hb5 := Lib.hid hb5; clear hb5)
  exact ⟨rfl, rfl, Hb5.out⟩
/-- A number that is handed back by way of a box, behind what was asked. -/
theorem num_retS {fn : Func} {p : Tmp} {act : Act} {w5 : World} {K n c : Nat} {A : Option Addr} {b : Bool} {z : Int} {nv5 bv5 : Value} (hf : fn.results = #[.cell p 89]) (hK : w5.heap[K]? = some (.cells #[.slice none 0 0, .bool false] 89 (0, 0)))
    (hz : NumAt w5 (.agg #[.slice A n c, .bool b]) z) (hs5 : St M a ns bs nv5 bv5 w5) (hf5 : Fr (stK a nv bv) (stK a nv5 bv5) w w5) (hKn : ¬ stK a nv5 bv5 K) (hKw : w.heap.size ≤ K) (hlo : M.w0.heap.size ≤ w.heap.size) (ha : act.tmps.getD p undef = .pointer (some ⟨K, 0, none⟩)) (hd : act.defers = []) :
    bodyPost Tryz.prog fn (NOk M a ns bs nv bv w z) Exit.ret act ((w5.setCell ⟨K, 0, none⟩ (.slice A n c)).setCell ⟨K, 1, none⟩ (.bool b)) :=
  bodyPost_ret (results_cell_row hf _ _ K 89 #[.slice A n c, .bool b] (0, 0) _ ha (heap_setCell_same _ K 1 _ 89 (.bool b) (heap_setCell_same w5 K 0 _ 89 (.slice A n c) hK)) Tryz.underlying89 rfl size101) hd
    ⟨_, nv5, bv5, rfl, NumAt.boxed hK hz, (hs5.setCell hKn (by omega) 0 _).setCell hKn (by omega) 1 _, hf5.out (((Below.refl _ _).setCell (p := ⟨K, 0, none⟩) hKw _).setCell (p := ⟨K, 1, none⟩) hKw _)⟩
set_option maxRecDepth 100000 in
theorem int_ok {p : Parts} {z : Int} (hs : St M a ns bs nv bv w) (h : Asks M a ns bs nv bv w (.agg p.arr) (.num z)) :
    Calls Tryz.prog 35 #[.pointer (some ⟨a, 0, none⟩), .agg p.arr] w (NOk M a ns bs nv bv w z) := by
  have hta := fun (A : Option Addr) (n c : Nat) (b : Bool) => @assert_num A n c b
  have hfl := fun (A : Option Addr) (n c : Nat) (b : Bool) => @field_num A n c b
  have hb : Below w.heap.size w ((boxT w p).alloc (.cells #[.slice none 0 0, .bool false] 89)) := (below_boxT w p).alloc (by simp [boxT]) _
  have hnew : ((boxT w p).alloc (.cells #[.slice none 0 0, .bool false] 89)).heap[w.heap.size + 1]? = some (.cells #[.slice none 0 0, .bool false] 89 (0, 0)) := by
    have := heap_alloc_new (boxT w p) (.cells #[.slice none 0 0, .bool false] 89)
    rwa [boxT_size] at this
  have Hc := Lib.hid (h _ hb)
  have Hb := Lib.hid hb
  have Hnew := Lib.hid hnew
  have Hs := Lib.hid (hs.next hb)
  have Hlt : Hid (∀ k, stK a nv bv k → M.w0.heap.size ≤ k ∧ k < w.heap.size) := Lib.hid (fun k hk => hs.lt hk)
  have Hlo : Hid (M.w0.heap.size ≤ w.heap.size) := Lib.hid hs.below.size
  clear h hs hb hnew
  show Calls Tryz.prog 35 #[.pointer (some ⟨a, 0, none⟩), .agg #[.int .i64 p.op, .string p.name, .int .i64 p.sort, .string p.n, .slice p.A p.la p.ca, .slice p.V p.lv p.cv, .slice p.P p.lp p.cp]] w _
  go_enter Tryz.func35, Tryz.ntmps35
  go_wp2_with (go_at_call 23; refine Calls.mono Hc.out ?_; rintro e w5 ⟨v5, nv5, bv5, rfl, ⟨u5, rfl, hn5⟩, hs5, hf5⟩; have Hn5 := Lib.hid hn5; obtain ⟨A5, c5, ds5, rfl, _⟩ := hn5; have Hs5 := Lib.hid hs5; have Hf5 := Lib.hid hf5; have hrw : w5.heap[w.heap.size + 1]? = some (.cells #[.slice none 0 0, .bool false] 89 (0, 0)) := (hf5.block _ (by simp [boxT]) (fun hk => by have := (Hlt.out _ hk).2; omega)).trans Hnew.out; have Hrw := Lib.hid hrw; obtain ⟨hf0, hf1, hc0, hc1⟩ := row_facts hrw; clear hs5 hf5 hrw; generalize ds5.length = n5 at *; generalize decide (z < 0) = b5 at *)
  exact num_retS rfl Hrw.out Hn5.out Hs5.out (Hf5.out.ahead Hb.out) (fun hk => (Hf5.out.newer _ hk).elim (fun e => by have := (Hlt.out _ e).2; omega) (fun e => by simp [boxT] at e; omega)) (by omega) Hlo.out rfl rfl
theorem int_err {p : Parts} (h : Fails M a w (.agg p.arr)) : Calls Tryz.prog 35 #[.pointer (some ⟨a, 0, none⟩), .agg p.arr] w (VErr M) := by
  have Hc := Lib.hid (h _ ((below_boxT w p).alloc (by simp [boxT]) (.cells #[.slice none 0 0, .bool false] 89)))
  clear h
  show Calls Tryz.prog 35 #[.pointer (some ⟨a, 0, none⟩), .agg #[.int .i64 p.op, .string p.name, .int .i64 p.sort, .string p.n, .slice p.A p.la p.ca, .slice p.V p.lv p.cv, .slice p.P p.lp p.cp]] w _
  go_enter Tryz.func35, Tryz.ntmps35
  go_wp2_with (go_at_call 23; refine Calls.mono Hc.out ?_; rintro e w5 ⟨rfl, hb5⟩; have Hb5 := Lib.hid hb5; clear hb5)
  exact ⟨rfl, rfl, Hb5.out⟩
end Go.Proofs.YtbnonccmlildnaaGreat

/- Operands' truths. -/
namespace Go.Proofs.YtbnonccmlildnaaGreat
open Go.RowKit

/-- What is asked of a term, in any state with these names and objects, tells what it is worth. -/
structure ValOK (M : Mdl) (τ : Nat → List UInt8) (a : Nat) (ns : List ByteArray) (bs : List Nat) (t : Tm) (v : Value) : Prop where
  ok : ∀ x, evalT τ M.sig M.tbs M.objs t (envOf ns bs) = .ok x → ∀ nv bv w, St M a ns bs nv bv w → Calls Tryz.prog 23 #[.pointer (some ⟨a, 0, none⟩), v] w (VOk M a ns bs nv bv w x)
  err : ∀ e, evalT τ M.sig M.tbs M.objs t (envOf ns bs) = .error e → ∀ nv bv w, St M a ns bs nv bv w → Calls Tryz.prog 23 #[.pointer (some ⟨a, 0, none⟩), v] w (VErr M)
section
variable {M : Mdl} {τ : Nat → List UInt8} {a : Nat} {ns : List ByteArray} {bs : List Nat} {nv bv : Value} {w w' : World}
theorem ValOK.asks {t : Tm} {v : Value} (h : ValOK M τ a ns bs t v) {x : Vl} (hx : evalT τ M.sig M.tbs M.objs t (envOf ns bs) = .ok x) (hs : St M a ns bs nv bv w) : Asks M a ns bs nv bv w v x := fun w' hb => h.ok x hx nv bv w' (hs.next hb)
theorem ValOK.fails {t : Tm} {v : Value} (h : ValOK M τ a ns bs t v) {e : Int} (hx : evalT τ M.sig M.tbs M.objs t (envOf ns bs) = .error e) (hs : St M a ns bs nv bv w) : Fails M a w v := fun w' hb => h.err e hx nv bv w' (hs.next hb)
/-- Behind an append to a row of the call's own. -/
theorem St.grown (h : St M a ns bs nv bv w) {row : Option Nat} (hg : w.grownBy w' row) (hr : ∀ k, row = some k → M.w0.heap.size ≤ k ∧ ¬ stK a nv bv k) : St M a ns bs nv bv w' := by
  refine ⟨h.below.grown hg h.below.size (fun k hk => (hr k hk).1), h.lo, ?_, h.names.kept hg ?_, h.bound.kept hg ?_⟩
  · exact (hg.block a (Array.getElem?_eq_some_iff.1 h.row).1 (fun e => (hr a e.symm).2 (.inl rfl))).trans h.row
  · cases e : nv.ownBlock with
    | none => exact .inl rfl
    | some k => exact .inr (fun e2 => (hr k e2.symm).2 (.inr (.inl e)))
  · cases e : bv.ownBlock with
    | none => exact .inl rfl
    | some k => exact .inr (fun e2 => (hr k e2.symm).2 (.inr (.inr e)))
/-- A row of another type is none of the stacks'. -/
theorem St.row_other (h : St M a ns bs nv bv w) {base e s n : Nat} {v : Value} {xs : List Value} (ho : w.ownsRow base e s v n xs) (h1 : e ≠ 66) (h2 : e ≠ 9) (h3 : e ≠ 71) : ∀ k, v.ownBlock = some k → ¬ stK a nv bv k := fun k hk => by
  obtain ⟨_, _, cur, hh⟩ := own_block ho hk
  exact h.other hh h1 h2 h3
end
theorem evals_next {τ : Nat → List UInt8} {sig : List Fn} {tbs : List Tb} {objs : Nat} {env : Env} : ∀ (l : List Tm) (k : Nat) (vs : List Vl) (t : Tm), evals τ sig tbs objs (l.take k) env = .ok vs → l[k]? = some t →
    (∀ x, evalT τ sig tbs objs t env = .ok x → evals τ sig tbs objs (l.take (k + 1)) env = .ok (vs ++ [x])) ∧ (∀ e, evalT τ sig tbs objs t env = .error e → ∃ e', evals τ sig tbs objs l env = .error e')
  | [], k, vs, t, _, ht => by simp at ht
  | u :: l, 0, vs, t, h, ht => by
    simp at ht
    subst ht
    simp only [List.take_zero, evals] at h
    cases h
    refine ⟨fun x hx => ?_, fun e he => ?_⟩
    · simp [evals, hx, consV]
    · exact ⟨e, by simp [evals, he, consV]⟩
  | u :: l, k + 1, vs, t, h, ht => by
    simp only [List.take_succ_cons, evals] at h
    obtain ⟨v, vs', h1, h2, rfl⟩ := consV_ok h
    obtain ⟨i1, i2⟩ := evals_next l k vs' t h2 (by simpa using ht)
    refine ⟨fun x hx => ?_, fun e he => ?_⟩
    · have := i1 x hx
      simp only [List.take_succ_cons, evals] at this ⊢
      rw [h1, this]
      rfl
    · obtain ⟨e', he'⟩ := i2 e he
      exact ⟨e', by simp only [evals, h1, he', consV]⟩
/-- Truths are handed back. -/
def TOk (M : Mdl) (a : Nat) (ns : List ByteArray) (bs : List Nat) (nv bv : Value) (w : World) (l : List Bool) (e : Ending) (w' : World) : Prop :=
  ∃ v nv' bv', e = .returned v ∧ w'.ownsRow w.heap.size 4 1 v l.length (l.map Value.bool) ∧ St M a ns bs nv' bv' w' ∧ Fr (stK a nv bv) (stK a nv' bv') w w'
theorem infoB : (Tryz.prog.info? 4).map (fun i => (i.zero, i.size, i.bytes)) = some (some (.bool false), 1, 1) := by kernel_rfl
variable {M : Mdl} {τ : Nat → List UInt8} {a : Nat} {ns : List ByteArray} {bs : List Nat} {nv bv : Value} {w : World}
set_option maxRecDepth 100000 in
set_option maxHeartbeats 2000000 in
theorem truths_any {l : List Tm} {A : Option Addr} {c : Nat} {f : Nat → Value} (hs : St M a ns bs nv bv w) (hf : RowCells M.w0 A 7 l.length f) (hL : ∀ (j : Nat) (t : Tm), l[j]? = some t → TmV M.w0 t (f j)) (hlen : l.length ≤ 1000000)
    (hV : ∀ (j : Nat) (t : Tm), l[j]? = some t → ValOK M τ a ns bs t (f j)) (hT : ∀ (j : Nat) (t : Tm) (x : Vl), l[j]? = some t → evalT τ M.sig M.tbs M.objs t (envOf ns bs) = .ok x → ∃ b, x = .tr b) :
    Calls Tryz.prog 78 #[.pointer (some ⟨a, 0, none⟩), .slice A l.length c] w fun e w' => (∃ vs, evals τ M.sig M.tbs M.objs l (envOf ns bs) = .ok vs ∧ TOk M a ns bs nv bv w (vs.map asBool) e w') ∨ (∃ er, evals τ M.sig M.tbs M.objs l (envOf ns bs) = .error er ∧ VErr M e w') := by
  have Hs := Lib.hid hs
  have Hf := Lib.hid hf
  have HL := Lib.hid hL
  have HV := Lib.hid hV
  have HT := Lib.hid hT
  have Hlo : Hid (M.w0.heap.size ≤ w.heap.size) := Lib.hid hs.below.size
  obtain ⟨i4, hi4, hz0, hz1, hz2⟩ := info_parts infoB
  clear hs hf hL hV hT
  go_enter Tryz.func78, Tryz.ntmps78
  go_wp2_with fail
  go_loopw [5, 10] (fun ov i wr => ∃ (k : Nat) (vs : List Vl) (vo nvk bvk : Value), vo = ov ∧ k ≤ l.length ∧ i = .int .i64 k ∧ Hid (evals τ M.sig M.tbs M.objs (l.take k) (envOf ns bs) = .ok vs ∧ vs.length = k) ∧ Hid (wr.ownsRow w.heap.size 4 1 vo k ((vs.map asBool).map Value.bool)) ∧ Hid (St M a ns bs nvk bvk wr) ∧ Hid (Fr (stK a nv bv) (stK a nvk bvk) w wr)) (fun _ i _ => l.length - (intOf i).toNat)
  case atStart => exact ⟨0, [], _, nv, bv, rfl, Nat.zero_le _, rfl, Lib.hid ⟨rfl, rfl⟩, Lib.hid (World.ownsRow_nil _ _ _ _), Hs, Lib.hid (Fr.refl _ _)⟩
  case round =>
    obtain ⟨k, vs, vo, nvk, bvk, rfl, hk, rfl, Hev, HO, HS, HF⟩ := hrel
    by_cases hlt : k < l.length
    · have Ht : Hid (l[k]? = some l[k]) := Lib.hid (List.getElem?_eq_getElem hlt)
      have Hv := Lib.hid (HL.out k _ Ht.out)
      obtain ⟨p, hp⟩ := Hv.out.parts
      obtain ⟨b, o, rfl, h0, h1, h2, h3, h4, h5, h6⟩ := (Hf.out.below HS.out.below).get hlt hp
      have Hnx := Lib.hid (evals_next l k vs _ Hev.out.1 Ht.out)
      have Hval := Lib.hid (HV.out k _ Ht.out)
      rw [hp] at Hval
      have Htr := Lib.hid (fun x => HT.out k _ x Ht.out)
      have HW2 : Hid (boxT wr p = wr.alloc (.cells #[.int .i64 p.op, .string p.name, .int .i64 p.sort, .string p.n, .slice p.A p.la p.ca, .slice p.V p.lv p.cv, .slice p.P p.lp p.cp] 29)) := Lib.hid rfl
      have Hbx := Lib.hid (below_boxT wr p)
      have HSb := Lib.hid (HS.out.next (below_boxT wr p))
      clear hp
      cases hr : evalT τ M.sig M.tbs M.objs l[k] (envOf ns bs) with
      | error er =>
        have Hcall := Lib.hid (bool_err (Hval.out.fails hr HSb.out))
        have Her := Lib.hid (Hnx.out.2 er hr)
        clear hr Htr Hnx
        go_wp2_with (go_at_call 39; rw [← HW2.out]; refine Calls.mono Hcall.out ?_; rintro e w8 ⟨rfl, hb8⟩; have Hb8 := Lib.hid hb8; clear hb8)
        obtain ⟨er', her'⟩ := Her.out
        exact ⟨rfl, .inr ⟨er', her', rfl, Hb8.out⟩⟩
      | ok x =>
        obtain ⟨q, rfl⟩ := Htr.out x hr
        have Hcall := Lib.hid (bool_ok HSb.out (Hval.out.asks hr HSb.out))
        have Hev2 := Lib.hid (Hnx.out.1 _ hr)
        have Hoth := Lib.hid (HSb.out.row_other (own_kept HO.out Hbx.out) (by decide) (by decide) (by decide))
        clear hr Htr Hnx
        go_wp2_with (first
          | (go_at_call 39; rw [← HW2.out]; refine Calls.mono Hcall.out ?_; rintro e w8 ⟨nv8, bv8, rfl, hs8, hf8⟩; have HS8 := Lib.hid hs8; have HF8 := Lib.hid hf8; have HO8 := Lib.hid (own_below (own_kept HO.out Hbx.out) hf8 Hoth.out); have hsz8 := hf8.size; clear hs8 hf8)
          | (at_builtin; refine wpList_append_own _ rfl (.tmp 14) (.tmp 18) 141 rfl w.heap.size 4 i4 _ 1 1 Tryz.underlying141 hi4 hz0 hz1 hz2 rfl (by decide) vo k _ rfl (HO8.out.alloc _) ⟨w8.heap.size, 0, none⟩ 1 1 [.bool q] rfl rfl (cell_one_new _ _ _) (by intro u hu; simp at hu; subst hu; rfl) (by simp only [maxLen]; omega) (by omega) (by have h1 := HF.out.size; have h2 := Hbx.out.size; simp; omega) ?_; intro v9 w9 hown9 hg9 _; have HO9 := Lib.hid hown9; have HG9 := Lib.hid hg9; clear hown9 hg9))
        go_roundw
        case rel =>
          have hal : Below w8.heap.size w8 (w8.alloc (.cells #[.bool q] 4)) := (Below.refl _ _).alloc (Nat.le_refl _) _
          have hS9 := (HS8.out.next hal).grown HG9.out (fun k hk => ⟨by have := (own_block HO8.out hk).1; have := Hlo.out; omega, HS8.out.row_other HO8.out (by decide) (by decide) (by decide) k hk⟩)
          have hF8 : Fr (stK a nv bv) (stK a nv8 bv8) w w8 := (HF.out.then Hbx.out).trans HF8.out
          refine ⟨k + 1, vs ++ [.tr q], v9, nv8, bv8, rfl, by omega, by go_num, Lib.hid ⟨Hev2.out, by simp [Hev.out.2]⟩, Lib.hid (by simpa [asBool] using HO9.out), Lib.hid hS9, Lib.hid (hF8.out (((Below.refl w.heap.size w8).alloc hF8.size _).grown HG9.out (by have := hF8.size; simp; omega) (fun k hk => (own_block HO8.out hk).1)))⟩
        case measure => simp [intOf]; omega
    · have hkl : k = l.length := by omega
      subst hkl
      have Hall : Hid (evals τ M.sig M.tbs M.objs l (envOf ns bs) = .ok vs) := Lib.hid (by have := Hev.out.1; rwa [List.take_length] at this)
      go_wp2_with fail
      go_ret
      refine .inl ⟨vs, Hall.out, vo, nvk, bvk, rfl, ?_, HS.out, HF.out⟩
      rw [List.length_map, Hev.out.2]
      exact HO.out
end Go.Proofs.YtbnonccmlildnaaGreat

/- A drawn region that makes memory, in which an operation may panic. -/
namespace Go.Proofs.YtbnonccmlildnaaGreat
open Go.RowKit

/-- Whatever the order: each operation that isn't held back makes what it should, and all of those that count are there when what is held back begins. -/
theorem wpAny_makesD {P : Program} {ops : Array Oper} {Q : Exit → Act → World → Prop} {J : World → Prop} {R : World → World → Prop} {spec : Nat → World → Value → Prop} {mk rest : List Nat} {nt : Nat} {a0 : Act} (hok : MakesOK ops mk rest nt) (hnt : a0.tmps.size = nt) (hkeep : ∀ i w w' v, spec i w v → R w w' → spec i w' v)
    (hstep : ∀ (i : Nat) (o : Oper), ops[i]? = some o → i ∉ rest → ∀ (a : Act) (w : World), J w → a.defers = a0.defers → (∀ (t : Nat), noDst ops t = true → a.tmps.getD t undef = a0.tmps.getD t undef) →
      (∀ e ∈ o.after, Region.binds .any e = true → ∀ (o' : Oper) (d : Nat), ops[e.on]? = some o' → o'.dst = some d → spec e.on w (a.tmps.getD d undef)) →
      ∀ K : Act → World → Prop, (∀ v w', spec i w' v → R w w' → J w' → K (a.put o.dst v) w') → Oper.wp P o a w K Q)
    (hend : ∀ (fuel : Nat) (listed : Array Bool) (a : Act) (w : World), listed.toList.countP (fun b => !b) ≤ fuel → Makes ops J spec rest a0 listed a w → (∀ m ∈ mk, listed.getD m false = true) → wpAny P .any ops Q fuel listed a w) :
    ∀ (fuel : Nat) (listed : Array Bool) (a : Act) (w : World), listed.toList.countP (fun b => !b) ≤ fuel → Makes ops J spec rest a0 listed a w → wpAny P .any ops Q fuel listed a w := by
  intro fuel
  induction fuel with
  | zero =>
    intro listed a w hc hm
    refine hend _ _ _ _ hc hm fun m hmk => ?_
    have h1 : m < listed.size := by rw [hm.size]; exact hok.mkLt m hmk
    rw [getD_in h1]
    have h0 : listed.toList.countP (fun b => !b) = 0 := by omega
    have := List.countP_eq_zero.1 h0 listed[m] (by simp)
    simpa using this
  | succ fuel ih =>
    intro listed a w hc hm
    by_cases hall : ∀ m ∈ mk, listed.getD m false = true
    · exact hend _ _ _ _ hc hm hall
    · have hex : ∃ m ∈ mk, ¬ listed.getD m false = true := Classical.byContradiction fun hn => hall fun m hmk => Classical.byContradiction fun h2 => hn ⟨m, hmk, h2⟩
      obtain ⟨m, hmk, hml⟩ := hex
      have hmlt : m < listed.size := by rw [hm.size]; exact hok.mkLt m hmk
      refine ⟨fun hr => ?_, fun i hi => ?_⟩
      · obtain ⟨j, hj⟩ := unlisted_ready hok hm.size _ m rfl (hok.mkLt m hmk) (by rw [getD_in hmlt] at hml ⊢; simpa using hml)
        rw [hr] at hj
        cases hj
      · obtain ⟨hun, o, ho, hed⟩ := mem_ready.1 hi
        have hnr : i ∉ rest := fun hr => by
          rcases reaches_listed hm.closed _ i o ho hed (hok.block i hr m hmk) with h | ⟨r, hrr, h1⟩
          · exact hml h
          · have h2 := getD_both (hm.rest _ hrr)
            rw [h1] at h2
            cases h2
        unfold wpOp
        rw [ho]
        simp only [Region.wanted, hok.guard i o ho hnr, if_true]
        refine .inl (hstep i o ho hnr a w hm.inv hm.defers (fun t ht => ?_) (fun e he hb o' d ho' hd => hm.held e.on o' d (hed e he hb) ho' hd) _ fun v w' hv hbw hJ => ih _ _ _ ?_ (hm.step hok hnt hkeep ho hnr hed hv hbw hJ))
        · rw [Array.getD_eq_getD_getElem?, Array.getD_eq_getD_getElem?, hm.frame t fun j o' _ ho' => noDst_spec ht j o' ho']
        · have hlt : i < listed.size := by rw [hm.size]; exact (Array.getElem?_eq_some_iff.1 ho).1
          rw [getD_in hlt] at hun
          have := unlisted_set listed.toList i (by simp [hlt, hun])
          rw [Array.toList_setIfInBounds]
          omega
theorem wp_region_makesD {P : Program} {ops : Array Oper} {Q : Exit → Act → World → Prop} {spec : Nat → World → Value → Prop} (mk rest : List Nat) (J : World → Prop) (R : World → World → Prop) {id : Nat} {a : Act} {w : World} (hm : P.follows .mixedOrders = true) (hk : makesOK ops mk rest a.tmps.size = true) (hkeep : ∀ i w w' v, spec i w v → R w w' → spec i w' v) (h0 : J w.drew)
    (hstep : ∀ (i : Nat) (o : Oper), ops[i]? = some o → i ∉ rest → ∀ (a' : Act) (w' : World), J w' → a'.defers = a.defers → (∀ (t : Nat), noDst ops t = true → a'.tmps.getD t undef = a.tmps.getD t undef) →
      (∀ e ∈ o.after, Region.binds .any e = true → ∀ (o' : Oper) (d : Nat), ops[e.on]? = some o' → o'.dst = some d → spec e.on w' (a'.tmps.getD d undef)) →
      ∀ K : Act → World → Prop, (∀ v w'', spec i w'' v → R w' w'' → J w'' → K (a'.put o.dst v) w'') → Oper.wp P o a' w' K Q)
    (hend : ∀ (fuel : Nat) (listed : Array Bool) (a' : Act) (w' : World), listed.toList.countP (fun b => !b) ≤ fuel → Makes ops J spec rest a listed a' w' → (∀ m ∈ mk, listed.getD m false = true) → wpAny P .any ops Q fuel listed a' w') : (Code.region id ops true).wp P Q a w := by
  have hok := makesOK_spec hk
  refine wp_region_any hm (wpAny_makesD hok rfl hkeep hstep hend _ _ _ _ (by simp [List.countP_replicate]) ⟨by simp, h0, rfl, rfl, fun _ _ => rfl, fun i o d hi ho _ => ?_, fun i hi => ?_, fun j o hj ho => ?_⟩)
  · have hlt : i < ops.size := (Array.getElem?_eq_some_iff.1 ho).1
    rw [getD_in (by simpa using hlt)] at hi
    simp at hi
  · rw [getD_in (by simpa using hok.restLt i hi)]
    simp
  · have hlt : j < ops.size := (Array.getElem?_eq_some_iff.1 ho).1
    rw [getD_in (by simpa using hlt)] at hj
    simp at hj
end Go.Proofs.YtbnonccmlildnaaGreat

/- Operands' sum. -/
namespace Go.Proofs.YtbnonccmlildnaaGreat
open Go.RowKit

/-- Whatever numbers are there stay. -/
def NumKeep (w w' : World) : Prop := ∀ v z, NumAt w v z → NumAt w' v z
theorem NumKeep.below {w w' : World} (h : Below w.heap.size w w') : NumKeep w w' := fun v z hv => hv.mono (Nat.le_refl _) h
theorem NumKeep.refl (w : World) : NumKeep w w := fun v z hv => hv
theorem NumAt.boxed2 {w : World} {K n0 c0 : Nat} {B : Option Addr} {b0 : Bool} {A : Option Addr} {n c T : Nat} {b : Bool} {z : Int} (hK : w.heap[K]? = some (.cells #[.slice B n0 c0, .bool b0] T (0, 0))) (h : NumAt w (.agg #[.slice A n c, .bool b]) z) :
    NumAt ((w.setCell ⟨K, 0, none⟩ (.slice A n c)).setCell ⟨K, 1, none⟩ (.bool b)) (.agg #[.slice A n c, .bool b]) z := by
  obtain ⟨A', c', ds, e, hc, hd, h1, h2, h3⟩ := h
  exact ⟨A', c', ds, e, hc, (hd.boxed hK 0 _).boxed (heap_setCell_same w K 0 _ T _ hK) 1 _, h1, h2, h3⟩
theorem box_facts {w : World} {K n c T : Nat} {A : Option Addr} {b : Bool} (h : w.heap[K]? = some (.cells #[.slice A n c, .bool b] T (0, 0))) :
    w.frozen? ⟨K, 0, none⟩ = false ∧ w.frozen? ⟨K, 1, none⟩ = false ∧ w.cell? ⟨K, 0, none⟩ = some (.slice A n c) ∧ w.cell? ⟨K, 1, none⟩ = some (.bool b) :=
  ⟨by simp [World.frozen?, h], by simp [World.frozen?, h], by rw [cell_of_row w K 0 _ T (0, 0) h]; rfl, by rw [cell_of_row w K 1 _ T (0, 0) h]; rfl⟩
theorem box_set2 {w : World} {K T : Nat} {x y x' y' : Value} (h : w.heap[K]? = some (.cells #[x, y] T (0, 0))) : ((w.setCell ⟨K, 0, none⟩ x').setCell ⟨K, 1, none⟩ y').heap[K]? = some (.cells #[x', y'] T (0, 0)) :=
  heap_setCell_same _ K 1 _ T y' (heap_setCell_same w K 0 _ T x' h)
/-- The values of the sum's region. -/
def sumSpec (a : Nat) (acc z : Int) (va : Value) (p : Parts) : Nat → World → Value → Prop
  | 0, w, v => v = va ∧ NumAt w va acc
  | 1, _, v => v = .pointer (some ⟨a, 0, none⟩)
  | 2, _, v => v = .agg p.arr
  | 3, w, v => NumAt w v z
  | 4, w, v => NumAt w v (acc + z)
  | _, _, _ => True
theorem sumSpec_keep (a : Nat) (acc z : Int) (va : Value) (p : Parts) (i : Nat) (w w' : World) (v : Value) (h : sumSpec a acc z va p i w v) (hb : NumKeep w w') : sumSpec a acc z va p i w' v :=
  match i, h with
  | 0, h => ⟨h.1, hb _ _ h.2⟩
  | 1, h => h
  | 2, h => h
  | 3, h => hb _ _ h
  | 4, h => hb _ _ h
  | n + 5, _ => trivial
/-- .. where what is asked fails. -/
def sumSpecE (a : Nat) (va : Value) (p : Parts) : Nat → World → Value → Prop
  | 0, _, v => v = va
  | 1, _, v => v = .pointer (some ⟨a, 0, none⟩)
  | 2, _, v => v = .agg p.arr
  | 3, _, _ => False
  | _, _, _ => True
theorem sumSpecE_keep (a : Nat) (va : Value) (p : Parts) (i : Nat) (w w' : World) (v : Value) (h : sumSpecE a va p i w v) (hb : NumKeep w w') : sumSpecE a va p i w' v :=
  match i, h with
  | 0, h => h
  | 1, h => h
  | 2, h => h
  | 3, h => h
  | n + 4, _ => trivial
/-- A step from W0 on, with the same stacks' contents. -/
def Stp (M : Mdl) (a : Nat) (ns : List ByteArray) (bs : List Nat) (nv bv : Value) (W0 w' : World) : Prop := ∃ nv' bv', St M a ns bs nv' bv' w' ∧ Fr (stK a nv bv) (stK a nv' bv') W0 w'
section
variable {M : Mdl} {a : Nat} {ns : List ByteArray} {bs : List Nat} {nv bv : Value} {W0 w w' : World}
theorem Stp.refl (h : St M a ns bs nv bv w) : Stp M a ns bs nv bv w w := ⟨nv, bv, h, Fr.refl _ _⟩
theorem Stp.next (h : Stp M a ns bs nv bv W0 w) (hb : Below w.heap.size w w') : Stp M a ns bs nv bv W0 w' := by
  obtain ⟨nv', bv', h1, h2⟩ := h
  exact ⟨nv', bv', h1.next hb, h2.then hb⟩
theorem Stp.block (h : Stp M a ns bs nv bv W0 w) {k : Nat} (hk : k < W0.heap.size) (hn : ¬ stK a nv bv k) : w.heap[k]? = W0.heap[k]? := by
  obtain ⟨nv', bv', h1, h2⟩ := h
  exact h2.block k hk hn
theorem Stp.below (h : Stp M a ns bs nv bv W0 w) : Below M.w0.heap.size M.w0 w := by
  obtain ⟨nv', bv', h1, h2⟩ := h
  exact h1.below
end
variable {M : Mdl} {τ : Nat → List UInt8} {a : Nat} {ns : List ByteArray} {bs : List Nat} {nv bv : Value} {w : World}
def sumV (vs : List Vl) : Int := vs.foldl (fun a v => a + asInt v) 0
theorem sumV_snoc (vs : List Vl) (x : Vl) : sumV (vs ++ [x]) = sumV vs + asInt x := by simp [sumV]
set_option maxRecDepth 100000 in
set_option maxHeartbeats 4000000 in
theorem sum_any {l : List Tm} {A : Option Addr} {c m : Nat} {f : Nat → Value} (hs : St M a ns bs nv bv w) (hf : RowCells M.w0 A 7 l.length f) (hL : ∀ (j : Nat) (t : Tm), l[j]? = some t → TmV M.w0 t (f j)) (hlen : l.length ≤ 1000000) (hm : m ≤ 1000000000000)
    (hV : ∀ (j : Nat) (t : Tm), l[j]? = some t → ValOK M τ a ns bs t (f j)) (hT : ∀ (j : Nat) (t : Tm) (x : Vl), l[j]? = some t → evalT τ M.sig M.tbs M.objs t (envOf ns bs) = .ok x → ∃ z, x = .num z ∧ z.natAbs < 4294967296 ^ m)
    (hB : ∀ (k : Nat) (vs : List Vl), evals τ M.sig M.tbs M.objs (l.take k) (envOf ns bs) = .ok vs → (sumV vs).natAbs < 4294967296 ^ m) :
    Calls Tryz.prog 34 #[.pointer (some ⟨a, 0, none⟩), .slice A l.length c] w fun e w' => (∃ vs, evals τ M.sig M.tbs M.objs l (envOf ns bs) = .ok vs ∧ NOk M a ns bs nv bv w (sumV vs) e w') ∨ (∃ er, evals τ M.sig M.tbs M.objs l (envOf ns bs) = .error er ∧ VErr M e w') := by
  obtain ⟨w1, hw1⟩ : ∃ w1, w1 = (w.alloc (.cells #[.slice none 0 0, .bool false] 89)).alloc (.cells #[.slice none 0 0, .bool false] 89) := ⟨_, rfl⟩
  have hb1 : Below w.heap.size w w1 := by rw [hw1]; exact ((Below.refl _ _).alloc (Nat.le_refl _) _).alloc (by simp) _
  have hr4 : w1.heap[w.heap.size]? = some (.cells #[.slice none 0 0, .bool false] 89 (0, 0)) ∧ w1.heap[w.heap.size + 1]? = some (.cells #[.slice none 0 0, .bool false] 89 (0, 0)) ∧ w1.heap.size = w.heap.size + 2 := by
    rw [hw1]
    have e1 := heap_alloc_new w (.cells #[.slice none 0 0, .bool false] 89)
    have e2 := heap_alloc_new (w.alloc (.cells #[.slice none 0 0, .bool false] 89)) (.cells #[.slice none 0 0, .bool false] 89)
    rw [show (w.alloc (.cells #[.slice none 0 0, .bool false] 89)).heap.size = w.heap.size + 1 by simp] at e2
    exact ⟨(Below.heap_alloc (w.alloc (.cells #[.slice none 0 0, .bool false] 89)) (.cells #[.slice none 0 0, .bool false] 89) w.heap.size (by simp)).trans e1, e2, by simp⟩
  have Hs1 := Lib.hid (hs.next hb1)
  have Hb1 := Lib.hid hb1
  have Hr4 := Lib.hid hr4
  have Hf := Lib.hid hf
  have HL := Lib.hid hL
  have HV := Lib.hid hV
  have HT := Lib.hid hT
  have HB := Lib.hid hB
  have Hlo : Hid (M.w0.heap.size ≤ w.heap.size) := Lib.hid hs.below.size
  have HK : Hid (∀ k, stK a nv bv k → k < w.heap.size) := Lib.hid (fun k hk => (hs.lt hk).2)
  have Hm := Lib.hid hm
  have HW1 := Lib.hid hw1
  clear hs hf hL hV hT hB hb1 hr4 hw1 hm
  go_enter Tryz.func34, Tryz.ntmps34
  go_wp2_with fail
  rw [← HW1.out]
  go_loopw [10] (fun i wr => ∃ (k n5 c5 : Nat) (vs : List Vl) (nvk bvk : Value) (A5 : Option Addr) (b5 : Bool), k ≤ l.length ∧ i = .int .i64 k ∧ Hid (evals τ M.sig M.tbs M.objs (l.take k) (envOf ns bs) = .ok vs ∧ vs.length = k) ∧ Hid (wr.heap[w.heap.size]? = some (.cells #[.slice none 0 0, .bool false] 89 (0, 0))) ∧ Hid (wr.heap[w.heap.size + 1]? = some (.cells #[.slice A5 n5 c5, .bool b5] 89 (0, 0)) ∧ NumAt wr (.agg #[.slice A5 n5 c5, .bool b5]) (sumV vs)) ∧ Hid (St M a ns bs nvk bvk wr) ∧ Hid (Fr (stK a nv bv) (stK a nvk bvk) w wr)) (fun i _ => l.length - (intOf i).toNat)
  case atStart => exact ⟨0, 0, 0, [], nv, bv, none, false, Nat.zero_le _, rfl, Lib.hid ⟨rfl, rfl⟩, Lib.hid Hr4.out.1, Lib.hid ⟨Hr4.out.2.1, NumAt.zero _⟩, Hs1, Lib.hid (Fr.of_below Hb1.out)⟩
  case round =>
    obtain ⟨k, n5, c5, vs, nvk, bvk, A5, b5, hk, rfl, Hev, H4, H5, HS, HF⟩ := hrel
    by_cases hlt : k < l.length
    · have Ht : Hid (l[k]? = some l[k]) := Lib.hid (List.getElem?_eq_getElem hlt)
      have Hv := Lib.hid (HL.out k _ Ht.out)
      obtain ⟨p, hp⟩ := Hv.out.parts
      obtain ⟨b, o, rfl, h0, h1, h2, h3, h4, h5, h6⟩ := (Hf.out.below HS.out.below).get hlt hp
      have Hnx := Lib.hid (evals_next l k vs _ Hev.out.1 Ht.out)
      have Hval := Lib.hid (HV.out k _ Ht.out)
      rw [hp] at Hval
      have Htr := Lib.hid (fun x => HT.out k _ x Ht.out)
      have HBk := Lib.hid (HB.out k vs Hev.out.1)
      have HW2 : Hid (boxT wr p = wr.alloc (.cells #[.int .i64 p.op, .string p.name, .int .i64 p.sort, .string p.n, .slice p.A p.la p.ca, .slice p.V p.lv p.cv, .slice p.P p.lp p.cp] 29)) := Lib.hid rfl
      have Hbx := Lib.hid (below_boxT wr p)
      have HSb := Lib.hid (HS.out.next (below_boxT wr p))
      have Hbxs : Hid ((boxT wr p).heap[wr.heap.size]? = some (.cells p.arr 29 (0, 0)) ∧ (boxT wr p).heap.size = wr.heap.size + 1) := Lib.hid ⟨heap_alloc_new wr _, boxT_size wr p⟩
      have hsz : w.heap.size + 1 < wr.heap.size := (Array.getElem?_eq_some_iff.1 H5.out.1).1
      clear hp
      go_wp2_with fail
      rw [← HW2.out]
      generalize boxT wr p = W2 at *
      have Hn5 : Hid (¬ stK a nvk bvk (w.heap.size + 1) ∧ ¬ stK a nvk bvk wr.heap.size ∧ ¬ stK a nvk bvk w.heap.size) := Lib.hid ⟨HS.out.other H5.out.1 (by decide) (by decide) (by decide), fun hk => by have := (HS.out.lt hk).2; omega, HS.out.other H4.out (by decide) (by decide) (by decide)⟩
      have H5b : Hid (W2.heap[w.heap.size + 1]? = some (.cells #[.slice A5 n5 c5, .bool b5] 89 (0, 0)) ∧ NumAt W2 (.agg #[.slice A5 n5 c5, .bool b5]) (sumV vs)) := Lib.hid ⟨(Hbx.out.block _ hsz).trans H5.out.1, H5.out.2.mono (Nat.le_refl _) Hbx.out⟩
      have H4b : Hid (W2.heap[w.heap.size]? = some (.cells #[.slice none 0 0, .bool false] 89 (0, 0))) := Lib.hid ((Hbx.out.block _ (by omega)).trans H4.out)
      have Hnum : Hid (∀ w', Stp M a ns bs nvk bvk W2.drew w' → NumAt w' (.agg #[.slice A5 n5 c5, .bool b5]) (sumV vs)) := Lib.hid (fun w' ⟨nv', bv', h1, h2⟩ => NumAt.fr (H5b.out.2.mono (Nat.le_refl _) ((Below.refl _ _).drew)) (HSb.out.next ((Below.refl _ _).drew)) h2)
      have HStp : Hid (Stp M a ns bs nvk bvk W2.drew W2.drew) := Lib.hid (Stp.refl (HSb.out.next ((Below.refl _ _).drew)))
      cases hr : evalT τ M.sig M.tbs M.objs l[k] (envOf ns bs) with
      | error er =>
        have Her := Lib.hid (Hnx.out.2 er hr)
        have Hcall : Hid (∀ w', Stp M a ns bs nvk bvk W2.drew w' → Calls Tryz.prog 35 #[.pointer (some ⟨a, 0, none⟩), .agg p.arr] w' (VErr M)) := Lib.hid (fun w' ⟨nv', bv', h1, _⟩ => int_err (Hval.out.fails hr h1))
        obtain ⟨er', her'⟩ := Her.out
        have Her2 := Lib.hid her'
        clear hr Htr Hnx her'
        refine wp_region_makesD [0, 1, 2, 3, 4] [5] (Stp M a ns bs nvk bvk W2.drew) NumKeep (by kernel_rfl) (by kernel_rfl) (sumSpecE_keep a (.agg #[.slice A5 n5 c5, .bool b5]) p) HStp.out ?_ ?_
        · intro i o ho hi3 a' w' hJ hdf hfr hd K hK
          obtain ⟨_, _, y0, y1⟩ := row_facts ((hJ.block (by show _ < W2.heap.size; have := Hbxs.out.2; omega) Hn5.out.1).trans H5b.out.1)
          obtain ⟨x0, x1, x2, x3, x4, x5, x6⟩ := box_cells (p := p) ((hJ.block (by show _ < W2.heap.size; have := Hbxs.out.2; omega) Hn5.out.2.1).trans Hbxs.out.1)
          have hv0 : a'.tmps.getD 0 undef = .pointer (some ⟨a, 0, none⟩) := hfr 0 (by kernel_rfl)
          have hv5 : a'.tmps.getD 5 undef = .pointer (some ⟨w.heap.size + 1, 0, none⟩) := hfr 5 (by kernel_rfl)
          have hv7 : a'.tmps.getD 7 undef = .pointer (some ⟨wr.heap.size, 0, none⟩) := hfr 7 (by kernel_rfl)
          rw [Array.getD_eq_getD_getElem?] at hv0 hv5 hv7
          have HK := Lib.hid hK
          have HJ := Lib.hid hJ
          have Hdf := Lib.hid hdf
          clear hdf
          clear hJ hK hfr
          match i, ho with
          | 0, ho => cases ho; clear hd; go_simp; exact HK.out _ _ rfl (NumKeep.refl _) HJ.out
          | 1, ho => cases ho; clear hd; go_simp; exact HK.out _ _ rfl (NumKeep.refl _) HJ.out
          | 2, ho => cases ho; clear hd; go_simp; exact HK.out _ _ rfl (NumKeep.refl _) HJ.out
          | 3, ho =>
            cases ho
            have e1 := hd ⟨1, .data⟩ (by simp) rfl _ _ rfl rfl
            have e2 := hd ⟨2, .data⟩ (by simp) rfl _ _ rfl rfl
            simp only [sumSpecE, Array.getD_eq_getD_getElem?] at e1 e2
            clear hd
            go_simp
            refine (Hcall.out w' HJ.out).mono ?_
            rintro e w9 ⟨rfl, hb9⟩
            exact ⟨Hdf.out, .inr ⟨er', Her2.out, rfl, hb9⟩⟩
          | 4, ho => cases ho; exact (hd ⟨3, .data⟩ (by simp) rfl _ _ rfl rfl : False).elim
          | 5, ho => exact absurd (by simp) hi3
          | n + 6, ho => simp at ho
        · intro fuel listed a' w8 hc hm hall
          exact (hm.held 3 _ _ (hall 3 (by simp)) rfl rfl : False).elim
      | ok x =>
        obtain ⟨z, rfl, hzb⟩ := Htr.out x hr
        have Hzb := Lib.hid hzb
        have Hev2 := Lib.hid (Hnx.out.1 _ hr)
        have Hcall : Hid (∀ w', Stp M a ns bs nvk bvk W2.drew w' → Calls Tryz.prog 35 #[.pointer (some ⟨a, 0, none⟩), .agg p.arr] w' fun e w'' => ∃ u, e = .returned u ∧ NumAt w'' u z ∧ NumKeep w' w'' ∧ Stp M a ns bs nvk bvk W2.drew w'') := Lib.hid (fun w' ⟨nv', bv', h1, h2⟩ => (int_ok h1 (Hval.out.asks hr h1)).mono fun e w'' ⟨u, nv9, bv9, e1, e2, e3, e4⟩ => ⟨u, e1, e2, fun v z hv => hv.fr h1 e4, nv9, bv9, e3, h2.trans e4⟩)
        clear hr hzb Htr Hnx Hval
        refine wp_region_makesJ [0, 1, 2, 3, 4] [5] (Stp M a ns bs nvk bvk W2.drew) NumKeep (by kernel_rfl) (by kernel_rfl) (sumSpec_keep a (sumV vs) z (.agg #[.slice A5 n5 c5, .bool b5]) p) HStp.out ?_ ?_
        · generalize Exit.then _ _ = Q2
          intro i o ho hi3 a' w' hJ hfr hd K hK
          obtain ⟨_, _, y0, y1⟩ := row_facts ((hJ.block (by show _ < W2.heap.size; have := Hbxs.out.2; omega) Hn5.out.1).trans H5b.out.1)
          obtain ⟨x0, x1, x2, x3, x4, x5, x6⟩ := box_cells (p := p) ((hJ.block (by show _ < W2.heap.size; have := Hbxs.out.2; omega) Hn5.out.2.1).trans Hbxs.out.1)
          have hv0 : a'.tmps.getD 0 undef = .pointer (some ⟨a, 0, none⟩) := hfr 0 (by kernel_rfl)
          have hv5 : a'.tmps.getD 5 undef = .pointer (some ⟨w.heap.size + 1, 0, none⟩) := hfr 5 (by kernel_rfl)
          have hv7 : a'.tmps.getD 7 undef = .pointer (some ⟨wr.heap.size, 0, none⟩) := hfr 7 (by kernel_rfl)
          have Hacc := Lib.hid (Hnum.out w' hJ)
          rw [Array.getD_eq_getD_getElem?] at hv0 hv5 hv7
          have HK := Lib.hid hK
          have HJ := Lib.hid hJ
          clear hJ hK hfr
          match i, ho with
          | 0, ho => cases ho; clear hd; go_simp; exact HK.out _ _ ⟨rfl, Hacc.out⟩ (NumKeep.refl _) HJ.out
          | 1, ho => cases ho; clear hd; go_simp; exact HK.out _ _ rfl (NumKeep.refl _) HJ.out
          | 2, ho => cases ho; clear hd; go_simp; exact HK.out _ _ rfl (NumKeep.refl _) HJ.out
          | 3, ho =>
            cases ho
            have e1 := hd ⟨1, .data⟩ (by simp) rfl _ _ rfl rfl
            have e2 := hd ⟨2, .data⟩ (by simp) rfl _ _ rfl rfl
            simp only [sumSpec, Array.getD_eq_getD_getElem?] at e1 e2
            clear hd
            go_simp
            refine (Hcall.out w' HJ.out).mono ?_
            rintro e w9 ⟨u9, rfl, hn9, hk9, hj9⟩
            exact HK.out _ _ hn9 hk9 hj9
          | 4, ho =>
            cases ho
            have e1 := hd ⟨0, .data⟩ (by simp) rfl _ _ rfl rfl
            have e2 := hd ⟨3, .data⟩ (by simp) rfl _ _ rfl rfl
            simp only [sumSpec, Array.getD_eq_getD_getElem?] at e1 e2
            have Hadd := Lib.hid (add_ex e1.2 e2 HBk.out Hzb.out (by have := Hm.out; omega))
            have e10 := e1.1
            clear e1 e2 hd
            go_simp
            refine Hadd.out.mono ?_
            rintro e w9 ⟨v9, rfl, hn9, hb9⟩
            exact HK.out _ _ hn9 (NumKeep.below hb9) (HJ.out.next hb9)
          | 5, ho => exact absurd (by simp) hi3
          | n + 6, ho => simp at ho
        · intro fuel listed a' w8 hc hm hall
          obtain ⟨gg, ha, hh⟩ := hm.act (ds := [14, 15, 16, 17, 18]) (by kernel_rfl)
          have hl : listed = #[true, true, true, true, true, false] := by
            have hs : listed.size = 6 := hm.size
            have n5 := getD_both (hm.rest 5 (by simp))
            rw [listed_all listed, hs]
            simp only [List.range, List.range.loop, List.map, n5, hall 0 (by simp), hall 1 (by simp), hall 2 (by simp), hall 3 (by simp), hall 4 (by simp)]
          have hz8 : NumAt w8 (gg 18) (sumV vs + z) := hh 4 _ _ (hall 4 (by simp)) rfl rfl
          have hJ8 := hm.inv
          have Hrow5 := Lib.hid ((hJ8.block (by show _ < W2.heap.size; have := Hbxs.out.2; omega) Hn5.out.1).trans H5b.out.1)
          have Hrow4 := Lib.hid ((hJ8.block (by show _ < W2.heap.size; have := Hbxs.out.2; omega) Hn5.out.2.2).trans H4b.out)
          have HJ8 := Lib.hid hJ8
          subst hl
          clear hm hall hh hJ8
          subst ha
          simp only [setAll]
          obtain ⟨fu, rfl⟩ : ∃ fu, fuel = fu + 1 := ⟨fuel - 1, by simp at hc; omega⟩
          have HZ8 := Lib.hid hz8
          obtain ⟨A8, c8, ds8, e8, _⟩ := hz8
          rw [e8] at HZ8 ⊢
          generalize ds8.length = n8 at *
          generalize decide (sumV vs + z < 0) = b8 at *
          clear e8 hc
          obtain ⟨hf0, hf1, hc0, hc1⟩ := row_facts Hrow5.out
          generalize gg 14 = g14, gg 15 = g15, gg 16 = g16, gg 17 = g17
          simp only [List.setIfInBounds_toArray, List.set_cons_zero, List.set_cons_succ]
          refine wpAny_ready (rs := [5]) (by kernel_rfl) (by simp) ?_
          refine AllReady.cons rfl (fun K3 hK3 => ?_) AllReady.nil
          go_simp
          refine hK3 _ _ (wpAny_done (by kernel_rfl) ?_ _)
          go_wp2_with fail
          go_roundw
          case rel =>
            obtain ⟨nv8, bv8, hs8, hf8⟩ := HJ8.out
            have hn8 : ¬ stK a nv8 bv8 (w.heap.size + 1) := hs8.other Hrow5.out (by decide) (by decide) (by decide)
            have hF8 : Fr (stK a nv bv) (stK a nv8 bv8) w w8 := ((HF.out.then Hbx.out).then ((Below.refl _ _).drew)).trans hf8
            refine ⟨k + 1, n8, c8, vs ++ [.num z], nv8, bv8, A8, b8, by omega, by go_num, Lib.hid ⟨Hev2.out, by simp [Hev.out.2]⟩, Lib.hid ?_, Lib.hid ⟨box_set2 Hrow5.out, ?_⟩, Lib.hid ((hs8.setCell hn8 (by have := Hlo.out; omega) 0 _).setCell hn8 (by have := Hlo.out; omega) 1 _), Lib.hid (hF8.out (((Below.refl _ _).setCell (p := ⟨w.heap.size + 1, 0, none⟩) (by simp) _).setCell (p := ⟨w.heap.size + 1, 1, none⟩) (by simp) _))⟩
            · rw [Below.heap_setCell _ _ _ _ (by simp), Below.heap_setCell _ _ _ _ (by simp)]
              exact Hrow4.out
            · rw [sumV_snoc]
              exact NumAt.boxed2 Hrow5.out HZ8.out
          case measure => simp [intOf]; omega
    · have hkl : k = l.length := by omega
      subst hkl
      have Hall : Hid (evals τ M.sig M.tbs M.objs l (envOf ns bs) = .ok vs) := Lib.hid (by have := Hev.out.1; rwa [List.take_length] at this)
      obtain ⟨f0, f1, g0, g1⟩ := row_facts H5.out.1
      obtain ⟨f2, f3, g2, g3⟩ := row_facts H4.out
      have hn4 := Lib.hid (HS.out.other H4.out (by decide) (by decide) (by decide))
      go_wp2_with fail
      refine bodyPost_ret (results_cell_row rfl _ _ w.heap.size 89 #[.slice A5 n5 c5, .bool b5] (0, 0) _ rfl (box_set2 H4.out) Tryz.underlying89 rfl size101) rfl (.inl ⟨vs, Hall.out, _, nvk, bvk, rfl, NumAt.boxed2 H4.out H5.out.2, (HS.out.setCell hn4.out Hlo.out 0 _).setCell hn4.out Hlo.out 1 _, HF.out.out (((Below.refl _ _).setCell (p := ⟨w.heap.size, 0, none⟩) (by simp) _).setCell (p := ⟨w.heap.size, 1, none⟩) (by simp) _)⟩)
end Go.Proofs.YtbnonccmlildnaaGreat
