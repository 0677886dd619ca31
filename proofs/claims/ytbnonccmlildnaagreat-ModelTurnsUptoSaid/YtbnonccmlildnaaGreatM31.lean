/- Formulas: each connective. -/
import Derived.Test.YtbnonccmlildnaaGreatM30
import Derived.Deep.QuietTactic
import Derived.BigQuiet
set_option linter.unusedSimpArgs false
set_option linter.unusedVariables false
namespace Go.Proofs.YtbnonccmlildnaaGreat
open Go.RowKit

variable {M : Mdl} {τ : Nat → List UInt8} {a : Nat} {ns : List ByteArray} {bs : List Nat} {nv bv : Value} {w : World}
theorem conn_err {p : Parts} {l : List Tm} {r : Except Int Vl} {er : Int} (hs : St M a ns bs nv bv w) (h : CPre M τ a ns bs p l) (h9 : (p.op == 9) = false) (h10 : (p.op == 10) = false) (h11 : (p.op == 11) = false) (h19 : (p.op == 19) = false) (he : evals τ M.sig M.tbs M.objs l (envOf ns bs) = .error er) (hr : r = .error er) :
    Calls Tryz.prog 43 #[.pointer (some ⟨a, 0, none⟩), .agg p.arr] w (BPost M a ns bs nv bv w r) := by
  have Hcall : Hid (Calls Tryz.prog 78 #[.pointer (some ⟨a, 0, none⟩), .slice p.A l.length p.ca] (boxT w p) (VErr M)) := Lib.hid ((h.call _ _ _ (hs.next (below_boxT w p))).mono fun e w' hp => by
    rcases hp with ⟨vs, hb, _⟩ | ⟨er', _, hv⟩
    · rw [he] at hb; cases hb
    · exact hv)
  have HW0 : Hid (boxT w p = w.alloc (.cells #[.int .i64 p.op, .string p.name, .int .i64 p.sort, .string p.n, .slice p.A p.la p.ca, .slice p.V p.lv p.cv, .slice p.P p.lp p.cp] 29)) := Lib.hid rfl
  have hla := h.la
  obtain ⟨op', nm', so', n', A', la', ca', V', lv', cv', P', lp', cp'⟩ := p
  dsimp only at h9 h10 h11 h19 HW0 hla Hcall
  subst hla hr
  clear hs h he
  unfold Parts.arr
  dsimp only
  go_enter Tryz.func43, Tryz.ntmps43
  go_wp2_with (go_at_call 78; rw [← HW0.out]; refine Calls.mono Hcall.out ?_; rintro e w8 ⟨rfl, hb8⟩; have Hb8 := Lib.hid hb8; clear hb8)
  exact ⟨rfl, .inr ⟨er, rfl, rfl, Hb8.out⟩⟩
/-- What a connective's walk has behind its operands' truths. -/
theorem conn_call {p : Parts} {l : List Tm} {vs : List Vl} (hs : St M a ns bs nv bv w) (h : CPre M τ a ns bs p l) (he : evals τ M.sig M.tbs M.objs l (envOf ns bs) = .ok vs) :
    Calls Tryz.prog 78 #[.pointer (some ⟨a, 0, none⟩), .slice p.A l.length p.ca] (boxT w p) fun e w' => ∃ A c nv' bv', e = .returned (.slice A l.length c) ∧ TrsAt w' A (vs.map asBool) ∧ St M a ns bs nv' bv' w' ∧ Fr (stK a nv bv) (stK a nv' bv') w w' ∧ w'.heap[w.heap.size]? = some (.cells p.arr 29 (0, 0)) :=
  (h.call _ _ _ (hs.next (below_boxT w p))).mono fun e w' hp => by
    rcases hp with ⟨vs', hb, hk⟩ | ⟨er', he', _⟩
    · rw [he] at hb
      cases hb
      obtain ⟨v, nv', bv', rfl, ho, h1, h2⟩ := hk
      obtain ⟨A, c, rfl, ht⟩ := own_trs ho
      have hlen : (vs.map asBool).length = l.length := by rw [List.length_map, evals_length he]
      refine ⟨A, c, nv', bv', by rw [hlen], ht, h1, h2.ahead (below_boxT w p), ?_⟩
      have hs2 := hs.next (below_boxT w p)
      have hbox : (boxT w p).heap[w.heap.size]? = some (.cells p.arr 29 (0, 0)) := heap_alloc_new w _
      exact (h2.block _ (by rw [boxT_size]; omega) (hs2.other hbox (by decide) (by decide) (by decide))).trans hbox
    · rw [he] at he'; cases he'
theorem contains_boolq {w : World} {A : Option Addr} {n c : Nat} {l : List Bool} {q r : Bool} (hr : l.contains q = r) (h : TrsAt w A l) (hn : l.length = n) (hb : n ≤ 1000000) :
    Calls Tryz.prog 79 #[.slice A n c, .bool q] w fun e w' => e = .returned (.bool r) ∧ w = w' := by
  subst hr
  exact contains_bool h hn hb
theorem all_contains (vs : List Vl) : vs.all asBool = !(vs.map asBool).contains false := by
  induction vs with
  | nil => rfl
  | cons v vs ih =>
    rw [List.all_cons, ih, List.map_cons, List.contains_cons]
    cases asBool v <;> simp
theorem any_contains (vs : List Vl) : vs.any asBool = (vs.map asBool).contains true := by
  induction vs with
  | nil => rfl
  | cons v vs ih =>
    rw [List.any_cons, ih, List.map_cons, List.contains_cons]
    cases asBool v <;> simp
set_option maxRecDepth 100000 in
set_option maxHeartbeats 2000000 in
theorem conn_2 {p : Parts} {l : List Tm} {vs : List Vl} {n : ByteArray} (hs : St M a ns bs nv bv w) (h : CPre M τ a ns bs p l) (hop : p.op = 2) (he : evals τ M.sig M.tbs M.objs l (envOf ns bs) = .ok vs) :
    Calls Tryz.prog 43 #[.pointer (some ⟨a, 0, none⟩), .agg p.arr] w (BPost M a ns bs nv bv w (.ok (combV τ 2 n vs))) := by
  have Hcall := Lib.hid (conn_call hs h he)
  have HW0 : Hid (boxT w p = w.alloc (.cells #[.int .i64 p.op, .string p.name, .int .i64 p.sort, .string p.n, .slice p.A p.la p.ca, .slice p.V p.lv p.cv, .slice p.P p.lp p.cp] 29)) := Lib.hid rfl
  have hla := h.la
  have hlen := h.len
  have Hvl : Hid ((vs.map asBool).length = l.length) := Lib.hid (by rw [List.length_map, evals_length he])
  obtain ⟨op', nm', so', n', A', la', ca', V', lv', cv', P', lp', cp'⟩ := p
  dsimp only at hop HW0 hla Hcall
  subst hla hop
  clear hs h he
  unfold Parts.arr
  dsimp only
  go_enter Tryz.func43, Tryz.ntmps43
  go_wp2_with (first
    | (go_at_call 78; rw [← HW0.out]; refine Calls.mono Hcall.out ?_; rintro e w8 ⟨A8, c8, nv8, bv8, rfl, ht8, hs8, hf8, hr8⟩; obtain ⟨c0, c1, c2, c3, c4, c5, c6⟩ := box_cells hr8; dsimp only at c0 c1 c2 c3 c4 c5 c6; have HT8 := Lib.hid ht8; have HS8 := Lib.hid hs8; have HF8 := Lib.hid hf8;  clear ht8 hs8 hf8 hr8))
  go_ret
  refine .inl ⟨_, rfl, nv8, bv8, rfl, HS8.out, HF8.out⟩
set_option maxRecDepth 100000 in
set_option maxHeartbeats 2000000 in
theorem conn_3 {p : Parts} {l : List Tm} {vs : List Vl} {n : ByteArray} (hs : St M a ns bs nv bv w) (h : CPre M τ a ns bs p l) (hop : p.op = 3) (he : evals τ M.sig M.tbs M.objs l (envOf ns bs) = .ok vs) :
    Calls Tryz.prog 43 #[.pointer (some ⟨a, 0, none⟩), .agg p.arr] w (BPost M a ns bs nv bv w (.ok (combV τ 3 n vs))) := by
  have Hcall := Lib.hid (conn_call hs h he)
  have HW0 : Hid (boxT w p = w.alloc (.cells #[.int .i64 p.op, .string p.name, .int .i64 p.sort, .string p.n, .slice p.A p.la p.ca, .slice p.V p.lv p.cv, .slice p.P p.lp p.cp] 29)) := Lib.hid rfl
  have hla := h.la
  have hlen := h.len
  have Hvl : Hid ((vs.map asBool).length = l.length) := Lib.hid (by rw [List.length_map, evals_length he])
  obtain ⟨op', nm', so', n', A', la', ca', V', lv', cv', P', lp', cp'⟩ := p
  dsimp only at hop HW0 hla Hcall
  subst hla hop
  clear hs h he
  unfold Parts.arr
  dsimp only
  go_enter Tryz.func43, Tryz.ntmps43
  go_wp2_with (first
    | (go_at_call 78; rw [← HW0.out]; refine Calls.mono Hcall.out ?_; rintro e w8 ⟨A8, c8, nv8, bv8, rfl, ht8, hs8, hf8, hr8⟩; obtain ⟨c0, c1, c2, c3, c4, c5, c6⟩ := box_cells hr8; dsimp only at c0 c1 c2 c3 c4 c5 c6; have HT8 := Lib.hid ht8; have HS8 := Lib.hid hs8; have HF8 := Lib.hid hf8;  clear ht8 hs8 hf8 hr8))
  go_ret
  refine .inl ⟨_, rfl, nv8, bv8, rfl, HS8.out, HF8.out⟩
set_option maxRecDepth 100000 in
set_option maxHeartbeats 2000000 in
theorem conn_4 {p : Parts} {l : List Tm} {vs : List Vl} {n : ByteArray} (hs : St M a ns bs nv bv w) (h : CPre M τ a ns bs p l) (hop : p.op = 4) (he : evals τ M.sig M.tbs M.objs l (envOf ns bs) = .ok vs) (hl1 : l.length = 1) :
    Calls Tryz.prog 43 #[.pointer (some ⟨a, 0, none⟩), .agg p.arr] w (BPost M a ns bs nv bv w (.ok (combV τ 4 n vs))) := by
  have Hcall := Lib.hid (conn_call hs h he)
  have HW0 : Hid (boxT w p = w.alloc (.cells #[.int .i64 p.op, .string p.name, .int .i64 p.sort, .string p.n, .slice p.A p.la p.ca, .slice p.V p.lv p.cv, .slice p.P p.lp p.cp] 29)) := Lib.hid rfl
  have hla := h.la
  have hlen := h.len
  have Hvl : Hid ((vs.map asBool).length = l.length) := Lib.hid (by rw [List.length_map, evals_length he])
  obtain ⟨v0, rfl⟩ : ∃ v, vs = [v] := by
    have := evals_length he
    rw [hl1] at this
    match vs, this with
    | [v], _ => exact ⟨v, rfl⟩
  obtain ⟨b0, hb0⟩ : ∃ b, b = asBool v0 := ⟨_, rfl⟩
  have Hb0v := Lib.hid hb0.symm
  obtain ⟨op', nm', so', n', A', la', ca', V', lv', cv', P', lp', cp'⟩ := p
  dsimp only at hop HW0 hla Hcall
  subst hla hop
  clear hs h he
  unfold Parts.arr
  dsimp only
  clear hb0 hlen
  rw [hl1] at Hcall ⊢
  rw [hl1] at HW0
  clear hl1 Hvl
  go_enter Tryz.func43, Tryz.ntmps43
  go_wp2_with (first
    | (go_at_call 78; rw [← HW0.out]; refine Calls.mono Hcall.out ?_; rintro e w8 ⟨A8, c8, nv8, bv8, rfl, ht8, hs8, hf8, hr8⟩; obtain ⟨c0, c1, c2, c3, c4, c5, c6⟩ := box_cells hr8; dsimp only at c0 c1 c2 c3 c4 c5 c6; have HT8 := Lib.hid ht8; have HS8 := Lib.hid hs8; have HF8 := Lib.hid hf8; obtain ⟨g8, rfl, hg8⟩ : ∃ g, A8 = some ⟨g, 0, none⟩ ∧ w8.cell? ⟨g, 0, none⟩ = some (.bool b0) := (by rcases ht8 with h0 | ⟨g, hA, hc⟩; exact absurd h0 (by simp); exact ⟨g, hA, hc 0 _ (by rw [← Hb0v.out]; rfl)⟩); clear ht8 hs8 hf8 hr8))
  go_ret
  refine .inl ⟨_, by rw [← Hb0v.out]; rfl, nv8, bv8, rfl, HS8.out, HF8.out⟩
set_option maxRecDepth 100000 in
set_option maxHeartbeats 2000000 in
theorem conn_5 {p : Parts} {l : List Tm} {vs : List Vl} {n : ByteArray} (hs : St M a ns bs nv bv w) (h : CPre M τ a ns bs p l) (hop : p.op = 5) (he : evals τ M.sig M.tbs M.objs l (envOf ns bs) = .ok vs) :
    Calls Tryz.prog 43 #[.pointer (some ⟨a, 0, none⟩), .agg p.arr] w (BPost M a ns bs nv bv w (.ok (combV τ 5 n vs))) := by
  have Hcall := Lib.hid (conn_call hs h he)
  have HW0 : Hid (boxT w p = w.alloc (.cells #[.int .i64 p.op, .string p.name, .int .i64 p.sort, .string p.n, .slice p.A p.la p.ca, .slice p.V p.lv p.cv, .slice p.P p.lp p.cp] 29)) := Lib.hid rfl
  have hla := h.la
  have hlen := h.len
  have Hvl : Hid ((vs.map asBool).length = l.length) := Lib.hid (by rw [List.length_map, evals_length he])
  obtain ⟨q, hq⟩ : ∃ q, (vs.map asBool).contains false = q := ⟨_, rfl⟩
  have hac := all_contains vs
  rw [hq] at hac
  have Hac := Lib.hid hac
  have Hq := Lib.hid hq
  clear hac hq
  obtain ⟨op', nm', so', n', A', la', ca', V', lv', cv', P', lp', cp'⟩ := p
  dsimp only at hop HW0 hla Hcall
  subst hla hop
  clear hs h he
  unfold Parts.arr
  dsimp only
  go_enter Tryz.func43, Tryz.ntmps43
  go_wp2_with (first
    | (go_at_call 78; rw [← HW0.out]; refine Calls.mono Hcall.out ?_; rintro e w8 ⟨A8, c8, nv8, bv8, rfl, ht8, hs8, hf8, hr8⟩; obtain ⟨c0, c1, c2, c3, c4, c5, c6⟩ := box_cells hr8; dsimp only at c0 c1 c2 c3 c4 c5 c6; have HT8 := Lib.hid ht8; have HS8 := Lib.hid hs8; have HF8 := Lib.hid hf8;  clear ht8 hs8 hf8 hr8)
    | (go_at_call 79; refine Calls.mono (contains_boolq Hq.out HT8.out Hvl.out hlen) ?_; rintro e w9 ⟨rfl, rfl⟩))
  go_ret
  have Hb9 : Hid (Below w8.heap.size w8 w8) := Lib.hid (Below.refl _ _)
  refine .inl ⟨_, by show Except.ok (Vl.tr (vs.all asBool)) = _; rw [Hac.out], nv8, bv8, rfl, HS8.out.next Hb9.out, HF8.out.then Hb9.out⟩
set_option maxRecDepth 100000 in
set_option maxHeartbeats 2000000 in
theorem conn_6 {p : Parts} {l : List Tm} {vs : List Vl} {n : ByteArray} (hs : St M a ns bs nv bv w) (h : CPre M τ a ns bs p l) (hop : p.op = 6) (he : evals τ M.sig M.tbs M.objs l (envOf ns bs) = .ok vs) :
    Calls Tryz.prog 43 #[.pointer (some ⟨a, 0, none⟩), .agg p.arr] w (BPost M a ns bs nv bv w (.ok (combV τ 6 n vs))) := by
  have Hcall := Lib.hid (conn_call hs h he)
  have HW0 : Hid (boxT w p = w.alloc (.cells #[.int .i64 p.op, .string p.name, .int .i64 p.sort, .string p.n, .slice p.A p.la p.ca, .slice p.V p.lv p.cv, .slice p.P p.lp p.cp] 29)) := Lib.hid rfl
  have hla := h.la
  have hlen := h.len
  have Hvl : Hid ((vs.map asBool).length = l.length) := Lib.hid (by rw [List.length_map, evals_length he])
  obtain ⟨q, hq⟩ : ∃ q, (vs.map asBool).contains true = q := ⟨_, rfl⟩
  have hac := any_contains vs
  rw [hq] at hac
  have Hac := Lib.hid hac
  have Hq := Lib.hid hq
  clear hac hq
  obtain ⟨op', nm', so', n', A', la', ca', V', lv', cv', P', lp', cp'⟩ := p
  dsimp only at hop HW0 hla Hcall
  subst hla hop
  clear hs h he
  unfold Parts.arr
  dsimp only
  go_enter Tryz.func43, Tryz.ntmps43
  go_wp2_with (first
    | (go_at_call 78; rw [← HW0.out]; refine Calls.mono Hcall.out ?_; rintro e w8 ⟨A8, c8, nv8, bv8, rfl, ht8, hs8, hf8, hr8⟩; obtain ⟨c0, c1, c2, c3, c4, c5, c6⟩ := box_cells hr8; dsimp only at c0 c1 c2 c3 c4 c5 c6; have HT8 := Lib.hid ht8; have HS8 := Lib.hid hs8; have HF8 := Lib.hid hf8;  clear ht8 hs8 hf8 hr8)
    | (go_at_call 79; refine Calls.mono (contains_boolq Hq.out HT8.out Hvl.out hlen) ?_; rintro e w9 ⟨rfl, rfl⟩))
  go_ret
  have Hb9 : Hid (Below w8.heap.size w8 w8) := Lib.hid (Below.refl _ _)
  refine .inl ⟨_, by show Except.ok (Vl.tr (vs.any asBool)) = _; rw [Hac.out], nv8, bv8, rfl, HS8.out.next Hb9.out, HF8.out.then Hb9.out⟩
set_option maxRecDepth 100000 in
set_option maxHeartbeats 2000000 in
theorem conn_7 {p : Parts} {l : List Tm} {vs : List Vl} {n : ByteArray} (hs : St M a ns bs nv bv w) (h : CPre M τ a ns bs p l) (hop : p.op = 7) (he : evals τ M.sig M.tbs M.objs l (envOf ns bs) = .ok vs) (hl2 : l.length = 2) :
    Calls Tryz.prog 43 #[.pointer (some ⟨a, 0, none⟩), .agg p.arr] w (BPost M a ns bs nv bv w (.ok (combV τ 7 n vs))) := by
  have Hcall := Lib.hid (conn_call hs h he)
  have HW0 : Hid (boxT w p = w.alloc (.cells #[.int .i64 p.op, .string p.name, .int .i64 p.sort, .string p.n, .slice p.A p.la p.ca, .slice p.V p.lv p.cv, .slice p.P p.lp p.cp] 29)) := Lib.hid rfl
  have hla := h.la
  have hlen := h.len
  have Hvl : Hid ((vs.map asBool).length = l.length) := Lib.hid (by rw [List.length_map, evals_length he])
  obtain ⟨v0, v1, rfl⟩ : ∃ v u, vs = [v, u] := by
    have := evals_length he
    rw [hl2] at this
    match vs, this with
    | [v, u], _ => exact ⟨v, u, rfl⟩
  obtain ⟨b0, hb0⟩ : ∃ b, b = asBool v0 := ⟨_, rfl⟩
  have Hb0v := Lib.hid hb0.symm
  obtain ⟨b1, hb1⟩ : ∃ b, b = asBool v1 := ⟨_, rfl⟩
  have Hb1v := Lib.hid hb1.symm
  obtain ⟨op', nm', so', n', A', la', ca', V', lv', cv', P', lp', cp'⟩ := p
  dsimp only at hop HW0 hla Hcall
  subst hla hop
  clear hs h he
  unfold Parts.arr
  dsimp only
  clear hb0 hb1 hlen
  rw [hl2] at Hcall ⊢
  rw [hl2] at HW0
  clear hl2 Hvl
  cases b0 with
  | true =>
    go_enter Tryz.func43, Tryz.ntmps43
    go_wp2_with (first
      | (go_at_call 78; rw [← HW0.out]; refine Calls.mono Hcall.out ?_; rintro e w8 ⟨A8, c8, nv8, bv8, rfl, ht8, hs8, hf8, hr8⟩; obtain ⟨c0, c1, c2, c3, c4, c5, c6⟩ := box_cells hr8; dsimp only at c0 c1 c2 c3 c4 c5 c6; have HT8 := Lib.hid ht8; have HS8 := Lib.hid hs8; have HF8 := Lib.hid hf8; obtain ⟨g8, rfl, hg8, hg9⟩ : ∃ g, A8 = some ⟨g, 0, none⟩ ∧ w8.cell? ⟨g, 0, none⟩ = some (.bool true) ∧ w8.cell? ⟨g, 1, none⟩ = some (.bool b1) := (by rcases ht8 with h0 | ⟨g, hA, hc⟩; exact absurd h0 (by simp); exact ⟨g, hA, hc 0 _ (by rw [← Hb0v.out]; rfl), hc 1 _ (by rw [← Hb1v.out]; rfl)⟩); clear ht8 hs8 hf8 hr8))
    go_ret
    refine .inl ⟨_, by show Except.ok (Vl.tr (!asBool v0 || asBool v1)) = _; rw [Hb0v.out, Hb1v.out]; rfl, nv8, bv8, rfl, HS8.out, HF8.out⟩
  | false =>
    go_enter Tryz.func43, Tryz.ntmps43
    go_wp2_with (first
      | (go_at_call 78; rw [← HW0.out]; refine Calls.mono Hcall.out ?_; rintro e w8 ⟨A8, c8, nv8, bv8, rfl, ht8, hs8, hf8, hr8⟩; obtain ⟨c0, c1, c2, c3, c4, c5, c6⟩ := box_cells hr8; dsimp only at c0 c1 c2 c3 c4 c5 c6; have HT8 := Lib.hid ht8; have HS8 := Lib.hid hs8; have HF8 := Lib.hid hf8; obtain ⟨g8, rfl, hg8, hg9⟩ : ∃ g, A8 = some ⟨g, 0, none⟩ ∧ w8.cell? ⟨g, 0, none⟩ = some (.bool false) ∧ w8.cell? ⟨g, 1, none⟩ = some (.bool b1) := (by rcases ht8 with h0 | ⟨g, hA, hc⟩; exact absurd h0 (by simp); exact ⟨g, hA, hc 0 _ (by rw [← Hb0v.out]; rfl), hc 1 _ (by rw [← Hb1v.out]; rfl)⟩); clear ht8 hs8 hf8 hr8))
    go_ret
    refine .inl ⟨_, by show Except.ok (Vl.tr (!asBool v0 || asBool v1)) = _; rw [Hb0v.out, Hb1v.out]; rfl, nv8, bv8, rfl, HS8.out, HF8.out⟩
set_option maxRecDepth 100000 in
set_option maxHeartbeats 2000000 in
theorem conn_8 {p : Parts} {l : List Tm} {vs : List Vl} {n : ByteArray} (hs : St M a ns bs nv bv w) (h : CPre M τ a ns bs p l) (hop : p.op = 8) (he : evals τ M.sig M.tbs M.objs l (envOf ns bs) = .ok vs) (hl2 : l.length = 2) :
    Calls Tryz.prog 43 #[.pointer (some ⟨a, 0, none⟩), .agg p.arr] w (BPost M a ns bs nv bv w (.ok (combV τ 8 n vs))) := by
  have Hcall := Lib.hid (conn_call hs h he)
  have HW0 : Hid (boxT w p = w.alloc (.cells #[.int .i64 p.op, .string p.name, .int .i64 p.sort, .string p.n, .slice p.A p.la p.ca, .slice p.V p.lv p.cv, .slice p.P p.lp p.cp] 29)) := Lib.hid rfl
  have hla := h.la
  have hlen := h.len
  have Hvl : Hid ((vs.map asBool).length = l.length) := Lib.hid (by rw [List.length_map, evals_length he])
  obtain ⟨v0, v1, rfl⟩ : ∃ v u, vs = [v, u] := by
    have := evals_length he
    rw [hl2] at this
    match vs, this with
    | [v, u], _ => exact ⟨v, u, rfl⟩
  obtain ⟨b0, hb0⟩ : ∃ b, b = asBool v0 := ⟨_, rfl⟩
  have Hb0v := Lib.hid hb0.symm
  obtain ⟨b1, hb1⟩ : ∃ b, b = asBool v1 := ⟨_, rfl⟩
  have Hb1v := Lib.hid hb1.symm
  obtain ⟨op', nm', so', n', A', la', ca', V', lv', cv', P', lp', cp'⟩ := p
  dsimp only at hop HW0 hla Hcall
  subst hla hop
  clear hs h he
  unfold Parts.arr
  dsimp only
  clear hb0 hb1 hlen
  rw [hl2] at Hcall ⊢
  rw [hl2] at HW0
  clear hl2 Hvl
  go_enter Tryz.func43, Tryz.ntmps43
  go_wp2_with (first
    | (go_at_call 78; rw [← HW0.out]; refine Calls.mono Hcall.out ?_; rintro e w8 ⟨A8, c8, nv8, bv8, rfl, ht8, hs8, hf8, hr8⟩; obtain ⟨c0, c1, c2, c3, c4, c5, c6⟩ := box_cells hr8; dsimp only at c0 c1 c2 c3 c4 c5 c6; have HT8 := Lib.hid ht8; have HS8 := Lib.hid hs8; have HF8 := Lib.hid hf8; obtain ⟨g8, rfl, hg8, hg9⟩ : ∃ g, A8 = some ⟨g, 0, none⟩ ∧ w8.cell? ⟨g, 0, none⟩ = some (.bool b0) ∧ w8.cell? ⟨g, 1, none⟩ = some (.bool b1) := (by rcases ht8 with h0 | ⟨g, hA, hc⟩; exact absurd h0 (by simp); exact ⟨g, hA, hc 0 _ (by rw [← Hb0v.out]; rfl), hc 1 _ (by rw [← Hb1v.out]; rfl)⟩); clear ht8 hs8 hf8 hr8))
  go_quiet (fail)
  go_wp2_with fail
  go_ret
  refine .inl ⟨_, by show Except.ok (Vl.tr (asBool v0 == asBool v1)) = _; rw [Hb0v.out, Hb1v.out], nv8, bv8, rfl, HS8.out.next (below_drewN (Below.refl _ _) _), HF8.out.then (below_drewN (Below.refl _ _) _)⟩
end Go.Proofs.YtbnonccmlildnaaGreat

/- Formulas: at most, less. -/
namespace Go.Proofs.YtbnonccmlildnaaGreat
open Go.RowKit

def leSpec (a : Nat) (K : Nat) (va : Value) (la : Value) (lp : Addr) (q : Parts) (z0 : Int) (z1 : Int) (F : Int) : Nat → World → Value → Prop
  | 0, w, v => v = va ∧ NumAt w va z0
  | 1, _, v => v = .pointer (some ⟨a, 0, none⟩)
  | 2, _, v => v = .pointer (some ⟨K, 4, none⟩)
  | 3, _, v => v = la
  | 4, _, v => v = .pointer (some lp)
  | 5, _, v => v = .agg q.arr
  | 6, w, v => NumAt w v z1
  | 7, w, v => v = .int .i64 F
  | 8, _, v => v = .int .i64 F
  | _, _, _ => True
theorem leSpec_keep (a : Nat) (K : Nat) (va : Value) (la : Value) (lp : Addr) (q : Parts) (z0 : Int) (z1 : Int) (F : Int) (i : Nat) (w w' : World) (v : Value) (h : leSpec a K va la lp q z0 z1 F i w v) (hb : NumKeep w w') : leSpec a K va la lp q z0 z1 F i w' v :=
  match i, h with
  | 0, h => ⟨h.1, hb _ _ h.2⟩
  | 1, h => h
  | 2, h => h
  | 3, h => h
  | 4, h => h
  | 5, h => h
  | 6, h => hb _ _ h
  | 7, h => h
  | 8, h => h
  | n + 9, _ => trivial
def leSpecE (a : Nat) (K : Nat) (va : Value) (la : Value) (lp : Addr) (q : Parts) (z0 : Int) (z1 : Int) (F : Int) : Nat → World → Value → Prop
  | 0, w, v => v = va ∧ NumAt w va z0
  | 1, _, v => v = .pointer (some ⟨a, 0, none⟩)
  | 2, _, v => v = .pointer (some ⟨K, 4, none⟩)
  | 3, _, v => v = la
  | 4, _, v => v = .pointer (some lp)
  | 5, _, v => v = .agg q.arr
  | 6, _, _ => False
  | 7, _, _ => False
  | 8, _, _ => False
  | _, _, _ => True
theorem leSpecE_keep (a : Nat) (K : Nat) (va : Value) (la : Value) (lp : Addr) (q : Parts) (z0 : Int) (z1 : Int) (F : Int) (i : Nat) (w w' : World) (v : Value) (h : leSpecE a K va la lp q z0 z1 F i w v) (hb : NumKeep w w') : leSpecE a K va la lp q z0 z1 F i w' v :=
  match i, h with
  | 0, h => ⟨h.1, hb _ _ h.2⟩
  | 1, h => h
  | 2, h => h
  | 3, h => h
  | 4, h => h
  | 5, h => h
  | 6, h => h
  | 7, h => h
  | 8, h => h
  | n + 9, _ => trivial
variable {M : Mdl} {τ : Nat → List UInt8} {a : Nat} {ns : List ByteArray} {bs : List Nat} {nv bv : Value} {w : World}
set_option maxRecDepth 100000 in
set_option maxHeartbeats 4000000 in
theorem form_10 {m : Nat} {p q0 q1 : Parts} {t0 t1 : Tm} {n : ByteArray} (hop : p.op = 10) (hs : St M a ns bs nv bv w) (h2 : Two M τ a ns bs m p t0 t1 q0 q1) (hm : m ≤ 1000000000000)
    (hT0 : ∀ x, evalT τ M.sig M.tbs M.objs t0 (envOf ns bs) = .ok x → ∃ z, x = .num z) (hT1 : ∀ x, evalT τ M.sig M.tbs M.objs t1 (envOf ns bs) = .ok x → ∃ z, x = .num z) :
    Calls Tryz.prog 43 #[.pointer (some ⟨a, 0, none⟩), .agg p.arr] w (BPost M a ns bs nv bv w (bindL (evals τ M.sig M.tbs M.objs [t0, t1] (envOf ns bs)) fun vs => .ok (combV τ 10 n vs))) := by
  obtain ⟨e1, e2, e3⟩ := evals_pair (τ := τ) (sig := M.sig) (tbs := M.tbs) (objs := M.objs) (env := envOf ns bs) (t0 := t0) (t1 := t1) (F := fun vs => .ok (combV τ 10 n vs))
  generalize bindL (evals τ M.sig M.tbs M.objs [t0, t1] (envOf ns bs)) (fun vs => .ok (combV τ 10 n vs)) = r at *
  obtain ⟨hla, ⟨b, o, hA, hc⟩, v0, v1, i0, i1⟩ := h2
  have Hs := Lib.hid (hs.next (below_boxT w p))
  have Hb0 := Lib.hid (below_boxT w p)
  have HW0 : Hid (boxT w p = w.alloc (.cells #[.int .i64 p.op, .string p.name, .int .i64 p.sort, .string p.n, .slice p.A p.la p.ca, .slice p.V p.lv p.cv, .slice p.P p.lp p.cp] 29)) := Lib.hid rfl
  have Hbox : Hid ((boxT w p).heap[w.heap.size]? = some (.cells p.arr 29 (0, 0)) ∧ w.heap.size < (boxT w p).heap.size) := Lib.hid ⟨heap_alloc_new w _, by rw [boxT_size]; omega⟩
  have Hc := Lib.hid hc
  have Hm := Lib.hid hm
  obtain ⟨c0, c1, c2, c3, c4, c5, c6⟩ := seven (hc _ Hs.out.below).1
  rw [HW0.out] at c0 c1 c2 c3 c4 c5 c6
  obtain ⟨op', nm', so', n', A', la', ca', V', lv', cv', P', lp', cp'⟩ := p
  dsimp only at hA hla hop HW0
  subst hA hla hop
  clear hs hc hm
  unfold Parts.arr
  dsimp only at c0 c1 c2 c3 c4 c5 c6 ⊢
  cases hr0 : evalT τ M.sig M.tbs M.objs t0 (envOf ns bs) with
  | error er =>
    have Hcall := Lib.hid (int_err (v0.fails hr0 Hs.out))
    have Hr := Lib.hid (e1 er hr0)
    clear e1 e2 e3 v0 v1 i0 i1 hr0 hT0 hT1
    go_enter Tryz.func43, Tryz.ntmps43
    go_wp2_with (go_at_call 35; rw [← HW0.out]; refine Calls.mono Hcall.out ?_; rintro e w8 ⟨rfl, hb8⟩; have Hb8 := Lib.hid hb8; clear hb8)
    exact ⟨rfl, .inr ⟨er, Hr.out, rfl, Hb8.out⟩⟩
  | ok x =>
    obtain ⟨z0, rfl⟩ := hT0 x hr0
    have Hcall := Lib.hid (int_ok Hs.out (v0.asks hr0 Hs.out))
    have Hin := Lib.hid (i0 _ hr0)
    have Hv1 := Lib.hid v1
    go_enter Tryz.func43, Tryz.ntmps43
    go_wp2_with (go_at_call 35; rw [← HW0.out]; refine Calls.mono Hcall.out ?_; rintro e w8 ⟨u8, nv8, bv8, rfl, hn8, hs8, hf8⟩; have HS8 := Lib.hid hs8; have HR8 := Lib.hid ((hf8.block _ Hbox.out.2 (Hs.out.other Hbox.out.1 (by decide) (by decide) (by decide))).trans Hbox.out.1); have HF8 := Lib.hid hf8; obtain ⟨A8, n8, c8, b8, rfl⟩ := parsed_shape hn8; have HN8 := Lib.hid hn8; clear hs8 hf8 hn8)
    have hal : Below w8.heap.size w8 (w8.alloc (.cells #[.slice A8 n8 c8, .bool b8] 89)) := (Below.refl _ _).alloc (Nat.le_refl _) _
    have hwl : w.heap.size < w8.heap.size := (Array.getElem?_eq_some_iff.1 HR8.out).1
    have H6b : Hid ((w8.alloc (.cells #[.slice A8 n8 c8, .bool b8] 89)).heap[w8.heap.size]? = some (.cells #[.slice A8 n8 c8, .bool b8] 89 (0, 0)) ∧ True) := Lib.hid ⟨heap_alloc_new _ _, trivial⟩
    have Hbx2 : Hid ((w8.alloc (.cells #[.slice A8 n8 c8, .bool b8] 89)).heap[w.heap.size]? = some (.cells (Parts.arr ⟨10, nm', so', n', some ⟨b, o, none⟩, 2, ca', V', lv', cv', P', lp', cp'⟩) 29 (0, 0))) := Lib.hid ((hal.block _ hwl).trans HR8.out)
    have HSa := Lib.hid (HS8.out.next hal)
    have HL6 : Hid (¬ stK a nv8 bv8 w8.heap.size ∧ w8.heap.size < (w8.alloc (.cells #[.slice A8 n8 c8, .bool b8] 89)).drew.heap.size) := Lib.hid ⟨fun hk => by have := (HS8.out.lt hk).2; omega, by show w8.heap.size < (w8.alloc (.cells #[.slice A8 n8 c8, .bool b8] 89)).heap.size; simp⟩
    have HLb : Hid (¬ stK a nv8 bv8 w.heap.size ∧ w.heap.size < (w8.alloc (.cells #[.slice A8 n8 c8, .bool b8] 89)).drew.heap.size) := Lib.hid ⟨HS8.out.other HR8.out (by decide) (by decide) (by decide), by show w.heap.size < (w8.alloc (.cells #[.slice A8 n8 c8, .bool b8] 89)).heap.size; simp; omega⟩
    have HNa := Lib.hid (HN8.out.mono (Nat.le_refl _) hal)
    have HFa := Lib.hid ((HF8.out.ahead Hb0.out).then hal)
    clear hal
    generalize w8.alloc (.cells #[.slice A8 n8 c8, .bool b8] 89) = W2 at *
    have HSd := Lib.hid (HSa.out.next ((Below.refl _ _).drew))
    have Hnum : Hid (∀ w', Stp M a ns bs nv8 bv8 W2.drew w' → NumAt w' (.agg #[.slice A8 n8 c8, .bool b8]) z0) := Lib.hid (fun w' ⟨nv', bv', h1, h2⟩ => NumAt.fr (HNa.out.mono (Nat.le_refl _) ((Below.refl _ _).drew)) HSd.out h2)
    have HStp : Hid (Stp M a ns bs nv8 bv8 W2.drew W2.drew) := Lib.hid (Stp.refl HSd.out)
    have HFd := Lib.hid (HFa.out.then ((Below.refl _ _).drew))
    cases hr1 : evalT τ M.sig M.tbs M.objs t1 (envOf ns bs) with
    | error er =>
      have Hr := Lib.hid (e2 _ er hr0 hr1)
      have Hcall1 : Hid (∀ w', Stp M a ns bs nv8 bv8 W2.drew w' → Calls Tryz.prog 35 #[.pointer (some ⟨a, 0, none⟩), .agg q1.arr] w' (VErr M)) := Lib.hid (fun w' ⟨nv', bv', h1, _⟩ => int_err (Hv1.out.fails hr1 h1))
      clear e1 e2 e3 v0 v1 i0 i1 hr0 hr1 hT0 hT1 c0 c1 c2 c3 c4 c5 c6
      refine wp_region_makesD [0, 1, 2, 3, 4, 5, 6, 7, 8] [] (Stp M a ns bs nv8 bv8 W2.drew) NumKeep (by kernel_rfl) (by kernel_rfl) (leSpecE_keep a w.heap.size (.agg #[.slice A8 n8 c8, .bool b8]) (.slice (some ⟨b, o, none⟩) 2 ca') ⟨b, o + 7, none⟩ q1 z0 0 0) HStp.out ?_ ?_
      · intro i o' ho hi3 a' w' hJ hdf hfr hd K hK
        obtain ⟨_, _, y0, y1⟩ := row_facts ((hJ.block HL6.out.2 HL6.out.1).trans H6b.out.1)
        obtain ⟨x0, x1, x2, x3, x4, x5, x6⟩ := box_cells ((hJ.block HLb.out.2 HLb.out.1).trans Hbx2.out)
        dsimp only at x0 x1 x2 x3 x4 x5 x6
        obtain ⟨d0, d1, d2, d3, d4, d5, d6⟩ := seven (Hc.out w' hJ.below).2
        have hv0 : a'.tmps.getD 0 undef = .pointer (some ⟨a, 0, none⟩) := hfr 0 (by kernel_rfl)
        have hv3 : a'.tmps.getD 3 undef = .pointer (some ⟨w.heap.size, 0, none⟩) := hfr 3 (by kernel_rfl)
        have hvN : a'.tmps.getD 6 undef = .pointer (some ⟨w8.heap.size, 0, none⟩) := hfr 6 (by kernel_rfl)
        rw [Array.getD_eq_getD_getElem?] at hv0 hv3 hvN
        have Hacc := Lib.hid (Hnum.out w' hJ)
        have HK := Lib.hid hK
        have HJ := Lib.hid hJ
        have Hdf := Lib.hid hdf
        clear hJ hK hfr hdf
        match i, ho with
        | 0, ho =>
          cases ho
          clear hd
          go_simp
          exact HK.out _ _ ⟨rfl, Hacc.out⟩ (NumKeep.refl _) HJ.out
        | 1, ho =>
          cases ho
          clear hd
          go_simp
          exact HK.out _ _ rfl (NumKeep.refl _) HJ.out
        | 2, ho =>
          cases ho
          clear hd
          go_simp
          exact HK.out _ _ rfl (NumKeep.refl _) HJ.out
        | 3, ho =>
          cases ho
          have e1 := hd ⟨2, .data⟩ (by simp) rfl _ _ rfl rfl
          simp only [leSpecE, Array.getD_eq_getD_getElem?] at e1
          clear hd
          go_simp
          exact HK.out _ _ rfl (NumKeep.refl _) HJ.out
        | 4, ho =>
          cases ho
          have e1 := hd ⟨3, .data⟩ (by simp) rfl _ _ rfl rfl
          simp only [leSpecE, Array.getD_eq_getD_getElem?] at e1
          clear hd
          go_simp
          exact HK.out _ _ rfl (NumKeep.refl _) HJ.out
        | 5, ho =>
          cases ho
          have e1 := hd ⟨4, .data⟩ (by simp) rfl _ _ rfl rfl
          simp only [leSpecE, Array.getD_eq_getD_getElem?] at e1
          clear hd
          go_simp
          exact HK.out _ _ rfl (NumKeep.refl _) HJ.out
        | 6, ho =>
          cases ho
          have e1 := hd ⟨1, .data⟩ (by simp) rfl _ _ rfl rfl
          have e2 := hd ⟨5, .data⟩ (by simp) rfl _ _ rfl rfl
          simp only [leSpecE, Array.getD_eq_getD_getElem?] at e1 e2
          clear hd
          go_simp
          refine (Hcall1.out w' HJ.out).mono ?_
          rintro e w9 ⟨rfl, hb9⟩
          exact ⟨Hdf.out, .inr ⟨er, Hr.out, rfl, hb9⟩⟩
        | 7, ho => cases ho; exact (hd ⟨6, .data⟩ (by simp) rfl _ _ rfl rfl : False).elim
        | 8, ho => cases ho; exact (hd ⟨7, .data⟩ (by simp) rfl _ _ rfl rfl : False).elim
        | n + 9, ho => simp at ho
      · intro fuel listed a' w8 hc hm hall
        exact (hm.held 6 _ _ (hall 6 (by simp)) rfl rfl : False).elim
    | ok y =>
      obtain ⟨z1, rfl⟩ := hT1 y hr1
      have Hr := Lib.hid (e3 _ _ hr0 hr1)
      have Hin1 := Lib.hid (i1 _ hr1)
      have Hcall1 : Hid (∀ w', Stp M a ns bs nv8 bv8 W2.drew w' → Calls Tryz.prog 35 #[.pointer (some ⟨a, 0, none⟩), .agg q1.arr] w' fun e w'' => ∃ u, e = .returned u ∧ NumAt w'' u z1 ∧ NumKeep w' w'' ∧ Stp M a ns bs nv8 bv8 W2.drew w'') := Lib.hid (fun w' ⟨nv', bv', h1, h2⟩ => (int_ok h1 (Hv1.out.asks hr1 h1)).mono fun e w'' ⟨u, nv9, bv9, e1, e2, e3, e4⟩ => ⟨u, e1, e2, fun v z hv => hv.fr h1 e4, nv9, bv9, e3, h2.trans e4⟩)
      clear e1 e2 e3 v0 v1 i0 i1 hr0 hr1 hT0 hT1 c0 c1 c2 c3 c4 c5 c6
      have Hbin : Hid (∀ w' u, NumAt w' (.agg #[.slice A8 n8 c8, .bool b8]) z0 → NumAt w' u z1 → Calls Tryz.prog 76 #[.agg #[.slice A8 n8 c8, .bool b8], u] w' fun e w'' => e = .returned (.int .i64 (cmpI z0 z1)) ∧ Below w'.heap.size w' w'') := Lib.hid (fun w' u h h' => Cmp_ex h h' Hin.out.1 Hin1.out.1 (by have := Hm.out; omega))
      refine wp_region_makesD [0, 1, 2, 3, 4, 5, 6, 7, 8] [] (Stp M a ns bs nv8 bv8 W2.drew) NumKeep (by kernel_rfl) (by kernel_rfl) (leSpec_keep a w.heap.size (.agg #[.slice A8 n8 c8, .bool b8]) (.slice (some ⟨b, o, none⟩) 2 ca') ⟨b, o + 7, none⟩ q1 z0 z1 (cmpI z0 z1)) HStp.out ?_ ?_
      · intro i o' ho hi3 a' w' hJ hdf hfr hd K hK
        obtain ⟨_, _, y0, y1⟩ := row_facts ((hJ.block HL6.out.2 HL6.out.1).trans H6b.out.1)
        obtain ⟨x0, x1, x2, x3, x4, x5, x6⟩ := box_cells ((hJ.block HLb.out.2 HLb.out.1).trans Hbx2.out)
        dsimp only at x0 x1 x2 x3 x4 x5 x6
        obtain ⟨d0, d1, d2, d3, d4, d5, d6⟩ := seven (Hc.out w' hJ.below).2
        have hv0 : a'.tmps.getD 0 undef = .pointer (some ⟨a, 0, none⟩) := hfr 0 (by kernel_rfl)
        have hv3 : a'.tmps.getD 3 undef = .pointer (some ⟨w.heap.size, 0, none⟩) := hfr 3 (by kernel_rfl)
        have hvN : a'.tmps.getD 6 undef = .pointer (some ⟨w8.heap.size, 0, none⟩) := hfr 6 (by kernel_rfl)
        rw [Array.getD_eq_getD_getElem?] at hv0 hv3 hvN
        have Hacc := Lib.hid (Hnum.out w' hJ)
        have HK := Lib.hid hK
        have HJ := Lib.hid hJ
        have Hdf := Lib.hid hdf
        clear hJ hK hfr hdf
        match i, ho with
        | 0, ho =>
          cases ho
          clear hd
          go_simp
          exact HK.out _ _ ⟨rfl, Hacc.out⟩ (NumKeep.refl _) HJ.out
        | 1, ho =>
          cases ho
          clear hd
          go_simp
          exact HK.out _ _ rfl (NumKeep.refl _) HJ.out
        | 2, ho =>
          cases ho
          clear hd
          go_simp
          exact HK.out _ _ rfl (NumKeep.refl _) HJ.out
        | 3, ho =>
          cases ho
          have e1 := hd ⟨2, .data⟩ (by simp) rfl _ _ rfl rfl
          simp only [leSpec, Array.getD_eq_getD_getElem?] at e1
          clear hd
          go_simp
          exact HK.out _ _ rfl (NumKeep.refl _) HJ.out
        | 4, ho =>
          cases ho
          have e1 := hd ⟨3, .data⟩ (by simp) rfl _ _ rfl rfl
          simp only [leSpec, Array.getD_eq_getD_getElem?] at e1
          clear hd
          go_simp
          exact HK.out _ _ rfl (NumKeep.refl _) HJ.out
        | 5, ho =>
          cases ho
          have e1 := hd ⟨4, .data⟩ (by simp) rfl _ _ rfl rfl
          simp only [leSpec, Array.getD_eq_getD_getElem?] at e1
          clear hd
          go_simp
          exact HK.out _ _ rfl (NumKeep.refl _) HJ.out
        | 6, ho =>
          cases ho
          have e1 := hd ⟨1, .data⟩ (by simp) rfl _ _ rfl rfl
          have e2 := hd ⟨5, .data⟩ (by simp) rfl _ _ rfl rfl
          simp only [leSpec, Array.getD_eq_getD_getElem?] at e1 e2
          clear hd
          go_simp
          refine (Hcall1.out w' HJ.out).mono ?_
          rintro e w9 ⟨u9, rfl, hn9, hk9, hj9⟩
          exact HK.out _ _ hn9 hk9 hj9
        | 7, ho =>
          cases ho
          have e1 := hd ⟨0, .data⟩ (by simp) rfl _ _ rfl rfl
          have e2 := hd ⟨6, .data⟩ (by simp) rfl _ _ rfl rfl
          simp only [leSpec, Array.getD_eq_getD_getElem?] at e1 e2
          have Hop := Lib.hid (Hbin.out w' _ e1.2 e2)
          have e10 := e1.1
          clear e1 e2 hd
          go_simp
          refine Hop.out.mono ?_
          rintro e w9 ⟨rfl, hb9⟩
          exact HK.out _ _ rfl (NumKeep.below hb9) (HJ.out.next hb9)
        | 8, ho =>
          cases ho
          have e1 := hd ⟨7, .data⟩ (by simp) rfl _ _ rfl rfl
          simp only [leSpec, Array.getD_eq_getD_getElem?] at e1
          clear hd
          go_simp
          exact HK.out _ _ rfl (NumKeep.refl _) HJ.out
        | n + 9, ho => simp at ho
      · intro fuel listed a' w8 hc hm hall
        obtain ⟨gg, ha, hh⟩ := hm.act (ds := [38, 39, 40, 41, 42, 43, 44, 45, 7]) (by kernel_rfl)
        have hl : listed = #[true, true, true, true, true, true, true, true, true] := by
          have hs : listed.size = 9 := hm.size
          rw [listed_all listed, hs]
          simp only [List.range, List.range.loop, List.map, hall 0 (by simp), hall 1 (by simp), hall 2 (by simp), hall 3 (by simp), hall 4 (by simp), hall 5 (by simp), hall 6 (by simp), hall 7 (by simp), hall 8 (by simp)]
        have HJ8 := Lib.hid hm.inv
        have hg : gg 7 = .int .i64 (cmpI z0 z1) := hh 8 _ _ (hall 8 (by simp)) rfl rfl
        subst hl
        clear hm hall hh
        subst ha
        simp only [setAll]
        clear hc
        rw [hg]
        clear hg
        obtain ⟨nv9, bv9, hs9, hf9⟩ := HJ8.out
        have HS9 := Lib.hid hs9
        have HF9 := Lib.hid hf9
        obtain ⟨x0, x1, x2, x3, x4, x5, x6⟩ := box_cells ((Stp.block ⟨nv9, bv9, hs9, hf9⟩ HLb.out.2 HLb.out.1).trans Hbx2.out)
        dsimp only at x0 x1 x2 x3 x4 x5 x6
        clear hs9 hf9 HJ8
        generalize gg 38 = g38, gg 39 = g39, gg 40 = g40, gg 41 = g41, gg 42 = g42, gg 43 = g43, gg 44 = g44, gg 45 = g45
        simp only [List.setIfInBounds_toArray, List.set_cons_zero, List.set_cons_succ]
        have hcase : (z0 < z1 ∧ cmpI z0 z1 = -1) ∨ (z1 < z0 ∧ cmpI z0 z1 = 1) ∨ (z0 = z1 ∧ cmpI z0 z1 = 0) := by
          unfold cmpI
          split
          · exact .inl ⟨by assumption, rfl⟩
          · split
            · exact .inr (.inl ⟨by assumption, rfl⟩)
            · exact .inr (.inr ⟨by omega, rfl⟩)
        rcases hcase with ⟨hz, hq⟩ | ⟨hz, hq⟩ | ⟨hz, hq⟩
        all_goals
          rw [hq]
          have Hz := Lib.hid hz
          clear hz hq
          refine wpAny_done (by kernel_rfl) ?_ _
          go_wp2_with fail
          go_ret
          refine .inl ⟨_, ?_, nv9, bv9, rfl, HS9.out, HFd.out.trans HF9.out⟩
          rw [Hr.out]
          show Except.ok (Vl.tr (decide (z0 ≤ z1))) = _
          have hz := Hz.out
          first
            | exact congrArg (fun b => Except.ok (Vl.tr b)) (decide_eq_true (by omega))
            | exact congrArg (fun b => Except.ok (Vl.tr b)) (decide_eq_false (by omega))
variable {M : Mdl} {τ : Nat → List UInt8} {a : Nat} {ns : List ByteArray} {bs : List Nat} {nv bv : Value} {w : World}
set_option maxRecDepth 100000 in
set_option maxHeartbeats 4000000 in
theorem form_11 {m : Nat} {p q0 q1 : Parts} {t0 t1 : Tm} {n : ByteArray} (hop : p.op = 11) (hs : St M a ns bs nv bv w) (h2 : Two M τ a ns bs m p t0 t1 q0 q1) (hm : m ≤ 1000000000000)
    (hT0 : ∀ x, evalT τ M.sig M.tbs M.objs t0 (envOf ns bs) = .ok x → ∃ z, x = .num z) (hT1 : ∀ x, evalT τ M.sig M.tbs M.objs t1 (envOf ns bs) = .ok x → ∃ z, x = .num z) :
    Calls Tryz.prog 43 #[.pointer (some ⟨a, 0, none⟩), .agg p.arr] w (BPost M a ns bs nv bv w (bindL (evals τ M.sig M.tbs M.objs [t0, t1] (envOf ns bs)) fun vs => .ok (combV τ 11 n vs))) := by
  obtain ⟨e1, e2, e3⟩ := evals_pair (τ := τ) (sig := M.sig) (tbs := M.tbs) (objs := M.objs) (env := envOf ns bs) (t0 := t0) (t1 := t1) (F := fun vs => .ok (combV τ 11 n vs))
  generalize bindL (evals τ M.sig M.tbs M.objs [t0, t1] (envOf ns bs)) (fun vs => .ok (combV τ 11 n vs)) = r at *
  obtain ⟨hla, ⟨b, o, hA, hc⟩, v0, v1, i0, i1⟩ := h2
  have Hs := Lib.hid (hs.next (below_boxT w p))
  have Hb0 := Lib.hid (below_boxT w p)
  have HW0 : Hid (boxT w p = w.alloc (.cells #[.int .i64 p.op, .string p.name, .int .i64 p.sort, .string p.n, .slice p.A p.la p.ca, .slice p.V p.lv p.cv, .slice p.P p.lp p.cp] 29)) := Lib.hid rfl
  have Hbox : Hid ((boxT w p).heap[w.heap.size]? = some (.cells p.arr 29 (0, 0)) ∧ w.heap.size < (boxT w p).heap.size) := Lib.hid ⟨heap_alloc_new w _, by rw [boxT_size]; omega⟩
  have Hc := Lib.hid hc
  have Hm := Lib.hid hm
  obtain ⟨c0, c1, c2, c3, c4, c5, c6⟩ := seven (hc _ Hs.out.below).1
  rw [HW0.out] at c0 c1 c2 c3 c4 c5 c6
  obtain ⟨op', nm', so', n', A', la', ca', V', lv', cv', P', lp', cp'⟩ := p
  dsimp only at hA hla hop HW0
  subst hA hla hop
  clear hs hc hm
  unfold Parts.arr
  dsimp only at c0 c1 c2 c3 c4 c5 c6 ⊢
  cases hr0 : evalT τ M.sig M.tbs M.objs t0 (envOf ns bs) with
  | error er =>
    have Hcall := Lib.hid (int_err (v0.fails hr0 Hs.out))
    have Hr := Lib.hid (e1 er hr0)
    clear e1 e2 e3 v0 v1 i0 i1 hr0 hT0 hT1
    go_enter Tryz.func43, Tryz.ntmps43
    go_wp2_with (go_at_call 35; rw [← HW0.out]; refine Calls.mono Hcall.out ?_; rintro e w8 ⟨rfl, hb8⟩; have Hb8 := Lib.hid hb8; clear hb8)
    exact ⟨rfl, .inr ⟨er, Hr.out, rfl, Hb8.out⟩⟩
  | ok x =>
    obtain ⟨z0, rfl⟩ := hT0 x hr0
    have Hcall := Lib.hid (int_ok Hs.out (v0.asks hr0 Hs.out))
    have Hin := Lib.hid (i0 _ hr0)
    have Hv1 := Lib.hid v1
    go_enter Tryz.func43, Tryz.ntmps43
    go_wp2_with (go_at_call 35; rw [← HW0.out]; refine Calls.mono Hcall.out ?_; rintro e w8 ⟨u8, nv8, bv8, rfl, hn8, hs8, hf8⟩; have HS8 := Lib.hid hs8; have HR8 := Lib.hid ((hf8.block _ Hbox.out.2 (Hs.out.other Hbox.out.1 (by decide) (by decide) (by decide))).trans Hbox.out.1); have HF8 := Lib.hid hf8; obtain ⟨A8, n8, c8, b8, rfl⟩ := parsed_shape hn8; have HN8 := Lib.hid hn8; clear hs8 hf8 hn8)
    have hal : Below w8.heap.size w8 (w8.alloc (.cells #[.slice A8 n8 c8, .bool b8] 89)) := (Below.refl _ _).alloc (Nat.le_refl _) _
    have hwl : w.heap.size < w8.heap.size := (Array.getElem?_eq_some_iff.1 HR8.out).1
    have H6b : Hid ((w8.alloc (.cells #[.slice A8 n8 c8, .bool b8] 89)).heap[w8.heap.size]? = some (.cells #[.slice A8 n8 c8, .bool b8] 89 (0, 0)) ∧ True) := Lib.hid ⟨heap_alloc_new _ _, trivial⟩
    have Hbx2 : Hid ((w8.alloc (.cells #[.slice A8 n8 c8, .bool b8] 89)).heap[w.heap.size]? = some (.cells (Parts.arr ⟨11, nm', so', n', some ⟨b, o, none⟩, 2, ca', V', lv', cv', P', lp', cp'⟩) 29 (0, 0))) := Lib.hid ((hal.block _ hwl).trans HR8.out)
    have HSa := Lib.hid (HS8.out.next hal)
    have HL6 : Hid (¬ stK a nv8 bv8 w8.heap.size ∧ w8.heap.size < (w8.alloc (.cells #[.slice A8 n8 c8, .bool b8] 89)).drew.heap.size) := Lib.hid ⟨fun hk => by have := (HS8.out.lt hk).2; omega, by show w8.heap.size < (w8.alloc (.cells #[.slice A8 n8 c8, .bool b8] 89)).heap.size; simp⟩
    have HLb : Hid (¬ stK a nv8 bv8 w.heap.size ∧ w.heap.size < (w8.alloc (.cells #[.slice A8 n8 c8, .bool b8] 89)).drew.heap.size) := Lib.hid ⟨HS8.out.other HR8.out (by decide) (by decide) (by decide), by show w.heap.size < (w8.alloc (.cells #[.slice A8 n8 c8, .bool b8] 89)).heap.size; simp; omega⟩
    have HNa := Lib.hid (HN8.out.mono (Nat.le_refl _) hal)
    have HFa := Lib.hid ((HF8.out.ahead Hb0.out).then hal)
    clear hal
    generalize w8.alloc (.cells #[.slice A8 n8 c8, .bool b8] 89) = W2 at *
    have HSd := Lib.hid (HSa.out.next ((Below.refl _ _).drew))
    have Hnum : Hid (∀ w', Stp M a ns bs nv8 bv8 W2.drew w' → NumAt w' (.agg #[.slice A8 n8 c8, .bool b8]) z0) := Lib.hid (fun w' ⟨nv', bv', h1, h2⟩ => NumAt.fr (HNa.out.mono (Nat.le_refl _) ((Below.refl _ _).drew)) HSd.out h2)
    have HStp : Hid (Stp M a ns bs nv8 bv8 W2.drew W2.drew) := Lib.hid (Stp.refl HSd.out)
    have HFd := Lib.hid (HFa.out.then ((Below.refl _ _).drew))
    cases hr1 : evalT τ M.sig M.tbs M.objs t1 (envOf ns bs) with
    | error er =>
      have Hr := Lib.hid (e2 _ er hr0 hr1)
      have Hcall1 : Hid (∀ w', Stp M a ns bs nv8 bv8 W2.drew w' → Calls Tryz.prog 35 #[.pointer (some ⟨a, 0, none⟩), .agg q1.arr] w' (VErr M)) := Lib.hid (fun w' ⟨nv', bv', h1, _⟩ => int_err (Hv1.out.fails hr1 h1))
      clear e1 e2 e3 v0 v1 i0 i1 hr0 hr1 hT0 hT1 c0 c1 c2 c3 c4 c5 c6
      refine wp_region_makesD [0, 1, 2, 3, 4, 5, 6, 7, 8] [] (Stp M a ns bs nv8 bv8 W2.drew) NumKeep (by kernel_rfl) (by kernel_rfl) (leSpecE_keep a w.heap.size (.agg #[.slice A8 n8 c8, .bool b8]) (.slice (some ⟨b, o, none⟩) 2 ca') ⟨b, o + 7, none⟩ q1 z0 0 0) HStp.out ?_ ?_
      · intro i o' ho hi3 a' w' hJ hdf hfr hd K hK
        obtain ⟨_, _, y0, y1⟩ := row_facts ((hJ.block HL6.out.2 HL6.out.1).trans H6b.out.1)
        obtain ⟨x0, x1, x2, x3, x4, x5, x6⟩ := box_cells ((hJ.block HLb.out.2 HLb.out.1).trans Hbx2.out)
        dsimp only at x0 x1 x2 x3 x4 x5 x6
        obtain ⟨d0, d1, d2, d3, d4, d5, d6⟩ := seven (Hc.out w' hJ.below).2
        have hv0 : a'.tmps.getD 0 undef = .pointer (some ⟨a, 0, none⟩) := hfr 0 (by kernel_rfl)
        have hv3 : a'.tmps.getD 3 undef = .pointer (some ⟨w.heap.size, 0, none⟩) := hfr 3 (by kernel_rfl)
        have hvN : a'.tmps.getD 6 undef = .pointer (some ⟨w8.heap.size, 0, none⟩) := hfr 6 (by kernel_rfl)
        rw [Array.getD_eq_getD_getElem?] at hv0 hv3 hvN
        have Hacc := Lib.hid (Hnum.out w' hJ)
        have HK := Lib.hid hK
        have HJ := Lib.hid hJ
        have Hdf := Lib.hid hdf
        clear hJ hK hfr hdf
        match i, ho with
        | 0, ho =>
          cases ho
          clear hd
          go_simp
          exact HK.out _ _ ⟨rfl, Hacc.out⟩ (NumKeep.refl _) HJ.out
        | 1, ho =>
          cases ho
          clear hd
          go_simp
          exact HK.out _ _ rfl (NumKeep.refl _) HJ.out
        | 2, ho =>
          cases ho
          clear hd
          go_simp
          exact HK.out _ _ rfl (NumKeep.refl _) HJ.out
        | 3, ho =>
          cases ho
          have e1 := hd ⟨2, .data⟩ (by simp) rfl _ _ rfl rfl
          simp only [leSpecE, Array.getD_eq_getD_getElem?] at e1
          clear hd
          go_simp
          exact HK.out _ _ rfl (NumKeep.refl _) HJ.out
        | 4, ho =>
          cases ho
          have e1 := hd ⟨3, .data⟩ (by simp) rfl _ _ rfl rfl
          simp only [leSpecE, Array.getD_eq_getD_getElem?] at e1
          clear hd
          go_simp
          exact HK.out _ _ rfl (NumKeep.refl _) HJ.out
        | 5, ho =>
          cases ho
          have e1 := hd ⟨4, .data⟩ (by simp) rfl _ _ rfl rfl
          simp only [leSpecE, Array.getD_eq_getD_getElem?] at e1
          clear hd
          go_simp
          exact HK.out _ _ rfl (NumKeep.refl _) HJ.out
        | 6, ho =>
          cases ho
          have e1 := hd ⟨1, .data⟩ (by simp) rfl _ _ rfl rfl
          have e2 := hd ⟨5, .data⟩ (by simp) rfl _ _ rfl rfl
          simp only [leSpecE, Array.getD_eq_getD_getElem?] at e1 e2
          clear hd
          go_simp
          refine (Hcall1.out w' HJ.out).mono ?_
          rintro e w9 ⟨rfl, hb9⟩
          exact ⟨Hdf.out, .inr ⟨er, Hr.out, rfl, hb9⟩⟩
        | 7, ho => cases ho; exact (hd ⟨6, .data⟩ (by simp) rfl _ _ rfl rfl : False).elim
        | 8, ho => cases ho; exact (hd ⟨7, .data⟩ (by simp) rfl _ _ rfl rfl : False).elim
        | n + 9, ho => simp at ho
      · intro fuel listed a' w8 hc hm hall
        exact (hm.held 6 _ _ (hall 6 (by simp)) rfl rfl : False).elim
    | ok y =>
      obtain ⟨z1, rfl⟩ := hT1 y hr1
      have Hr := Lib.hid (e3 _ _ hr0 hr1)
      have Hin1 := Lib.hid (i1 _ hr1)
      have Hcall1 : Hid (∀ w', Stp M a ns bs nv8 bv8 W2.drew w' → Calls Tryz.prog 35 #[.pointer (some ⟨a, 0, none⟩), .agg q1.arr] w' fun e w'' => ∃ u, e = .returned u ∧ NumAt w'' u z1 ∧ NumKeep w' w'' ∧ Stp M a ns bs nv8 bv8 W2.drew w'') := Lib.hid (fun w' ⟨nv', bv', h1, h2⟩ => (int_ok h1 (Hv1.out.asks hr1 h1)).mono fun e w'' ⟨u, nv9, bv9, e1, e2, e3, e4⟩ => ⟨u, e1, e2, fun v z hv => hv.fr h1 e4, nv9, bv9, e3, h2.trans e4⟩)
      clear e1 e2 e3 v0 v1 i0 i1 hr0 hr1 hT0 hT1 c0 c1 c2 c3 c4 c5 c6
      have Hbin : Hid (∀ w' u, NumAt w' (.agg #[.slice A8 n8 c8, .bool b8]) z0 → NumAt w' u z1 → Calls Tryz.prog 76 #[.agg #[.slice A8 n8 c8, .bool b8], u] w' fun e w'' => e = .returned (.int .i64 (cmpI z0 z1)) ∧ Below w'.heap.size w' w'') := Lib.hid (fun w' u h h' => Cmp_ex h h' Hin.out.1 Hin1.out.1 (by have := Hm.out; omega))
      refine wp_region_makesD [0, 1, 2, 3, 4, 5, 6, 7, 8] [] (Stp M a ns bs nv8 bv8 W2.drew) NumKeep (by kernel_rfl) (by kernel_rfl) (leSpec_keep a w.heap.size (.agg #[.slice A8 n8 c8, .bool b8]) (.slice (some ⟨b, o, none⟩) 2 ca') ⟨b, o + 7, none⟩ q1 z0 z1 (cmpI z0 z1)) HStp.out ?_ ?_
      · intro i o' ho hi3 a' w' hJ hdf hfr hd K hK
        obtain ⟨_, _, y0, y1⟩ := row_facts ((hJ.block HL6.out.2 HL6.out.1).trans H6b.out.1)
        obtain ⟨x0, x1, x2, x3, x4, x5, x6⟩ := box_cells ((hJ.block HLb.out.2 HLb.out.1).trans Hbx2.out)
        dsimp only at x0 x1 x2 x3 x4 x5 x6
        obtain ⟨d0, d1, d2, d3, d4, d5, d6⟩ := seven (Hc.out w' hJ.below).2
        have hv0 : a'.tmps.getD 0 undef = .pointer (some ⟨a, 0, none⟩) := hfr 0 (by kernel_rfl)
        have hv3 : a'.tmps.getD 3 undef = .pointer (some ⟨w.heap.size, 0, none⟩) := hfr 3 (by kernel_rfl)
        have hvN : a'.tmps.getD 6 undef = .pointer (some ⟨w8.heap.size, 0, none⟩) := hfr 6 (by kernel_rfl)
        rw [Array.getD_eq_getD_getElem?] at hv0 hv3 hvN
        have Hacc := Lib.hid (Hnum.out w' hJ)
        have HK := Lib.hid hK
        have HJ := Lib.hid hJ
        have Hdf := Lib.hid hdf
        clear hJ hK hfr hdf
        match i, ho with
        | 0, ho =>
          cases ho
          clear hd
          go_simp
          exact HK.out _ _ ⟨rfl, Hacc.out⟩ (NumKeep.refl _) HJ.out
        | 1, ho =>
          cases ho
          clear hd
          go_simp
          exact HK.out _ _ rfl (NumKeep.refl _) HJ.out
        | 2, ho =>
          cases ho
          clear hd
          go_simp
          exact HK.out _ _ rfl (NumKeep.refl _) HJ.out
        | 3, ho =>
          cases ho
          have e1 := hd ⟨2, .data⟩ (by simp) rfl _ _ rfl rfl
          simp only [leSpec, Array.getD_eq_getD_getElem?] at e1
          clear hd
          go_simp
          exact HK.out _ _ rfl (NumKeep.refl _) HJ.out
        | 4, ho =>
          cases ho
          have e1 := hd ⟨3, .data⟩ (by simp) rfl _ _ rfl rfl
          simp only [leSpec, Array.getD_eq_getD_getElem?] at e1
          clear hd
          go_simp
          exact HK.out _ _ rfl (NumKeep.refl _) HJ.out
        | 5, ho =>
          cases ho
          have e1 := hd ⟨4, .data⟩ (by simp) rfl _ _ rfl rfl
          simp only [leSpec, Array.getD_eq_getD_getElem?] at e1
          clear hd
          go_simp
          exact HK.out _ _ rfl (NumKeep.refl _) HJ.out
        | 6, ho =>
          cases ho
          have e1 := hd ⟨1, .data⟩ (by simp) rfl _ _ rfl rfl
          have e2 := hd ⟨5, .data⟩ (by simp) rfl _ _ rfl rfl
          simp only [leSpec, Array.getD_eq_getD_getElem?] at e1 e2
          clear hd
          go_simp
          refine (Hcall1.out w' HJ.out).mono ?_
          rintro e w9 ⟨u9, rfl, hn9, hk9, hj9⟩
          exact HK.out _ _ hn9 hk9 hj9
        | 7, ho =>
          cases ho
          have e1 := hd ⟨0, .data⟩ (by simp) rfl _ _ rfl rfl
          have e2 := hd ⟨6, .data⟩ (by simp) rfl _ _ rfl rfl
          simp only [leSpec, Array.getD_eq_getD_getElem?] at e1 e2
          have Hop := Lib.hid (Hbin.out w' _ e1.2 e2)
          have e10 := e1.1
          clear e1 e2 hd
          go_simp
          refine Hop.out.mono ?_
          rintro e w9 ⟨rfl, hb9⟩
          exact HK.out _ _ rfl (NumKeep.below hb9) (HJ.out.next hb9)
        | 8, ho =>
          cases ho
          have e1 := hd ⟨7, .data⟩ (by simp) rfl _ _ rfl rfl
          simp only [leSpec, Array.getD_eq_getD_getElem?] at e1
          clear hd
          go_simp
          exact HK.out _ _ rfl (NumKeep.refl _) HJ.out
        | n + 9, ho => simp at ho
      · intro fuel listed a' w8 hc hm hall
        obtain ⟨gg, ha, hh⟩ := hm.act (ds := [38, 39, 40, 41, 42, 43, 44, 45, 7]) (by kernel_rfl)
        have hl : listed = #[true, true, true, true, true, true, true, true, true] := by
          have hs : listed.size = 9 := hm.size
          rw [listed_all listed, hs]
          simp only [List.range, List.range.loop, List.map, hall 0 (by simp), hall 1 (by simp), hall 2 (by simp), hall 3 (by simp), hall 4 (by simp), hall 5 (by simp), hall 6 (by simp), hall 7 (by simp), hall 8 (by simp)]
        have HJ8 := Lib.hid hm.inv
        have hg : gg 7 = .int .i64 (cmpI z0 z1) := hh 8 _ _ (hall 8 (by simp)) rfl rfl
        subst hl
        clear hm hall hh
        subst ha
        simp only [setAll]
        clear hc
        rw [hg]
        clear hg
        obtain ⟨nv9, bv9, hs9, hf9⟩ := HJ8.out
        have HS9 := Lib.hid hs9
        have HF9 := Lib.hid hf9
        obtain ⟨x0, x1, x2, x3, x4, x5, x6⟩ := box_cells ((Stp.block ⟨nv9, bv9, hs9, hf9⟩ HLb.out.2 HLb.out.1).trans Hbx2.out)
        dsimp only at x0 x1 x2 x3 x4 x5 x6
        clear hs9 hf9 HJ8
        generalize gg 38 = g38, gg 39 = g39, gg 40 = g40, gg 41 = g41, gg 42 = g42, gg 43 = g43, gg 44 = g44, gg 45 = g45
        simp only [List.setIfInBounds_toArray, List.set_cons_zero, List.set_cons_succ]
        have hcase : (z0 < z1 ∧ cmpI z0 z1 = -1) ∨ (z1 < z0 ∧ cmpI z0 z1 = 1) ∨ (z0 = z1 ∧ cmpI z0 z1 = 0) := by
          unfold cmpI
          split
          · exact .inl ⟨by assumption, rfl⟩
          · split
            · exact .inr (.inl ⟨by assumption, rfl⟩)
            · exact .inr (.inr ⟨by omega, rfl⟩)
        rcases hcase with ⟨hz, hq⟩ | ⟨hz, hq⟩ | ⟨hz, hq⟩
        all_goals
          rw [hq]
          have Hz := Lib.hid hz
          clear hz hq
          refine wpAny_done (by kernel_rfl) ?_ _
          go_wp2_with fail
          go_ret
          refine .inl ⟨_, ?_, nv9, bv9, rfl, HS9.out, HFd.out.trans HF9.out⟩
          rw [Hr.out]
          show Except.ok (Vl.tr (decide (z0 < z1))) = _
          have hz := Hz.out
          first
            | exact congrArg (fun b => Except.ok (Vl.tr b)) (decide_eq_true (by omega))
            | exact congrArg (fun b => Except.ok (Vl.tr b)) (decide_eq_false (by omega))
end Go.Proofs.YtbnonccmlildnaaGreat

/- Values: numerals, sums, opposites, functions, formulas. -/
namespace Go.Proofs.YtbnonccmlildnaaGreat
open Go.RowKit

/-- A value, or that it can't be told. -/
def VP (M : Mdl) (a : Nat) (ns : List ByteArray) (bs : List Nat) (nv bv : Value) (w : World) (r : Except Int Vl) (e : Ending) (w' : World) : Prop :=
  (∃ x, r = .ok x ∧ VOk M a ns bs nv bv w x e w') ∨ (∃ er, r = .error er ∧ VErr M e w')
variable {M : Mdl} {τ : Nat → List UInt8} {a : Nat} {ns : List ByteArray} {bs : List Nat} {nv bv : Value} {w : World}
set_option maxRecDepth 100000 in
set_option maxHeartbeats 2000000 in
theorem val_num {p : Parts} (hs : St M a ns bs nv bv w) (hop : p.op = 1) (hn : p.n.size ≤ 1000000000000) (hr : rightB p.n = true) :
    Calls Tryz.prog 23 #[.pointer (some ⟨a, 0, none⟩), .agg p.arr] w (VP M a ns bs nv bv w (.ok (.num (valB p.n)))) := by
  have hz : parseZ p.n = valB p.n := by unfold parseZ parZ; rw [if_pos hr]
  have hp := parse_ex p.n (boxT w p) hn
  rw [hz] at hp
  have Hp := Lib.hid hp
  have Hs := Lib.hid (hs.next (below_boxT w p))
  have Hb0 := Lib.hid (below_boxT w p)
  have HW0 : Hid (boxT w p = w.alloc (.cells #[.int .i64 p.op, .string p.name, .int .i64 p.sort, .string p.n, .slice p.A p.la p.ca, .slice p.V p.lv p.cv, .slice p.P p.lp p.cp] 29)) := Lib.hid rfl
  obtain ⟨op', nm', so', n', A', la', ca', V', lv', cv', P', lp', cp'⟩ := p
  dsimp only at hop Hp HW0 ⊢
  subst hop
  clear hs hz hp hr
  generalize valB n' = z at *
  unfold Parts.arr
  dsimp only
  go_enter Tryz.func23, Tryz.ntmps23
  go_wp2_with (go_at_call 33; rw [← HW0.out]; refine Hp.out.mono ?_; rintro e w5 ⟨v5, rfl, hv5, hb5⟩; obtain ⟨A5, n5, c5, b5, rfl⟩ := parsed_shape hv5; have Hn5 := Lib.hid (hv5.mono (Nat.le_refl _) ((Below.refl _ _).alloc (Nat.le_refl _) (.cells #[.slice A5 n5 c5, .bool b5] 89))); have Hb5 := Lib.hid (hb5.alloc hb5.size (.cells #[.slice A5 n5 c5, .bool b5] 89)); clear hb5 hv5)
  go_ret
  exact .inl ⟨_, rfl, _, nv, bv, rfl, ⟨_, rfl, Hn5.out⟩, Hs.out.next Hb5.out, Fr.of_below (Hb0.out.trans (Hb5.out.mono Hb0.out.size))⟩
set_option maxRecDepth 100000 in
set_option maxHeartbeats 2000000 in
theorem val_add {p : Parts} {ln : Nat} {r : Except Int Vl} (hs : St M a ns bs nv bv w) (hop : p.op = 12) (hla : p.la = ln)
    (hc : ∀ nv bv w, St M a ns bs nv bv w → Calls Tryz.prog 34 #[.pointer (some ⟨a, 0, none⟩), .slice p.A ln p.ca] w fun e w' => (∃ z, r = .ok (.num z) ∧ NOk M a ns bs nv bv w z e w') ∨ (∃ er, r = .error er ∧ VErr M e w')) :
    Calls Tryz.prog 23 #[.pointer (some ⟨a, 0, none⟩), .agg p.arr] w (VP M a ns bs nv bv w r) := by
  have hcall := hc _ _ _ (hs.next (below_boxT w p))
  have Hb0 := Lib.hid (below_boxT w p)
  have HW0 : Hid (boxT w p = w.alloc (.cells #[.int .i64 p.op, .string p.name, .int .i64 p.sort, .string p.n, .slice p.A p.la p.ca, .slice p.V p.lv p.cv, .slice p.P p.lp p.cp] 29)) := Lib.hid rfl
  obtain ⟨op', nm', so', n', A', la', ca', V', lv', cv', P', lp', cp'⟩ := p
  dsimp only at hop HW0 hla hcall
  subst hop hla
  cases r with
  | error er =>
    have Hcall := Lib.hid (hcall.mono (R' := VErr M) fun e w' hp => by
      rcases hp with ⟨z, hz, _⟩ | ⟨er', _, hv⟩
      · cases hz
      · exact hv)
    clear hs hc hcall
    unfold Parts.arr
    dsimp only
    go_enter Tryz.func23, Tryz.ntmps23
    go_wp2_with (go_at_call 34; rw [← HW0.out]; refine Calls.mono Hcall.out ?_; rintro e w8 ⟨rfl, hb8⟩; have Hb8 := Lib.hid hb8; clear hb8)
    exact ⟨rfl, .inr ⟨er, rfl, rfl, Hb8.out⟩⟩
  | ok x =>
    have Hcall := Lib.hid (hcall.mono (R' := fun e w' => ∃ z, x = .num z ∧ NOk M a ns bs nv bv (boxT w ⟨12, nm', so', n', A', la', ca', V', lv', cv', P', lp', cp'⟩) z e w') fun e w' hp => by
      rcases hp with ⟨z, hz, hk⟩ | ⟨er', he, _⟩
      · cases hz; exact ⟨z, rfl, hk⟩
      · cases he)
    clear hs hc hcall
    unfold Parts.arr
    dsimp only
    go_enter Tryz.func23, Tryz.ntmps23
    go_wp2_with (go_at_call 34; rw [← HW0.out]; refine Calls.mono Hcall.out ?_; rintro e w8 ⟨z, rfl, u8, nv8, bv8, rfl, hn8, hs8, hf8⟩; have HN8 := Lib.hid hn8; obtain ⟨A8, n8, c8, b8, rfl⟩ := parsed_shape hn8; have HS8 := Lib.hid hs8; have HF8 := Lib.hid hf8; clear hs8 hf8 hn8)
    go_ret
    exact .inl ⟨_, rfl, _, nv8, bv8, rfl, ⟨_, rfl, HN8.out⟩, HS8.out, HF8.out.ahead Hb0.out⟩
set_option maxRecDepth 100000 in
set_option maxHeartbeats 2000000 in
theorem val_app {p : Parts} {r : Except Int Vl} (hs : St M a ns bs nv bv w) (hop : p.op = 17)
    (hc : ∀ nv bv w, St M a ns bs nv bv w → Calls Tryz.prog 40 #[.pointer (some ⟨a, 0, none⟩), .agg p.arr] w (VP M a ns bs nv bv w r)) :
    Calls Tryz.prog 23 #[.pointer (some ⟨a, 0, none⟩), .agg p.arr] w (VP M a ns bs nv bv w r) := by
  have hcall := hc _ _ _ (hs.next (below_boxT w p))
  have Hb0 := Lib.hid (below_boxT w p)
  have HW0 : Hid (boxT w p = w.alloc (.cells #[.int .i64 p.op, .string p.name, .int .i64 p.sort, .string p.n, .slice p.A p.la p.ca, .slice p.V p.lv p.cv, .slice p.P p.lp p.cp] 29)) := Lib.hid rfl
  obtain ⟨op', nm', so', n', A', la', ca', V', lv', cv', P', lp', cp'⟩ := p
  dsimp only at hop HW0
  subst hop
  cases r with
  | error er =>
    have Hcall := Lib.hid (hcall.mono (R' := VErr M) fun e w' hp => by
      rcases hp with ⟨z, hz, _⟩ | ⟨er', _, hv⟩
      · cases hz
      · exact hv)
    clear hs hc hcall
    unfold Parts.arr
    dsimp only
    go_enter Tryz.func23, Tryz.ntmps23
    go_wp2_with (go_at_call 40; rw [← HW0.out]; refine Calls.mono Hcall.out ?_; rintro e w8 ⟨rfl, hb8⟩; have Hb8 := Lib.hid hb8; clear hb8)
    exact ⟨rfl, .inr ⟨er, rfl, rfl, Hb8.out⟩⟩
  | ok x =>
    have Hcall := Lib.hid (hcall.mono (R' := VOk M a ns bs nv bv (boxT w ⟨17, nm', so', n', A', la', ca', V', lv', cv', P', lp', cp'⟩) x) fun e w' hp => by
      rcases hp with ⟨z, hz, hk⟩ | ⟨er', he, _⟩
      · cases hz; exact hk
      · cases he)
    clear hs hc hcall
    unfold Parts.arr
    dsimp only
    go_enter Tryz.func23, Tryz.ntmps23
    go_wp2_with (go_at_call 40; rw [← HW0.out]; refine Calls.mono Hcall.out ?_; rintro e w8 ⟨v8, nv8, bv8, rfl, hv8, hs8, hf8⟩; have HV8 := Lib.hid hv8; have HS8 := Lib.hid hs8; have HF8 := Lib.hid hf8; clear hs8 hf8 hv8)
    go_ret
    exact .inl ⟨_, rfl, _, nv8, bv8, rfl, HV8.out, HS8.out, HF8.out.ahead Hb0.out⟩
set_option maxRecDepth 100000 in
set_option maxHeartbeats 2000000 in
theorem val_form {p : Parts} {r : Except Int Vl} (hs : St M a ns bs nv bv w) (h1 : (p.op == 1) = false) (h2 : (p.op == 12) = false) (h3 : (p.op == 13) = false) (h4 : (p.op == 14) = false) (h5 : (p.op == 15) = false) (h6 : (p.op == 16) = false) (h7 : (p.op == 17) = false) (h8 : (p.op == 18) = false)
    (hc : ∀ nv bv w, St M a ns bs nv bv w → Calls Tryz.prog 43 #[.pointer (some ⟨a, 0, none⟩), .agg p.arr] w (BPost M a ns bs nv bv w r)) :
    Calls Tryz.prog 23 #[.pointer (some ⟨a, 0, none⟩), .agg p.arr] w (VP M a ns bs nv bv w r) := by
  have hcall := hc _ _ _ (hs.next (below_boxT w p))
  have Hb0 := Lib.hid (below_boxT w p)
  have HW0 : Hid (boxT w p = w.alloc (.cells #[.int .i64 p.op, .string p.name, .int .i64 p.sort, .string p.n, .slice p.A p.la p.ca, .slice p.V p.lv p.cv, .slice p.P p.lp p.cp] 29)) := Lib.hid rfl
  obtain ⟨op', nm', so', n', A', la', ca', V', lv', cv', P', lp', cp'⟩ := p
  dsimp only at h1 h2 h3 h4 h5 h6 h7 h8 HW0
  cases r with
  | error er =>
    have Hcall := Lib.hid (hcall.mono (R' := VErr M) fun e w' hp => by
      rcases hp with ⟨z, hz, _⟩ | ⟨er', _, hv⟩
      · cases hz
      · exact hv)
    clear hs hc hcall
    unfold Parts.arr
    dsimp only
    go_enter Tryz.func23, Tryz.ntmps23
    go_wp2_with (go_at_call 43; rw [← HW0.out]; refine Calls.mono Hcall.out ?_; rintro e w8 ⟨rfl, hb8⟩; have Hb8 := Lib.hid hb8; clear hb8)
    exact ⟨rfl, .inr ⟨er, rfl, rfl, Hb8.out⟩⟩
  | ok x =>
    have Hcall := Lib.hid (hcall.mono (R' := fun e w' => ∃ b, x = .tr b ∧ BOk M a ns bs nv bv (boxT w ⟨op', nm', so', n', A', la', ca', V', lv', cv', P', lp', cp'⟩) b e w') fun e w' hp => by
      rcases hp with ⟨z, hz, hk⟩ | ⟨er', he, _⟩
      · cases hz; exact ⟨z, rfl, hk⟩
      · cases he)
    clear hs hc hcall
    unfold Parts.arr
    dsimp only
    go_enter Tryz.func23, Tryz.ntmps23
    go_wp2_with (go_at_call 43; rw [← HW0.out]; refine Calls.mono Hcall.out ?_; rintro e w8 ⟨b, rfl, nv8, bv8, rfl, hs8, hf8⟩; have HS8 := Lib.hid hs8; have HF8 := Lib.hid hf8; clear hs8 hf8)
    go_ret
    exact .inl ⟨_, rfl, _, nv8, bv8, rfl, rfl, HS8.out, HF8.out.ahead Hb0.out⟩
set_option maxRecDepth 100000 in
set_option maxHeartbeats 2000000 in
theorem val_neg {p q0 : Parts} {t0 : Tm} {n : ByteArray} {m b o : Nat} (hs : St M a ns bs nv bv w) (hop : p.op = 14) (hla : p.la = 1) (hA : p.A = some ⟨b, o, none⟩) (hc : ∀ w, Below M.w0.heap.size M.w0 w → ∀ i, i < 7 → w.cell? ⟨b, o + i, none⟩ = q0.arr[i]?) (v0 : ValOK M τ a ns bs t0 (.agg q0.arr))
    (i0 : ∀ x, evalT τ M.sig M.tbs M.objs t0 (envOf ns bs) = .ok x → VlIn M m x ∧ ∃ z, x = .num z) (hm : m ≤ 1000000000000) :
    Calls Tryz.prog 23 #[.pointer (some ⟨a, 0, none⟩), .agg p.arr] w (VP M a ns bs nv bv w (bindL (evals τ M.sig M.tbs M.objs [t0] (envOf ns bs)) fun vs => .ok (combV τ 14 n vs))) := by
  have Hs := Lib.hid (hs.next (below_boxT w p))
  have Hb0 := Lib.hid (below_boxT w p)
  have HW0 : Hid (boxT w p = w.alloc (.cells #[.int .i64 p.op, .string p.name, .int .i64 p.sort, .string p.n, .slice p.A p.la p.ca, .slice p.V p.lv p.cv, .slice p.P p.lp p.cp] 29)) := Lib.hid rfl
  obtain ⟨c0, c1, c2, c3, c4, c5, c6⟩ := seven (hc _ Hs.out.below)
  rw [HW0.out] at c0 c1 c2 c3 c4 c5 c6
  obtain ⟨op', nm', so', n', A', la', ca', V', lv', cv', P', lp', cp'⟩ := p
  dsimp only at hA hla hop HW0
  subst hA hla hop
  clear hs hc
  have Hm := Lib.hid hm
  clear hm
  unfold Parts.arr
  dsimp only at c0 c1 c2 c3 c4 c5 c6 ⊢
  cases hr0 : evalT τ M.sig M.tbs M.objs t0 (envOf ns bs) with
  | error er =>
    have Hcall := Lib.hid (int_err (v0.fails hr0 Hs.out))
    have Hr : Hid (bindL (evals τ M.sig M.tbs M.objs [t0] (envOf ns bs)) (fun vs => .ok (combV τ 14 n vs)) = .error er) := Lib.hid (by simp [evals, hr0, consV, bindL])
    clear v0 i0 hr0
    go_enter Tryz.func23, Tryz.ntmps23
    go_wp2_with (go_at_call 35; rw [← HW0.out]; refine Calls.mono Hcall.out ?_; rintro e w8 ⟨rfl, hb8⟩; have Hb8 := Lib.hid hb8; clear hb8)
    exact ⟨rfl, .inr ⟨er, Hr.out, rfl, Hb8.out⟩⟩
  | ok x =>
    obtain ⟨hin, z0, rfl⟩ := i0 x hr0
    have Hin := Lib.hid hin
    have Hcall := Lib.hid (int_ok Hs.out (v0.asks hr0 Hs.out))
    have Hr : Hid (bindL (evals τ M.sig M.tbs M.objs [t0] (envOf ns bs)) (fun vs => .ok (combV τ 14 n vs)) = .ok (.num (-z0))) := Lib.hid (by simp [evals, hr0, consV, bindL]; rfl)
    clear v0 i0 hr0 hin
    go_enter Tryz.func23, Tryz.ntmps23
    go_wp2_with (first
      | (go_at_call 35; rw [← HW0.out]; refine Calls.mono Hcall.out ?_; rintro e w8 ⟨u8, nv8, bv8, rfl, hn8, hs8, hf8⟩; have HS8 := Lib.hid hs8; have HF8 := Lib.hid hf8; have HN8 := Lib.hid hn8; clear hs8 hf8 hn8)
      | (go_at_call 37; refine Calls.mono (neg_ex HN8.out Hin.out.1 (by have := Hm.out; omega)) ?_; rintro e w9 ⟨u9, rfl, hn9, hb9⟩; have HN9 := Lib.hid hn9; obtain ⟨A9, n9, c9, b9, rfl⟩ := parsed_shape hn9; have Hb9 := Lib.hid hb9; clear hn9 hb9))
    go_ret
    exact .inl ⟨_, Hr.out, _, nv8, bv8, rfl, ⟨_, rfl, HN9.out⟩, HS8.out.next Hb9.out, (HF8.out.ahead Hb0.out).then Hb9.out⟩
end Go.Proofs.YtbnonccmlildnaaGreat
