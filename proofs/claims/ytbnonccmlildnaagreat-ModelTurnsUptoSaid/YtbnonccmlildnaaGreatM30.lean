/- Formulas: quantifiers, connectives. -/
import Derived.Test.YtbnonccmlildnaaGreatM29
import Derived.Deep.QuietTactic
import Derived.BigQuiet
set_option linter.unusedSimpArgs false
set_option linter.unusedVariables false
namespace Go.Proofs.YtbnonccmlildnaaGreat
open Go.RowKit

/-- Truths in a row. -/
def TrsAt (w : World) (A : Option Addr) (l : List Bool) : Prop := l = [] ∨ ∃ g, A = some ⟨g, 0, none⟩ ∧ ∀ (j : Nat) (b : Bool), l[j]? = some b → w.cell? ⟨g, j, none⟩ = some (.bool b)
theorem own_trs {w : World} {base n : Nat} {v : Value} {l : List Bool} (h : w.ownsRow base 4 1 v n (l.map Value.bool)) : ∃ A c, v = .slice A n c ∧ TrsAt w A l := by
  have hl : l.length = n := by simpa using h.1
  rcases h.2 with ⟨rfl, rfl⟩ | ⟨g, cap, cur, rfl, _⟩
  · exact ⟨none, 0, rfl, .inl (List.length_eq_zero_iff.1 hl)⟩
  · refine ⟨_, _, rfl, .inr ⟨g, rfl, fun j b hj => ?_⟩⟩
    have hjl : j < l.length := (List.getElem?_eq_some_iff.1 hj).1
    rw [h.cellAt j (by omega), List.getElem?_map, hj]
    rfl
theorem contains_take {l : List Bool} {q x : Bool} {k : Nat} (hx : l[k]? = some x) (h : (l.take k).contains q = false) (hq : (q == x) = false) : (l.take (k + 1)).contains q = false := by
  rw [List.take_add_one, hx]
  simp only [Option.toList_some, List.contains_eq_any_beq, List.any_append, List.any_cons, List.any_nil, Bool.or_false] at h ⊢
  rw [h, hq]
  rfl
theorem contains_at {l : List Bool} {q x : Bool} {k : Nat} (hx : l[k]? = some x) (hq : (q == x) = true) : l.contains q = true := by
  have : q = x := by simpa using hq
  subst this
  simpa using List.mem_of_getElem? hx
set_option maxHeartbeats 1000000 in
theorem index_bool {w : World} {A : Option Addr} {n c : Nat} {l : List Bool} {q : Bool} (h : TrsAt w A l) (hn : l.length = n) (hb : n ≤ 1000000) :
    Calls Tryz.prog 106 #[.slice A n c, .bool q] w fun e w' => ∃ k : Int, e = .returned (.int .i64 k) ∧ decide (0 ≤ k) = l.contains q ∧ w = w' := by
  have H := Lib.hid h
  have Hn := Lib.hid hn
  clear h hn
  go_enter Tryz.func106, Tryz.ntmps106
  go_wp2_with fail
  go_loopw [8] (fun i wr => ∃ k : Nat, k ≤ n ∧ i = .int .i64 k ∧ Hid ((l.take k).contains q = false) ∧ w = wr) (fun i _ => n - (intOf i).toNat)
  case atStart => exact ⟨0, Nat.zero_le _, rfl, Lib.hid rfl, rfl⟩
  case round =>
    obtain ⟨k, hk, rfl, Hno, rfl⟩ := hrel
    by_cases hlt : k < n
    · obtain ⟨x, hx⟩ : ∃ x, l[k]? = some x := ⟨_, List.getElem?_eq_getElem (by have := Hn.out; omega)⟩
      obtain ⟨g, rfl, hc⟩ : ∃ g, A = some ⟨g, 0, none⟩ ∧ w.cell? ⟨g, k, none⟩ = some (.bool x) := by
        rcases H.out with rfl | ⟨g, hA, hc⟩
        · cases hx
        · exact ⟨g, hA, hc k x hx⟩
      have Hx := Lib.hid hx
      clear hx
      cases hq : (q == x) with
      | true =>
        have Hr := Lib.hid (contains_at Hx.out hq)
        go_wp2_with fail
        go_ret
        exact ⟨_, rfl, by rw [Hr.out]; simp, rfl⟩
      | false =>
        have Hr := Lib.hid (contains_take Hx.out Hno.out hq)
        go_wp2_with fail
        go_roundw
        case rel => exact ⟨k + 1, by omega, by go_num, Hr, trivial⟩
        case measure => simp [intOf]; omega
    · have Hr : Hid (l.contains q = false) := Lib.hid (by have := Hno.out; rwa [List.take_of_length_le (by have := Hn.out; omega)] at this)
      go_wp2_with fail
      go_ret
      exact ⟨_, rfl, by rw [Hr.out]; rfl, rfl⟩
theorem contains_bool {w : World} {A : Option Addr} {n c : Nat} {l : List Bool} {q : Bool} (h : TrsAt w A l) (hn : l.length = n) (hb : n ≤ 1000000) :
    Calls Tryz.prog 79 #[.slice A n c, .bool q] w fun e w' => e = .returned (.bool (l.contains q)) ∧ w = w' := by
  have Hc := Lib.hid (index_bool (c := c) (q := q) h hn hb)
  generalize l.contains q = r at *
  clear h
  go_enter Tryz.func79, Tryz.ntmps79
  go_wp2_with (go_at_call 106; refine Calls.mono Hc.out ?_; rintro e w5 ⟨k, rfl, hk, rfl⟩; have Hk := Lib.hid hk; clear hk)
  go_ret
  refine ⟨?_, rfl⟩
  rw [← Hk.out]
  rfl
variable {M : Mdl} {τ : Nat → List UInt8} {a : Nat} {ns : List ByteArray} {bs : List Nat} {nv bv : Value} {w : World}
set_option maxRecDepth 100000 in
theorem form_all {p : Parts} {body : Tm} {xs : List ByteArray} {r : Except Int Vl} (hs : St M a ns bs nv bv w) (hop : p.op = 19) (hr : r = trOf (allVars M.objs (fun env => boolOf (evalT τ M.sig M.tbs M.objs body env)) xs (envOf ns bs)))
    (hc : ∀ nv bv w, St M a ns bs nv bv w → Calls Tryz.prog 77 #[.pointer (some ⟨a, 0, none⟩), .agg p.arr, .int .i64 0] w (APost M τ a body xs ns bs nv bv w)) :
    Calls Tryz.prog 43 #[.pointer (some ⟨a, 0, none⟩), .agg p.arr] w (BPost M a ns bs nv bv w r) := by
  have Hcall := Lib.hid (hc _ _ _ (hs.next (below_boxT w p)))
  have Hb0 := Lib.hid (below_boxT w p)
  have HW0 : Hid (boxT w p = w.alloc (.cells #[.int .i64 p.op, .string p.name, .int .i64 p.sort, .string p.n, .slice p.A p.la p.ca, .slice p.V p.lv p.cv, .slice p.P p.lp p.cp] 29)) := Lib.hid rfl
  obtain ⟨op', nm', so', n', A', la', ca', V', lv', cv', P', lp', cp'⟩ := p
  dsimp only at hop HW0
  subst hop
  have Hr := Lib.hid hr
  clear hs hc hr
  unfold Parts.arr
  dsimp only
  cases hv : allVars M.objs (fun env => boolOf (evalT τ M.sig M.tbs M.objs body env)) xs (envOf ns bs) with
  | error er =>
    have Hc2 : Hid (Calls Tryz.prog 77 #[.pointer (some ⟨a, 0, none⟩), .agg (Parts.arr ⟨19, nm', so', n', A', la', ca', V', lv', cv', P', lp', cp'⟩), .int .i64 0] (boxT w ⟨19, nm', so', n', A', la', ca', V', lv', cv', P', lp', cp'⟩) (VErr M)) := Lib.hid (Hcall.out.mono fun e w' hp => by
      rcases hp with ⟨b, hb, _⟩ | ⟨er', _, hv⟩
      · rw [hv] at hb; cases hb
      · exact hv)
    have Hr2 : Hid (r = .error er) := Lib.hid (by rw [Hr.out, hv]; rfl)
    clear hv Hcall
    go_enter Tryz.func43, Tryz.ntmps43
    go_wp2_with (go_at_call 77; rw [← HW0.out]; refine Calls.mono Hc2.out ?_; rintro e w8 ⟨rfl, hb8⟩; have Hb8 := Lib.hid hb8; clear hb8)
    exact ⟨rfl, .inr ⟨er, Hr2.out, rfl, Hb8.out⟩⟩
  | ok b =>
    have Hc2 : Hid (Calls Tryz.prog 77 #[.pointer (some ⟨a, 0, none⟩), .agg (Parts.arr ⟨19, nm', so', n', A', la', ca', V', lv', cv', P', lp', cp'⟩), .int .i64 0] (boxT w ⟨19, nm', so', n', A', la', ca', V', lv', cv', P', lp', cp'⟩) (BOk M a ns bs nv bv (boxT w ⟨19, nm', so', n', A', la', ca', V', lv', cv', P', lp', cp'⟩) b)) := Lib.hid (Hcall.out.mono fun e w' hp => by
      rcases hp with ⟨b2, hb, hk⟩ | ⟨er', he, _⟩
      · rw [hv] at hb; cases hb; exact hk
      · rw [hv] at he; cases he)
    have Hr2 : Hid (r = .ok (.tr b)) := Lib.hid (by rw [Hr.out, hv]; rfl)
    clear hv Hcall
    go_enter Tryz.func43, Tryz.ntmps43
    go_wp2_with (go_at_call 77; rw [← HW0.out]; refine Calls.mono Hc2.out ?_; rintro e w8 ⟨nv8, bv8, rfl, hs8, hf8⟩; have HS8 := Lib.hid hs8; have HF8 := Lib.hid hf8; clear hs8 hf8)
    go_ret
    exact .inl ⟨b, Hr2.out, nv8, bv8, rfl, HS8.out, HF8.out.ahead Hb0.out⟩
/-- Operands' truths, ahead of a connective. -/
def LPost (M : Mdl) (τ : Nat → List UInt8) (a : Nat) (l : List Tm) (ns : List ByteArray) (bs : List Nat) (nv bv : Value) (w : World) (e : Ending) (w' : World) : Prop :=
  (∃ vs, evals τ M.sig M.tbs M.objs l (envOf ns bs) = .ok vs ∧ TOk M a ns bs nv bv w (vs.map asBool) e w') ∨ (∃ er, evals τ M.sig M.tbs M.objs l (envOf ns bs) = .error er ∧ VErr M e w')
/-- What a connective's walk is given. -/
structure CPre (M : Mdl) (τ : Nat → List UInt8) (a : Nat) (ns : List ByteArray) (bs : List Nat) (p : Parts) (l : List Tm) : Prop where
  la : p.la = l.length
  len : l.length ≤ 1000000
  call : ∀ nv bv w, St M a ns bs nv bv w → Calls Tryz.prog 78 #[.pointer (some ⟨a, 0, none⟩), .slice p.A l.length p.ca] w (LPost M τ a l ns bs nv bv w)
end Go.Proofs.YtbnonccmlildnaaGreat
