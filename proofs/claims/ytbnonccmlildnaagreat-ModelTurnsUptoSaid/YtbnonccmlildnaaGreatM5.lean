/- .. of an equality, a choice, a function. -/
import Derived.Test.YtbnonccmlildnaaGreatM4
import Derived.WalkSmall
set_option linter.unusedSimpArgs false
set_option linter.unusedVariables false
namespace Go.Proofs.YtbnonccmlildnaaGreat
open Go.RowKit

def equalS (a b : Int) : Int × Int := if a = b then (2, 0) else (0, 31)
set_option maxHeartbeats 1000000 in
theorem equal_any {w : World} {A : Option Addr} {c : Nat} {a b : Int} (h : IntsAt w A c [a, b]) :
    Calls Tryz.prog 143 #[.agg #[], .slice A 2 c] w (SortIs w (equalS a b)) := by
  have h' := h.mono ((Below.refl _ _).alloc (Nat.le_refl _) (.cells #[] 159))
  obtain ⟨g, o, rfl, h0⟩ := h'.get (k := 0) (by simp)
  obtain ⟨g', o', hA, h1⟩ := h'.get (k := 1) (by simp)
  simp only [Option.some.injEq, Addr.mk.injEq, and_true] at hA
  obtain ⟨rfl, rfl⟩ := hA
  have Hb : Hid (Below w.heap.size w (w.alloc (.cells #[] 159))) := Lib.hid ((Below.refl _ _).alloc (Nat.le_refl _) _)
  simp only [List.getElem_cons_zero, List.getElem_cons_succ, Nat.add_zero] at h0 h1
  clear h h'
  by_cases hab : a = b
  · subst hab
    have Hr : Hid (equalS a a = (2, 0)) := Lib.hid (by unfold equalS; rw [if_pos rfl])
    go_enter Tryz.func143, Tryz.ntmps143
    go_wp2_with fail
    go_quiet (fail)
    go_wp2_with fail
    go_ret2
    exact ⟨by rw [Hr.out]; rfl, below_drewN Hb.out _⟩
  · have Hr : Hid (equalS a b = (0, 31)) := Lib.hid (by unfold equalS; rw [if_neg hab])
    have hne : (a == b) = false := by simpa using hab
    go_enter Tryz.func143, Tryz.ntmps143
    go_wp2_with fail
    go_quiet (fail)
    go_wp2_with fail
    go_ret2
    exact ⟨by rw [Hr.out]; rfl, below_drewN Hb.out _⟩

def iteS (k a b : Int) : Int × Int := if k = 2 ∧ a = b then (a, 0) else (0, 31)
set_option maxHeartbeats 1000000 in
theorem ite_any {w : World} {A : Option Addr} {c : Nat} {k a b : Int} (h : IntsAt w A c [k, a, b]) :
    Calls Tryz.prog 144 #[.agg #[], .slice A 3 c] w (SortIs w (iteS k a b)) := by
  have h' := h.mono ((Below.refl _ _).alloc (Nat.le_refl _) (.cells #[] 160))
  obtain ⟨g, o, rfl, h0⟩ := h'.get (k := 0) (by simp)
  obtain ⟨g', o', hA, h1⟩ := h'.get (k := 1) (by simp)
  simp only [Option.some.injEq, Addr.mk.injEq, and_true] at hA
  obtain ⟨rfl, rfl⟩ := hA
  obtain ⟨g', o', hA, h2⟩ := h'.get (k := 2) (by simp)
  simp only [Option.some.injEq, Addr.mk.injEq, and_true] at hA
  obtain ⟨rfl, rfl⟩ := hA
  have Hb : Hid (Below w.heap.size w (w.alloc (.cells #[] 160))) := Lib.hid ((Below.refl _ _).alloc (Nat.le_refl _) _)
  have Hd : Hid (∀ n, ((w.alloc (.cells #[] 160)).drewN n).cell? ⟨g, o + 1, none⟩ = some (.int .i64 a)) := Lib.hid (fun n => cell_of_below (below_drewN (Below.refl _ _) n) (Nat.le_refl _) (by simpa using h1))
  simp only [List.getElem_cons_zero, List.getElem_cons_succ, Nat.add_zero] at h0 h1 h2
  clear h h'
  by_cases hk : k = 2
  · subst hk
    by_cases hab : a = b
    · subst hab
      have Hr : Hid (iteS 2 a a = (a, 0)) := Lib.hid (by unfold iteS; rw [if_pos ⟨rfl, rfl⟩])
      go_enter Tryz.func144, Tryz.ntmps144
      go_wp2_with fail
      go_quiet (fail)
      have hd := Hd.out nq
      go_wp2_with fail
      go_ret2
      exact ⟨by rw [Hr.out]; rfl, below_drewN Hb.out _⟩
    · have Hr : Hid (iteS 2 a b = (0, 31)) := Lib.hid (by unfold iteS; rw [if_neg (fun h => hab h.2)])
      have hne : (a == b) = false := by simpa using hab
      go_enter Tryz.func144, Tryz.ntmps144
      go_wp2_with fail
      go_quiet (fail)
      go_wp2_with fail
      go_ret2
      exact ⟨by rw [Hr.out]; rfl, below_drewN Hb.out _⟩
  · have Hr : Hid (iteS k a b = (0, 31)) := Lib.hid (by unfold iteS; rw [if_neg (fun h => hk h.1)])
    have hne : (k == 2) = false := by simpa using hk
    go_enter Tryz.func144, Tryz.ntmps144
    go_wp2_with fail
    go_quiet (fail)
    go_wp2_with fail
    go_ret2
    exact ⟨by rw [Hr.out]; rfl, below_drewN Hb.out _⟩
theorem eqTake_succ {xs ys : List Int} {k : Nat} (h1 : k < xs.length) (h2 : k < ys.length) (h : xs.take k = ys.take k) : (xs.take (k + 1) = ys.take (k + 1)) ↔ xs[k] = ys[k] := by
  rw [List.take_succ_eq_append_getElem h1, List.take_succ_eq_append_getElem h2, h]
  exact ⟨fun e => by simpa using List.append_cancel_left e, fun e => by rw [e]⟩
set_option maxHeartbeats 1000000 in
theorem equalInts_same {w : World} {A B : Option Addr} {ca cb n : Nat} {xs ys : List Int} (hx : IntsAt w A ca xs) (hy : IntsAt w B cb ys) (hl : n ≤ 140737488355328) (h1 : xs.length = n) (h2 : ys.length = n) :
    Calls Tryz.prog 146 #[.slice A n ca, .slice B n cb] w fun e w' => e = .returned (.bool (decide (xs = ys))) ∧ Below w.heap.size w w' := by
  have Hx := Lib.hid hx
  have Hy := Lib.hid hy
  have H1 := Lib.hid h1
  have H2 := Lib.hid h2
  clear hx hy h1 h2
  go_enter Tryz.func146, Tryz.ntmps146
  go_wp2_with fail
  go_loopw [13] (fun v wr => ∃ k : Nat, k ≤ n ∧ v = .int .i64 k ∧ Hid (xs.take k = ys.take k) ∧ Below w.heap.size w wr) (fun v _ => n - (intOf v).toNat)
  case atStart => exact ⟨0, Nat.zero_le _, rfl, Lib.hid rfl, Below.refl _ _⟩
  case round =>
    obtain ⟨k, hk, rfl, Hrel, hbr⟩ := hrel
    have Hbr := Lib.hid hbr
    clear hbr
    by_cases hlt : k < n
    · have hlx : k < xs.length := by rw [H1.out]; exact hlt
      have hly : k < ys.length := by rw [H2.out]; exact hlt
      obtain ⟨b, off, rfl, hc⟩ := (Hx.out.mono Hbr.out).get hlx
      obtain ⟨b2, off2, rfl, hc2⟩ := (Hy.out.mono Hbr.out).get hly
      have Hs := Lib.hid (eqTake_succ hlx hly Hrel.out)
      have Hne : Hid (xs[k] ≠ ys[k] → decide (xs = ys) = false) := Lib.hid (fun h => decide_eq_false (fun e => by subst e; exact h rfl))
      generalize xs[k] = x at *
      generalize ys[k] = y at *
      clear hlx hly
      by_cases hxy : x = y
      · have Hs2 : Hid (xs.take (k + 1) = ys.take (k + 1)) := Lib.hid (Hs.out.2 hxy)
        subst hxy
        go_wp2_with fail
        go_quiet (fail)
        go_wp2_with fail
        go_roundw
        case rel => exact ⟨k + 1, by omega, by go_num, Hs2, below_drewN Hbr.out _⟩
        case measure => simp [intOf]; omega
      · have Hr := Lib.hid (Hne.out hxy)
        have hne : (x == y) = false := by simpa using hxy
        go_wp2_with fail
        go_quiet (fail)
        go_wp2_with fail
        go_ret
        exact ⟨by rw [Hr.out]; rfl, below_drewN Hbr.out _⟩
    · have Hr : Hid (decide (xs = ys) = true) := Lib.hid (by
        have h := Hrel.out
        have e1 := H1.out
        have e2 := H2.out
        rw [List.take_of_length_le (by omega), List.take_of_length_le (by omega)] at h
        exact decide_eq_true h)
      go_wp2_with fail
      go_ret
      exact ⟨by rw [Hr.out]; rfl, Hbr.out⟩
theorem equalInts_any {w : World} {A B : Option Addr} {ca cb : Nat} {xs ys : List Int} (hx : IntsAt w A ca xs) (hy : IntsAt w B cb ys) (hl : xs.length ≤ 140737488355328) :
    Calls Tryz.prog 146 #[.slice A xs.length ca, .slice B ys.length cb] w fun e w' => e = .returned (.bool (decide (xs = ys))) ∧ Below w.heap.size w w' := by
  by_cases hlen : xs.length = ys.length
  · rw [← hlen]
    exact equalInts_same hx hy hl rfl hlen.symm
  · have Hr : Hid (decide (xs = ys) = false) := Lib.hid (decide_eq_false (fun e => hlen (by rw [e])))
    have hne : ((xs.length : Int) == (ys.length : Int)) = false := by
      rw [beq_eq_false_iff_ne]
      omega
    clear hx hy
    go_enter Tryz.func146, Tryz.ntmps146
    go_wp2_with fail
    go_ret
    exact ⟨by rw [Hr.out]; rfl, Below.refl _ _⟩

def funS (args : List Int) (out : Int) (xs : List Int) : Int × Int := if xs = args ∧ sortB out = true then (out, 0) else (0, 31)
set_option maxHeartbeats 1000000 in
theorem fun_any {w : World} {A B : Option Addr} {ca cb : Nat} {xs args : List Int} (nm : ByteArray) (out : Int) (hx : IntsAt w A ca xs) (ha : IntsAt w B cb args) (hl : xs.length ≤ 140737488355328) (ho : i64 out) :
    Calls Tryz.prog 145 #[.agg #[.string nm, .slice B args.length cb, .int .i64 out], .slice A xs.length ca] w (SortIs w (funS args out xs)) := by
  have hb : Below w.heap.size w (w.alloc (.cells #[.string nm, .slice B args.length cb, .int .i64 out] 165)) := (Below.refl _ _).alloc (Nat.le_refl _) _
  have Hc := Lib.hid (equalInts_any (hx.mono hb) (ha.mono hb) hl)
  have Hb := Lib.hid hb
  have Ho := Lib.hid ho
  have Hcell : Hid (∀ w3, Below (w.heap.size + 1) (w.alloc (.cells #[.string nm, .slice B args.length cb, .int .i64 out] 165)) w3 → w3.cell? ⟨w.heap.size, 2, none⟩ = some (.int .i64 out)) := Lib.hid (fun w3 h3 => cell_of_below h3 (by simp) (by simp))
  clear hx ha hb ho
  by_cases he : xs = args
  · rw [decide_eq_true he] at Hc
    cases hs : sortB out with
    | true =>
      have Hr : Hid (funS args out xs = (out, 0)) := Lib.hid (by unfold funS; rw [if_pos ⟨he, hs⟩])
      have Hs := Lib.hid hs
      clear he hs
      go_enter Tryz.func145, Tryz.ntmps145
      go_wp2_with (first
        | (go_at_call 146; refine Calls.mono Hc.out ?_; rintro e w3 ⟨rfl, hb3⟩; have Hb3 := Lib.hid hb3; have hcell := Hcell.out w3 (by simpa using hb3); clear hb3)
        | (go_at_call 108; refine (sort_any out _ Ho.out).mono ?_; rintro e w4 ⟨rfl, rfl⟩; rw [Hs.out]))
      go_ret2
      exact ⟨by rw [Hr.out]; rfl, Hb.out.trans (Hb3.out.mono (by simp))⟩
    | false =>
      have Hr : Hid (funS args out xs = (0, 31)) := Lib.hid (by unfold funS; rw [if_neg (fun h => by rw [hs] at h; cases h.2)])
      have Hs := Lib.hid hs
      clear he hs
      go_enter Tryz.func145, Tryz.ntmps145
      go_wp2_with (first
        | (go_at_call 146; refine Calls.mono Hc.out ?_; rintro e w3 ⟨rfl, hb3⟩; have Hb3 := Lib.hid hb3; have hcell := Hcell.out w3 (by simpa using hb3); clear hb3)
        | (go_at_call 108; refine (sort_any out _ Ho.out).mono ?_; rintro e w4 ⟨rfl, rfl⟩; rw [Hs.out]))
      go_ret2
      exact ⟨by rw [Hr.out]; rfl, Hb.out.trans (Hb3.out.mono (by simp))⟩
  · rw [decide_eq_false he] at Hc
    have Hr : Hid (funS args out xs = (0, 31)) := Lib.hid (by unfold funS; rw [if_neg (fun h => he h.1)])
    clear he
    go_enter Tryz.func145, Tryz.ntmps145
    go_wp2_with (go_at_call 146; refine Calls.mono Hc.out ?_; rintro e w3 ⟨rfl, hb3⟩; have Hb3 := Lib.hid hb3; clear hb3)
    go_ret2
    exact ⟨by rw [Hr.out]; rfl, Hb.out.trans (Hb3.out.mono (by simp))⟩
end Go.Proofs.YtbnonccmlildnaaGreat

/- Signatures: finding a function by its name. -/
namespace Go.Proofs.YtbnonccmlildnaaGreat
open Go.RowKit

/-- A function's signature. -/
structure Fn where
  name : ByteArray
  args : List Int
  out : Int
/-- Where the parts of the j-th one lie. -/
structure FnAt (w : World) (f : Fn) (v : Value) : Prop where
  is : ∃ B c, v = .agg #[.string f.name, .slice B f.args.length c, .int .i64 f.out] ∧ IntsAt w B c f.args
  name : f.name.size ≤ 140737488355328
  args : f.args.length ≤ 140737488355328
  out : i64 f.out
def FnsAt (w : World) (A : Option Addr) (sig : List Fn) : Prop := ∃ g : Nat → Value, RowCells w A 3 sig.length g ∧ ∀ (j : Nat) (f : Fn), sig[j]? = some f → FnAt w f (g j)
theorem FnsAt.mono {w w' : World} {A : Option Addr} {sig : List Fn} (h : FnsAt w A sig) (hb : Below w.heap.size w w') : FnsAt w' A sig := by
  obtain ⟨g, h1, h2⟩ := h
  refine ⟨g, h1.below hb, fun j f hj => ?_⟩
  obtain ⟨⟨B, c, e, hi⟩, a, b, d⟩ := h2 j f hj
  exact ⟨⟨B, c, e, hi.mono hb⟩, a, b, d⟩
theorem FnsAt.get {w : World} {A : Option Addr} {sig : List Fn} (h : FnsAt w A sig) {j : Nat} {f : Fn} (hj : sig[j]? = some f) :
    ∃ b o B c, A = some ⟨b, o, none⟩ ∧ w.cell? ⟨b, o + j * 3, none⟩ = some (.string f.name) ∧ w.cell? ⟨b, o + j * 3 + 1, none⟩ = some (.slice B f.args.length c) ∧ w.cell? ⟨b, o + j * 3 + 2, none⟩ = some (.int .i64 f.out) ∧ IntsAt w B c f.args := by
  obtain ⟨g, h1, h2⟩ := h
  have hl : j < sig.length := by
    rcases Nat.lt_or_ge j sig.length with h | h
    · exact h
    · rw [List.getElem?_eq_none h] at hj
      cases hj
  obtain ⟨⟨B, c, e, hi⟩, _⟩ := h2 j f hj
  rcases h1 with h | ⟨b, o, hA, h⟩
  · omega
  · have h3 := (h j hl).2
    rw [e] at h3
    exact ⟨b, o, B, c, hA, by simpa [Value.cells] using h3 0 (by omega), by simpa [Value.cells] using h3 1 (by omega), by simpa [Value.cells] using h3 2 (by omega), hi⟩
theorem fn_name (nm x : ByteArray) (B : Option Addr) (n c : Nat) (out : Int) (w : World) (q : Nat) (hq : w.cell? ⟨q, 1, none⟩ = some (.string x)) :
    Calls Tryz.prog 97 #[.agg #[.string nm, .slice B n c, .int .i64 out], .pointer (some ⟨q, 0, none⟩)] w fun e w' => e = .returned (.bool (nm.toList == x.toList)) ∧ Below w.heap.size w w' := by
  have hq2 : (w.alloc (.cells #[.string nm, .slice B n c, .int .i64 out] 50)).cell? ⟨q, 1, none⟩ = some (.string x) := cell_of_below ((Below.refl _ _).alloc (Nat.le_refl _) _) (Nat.le_refl _) hq
  clear hq
  go_enter Tryz.func97, Tryz.ntmps97
  go_wp2_with fail
  go_ret
  exact ⟨rfl, (Below.refl _ _).alloc (Nat.le_refl _) _⟩
/-- The first one of that name. -/
def firstFn (sig : List Fn) (x : ByteArray) : Option Nat := sig.findIdx? fun f => f.name.toList == x.toList
def idxOf (o : Option Nat) : Int := match o with | some k => k | none => -1
theorem firstFn_none {sig : List Fn} {x : ByteArray} : firstFn sig x = none ↔ ∀ f ∈ sig, (f.name.toList == x.toList) = false := by
  unfold firstFn
  rw [List.findIdx?_eq_none_iff]
theorem firstFn_some {sig : List Fn} {x : ByteArray} {k : Nat} (hk : k < sig.length) (h : (sig[k].name.toList == x.toList) = true) (hno : firstFn (sig.take k) x = none) : firstFn sig x = some k := by
  unfold firstFn
  rw [List.findIdx?_eq_some_iff_getElem]
  refine ⟨hk, h, fun j hj => ?_⟩
  have := firstFn_none.1 hno (sig[j]'(by omega)) (by rw [List.mem_take_iff_getElem]; exact ⟨j, by omega, rfl⟩)
  rw [this]
  simp

set_option maxHeartbeats 1000000 in
theorem fnIndex_any {w : World} {A : Option Addr} {c : Nat} {sig : List Fn} {x : ByteArray} {q : Nat} (hn : sig.length ≤ 140737488355328) (hf : FnsAt w A sig) (hq : w.cell? ⟨q, 1, none⟩ = some (.string x)) :
    Calls Tryz.prog 68 #[.slice A sig.length c, .func (.func 97) #[] #[.pointer (some ⟨q, 0, none⟩)]] w fun e w' => e = .returned (.int .i64 (idxOf (firstFn sig x))) ∧ Below w.heap.size w w' := by
  have Hf := Lib.hid hf
  have Hq := Lib.hid hq
  clear hf hq
  go_enter Tryz.func68, Tryz.ntmps68
  go_wp2_with fail
  go_loopw [8] (fun i wr => ∃ k : Nat, k ≤ sig.length ∧ i = .int .i64 k ∧ Hid (firstFn (sig.take k) x = none) ∧ Below w.heap.size w wr) (fun i _ => sig.length - (intOf i).toNat)
  case atStart => exact ⟨0, Nat.zero_le _, rfl, Lib.hid rfl, Below.refl _ _⟩
  case round =>
    obtain ⟨k, hk, rfl, Hno, hbr⟩ := hrel
    have Hbr := Lib.hid hbr
    clear hbr
    by_cases hlt : k < sig.length
    · have hx : sig[k]? = some sig[k] := List.getElem?_eq_getElem hlt
      obtain ⟨b, o, B, cB, rfl, h0, h1, h2, _⟩ := (Hf.out.mono Hbr.out).get hx
      have Hs : Hid ((sig[k].name.toList == x.toList) = true → firstFn sig x = some k) := Lib.hid (fun h => firstFn_some hlt h Hno.out)
      have Hs2 : Hid ((sig[k].name.toList == x.toList) = false → firstFn (sig.take (k + 1)) x = none) := Lib.hid (fun h => by
        rw [firstFn_none]
        intro f hf
        rw [List.take_succ_eq_append_getElem hlt, List.mem_append, List.mem_singleton] at hf
        rcases hf with hf | rfl
        · exact firstFn_none.1 Hno.out f hf
        · exact h)
      have Hcall := Lib.hid (fn_name sig[k].name x B sig[k].args.length cB sig[k].out wr q (cell_of_below Hbr.out (Nat.le_refl _) Hq.out))
      clear hx
      generalize sig[k] = f at *
      cases hqq : (f.name.toList == x.toList) with
      | true =>
        have Hr := Lib.hid (Hs.out hqq)
        rw [hqq] at Hcall
        clear hqq Hs Hs2
        go_wp2_with (go_at_call 97; refine Calls.mono Hcall.out ?_; rintro e w3 ⟨rfl, hb3⟩; have Hb3 := Lib.hid hb3; clear hb3)
        go_ret
        exact ⟨by rw [Hr.out]; rfl, Hbr.out.trans (Hb3.out.mono Hbr.out.size)⟩
      | false =>
        have Hr := Lib.hid (Hs2.out hqq)
        rw [hqq] at Hcall
        clear hqq Hs Hs2
        go_wp2_with (go_at_call 97; refine Calls.mono Hcall.out ?_; rintro e w3 ⟨rfl, hb3⟩; have Hb3 := Lib.hid hb3; clear hb3)
        go_roundw
        case rel => exact ⟨k + 1, by omega, by go_num, Hr, Hbr.out.trans (Hb3.out.mono Hbr.out.size)⟩
        case measure => simp [intOf]; omega
    · have Hr : Hid (firstFn sig x = none) := Lib.hid (by have := Hno.out; rwa [List.take_of_length_le (by omega)] at this)
      go_wp2_with fail
      go_ret
      exact ⟨by rw [Hr.out]; rfl, Hbr.out⟩
end Go.Proofs.YtbnonccmlildnaaGreat
