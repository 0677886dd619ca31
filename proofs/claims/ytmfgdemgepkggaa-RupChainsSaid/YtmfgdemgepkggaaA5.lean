/- What 'look' does. -/
import Derived.Test.YtmfgdemgepkggaaA4
namespace Go.Proofs.Ytmfgdemgepkggaa
open Go.RowKit Go.Maps Go.ChangeMaps

/-- A clause, looked at: none: nothing is told by it; else the one literal that is open, if there is one. -/
def scan (ts : List Int) : List Int → Option Int → Option (Option Int)
  | [], o => some o
  | x :: c, o => if hasI ts x = true then none else if hasI ts (-x) = false ∧ o ≠ some x then (if o.isSome then none else scan ts c (some x)) else scan ts c o

def Looked (w : World) (B p atb tb : Nat) (lv nv : Value) (ts next : List Int) (c : List Int) (e : Ending) (w' : World) : Prop :=
  (scan ts c none = none ∧ e = .returned (.bool true) ∧ w = w') ∨ (scan ts c none = some none ∧ e = .returned (.bool false) ∧ w = w') ∨
  ∃ y, scan ts c none = some (some y) ∧ e = .returned (.bool true) ∧ Took w B p atb tb lv nv ts next y w'

section
variable {w : World} {B p atb tb : Nat} {lv nv : Value} {ts next : List Int}

theorem scan_true {ts : List Int} {x : Int} {c : List Int} {o : Option Int} (h : hasI ts x = true) : scan ts (x :: c) o = none := by simp [scan, h]
theorem scan_two {ts : List Int} {x y : Int} {c : List Int} (h1 : hasI ts x = false) (h2 : hasI ts (-x) = false) (h3 : y ≠ x) : scan ts (x :: c) (some y) = none := by simp [scan, h1, h2, h3]
theorem scan_one {ts : List Int} {x : Int} {c : List Int} (h1 : hasI ts x = false) (h2 : hasI ts (-x) = false) : scan ts (x :: c) none = scan ts c (some x) := by simp [scan, h1, h2]
theorem scan_same {ts : List Int} {x : Int} {c : List Int} (h1 : hasI ts x = false) : scan ts (x :: c) (some x) = scan ts c (some x) := by simp [scan, h1]
theorem scan_false {ts : List Int} {x : Int} {c : List Int} {o : Option Int} (h1 : hasI ts x = false) (h2 : hasI ts (-x) = true) : scan ts (x :: c) o = scan ts c o := by simp [scan, h1, h2]

/-- How far the loop is. -/
def LookRel (ts c : List Int) (v5 v6 v11 : Value) : Prop :=
  ∃ (k : Nat) (o : Option Int), k ≤ c.length ∧ v11 = .int .i64 k ∧ v5 = .int .i64 (o.getD 0) ∧ v6 = .bool o.isSome ∧ scan ts c none = scan ts (c.drop k) o ∧
    ∀ y, o = some y → y ∈ c ∧ hasI ts y = false ∧ hasI ts (-y) = false

theorem keyI (x : Int) (h : i64 x) : keyOf Try.prog 3 (.int .i64 x) = some (.int .i64 x) := keyOf_int_mk Try.underlying3 (i64_wf h)

set_option maxHeartbeats 4000000 in
theorem look_any (A : Option Addr) (ca : Nat) (c : List Int) (h : StAt w B p atb tb lv nv ts next) (hc : IntsAt w A ca c) (hi : ∀ x ∈ c, i64 x ∧ i64 (-x)) (hlen : c.length < 1000000) (hl : ts.length < 1000000) (hn : next.length < 1000000) (hB : B ≤ w.heap.size) :
    Calls Try.prog 22 #[.pointer (some ⟨p, 0, none⟩), .slice A c.length ca] w (Looked w B p atb tb lv nv ts next c) := by
  have c2 : w.cell? ⟨p, 2, none⟩ = some (.map (some tb)) := h.cellAt 2
  have Hh := Lib.hid h
  have Hc := Lib.hid hc
  have Hi := Lib.hid hi
  clear h hc hi
  go_enter Try.func22, Try.ntmps22
  go_wp2
  go_loop [5, 6, 11] (fun v5 v6 v11 => LookRel ts c v5 v6 v11) (fun _ _ i => c.length - (intOf i).toNat)
  case atStart => exact ⟨0, none, Nat.zero_le _, rfl, rfl, rfl, rfl, by simp⟩
  case round =>
    obtain ⟨k, o, hk, rfl, rfl, rfl, hs, ho⟩ := hrel
    have Hs := Lib.hid hs
    have Ho := Lib.hid ho
    clear hs ho
    by_cases hlt : k < c.length
    · obtain ⟨b, off, rfl, hcell⟩ := Hc.out.get hlt
      have hmem : c[k] ∈ c := List.getElem_mem hlt
      have hd : Hid (c.drop k = c[k] :: c.drop (k + 1)) := Lib.hid (List.drop_eq_getElem_cons hlt)
      have Hx : Hid ((i64 c[k] ∧ i64 (-c[k])) ∧ c[k] ∈ c) := Lib.hid ⟨Hi.out _ hmem, hmem⟩
      clear hmem
      generalize c[k] = x at *
      have hk1 := keyI x Hx.out.1.1
      have hk2 := keyI (-x) Hx.out.1.2
      obtain ⟨l1, l2⟩ := Hx.out.1.1
      obtain ⟨l3, l4⟩ := Hx.out.1.2
      cases hT : hasI ts x with
      | true =>
        have HT := Lib.hid hT
        clear hT
        go_wp2_with (first
          | (at_lookup; refine wpList_lookup_mapv _ rfl _ _ 45 rfl 3 3 law3 Try.underlying45 _ (zero3 _) tb _ _ rfl Hh.out.tr _ _ rfl hk1 (.int .i64 1) (by simp [truthF, HT.out]) ?_))
        go_ret
        exact .inl ⟨by rw [Hs.out, hd.out, scan_true HT.out], rfl, rfl⟩
      | false =>
        have HT := Lib.hid hT
        clear hT
        cases hT' : hasI ts (-x) with
        | true =>
          have HT' := Lib.hid hT'
          clear hT'
          go_wp2_with (first
            | (at_lookup; refine wpList_lookup_mapv _ rfl _ _ 45 rfl 3 3 law3 Try.underlying45 _ (zero3 _) tb _ _ rfl Hh.out.tr _ _ rfl hk1 (.int .i64 0) (by simp [truthF, HT.out]) ?_)
            | (at_lookup; refine wpList_lookup_mapv _ rfl _ _ 45 rfl 3 3 law3 Try.underlying45 _ (zero3 _) tb _ _ rfl Hh.out.tr _ _ rfl hk2 (.int .i64 1) (by simp [truthF, HT'.out]) ?_))
          go_round
          case rel => exact ⟨k + 1, o, by omega, by go_num, rfl, rfl, by rw [Hs.out, hd.out, scan_false HT.out HT'.out], Ho.out⟩
          case measure => simp [intOf]; omega
        | false =>
          have HT' := Lib.hid hT'
          clear hT'
          cases o with
          | none =>
            go_wp2_with (first
              | (at_lookup; refine wpList_lookup_mapv _ rfl _ _ 45 rfl 3 3 law3 Try.underlying45 _ (zero3 _) tb _ _ rfl Hh.out.tr _ _ rfl hk1 (.int .i64 0) (by simp [truthF, HT.out]) ?_)
              | (at_lookup; refine wpList_lookup_mapv _ rfl _ _ 45 rfl 3 3 law3 Try.underlying45 _ (zero3 _) tb _ _ rfl Hh.out.tr _ _ rfl hk2 (.int .i64 0) (by simp [truthF, HT'.out]) ?_))
            go_round
            case rel => exact ⟨k + 1, some x, by omega, by go_num, rfl, rfl, by rw [Hs.out, hd.out, scan_one HT.out HT'.out], fun y hy => by cases hy; exact ⟨Hx.out.2, HT.out, HT'.out⟩⟩
            case measure => simp [intOf]; omega
          | some y =>
            by_cases e : y = x
            · subst e
              go_wp2_with (first
                | (at_lookup; refine wpList_lookup_mapv _ rfl _ _ 45 rfl 3 3 law3 Try.underlying45 _ (zero3 _) tb _ _ rfl Hh.out.tr _ _ rfl hk1 (.int .i64 0) (by simp [truthF, HT.out]) ?_)
                | (at_lookup; refine wpList_lookup_mapv _ rfl _ _ 45 rfl 3 3 law3 Try.underlying45 _ (zero3 _) tb _ _ rfl Hh.out.tr _ _ rfl hk2 (.int .i64 0) (by simp [truthF, HT'.out]) ?_))
              go_round
              case rel => exact ⟨k + 1, some y, by omega, by go_num, rfl, rfl, by rw [Hs.out, hd.out, scan_same HT.out], Ho.out⟩
              case measure => simp [intOf]; omega
            · have en : (x != y) = true := by simpa using fun h => e h.symm
              have He := Lib.hid e
              clear e
              go_wp2_with (first
                | (at_lookup; refine wpList_lookup_mapv _ rfl _ _ 45 rfl 3 3 law3 Try.underlying45 _ (zero3 _) tb _ _ rfl Hh.out.tr _ _ rfl hk1 (.int .i64 0) (by simp [truthF, HT.out]) ?_)
                | (at_lookup; refine wpList_lookup_mapv _ rfl _ _ 45 rfl 3 3 law3 Try.underlying45 _ (zero3 _) tb _ _ rfl Hh.out.tr _ _ rfl hk2 (.int .i64 0) (by simp [truthF, HT'.out]) ?_))
              go_ret
              exact .inl ⟨by rw [Hs.out, hd.out, scan_two HT.out HT'.out He.out], rfl, rfl⟩
    · have hs' : Hid (scan ts c none = some o) := Lib.hid (by rw [Hs.out, List.drop_eq_nil_of_le (by omega)]; rfl)
      cases o with
      | none =>
        go_wp2
        go_ret
        exact .inr (.inl ⟨hs'.out, rfl, rfl⟩)
      | some y =>
        go_wp2_with (go_at_call 21; refine (take_new Hh.out y (Hi.out y (Ho.out y rfl).1).1 (Hi.out y (Ho.out y rfl).1).2 (Ho.out y rfl).2.2 (Ho.out y rfl).2.1 hl hn hB).mono ?_; rintro e w1 ⟨rfl, ht⟩; have Ht := Lib.hid ht; clear ht)
        go_ret
        exact .inr (.inr ⟨y, hs'.out, rfl, Ht.out⟩)
end
end Go.Proofs.Ytmfgdemgepkggaa
