/- What each operator asks of its operands' sorts. -/
import Derived.Test.YtbnonccmlildnaaGreatM3
import Derived.Deep.QuietTactic
import Derived.BigQuiet
set_option linter.unusedSimpArgs false
set_option linter.unusedVariables false
namespace Go.Proofs.YtbnonccmlildnaaGreat
open Go.RowKit

def Cells (w : World) (A : Option Addr) (cs : List Value) : Prop := (A = none ∧ cs = []) ∨ ∃ b o, A = some ⟨b, o, none⟩ ∧ ∀ j u, cs[j]? = some u → w.cell? ⟨b, o + j, none⟩ = some u
def IntsAt (w : World) (A : Option Addr) (c : Nat) (xs : List Int) : Prop := xs.length ≤ c ∧ (xs = [] ∨ Cells w A (xs.map (Value.int .i64)))
theorem Cells.mono {w w' : World} {A : Option Addr} {cs : List Value} (h : Cells w A cs) (hb : Below w.heap.size w w') : Cells w' A cs := by
  rcases h with h | ⟨b, o, hA, hc⟩
  · exact .inl h
  · exact .inr ⟨b, o, hA, fun j u hj => cell_of_below hb (Nat.le_refl _) (hc j u hj)⟩
theorem IntsAt.mono {w w' : World} {A : Option Addr} {c : Nat} {xs : List Int} (h : IntsAt w A c xs) (hb : Below w.heap.size w w') : IntsAt w' A c xs := ⟨h.1, h.2.imp id fun h => h.mono hb⟩
theorem IntsAt.get {w : World} {A : Option Addr} {c : Nat} {xs : List Int} (h : IntsAt w A c xs) {k : Nat} (hk : k < xs.length) :
    ∃ b o, A = some ⟨b, o, none⟩ ∧ w.cell? ⟨b, o + k, none⟩ = some (.int .i64 xs[k]) := by
  rcases h.2 with h | h | ⟨b, o, hA, hc⟩
  · subst h
    simp at hk
  · have := h.2
    simp at this
    subst this
    simp at hk
  · exact ⟨b, o, hA, hc k _ (by simp [hk])⟩
/-- A sort and an error. -/
def SortIs (w : World) (r : Int × Int) (e : Ending) (w' : World) : Prop := e = .returned (.tuple #[.int .i64 r.1, .int .i64 r.2]) ∧ Below w.heap.size w w'

def fixedS (i o : Int) (xs : List Int) : Int × Int := if xs.all (· == i) then (o, 0) else (0, 31)
theorem all_take {xs : List Int} {k : Nat} {p : Int → Bool} (hk : k < xs.length) : (xs.take (k + 1)).all p = ((xs.take k).all p && p xs[k]) := by
  rw [List.take_succ_eq_append_getElem hk, List.all_append]
  simp
set_option maxHeartbeats 1000000 in
theorem fixed_any {w : World} {A : Option Addr} {c : Nat} {xs : List Int} (i o : Int) (h : IntsAt w A c xs) (hl : xs.length ≤ 140737488355328) :
    Calls Tryz.prog 140 #[.agg #[.int .i64 i, .int .i64 o], .slice A xs.length c] w (SortIs w (fixedS i o xs)) := by
  have H := Lib.hid (h.mono ((Below.refl _ _).alloc (Nat.le_refl _) (.cells #[.int .i64 i, .int .i64 o] 121)))
  have Hb : Hid (Below w.heap.size w (w.alloc (.cells #[.int .i64 i, .int .i64 o] 121))) := Lib.hid ((Below.refl _ _).alloc (Nat.le_refl _) _)
  clear h
  go_enter Tryz.func140, Tryz.ntmps140
  go_wp2_with fail
  go_loop [10] (fun v => ∃ k : Nat, k ≤ xs.length ∧ v = .int .i64 k ∧ Hid ((xs.take k).all (· == i) = true)) (fun v => xs.length - (intOf v).toNat)
  case atStart => exact ⟨0, Nat.zero_le _, rfl, Lib.hid rfl⟩
  case round =>
    obtain ⟨k, hk, rfl, Hrel⟩ := hrel
    by_cases hlt : k < xs.length
    · obtain ⟨b, off, rfl, hc⟩ := H.out.get hlt
      have Hx : Hid ((xs.take (k + 1)).all (· == i) = (xs[k] == i) ∧ xs[k] ∈ xs) := Lib.hid ⟨by rw [all_take hlt, Hrel.out]; rfl, List.getElem_mem hlt⟩
      generalize xs[k] = x at *
      cases hx : (x == i) with
      | true =>
        have Hs : Hid ((xs.take (k + 1)).all (· == i) = true) := Lib.hid (by rw [Hx.out.1, hx])
        go_wp2_with fail
        go_round
        case rel => exact ⟨k + 1, by omega, by go_num, Hs⟩
        case measure => simp [intOf]; omega
      | false =>
        have Hr : Hid (fixedS i o xs = (0, 31)) := Lib.hid (by
          unfold fixedS
          rw [if_neg]
          intro h
          have := List.all_eq_true.1 h x Hx.out.2
          rw [hx] at this
          cases this)
        go_wp2_with fail
        go_ret2
        exact ⟨by rw [Hr.out]; rfl, Hb.out⟩
    · have Hr : Hid (fixedS i o xs = (o, 0)) := Lib.hid (by
        have := Hrel.out
        rw [List.take_of_length_le (by omega)] at this
        unfold fixedS
        rw [if_pos this])
      go_wp2_with fail
      go_ret2
      exact ⟨by rw [Hr.out]; rfl, Hb.out⟩
theorem bind_any {w : World} {A : Option Addr} {c : Nat} {xs : List Int} (i o : Int) (h : IntsAt w A c xs) (hl : xs.length ≤ 140737488355328) :
    Calls Tryz.prog 141 #[.agg #[.int .i64 i, .int .i64 o], .slice A xs.length c] w (SortIs w (fixedS i o xs)) := by
  have hb : Below w.heap.size w (w.alloc (.cells #[.int .i64 i, .int .i64 o] 123)) := (Below.refl _ _).alloc (Nat.le_refl _) _
  have Hc := Lib.hid (fixed_any i o (h.mono hb) hl)
  have Hb := Lib.hid hb
  clear h hb
  go_enter Tryz.func141, Tryz.ntmps141
  go_wp2_with (go_at_call 140; refine Calls.mono Hc.out ?_; rintro e w3 ⟨rfl, hb3⟩; have Hb3 := Lib.hid hb3; clear hb3)
  go_ret2
  exact ⟨rfl, Hb.out.trans (Hb3.out.mono (by simp))⟩
theorem leaf_any {w : World} {A : Option Addr} {n c : Nat} (s : Int) :
    Calls Tryz.prog 142 #[.agg #[.int .i64 s], .slice A n c] w (SortIs w (s, 0)) := by
  go_enter Tryz.func142, Tryz.ntmps142
  go_wp2_with fail
  go_ret2
  exact ⟨rfl, (Below.refl _ _).alloc (Nat.le_refl _) _⟩
end Go.Proofs.YtbnonccmlildnaaGreat
