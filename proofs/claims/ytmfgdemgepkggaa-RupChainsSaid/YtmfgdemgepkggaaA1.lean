/- Words of this seat: how lists of integers and lists of clauses lie in memory; the small functions' contracts. -/
import Derived.Test.YtmfgdemgepkggaaRows
import Derived.WalkKit
import Derived.Deep.Draws
import Derived.Deep.LoopGhost
import Derived.Deep.QuietTactic
import Derived.BigQuiet
import Derived.Lib.Hide
namespace Go.Proofs.Ytmfgdemgepkggaa
open Go.RowKit

/-- From A on lie the cells cs. -/
def Cells (w : World) (A : Option Addr) (cs : List Value) : Prop :=
  cs = [] ∨ ∃ b o, A = some ⟨b, o, none⟩ ∧ ∀ j u, cs[j]? = some u → w.cell? ⟨b, o + j, none⟩ = some u
/-- The slice at A with so many places reads as the integers xs. -/
def IntsAt (w : World) (A : Option Addr) (c : Nat) (xs : List Int) : Prop := xs.length ≤ c ∧ Cells w A (xs.map (Value.int .i64))
/-- The value v reads as the integers xs. -/
def Ints (w : World) (v : Value) (xs : List Int) : Prop := ∃ A c, v = .slice A xs.length c ∧ IntsAt w A c xs
/-- The slice at A reads as the clauses xss. -/
def RowsAt (w : World) (A : Option Addr) (c : Nat) (xss : List (List Int)) : Prop :=
  xss.length ≤ c ∧ ∃ vs : List Value, vs.length = xss.length ∧ Cells w A vs ∧ ∀ (j : Nat) (v : Value) (xs : List Int), vs[j]? = some v → xss[j]? = some xs → Ints w v xs

theorem cell_of_below {B : Nat} {w w' : World} (h : Below B w w') {a : Addr} {v : Value} (hB : w.heap.size ≤ B) (hc : w.cell? a = some v) : w'.cell? a = some v :=
  (h.cell (by have := World.block_lt_of_cell? w a hc; omega)).trans hc
theorem Cells.below {w w' : World} {A : Option Addr} {cs : List Value} (h : Cells w A cs) (hb : Below w.heap.size w w') : Cells w' A cs := by
  rcases h with h | ⟨b, o, hA, hc⟩
  · exact .inl h
  · exact .inr ⟨b, o, hA, fun j u hj => cell_of_below hb (Nat.le_refl _) (hc j u hj)⟩
theorem IntsAt.below {w w' : World} {A : Option Addr} {c : Nat} {xs : List Int} (h : IntsAt w A c xs) (hb : Below w.heap.size w w') : IntsAt w' A c xs := ⟨h.1, h.2.below hb⟩
theorem Ints.below {w w' : World} {v : Value} {xs : List Int} (h : Ints w v xs) (hb : Below w.heap.size w w') : Ints w' v xs := by
  obtain ⟨A, c, hv, h⟩ := h
  exact ⟨A, c, hv, h.below hb⟩
theorem RowsAt.below {w w' : World} {A : Option Addr} {c : Nat} {xss : List (List Int)} (h : RowsAt w A c xss) (hb : Below w.heap.size w w') : RowsAt w' A c xss := by
  obtain ⟨h1, vs, h2, h3, h4⟩ := h
  exact ⟨h1, vs, h2, h3.below hb, fun j v xs a b => (h4 j v xs a b).below hb⟩
/-- An element of integers: where it lies. -/
theorem IntsAt.get {w : World} {A : Option Addr} {c : Nat} {xs : List Int} (h : IntsAt w A c xs) {k : Nat} (hk : k < xs.length) :
    ∃ b o, A = some ⟨b, o, none⟩ ∧ w.cell? ⟨b, o + k, none⟩ = some (.int .i64 xs[k]) := by
  rcases h.2 with h | ⟨b, o, hA, hc⟩
  · simp at h; subst h; simp at hk
  · exact ⟨b, o, hA, hc k _ (by simp [hk])⟩
/-- An element of clauses: where it lies, and what it is. -/
theorem RowsAt.get {w : World} {A : Option Addr} {c : Nat} {xss : List (List Int)} (h : RowsAt w A c xss) {k : Nat} (hk : k < xss.length) :
    ∃ b o B d, A = some ⟨b, o, none⟩ ∧ w.cell? ⟨b, o + k, none⟩ = some (.slice B xss[k].length d) ∧ IntsAt w B d xss[k] := by
  obtain ⟨_, vs, h2, h3, h4⟩ := h
  rcases h3 with h3 | ⟨b, o, hA, hc⟩
  · subst h3; simp at h2; omega
  · have hkv : k < vs.length := by omega
    obtain ⟨B, d, hv, hi⟩ := h4 k vs[k] xss[k] (by simp [hkv]) (by simp [hk])
    exact ⟨b, o, B, d, hA, by rw [hc k vs[k] (by simp [hkv]), hv], hi⟩

def hasI (xs : List Int) (v : Int) : Bool := xs.contains v
/-- slices.Index: at least 0 just if it is there. -/
def IdxPost (xs : List Int) (v : Int) (w : World) (e : Ending) (w' : World) : Prop := ∃ r : Int, e = .returned (.int .i64 r) ∧ decide (0 ≤ r) = hasI xs v ∧ w = w'

set_option maxHeartbeats 1000000 in
theorem index_any (A : Option Addr) (c : Nat) (xs : List Int) (v : Int) (w : World) (h : IntsAt w A c xs) (hl : xs.length ≤ 9223372036854775807) :
    Calls Try.prog 28 #[.slice A xs.length c, .int .i64 v] w (IdxPost xs v w) := by
  have H := Lib.hid h
  clear h
  go_enter Try.func28, Try.ntmps28
  go_wp2
  go_loop [8] (fun i => ∃ k : Nat, k ≤ xs.length ∧ i = .int .i64 k ∧ ∀ j (h : j < xs.length), j < k → ¬ xs[j] = v) (fun i => xs.length - (intOf i).toNat)
  case atStart => exact ⟨0, Nat.zero_le _, rfl, by simp⟩
  case round =>
    obtain ⟨k, hk, rfl, hno⟩ := hrel
    have Hno := Lib.hid hno
    clear hno
    by_cases hlt : k < xs.length
    · obtain ⟨b, o, rfl, hc⟩ := H.out.get hlt
      by_cases he : xs[k] = v
      · have he' : (v == xs[k]) = true := by simp [he]
        have Hin : Hid (hasI xs v = true) := Lib.hid (by simp [hasI]; exact he ▸ List.getElem_mem hlt)
        clear he
        go_wp2
        go_ret
        exact ⟨_, rfl, by rw [Hin.out]; simp, rfl⟩
      · have he' : (v == xs[k]) = false := by simpa using fun h => he h.symm
        have He := Lib.hid he
        clear he
        go_wp2
        go_round
        case rel => exact ⟨k + 1, by omega, by go_num, fun j h hj => by
          by_cases e : j = k
          · subst e; exact He.out
          · exact Hno.out j h (by omega)⟩
        case measure => simp [intOf]; omega
    · have Hn : Hid (hasI xs v = false) := Lib.hid (by
        unfold hasI
        rw [← Bool.not_eq_true]
        intro hc
        obtain ⟨j, hj, e⟩ := List.getElem_of_mem (List.contains_iff_mem.1 hc)
        exact Hno.out j hj (by omega) e)
      go_wp2
      go_ret
      exact ⟨_, rfl, by rw [Hn.out]; simp, rfl⟩

theorem contains_any (A : Option Addr) (c : Nat) (xs : List Int) (v : Int) (w : World) (h : IntsAt w A c xs) (hl : xs.length ≤ 9223372036854775807) :
    Calls Try.prog 26 #[.slice A xs.length c, .int .i64 v] w fun e w' => e = .returned (.bool (hasI xs v)) ∧ w = w' := by
  go_enter Try.func26, Try.ntmps26
  go_wp2_with (go_at_call 28; refine (index_any A c xs v _ h hl).mono ?_; rintro e w' ⟨r, rfl, hr, rfl⟩)
  go_ret
  exact ⟨by simp, rfl⟩

def none0 (c : List Int) : Bool := hasI c 0 || hasI c (-9223372036854775808)
theorem none_any (A : Option Addr) (c : Nat) (xs : List Int) (w : World) (h : IntsAt w A c xs) (hl : xs.length ≤ 9223372036854775807) :
    Calls Try.prog 20 #[.slice A xs.length c] w fun e w' => e = .returned (.bool (none0 xs)) ∧ w = w' := by
  cases h0 : hasI xs 0
  all_goals
    go_enter Try.func20, Try.ntmps20
    go_wp2_with (go_at_call 26; refine (contains_any A c xs _ _ h hl).mono ?_; rintro e w' ⟨rfl, rfl⟩)
    go_ret
    exact ⟨by simp [none0, h0], rfl⟩

end Go.Proofs.Ytmfgdemgepkggaa
