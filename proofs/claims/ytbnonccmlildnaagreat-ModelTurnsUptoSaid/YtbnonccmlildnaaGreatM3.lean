/- Numbers' texts: whether they are right. -/
import Derived.Test.YtbnonccmlildnaaGreatM2
import Derived.Maps.AppendAt
import Derived.OwnWalk
set_option linter.unusedSimpArgs false
set_option linter.unusedVariables false
namespace Go.Proofs.YtbnonccmlildnaaGreat
open Go.RowKit

theorem info_parts {P : Program} {t : TypeId} {z : Value} {s b : Nat} (h : (P.info? t).map (fun i => (i.zero, i.size, i.bytes)) = some (some z, s, b)) : ∃ i, P.info? t = some i ∧ i.zero = some z ∧ i.size = s ∧ i.bytes = b := by
  cases hi : P.info? t with
  | none => rw [hi] at h; cases h
  | some i =>
    rw [hi] at h
    simp at h
    exact ⟨i, rfl, h.1, h.2.1, h.2.2⟩
theorem info135 : (Tryz.prog.info? 131).map (fun i => (i.zero, i.size, i.bytes)) = some (some (.int .u32 0), 1, 4) := by kernel_rfl
/-- A list of digits of the call's own. -/
def Digs (w : World) (base n : Nat) (v : Value) : Prop := ∃ xs, w.ownsRow base 131 1 v n xs ∧ ∀ u ∈ xs, ∃ x, u = .int .u32 x
theorem Digs.nil (w : World) (base : Nat) : Digs w base 0 (.slice none 0 0) := ⟨[], World.ownsRow_nil _ _ _ _, by simp⟩

set_option maxHeartbeats 1000000 in
theorem grown_any {w : World} {n : Nat} {v : Value} {t m : Int} {base : Nat} (h : Digs w base n v) (hn : n ≤ 1000000) (hbase : base ≤ w.heap.size) :
    Calls Tryz.prog 65 #[v, .int .u64 t, .int .u64 m] w fun e w' => ∃ v' n', e = .returned v' ∧ n' ≤ n + 1 ∧ Digs w' base n' v' ∧ Below base w w' := by
  obtain ⟨i135, hi, hz0, hz1, hz2⟩ := info_parts info135
  obtain ⟨xs, hx, hu⟩ := h
  have hxl := hx.1
  have hs : ∃ A c, v = .slice A n c ∧ (0 < n → ∃ g, A = some ⟨g, 0, none⟩ ∧ base ≤ g ∧ g < w.heap.size) := by
    rcases hx.2 with ⟨rfl, rfl⟩ | ⟨g, cap, cur, rfl, hg, hh, _⟩
    · exact ⟨_, _, rfl, by omega⟩
    · exact ⟨_, _, rfl, fun _ => ⟨g, rfl, hg, (Array.getElem?_eq_some_iff.1 hh).1⟩⟩
  obtain ⟨A, c, rfl, hA⟩ := hs
  have HA := Lib.hid hA
  have Hx := Lib.hid hx
  have Hu := Lib.hid hu
  clear hx hu hA hxl
  go_enter Tryz.func65, Tryz.ntmps65
  go_wp2_with fail
  go_loopw [2, 11] (fun mv i wr => ∃ (k : Nat) (m : Int) (xs : List Value), k ≤ n ∧ i = .int .i64 k ∧ mv = .int .u64 m ∧ wr.ownsRow base 131 1 (.slice A n c) n xs ∧ (∀ u ∈ xs, ∃ x, u = .int .u32 x) ∧ Below base w wr) (fun _ i _ => n - (intOf i).toNat)
  case atStart => exact ⟨0, m, xs, Nat.zero_le _, rfl, rfl, Hx.out, Hu.out, Below.refl _ _⟩
  case round =>
    clear Hx Hu xs
    obtain ⟨k, m, xs, hk, rfl, rfl, hx, hu, hbr⟩ := hrel
    have Hx := Lib.hid hx
    have Hu := Lib.hid hu
    have Hbr := Lib.hid hbr
    clear hx hu hbr
    by_cases hlt : k < n
    · obtain ⟨g, rfl, hg1, hg2⟩ := HA.out (by omega)
      have hxl : xs.length = n := by have := Hx.out.1; omega
      obtain ⟨x, hxx⟩ := Hu.out xs[k] (List.getElem_mem (by omega))
      have hc1 : wr.cell? ⟨g, k, none⟩ = some (.int .u32 x) := by
        rw [Hx.out.cellAt k (by omega), List.getElem?_eq_getElem (by omega), hxx]
      have hfz : wr.frozen? ⟨g, k, none⟩ = false := Hx.out.frozenAt k
      clear hxx hxl
      go_wp2_with fail
      go_roundw
      case rel =>
        refine ⟨k + 1, _, _, by omega, by go_num, rfl, (Hx.out.stored k _).1, fun u hu => ?_, Hbr.out.setCell hg1 _⟩
        rcases List.mem_or_eq_of_mem_set hu with h | h
        · exact Hu.out u h
        · exact ⟨_, h⟩
      case measure => simp [intOf]; omega
    · clear HA
      by_cases hm : 0 < m
      · have hu0 : ∀ (y : Int), Hid ((wr.alloc (.cells #[.int .u32 y] 131)).ownsRow base 131 1 (.slice A n c) n xs) := fun y => Lib.hid (Hx.out.alloc _)
        have hsz := Hbr.out.size
        go_wp2_with (at_builtin; refine wpList_append_own_at _ rfl _ _ 87 rfl base 131 i135 (.int .u32 0) 1 4 Tryz.underlying87 hi hz0 hz1 hz2 rfl (by omega) (.slice A n c) n xs rfl (hu0 _).out ⟨wr.heap.size, 0, none⟩ 1 1 [.int .u32 (m % 4294967296)] rfl rfl (fun j u hj => by cases j with | zero => (simp at hj; subst hj; simp [Addr.add]) | succ j => simp at hj) (fun u hu => by simp at hu; subst hu; rfl) (by simp [maxLen]; omega) (by omega) (by simp; omega) ?_; intro v' w' k1 k2 k3 k4; have K1 := Lib.hid k1; have K2 := Lib.hid k2; clear k1 k2 k3 k4)
        go_ret
        refine ⟨v', n + 1, rfl, Nat.le_refl _, ⟨_, K1.out, fun u hu => ?_⟩, (Hbr.out.alloc (by omega) _).grown K2.out (by simp; omega) (fun g hg => (Hx.out.lt g hg).1)⟩
        simp only [List.mem_append, List.mem_singleton] at hu
        rcases hu with h | h
        · exact Hu.out u h
        · exact ⟨_, h⟩
      · go_wp2_with fail
        go_ret
        exact ⟨.slice A n c, rfl, n, by omega, ⟨xs, Hx.out, Hu.out⟩, Hbr.out⟩

theorem size101 : (Tryz.prog.info? 89).map (·.size) = some 2 := by kernel_rfl
set_option maxHeartbeats 1000000 in
/-- 'made': any number of digits, and whether it is below 0. -/
theorem made_any {w : World} {n : Nat} {v : Value} {neg : Bool} {base : Nat} (h : Digs w base n v) (hn : n ≤ 1000000) :
    Calls Tryz.prog 66 #[v, .bool neg] w fun e w' => ∃ A k c b, e = .returned (.agg #[.slice A k c, .bool b]) ∧ Below w.heap.size w w' := by
  obtain ⟨xs, hx, hu⟩ := h
  have hxl := hx.1
  have hs : ∃ A c, v = .slice A n c ∧ n ≤ c ∧ (0 < n → ∃ g, A = some ⟨g, 0, none⟩ ∧ base ≤ g ∧ g < w.heap.size ∧ ∀ k, k < n → ∃ x, w.cell? ⟨g, k, none⟩ = some (.int .u32 x)) := by
    rcases hx.2 with ⟨rfl, rfl⟩ | ⟨g, cap, cur, rfl, hg, hh, hc, _⟩
    · exact ⟨_, _, rfl, Nat.le_refl _, by omega⟩
    · refine ⟨_, _, rfl, hc, fun _ => ⟨g, rfl, hg, (Array.getElem?_eq_some_iff.1 hh).1, fun k hk => ?_⟩⟩
      obtain ⟨x, hxx⟩ := hu xs[k] (List.getElem_mem (by omega))
      exact ⟨x, by rw [hx.cellAt k (by omega), List.getElem?_eq_getElem (by omega), hxx]⟩
  obtain ⟨A, c, rfl, hnc, hA⟩ := hs
  have HA := Lib.hid hA
  clear hx hu hA hxl
  go_enter Tryz.func66, Tryz.ntmps66
  go_wp2_with fail
  go_loopw [0] (fun v wr => ∃ k : Nat, k ≤ n ∧ v = .slice A k c ∧ wr = w.alloc (.cells #[.slice none 0 0, .bool false] 89)) (fun v _ => match v with | .slice _ k _ => k | _ => 0)
  case atStart => exact ⟨n, Nat.le_refl _, rfl, rfl⟩
  case round =>
    obtain ⟨k, hk, rfl, rfl⟩ := hrel
    by_cases hk0 : 0 < k
    · obtain ⟨g, rfl, hg1, hg2, hcell⟩ := HA.out (by omega)
      obtain ⟨x, hx⟩ := hcell (k - 1) (by omega)
      have hx2 : (w.alloc (.cells #[.slice none 0 0, .bool false] 89)).cell? ⟨g, k - 1, none⟩ = some (.int .u32 x) := cell_of_below ((Below.refl _ _).alloc (Nat.le_refl _) _) (Nat.le_refl _) hx
      clear hx hcell HA
      cases hz : (x == 0) with
      | true =>
        go_wp2_with fail
        go_roundw
        case rel => exact ⟨k - 1, by omega, rfl, trivial⟩
        case measure => simp; omega
      | false =>
        cases neg with
        | true =>
          go_wp2_with fail
          refine bodyPost_ret (results_cell_row rfl _ _ w.heap.size 89 #[.slice (some ⟨g, 0, none⟩) k c, .bool true] (0, 0) _ rfl (heap_alloc_new _ _) Tryz.underlying89 rfl size101) rfl ?_
          exact ⟨_, _, _, _, rfl, (Below.refl _ _).alloc (Nat.le_refl _) _⟩
        | false =>
          go_wp2_with fail
          refine bodyPost_ret (results_cell_row rfl _ _ w.heap.size 89 #[.slice (some ⟨g, 0, none⟩) k c, .bool false] (0, 0) _ rfl (heap_alloc_new _ _) Tryz.underlying89 rfl size101) rfl ?_
          exact ⟨_, _, _, _, rfl, (Below.refl _ _).alloc (Nat.le_refl _) _⟩
    · clear HA
      cases neg with
      | true =>
        go_wp2_with fail
        refine bodyPost_ret (results_cell_row rfl _ _ w.heap.size 89 #[.slice A k c, .bool false] (0, 0) _ rfl (heap_alloc_new _ _) Tryz.underlying89 rfl size101) rfl ?_
        exact ⟨_, _, _, _, rfl, (Below.refl _ _).alloc (Nat.le_refl _) _⟩
      | false =>
        go_wp2_with fail
        refine bodyPost_ret (results_cell_row rfl _ _ w.heap.size 89 #[.slice A k c, .bool false] (0, 0) _ rfl (heap_alloc_new _ _) Tryz.underlying89 rfl size101) rfl ?_
        exact ⟨_, _, _, _, rfl, (Below.refl _ _).alloc (Nat.le_refl _) _⟩
end Go.Proofs.YtbnonccmlildnaaGreat
