/- 'small', 'holds': clauses under an assignment of six letters. -/
import Derived.Test.YtmfgdemgepkggaaA21
namespace Go.Proofs.Ytmfgdemgepkggaa
open Go.RowKit Go.Maps Go.ChangeMaps

def smallLit (x : Int) : Bool := !(x == 0 || decide (6 < x) || decide (x < -6))
def lit (k x : Int) : Bool := if 0 < x then k / 2 ^ (x.toNat - 1) % 2 == 1 else k / 2 ^ ((-x).toNat - 1) % 2 == 0
theorem bits_one (a : Int) (h0 : 0 ≤ a) (h1 : a < 64) : Go.bits .and .i64 a 1 = a % 2 := by
  have h : ∀ n : Fin 64, Go.bits .and .i64 (n.val : Int) 1 = (n.val : Int) % 2 := by decide
  have := h ⟨a.toNat, by omega⟩
  rwa [show ((⟨a.toNat, by omega⟩ : Fin 64).val : Int) = a by simp; omega] at this
theorem shr_small (m : Int) (n : Nat) (h0 : 0 ≤ m) (h1 : m < 64) : 0 ≤ m / 2 ^ n ∧ m / 2 ^ n < 64 := by
  have hp : (0 : Int) < 2 ^ n := Int.pow_pos (by omega)
  exact ⟨Int.ediv_nonneg h0 (by omega), Int.lt_of_le_of_lt (Int.ediv_le_self _ h0) h1⟩

theorem all_take_succ {xs : List Int} {k : Nat} {p : Int → Bool} (hk : k < xs.length) : (xs.take (k + 1)).all p = ((xs.take k).all p && p xs[k]) := by
  rw [List.take_succ_eq_append_getElem hk, List.all_append]
  simp
theorem any_take_succ {xs : List Int} {k : Nat} {p : Int → Bool} (hk : k < xs.length) : (xs.take (k + 1)).any p = ((xs.take k).any p || p xs[k]) := by
  rw [List.take_succ_eq_append_getElem hk, List.any_append]
  simp

set_option maxHeartbeats 1000000 in
theorem small_any (A : Option Addr) (c : Nat) (xs : List Int) (w : World) (h : IntsAt w A c xs) (hi : ∀ x ∈ xs, i64 x) (hl : xs.length ≤ 140737488355328) :
    Calls Try.prog 16 #[.slice A xs.length c, .int .i64 6] w fun e w' => e = .returned (.bool (xs.all smallLit)) ∧ w = w' := by
  have H := Lib.hid h
  have Hi := Lib.hid hi
  clear h hi
  go_enter Try.func16, Try.ntmps16
  go_wp2_with fail
  go_loop [5] (fun v => ∃ k : Nat, k ≤ xs.length ∧ v = .int .i64 k ∧ Hid ((xs.take k).all smallLit = true)) (fun v => xs.length - (intOf v).toNat)
  case atStart => exact ⟨0, Nat.zero_le _, rfl, Lib.hid rfl⟩
  case round =>
    obtain ⟨k, hk, rfl, Hrel⟩ := hrel
    by_cases hlt : k < xs.length
    · obtain ⟨b3, off3, hB2, hc3⟩ := H.out.get hlt
      subst hB2
      have Hx : Hid (xs[k] ∈ xs ∧ (xs.take (k + 1)).all smallLit = ((xs.take k).all smallLit && smallLit xs[k])) := Lib.hid ⟨List.getElem_mem hlt, all_take_succ hlt⟩
      have hix := Hi.out _ Hx.out.1
      obtain ⟨hx1, hx2⟩ := hix
      generalize xs[k] = y at *
      by_cases hs : smallLit y = true
      · have hs' := hs
        simp only [smallLit, Bool.not_eq_true', Bool.or_eq_false_iff, decide_eq_false_iff_not, beq_eq_false_iff_ne] at hs'
        obtain ⟨⟨h1, h2⟩, h3⟩ := hs'
        have hb : (y == 0) = false := by simpa using h1
        have Hn := Lib.hid hs
        clear hs
        go_wp2_with fail
        go_round
        case rel => exact ⟨k + 1, by omega, by go_num, Lib.hid (by rw [Hx.out.2, Hrel.out, Hn.out]; rfl)⟩
        case measure => simp [intOf]; omega
      · have Hf : Hid (xs.all smallLit = false) := Lib.hid (by
          rw [List.all_eq_false]
          exact ⟨y, Hx.out.1, hs⟩)
        have hs' : y = 0 ∨ 6 < y ∨ y < -6 := by
          simp only [smallLit] at hs
          simp at hs
          omega
        clear hs
        rcases hs' with rfl | h | h
        · go_wp2_with fail
          go_ret
          exact ⟨by rw [Hf.out]; rfl, rfl⟩
        · have hb : (y == 0) = false := by simp; omega
          go_wp2_with fail
          go_ret
          exact ⟨by rw [Hf.out]; rfl, rfl⟩
        · have hb : (y == 0) = false := by simp; omega
          go_wp2_with fail
          go_ret
          exact ⟨by rw [Hf.out]; rfl, rfl⟩
    · have Hf : Hid (xs.all smallLit = true) := Lib.hid (by have := Hrel.out; rwa [List.take_of_length_le (by omega)] at this)
      go_wp2_with fail
      go_ret
      exact ⟨by rw [Hf.out]; rfl, rfl⟩

set_option maxHeartbeats 1000000 in
theorem holds_any (A : Option Addr) (c : Nat) (xs : List Int) (m : Int) (w : World) (h : IntsAt w A c xs) (hi : xs.all smallLit = true) (hm : 0 ≤ m ∧ m < 64) (hl : xs.length ≤ 140737488355328) :
    Calls Try.prog 17 #[.slice A xs.length c, .int .i64 m] w fun e w' => e = .returned (.bool (xs.any (lit m))) ∧ w = w' := by
  have H := Lib.hid h
  have Hi := Lib.hid hi
  clear h hi
  obtain ⟨hm0, hm1⟩ := hm
  go_enter Try.func17, Try.ntmps17
  go_wp2_with fail
  go_loop [5] (fun v => ∃ k : Nat, k ≤ xs.length ∧ v = .int .i64 k ∧ Hid ((xs.take k).any (lit m) = false)) (fun v => xs.length - (intOf v).toNat)
  case atStart => exact ⟨0, Nat.zero_le _, rfl, Lib.hid rfl⟩
  case round =>
    obtain ⟨k, hk, rfl, Hrel⟩ := hrel
    by_cases hlt : k < xs.length
    · obtain ⟨b3, off3, hB2, hc3⟩ := H.out.get hlt
      subst hB2
      have Hx : Hid (xs[k] ∈ xs ∧ (xs.take (k + 1)).any (lit m) = ((xs.take k).any (lit m) || lit m xs[k])) := Lib.hid ⟨List.getElem_mem hlt, any_take_succ hlt⟩
      have hs := List.all_eq_true.1 Hi.out _ Hx.out.1
      generalize xs[k] = y at *
      have hs' := hs
      simp only [smallLit, Bool.not_eq_true', Bool.or_eq_false_iff, decide_eq_false_iff_not, beq_eq_false_iff_ne] at hs'
      obtain ⟨⟨h1, h2⟩, h3⟩ := hs'
      clear hs
      by_cases hp : 0 < y
      · obtain ⟨t, ht⟩ : ∃ t, (Go.bits .and .i64 (m / 2 ^ (y.toNat - 1)) 1 == 1) = t := ⟨_, rfl⟩
        have Hlit : Hid (lit m y = t) := Lib.hid (by
          rw [← ht, bits_one _ (shr_small m _ hm0 hm1).1 (shr_small m _ hm0 hm1).2]
          simp [lit, hp])
        cases t with
        | true =>
          have Hf : Hid (xs.any (lit m) = true) := Lib.hid (List.any_eq_true.2 ⟨y, Hx.out.1, Hlit.out⟩)
          go_wp2_with fail
          go_ret
          exact ⟨by rw [Hf.out]; rfl, rfl⟩
        | false =>
          have hn0 : (decide (y < 0)) = false := by simp; omega
          go_wp2_with fail
          go_round
          case rel => exact ⟨k + 1, by omega, by go_num, Lib.hid (by rw [Hx.out.2, Hrel.out, Hlit.out]; rfl)⟩
          case measure => simp [intOf]; omega
      · have hp0 : (decide (0 < y)) = false := by simp; omega
        obtain ⟨t, ht⟩ : ∃ t, (Go.bits .and .i64 (m / 2 ^ ((-y).toNat - 1)) 1 == 0) = t := ⟨_, rfl⟩
        have Hlit : Hid (lit m y = t) := Lib.hid (by
          rw [← ht, bits_one _ (shr_small m _ hm0 hm1).1 (shr_small m _ hm0 hm1).2]
          simp [lit, hp])
        have hn : y < 0 := by omega
        cases t with
        | true =>
          have Hf : Hid (xs.any (lit m) = true) := Lib.hid (List.any_eq_true.2 ⟨y, Hx.out.1, Hlit.out⟩)
          go_wp2_with fail
          go_ret
          exact ⟨by rw [Hf.out]; rfl, rfl⟩
        | false =>
          go_wp2_with fail
          go_round
          case rel => exact ⟨k + 1, by omega, by go_num, Lib.hid (by rw [Hx.out.2, Hrel.out, Hlit.out]; rfl)⟩
          case measure => simp [intOf]; omega
    · have Hf : Hid (xs.any (lit m) = false) := Lib.hid (by have := Hrel.out; rwa [List.take_of_length_le (by omega)] at this)
      go_wp2_with fail
      go_ret
      exact ⟨by rw [Hf.out]; rfl, rfl⟩
end Go.Proofs.Ytmfgdemgepkggaa
