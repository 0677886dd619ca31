/- The text of an object, whatever the library's table holds. -/
import Derived.Test.YtbnonccmlildnaaGreatM37
set_option linter.unusedSimpArgs false
set_option linter.unusedVariables false
namespace Go.Proofs.YtbnonccmlildnaaGreat
open Go.RowKit Go.Lib

theorem len_small {u : Nat} (h : u < 1000) : Lib.l10 (Lib.bitLen u) ≤ 3 ∧ Lib.bitLen u ≤ 64 ∧ (100 ≤ u → 2 ≤ Lib.l10 (Lib.bitLen u)) := by
  have h1 : ((List.range 1000).all fun u => decide (Lib.l10 (Lib.bitLen u) ≤ 3 ∧ Lib.bitLen u ≤ 64 ∧ (100 ≤ u → 2 ≤ Lib.l10 (Lib.bitLen u)))) = true := by kernel_rfl
  exact of_decide_eq_true (List.all_eq_true.1 h1 u (List.mem_range.2 h))
/-- What the library's table holds. -/
def TabAt (tab : Nat → Nat) (w : World) : Prop := ∀ j, j < 20 → w.cell? ⟨0, j, none⟩ = some (.int .u64 (tab j))
def ndT (tab : Nat → Nat) (u : Nat) : Nat := Lib.l10 (Lib.bitLen u) + (if tab (Lib.l10 (Lib.bitLen u)) ≤ u then 1 else 0)
set_option maxRecDepth 100000 in
set_option maxHeartbeats 2000000 in
theorem numD_any {u : Nat} (h1 : 100 ≤ u) (h2 : u < 1000) {tab : Nat → Nat} {w : World} (hc : TabAt tab w) : Calls Tryz.prog 152 #[.int .u64 (u : Int)] w fun e w' => e = .returned (.int .i64 (ndT tab u : Nat)) ∧ w = w' := by
  obtain ⟨a1, a2, _⟩ := len_small h2
  have hcell := hc (Lib.l10 (Lib.bitLen u)) (by omega)
  have Hr : Hid ((ndT tab u : Int) = (Lib.l10 (Lib.bitLen u) : Int) + (if tab (Lib.l10 (Lib.bitLen u)) ≤ u then 1 else 0)) := Lib.hid (by unfold ndT; split <;> simp)
  have Hl : Hid (∀ w, Calls Tryz.prog 156 #[.int .u64 (u : Int)] w fun e w' => e = .returned (.int .i64 (Lib.bitLen u : Nat)) ∧ w' = w) := Lib.hid (fun w => Tryz.bits_Len64 (u : Int) w (by omega) (by omega))
  have Hg := Lib.hid (fun w => Tryz.internal_strconv_log10Pow2 (Lib.bitLen u) a2 w)
  generalize Lib.l10 (Lib.bitLen u) = n at *
  generalize Lib.bitLen u = m at *
  have hn1 : (0 : Int) ≤ (n : Int) := by omega
  have hn2 : (n : Int) < 20 := by omega
  generalize hb : decide (tab n ≤ u) = b at *
  cases b with
  | true =>
    go_enter Tryz.func152, Tryz.ntmps152
    go_wp2_with (first
      | (go_at_call 156; refine (Hl.out _).mono ?_; rintro e w3 ⟨rfl, rfl⟩)
      | (go_at_call 155; refine (Hg.out _).mono ?_; rintro e w4 ⟨rfl, rfl⟩)
      | (go_at_call 157; refine (Tryz.internal_strconv_bool2_int true _).mono ?_; rintro e w5 ⟨rfl, rfl⟩))
    go_ret
    exact ⟨by rw [Hr.out, if_pos (of_decide_eq_true hb)]; rfl, rfl⟩
  | false =>
    go_enter Tryz.func152, Tryz.ntmps152
    go_wp2_with (first
      | (go_at_call 156; refine (Hl.out _).mono ?_; rintro e w3 ⟨rfl, rfl⟩)
      | (go_at_call 155; refine (Hg.out _).mono ?_; rintro e w4 ⟨rfl, rfl⟩)
      | (go_at_call 157; refine (Tryz.internal_strconv_bool2_int false _).mono ?_; rintro e w5 ⟨rfl, rfl⟩))
    go_ret
    exact ⟨by rw [Hr.out, if_neg (of_decide_eq_false hb)]; simp, rfl⟩
end Go.Proofs.YtbnonccmlildnaaGreat

/- Two digits of a greater number. -/
namespace Go.Proofs.YtbnonccmlildnaaGreat
open Go.RowKit Go.Lib Go.Shelf Go.Sort Go.Proofs

set_option maxRecDepth 100000 in
set_option maxHeartbeats 4000000 in
theorem fmt2_any {K cap : Nat} {u : Nat} (h1 : 100 ≤ u) (h2 : u < 1000) {d : Array UInt8} (hd : d.size = 2) {w : World} (hH : Holds (fun (b : UInt8) => Value.int .u8 (b.toNat : Int)) w K 1 d) :
    Calls Tryz.prog 153 #[.slice (some ⟨K, 1, none⟩) 2 cap, .int .u64 (u : Int)] w fun e w' => e = .returned (.tuple #[]) ∧ ∃ n, w' = (putRow (fun (b : UInt8) => Value.int .u8 (b.toNat : Int)) w K 1 ((d.setIfInBounds (0 + 1) (sm (u % 100 * 2 + 1))).setIfInBounds 0 (sm (u % 100 * 2)))).drewN n := by
  have mixed : Tryz.prog.follows .mixedOrders = true := by kernel_rfl
  have AW0 : Hid ((putRow (fun (b : UInt8) => Value.int .u8 (b.toNat : Int)) w K 1 d).drewN 0 = w) := Lib.hid (putRow_self _ _ _ _ _ hH)
  have hc : ∀ t, t < 2 → ∃ g : Int, w.cell? ⟨K, 1 + t, none⟩ = some (.int .u8 g) ∧ w.frozen? ⟨K, 1 + t, none⟩ = false := fun t ht => ⟨_, (hH t (by omega)).1, (hH t (by omega)).2⟩
  obtain ⟨g1, c1, f1⟩ := hc 0 (by omega)
  obtain ⟨g2, c2, f2⟩ := hc 1 (by omega)
  simp only [Nat.add_zero] at c1 f1
  clear hc hH
  go_enter Tryz.func153, Tryz.ntmps153
  go_name_bytes SM hSM
  have eSM : SM = Lib.smalls := by rw [← hSM]; decide +kernel
  subst eSM
  clear hSM
  go_wp2
  go_loopw [1, 4] (fun vu vn wr => vu = .int .u64 u ∧ vn = .int .i64 2 ∧ w = wr) (fun _ _ _ => 0)
  case atStart => exact ⟨rfl, rfl, rfl⟩
  case round =>
    obtain ⟨rfl, rfl, rfl⟩ := hrel
    go_wp2
    go_name_slot 16 x0 hx0
    have hxe0 : x0 = ((u % 100 * 2 : Nat) : Int) := by omega
    have hXa0 : ∀ w, (Instr.index 9 (.string Lib.smalls) (.int .u32 (x0 + 1))).run Tryz.prog w = .ok (.int .u8 ((sm (u % 100 * 2 + 1)).toNat : Int)) w := idx_smalls 9 Tryz.underlying9 .u32 _ _ (by omega) (by omega)
    have hXb0 : ∀ w, (Instr.index 9 (.string Lib.smalls) (.int .u32 x0)).run Tryz.prog w = .ok (.int .u8 ((sm (u % 100 * 2)).toNat : Int)) w := idx_smalls 9 Tryz.underlying9 .u32 _ _ (by omega) (by omega)
    have hlo0 : 0 ≤ x0 := by omega
    have hhi0 : x0 ≤ 198 := by omega
    clear hx0 hxe0
    go_region_o
    go_wp2
    go_end0
    have h := store2_world w K 1 d 0 (0 + 1) 0 (sm (u % 100 * 2 + 1)) (sm (u % 100 * 2)) (by omega) (by omega)
    rw [AW0.out] at h
    exact ⟨rfl, 0 + 1, h⟩
end Go.Proofs.YtbnonccmlildnaaGreat

/- The text of a number of three digits, whatever the library's table holds. -/
namespace Go.Proofs.YtbnonccmlildnaaGreat
open Go.RowKit Go.Lib Go.Shelf Go.Sort Go.Proofs

def textN (nd u : Nat) : List UInt8 := if nd = 2 then [sm (u % 100 * 2), sm (u % 100 * 2 + 1)] else (List.range nd).map fun t => dg u (nd - 1 - t)
theorem textN_len (nd u : Nat) : (textN nd u).length = nd := by unfold textN; split <;> simp_all
theorem ndT_three {u : Nat} (h1 : 100 ≤ u) (h2 : u < 1000) (tab : Nat → Nat) : ndT tab u = 2 ∨ ndT tab u = 3 ∨ ndT tab u = 4 := by
  obtain ⟨a1, _, a3⟩ := len_small h2
  have := a3 h1
  unfold ndT
  split <;> omega
theorem fmt_any {K cap u nd : Nat} (h1 : 100 ≤ u) (h2 : u < 1000) (hn : nd = 2 ∨ nd = 3 ∨ nd = 4) {w : World} (hH : Holds (fun (b : UInt8) => Value.int .u8 (b.toNat : Int)) w K 1 (Array.replicate nd 0)) :
    Calls Tryz.prog 153 #[.slice (some ⟨K, 1, none⟩) nd cap, .int .u64 (u : Int)] w fun e w' => e = .returned (.tuple #[]) ∧ ∃ (n : Nat) (dk : Array UInt8), w' = (putRow (fun (b : UInt8) => Value.int .u8 (b.toNat : Int)) w K 1 dk).drewN n ∧ dk.toList = textN nd u := by
  by_cases h : nd = 2
  · subst h
    refine (fmt2_any h1 h2 (d := Array.replicate 2 0) rfl hH).mono ?_
    rintro e w' ⟨rfl, n, rfl⟩
    exact ⟨rfl, n, _, rfl, by simp [textN]⟩
  · have hp : u < 10 ^ (Array.replicate nd (0 : UInt8)).size := by
      rw [Array.size_replicate]
      rcases hn with rfl | rfl | rfl
      · omega
      · omega
      · omega
    have hc := Tryz.internal_strconv_formatBase10 K 1 cap u (Array.replicate nd 0) w hH hp (by omega) (by rw [Array.size_replicate]; omega)
    rw [Array.size_replicate] at hc
    refine hc.mono ?_
    rintro e w' ⟨rfl, n, v', dk, rfl, hF⟩
    refine ⟨rfl, n, dk, rfl, ?_⟩
    unfold textN
    rw [if_neg h]
    refine List.ext_getElem (by simp [hF.size]) fun t ht1 ht2 => ?_
    have ht : t < nd := by simpa using ht2
    have h3 := hF.done t (Nat.zero_le _) ht
    rw [getElem!_pos dk t (by rw [hF.size]; exact ht)] at h3
    simpa using h3
end Go.Proofs.YtbnonccmlildnaaGreat
