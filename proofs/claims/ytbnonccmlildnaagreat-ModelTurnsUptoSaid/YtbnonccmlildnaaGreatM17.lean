/- Small: a whole number as an int64. -/
import Derived.Test.YtbnonccmlildnaaGreatM16
import Derived.Laws.Bits64b
set_option linter.unusedSimpArgs false
set_option linter.unusedVariables false
namespace Go.Proofs.YtbnonccmlildnaaGreat
open Go.RowKit Go.Lib

/-- Is it an int64? -/
def smallB (z : Int) : Bool := decide (-9223372036854775808 ≤ z ∧ z ≤ 9223372036854775807)
def smallOK (z x : Int) : Prop := smallB z = true → x = z
set_option maxRecDepth 100000 in
set_option maxHeartbeats 1000000 in
theorem small_ex {w : World} {v : Value} {z : Int} {k : Nat} (h : NumAt w v z) (hz : z.natAbs < 4294967296 ^ k) (hk : k ≤ 10000000000000) :
    Calls Tryz.prog 104 #[v] w fun e w' => (∃ x : Int, e = .returned (.tuple #[.int .i64 x, .bool (smallB z)]) ∧ smallOK z x) ∧ Below w.heap.size w w' := by
  obtain ⟨A, c, ds, rfl, hc, hd, h1, h2, h3⟩ := h
  have hl := len_of h2 h3 hz
  have hw0 : ∀ o1, Below w.heap.size w (w.alloc o1) := fun o1 => (Below.refl _ _).alloc (Nat.le_refl _) _
  have hds : ∃ n, n = ds.length := ⟨_, rfl⟩
  obtain ⟨n, hn⟩ := hds
  rw [← hn] at hl hc ⊢
  have Hd := Lib.hid hd
  have H1 := Lib.hid h1
  have H2 := Lib.hid h2
  have H3 := Lib.hid h3
  have Hn := Lib.hid hn
  have Hw0 := Lib.hid hw0
  clear hd h1 h2 h3 hw0 hn hz
  obtain ⟨b, hb⟩ : ∃ b, b = decide (z < 0) := ⟨_, rfl⟩
  rw [← hb]
  have Hbz := Lib.hid hb
  clear hb
  have hbb : ∃ r, r = smallB z := ⟨_, rfl⟩
  obtain ⟨r, hr⟩ := hbb
  rw [← hr]
  have Hr := Lib.hid hr
  clear hr
  go_enter Tryz.func104, Tryz.ntmps104
  go_wp2_with fail
  have Hcell : Hid (∀ k, k < n → ∃ g, A = some ⟨g, 0, none⟩ ∧ (w.alloc (.cells #[.slice A n c, .bool b] 89)).cell? ⟨g, k, none⟩ = some (.int .u32 ((ds[k]?.getD 0 : Nat) : Int))) := Lib.hid fun k hk => by
    obtain ⟨g, e1, e2, e3⟩ := Hd.out.at (i := k) (by have := Hn.out; omega)
    exact ⟨g, e1, cell_of_below (Hw0.out _) (Nat.le_refl _) e3⟩
  have Hc1 : Hid ((w.alloc (.cells #[.slice A n c, .bool b] 89)).cell? ⟨w.heap.size, 1, none⟩ = some (.bool b)) := Lib.hid (by rw [cell_of_row _ w.heap.size 1 _ 89 (0, 0) (heap_alloc_new _ _)]; rfl)
  have Hbig : Hid (2 < n → r = false) := Lib.hid fun h => by
    rw [Hr.out, smallB, decide_eq_false]
    have h1 := dval_pos (B := 4294967296) H2.out (by intro e; have := Hn.out; rw [e] at this; simp at this; omega)
    rw [H3.out] at h1
    have h2 : (4294967296 : Nat) ^ 2 ≤ 4294967296 ^ (ds.length - 1) := Nat.pow_le_pow_right (by omega) (by have := Hn.out; omega)
    have h3 : (4294967296 : Nat) ^ 2 = 18446744073709551616 := rfl
    omega
  go_loopw [4, 10] (fun uv iv wr => ∃ (k u : Nat), iv = .int .i64 (k : Int) ∧ uv = .int .u64 (u : Int) ∧ k ≤ n ∧ k ≤ 2 ∧ Hid (u = dval 4294967296 (ds.take k)) ∧ wr = w.alloc (.cells #[.slice A n c, .bool b] 89)) (fun _ iv _ => n - (intOf iv).toNat)
  case atStart => exact ⟨0, 0, rfl, rfl, by omega, by omega, Lib.hid (by simp [dval]), rfl⟩
  case round =>
    obtain ⟨k, u, rfl, rfl, hkn, hk2, Hu, rfl⟩ := hrel
    by_cases hlt : k < n
    · obtain ⟨g, rfl, hcx⟩ := Hcell.out k hlt
      have hx := okD_getD (by omega) H1.out k
      have Htk : Hid (dval 4294967296 (ds.take (k + 1)) = dval 4294967296 (ds.take k) + 4294967296 ^ k * ds[k]?.getD 0) := Lib.hid (by
        have hk : k < ds.length := by have := Hn.out; omega
        rw [List.take_add_one, dval_append, List.getElem?_eq_getElem hk]
        simp [dval, List.length_take, Nat.min_eq_left (Nat.le_of_lt hk)])
      generalize ds[k]?.getD 0 = x at *
      have hkk : k = 0 ∨ k = 1 ∨ k = 2 := by omega
      rcases hkk with rfl | rfl | rfl
      · go_wp2_with fail
        go_roundw
        case rel =>
          have hu := Hu.out
          simp [dval] at hu
          subst hu
          have h := bits_or_u64_nat 0 x (by omega) (by omega)
          rw [Nat.zero_or] at h
          exact ⟨1, x, rfl, by rw [h], by omega, by omega, Lib.hid (by rw [Htk.out]; simp [dval]), trivial⟩
        case measure => simp [intOf]; omega
      · go_wp2_with fail
        go_roundw
        case rel =>
          have hu2 : u < 4294967296 := by
            have h1 := dval_lt (B := 4294967296) (by omega) (l := ds.take 1) (fun y hy => H1.out y (List.mem_of_mem_take hy))
            have h2 : (ds.take 1).length ≤ 1 := by simp; omega
            have h3 : (4294967296 : Nat) ^ (ds.take 1).length ≤ 4294967296 ^ 1 := Nat.pow_le_pow_right (by omega) h2
            rw [Hu.out]
            omega
          have h := bits_or_u64_nat u (x * 4294967296) (by omega) (by omega)
          have h2 := Nat.two_pow_add_eq_or_of_lt (i := 32) (b := u) (by omega) x
          have h3 : u ||| x * 4294967296 = u + x * 4294967296 := by
            rw [Nat.or_comm, show x * 4294967296 = 2 ^ 32 * x by omega, ← h2]; omega
          rw [h3] at h
          refine ⟨2, u + x * 4294967296, rfl, ?_, by omega, by omega, Lib.hid ?_, trivial⟩
          · rw [← h]; congr 2
          · rw [Htk.out, ← Hu.out]; omega
        case measure => simp [intOf]; omega
      · have hrf := Hbig.out (by omega)
        subst hrf
        go_wp2_with fail
        refine bodyPost_ret (results_tmp2 rfl _ _ _) rfl ?_
        refine ⟨⟨_, rfl, fun h => ?_⟩, Hw0.out _⟩
        rw [← Hr.out] at h
        cases h
    · have hc1 := Hc1.out
      have hu : u = z.natAbs := by
        rw [Hu.out, ← H3.out, List.take_of_length_le (by have := Hn.out; omega)]
      have Hu2 := Lib.hid hu
      clear hu Hu Hcell Hbig H1 H2 H3 Hn Hc1
      cases b with
      | true =>
        have hzn : z < 0 := by have := Hbz.out; simpa using this.symm
        by_cases hle : (u : Int) ≤ 9223372036854775808
        · have hrt : r = true := by rw [Hr.out, smallB, decide_eq_true]; have := Hu2.out; omega
          subst hrt
          go_wp2_with fail
          refine bodyPost_ret (results_tmp2 rfl _ _ _) rfl ⟨⟨_, rfl, fun _ => ?_⟩, Hw0.out _⟩
          have := Hu2.out
          show wrap64 (IntKind.u64.wrap (-(u : Int))) = z
          rw [IntKind.wrap_u64]
          unfold wrap64
          omega
        · have hrt : r = false := by rw [Hr.out, smallB, decide_eq_false]; have := Hu2.out; omega
          subst hrt
          go_wp2_with fail
          refine bodyPost_ret (results_tmp2 rfl _ _ _) rfl ⟨⟨_, rfl, fun h => ?_⟩, Hw0.out _⟩
          rw [← Hr.out] at h
          cases h
      | false =>
        have hzn : ¬ z < 0 := by have := Hbz.out; simpa using this.symm
        by_cases hle : (u : Int) < 9223372036854775808
        · have hrt : r = true := by rw [Hr.out, smallB, decide_eq_true]; have := Hu2.out; omega
          subst hrt
          go_wp2_with fail
          refine bodyPost_ret (results_tmp2 rfl _ _ _) rfl ⟨⟨_, rfl, fun _ => ?_⟩, Hw0.out _⟩
          have := Hu2.out
          show (u : Int) = z
          omega
        · have hrt : r = false := by rw [Hr.out, smallB, decide_eq_false]; have := Hu2.out; omega
          subst hrt
          go_wp2_with fail
          refine bodyPost_ret (results_tmp2 rfl _ _ _) rfl ⟨⟨_, rfl, fun h => ?_⟩, Hw0.out _⟩
          rw [← Hr.out] at h
          cases h
end Go.Proofs.YtbnonccmlildnaaGreat
