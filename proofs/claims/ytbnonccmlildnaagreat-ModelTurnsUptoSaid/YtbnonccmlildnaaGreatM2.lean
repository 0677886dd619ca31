/- Variables that are bound. -/
import Derived.Test.YtbnonccmlildnaaGreatM1
set_option linter.unusedSimpArgs false
set_option linter.unusedVariables false
namespace Go.Proofs.YtbnonccmlildnaaGreat
open Go.RowKit

def sortB (k : Int) : Bool := decide (1 ≤ k) && decide (k ≤ 3)
theorem sort_any (k : Int) (w : World) (_ : i64 k) : Calls Tryz.prog 108 #[.int .i64 k] w fun e w' => e = .returned (.bool (sortB k)) ∧ w = w' := by
  by_cases h1 : 1 ≤ k
  · have Hr : Hid (sortB k = decide (k ≤ 3)) := Lib.hid (by unfold sortB; rw [decide_eq_true h1, Bool.true_and])
    go_enter Tryz.func108, Tryz.ntmps108
    go_wp2_with fail
    go_ret
    exact ⟨by rw [Hr.out]; rfl, rfl⟩
  · have Hr : Hid (sortB k = false) := Lib.hid (by unfold sortB; rw [decide_eq_false h1, Bool.false_and])
    go_enter Tryz.func108, Tryz.ntmps108
    go_wp2_with fail
    go_ret
    exact ⟨by rw [Hr.out]; rfl, rfl⟩

/-- A row of bound variables. -/
def bval (vars : List (ByteArray × Int)) (j : Nat) : Value := match vars[j]? with | some (s, k) => .agg #[.string s, .int .i64 k] | none => .nilFunc
theorem RowCells.bound {w : World} {A : Option Addr} {vars : List (ByteArray × Int)} (h : RowCells w A 2 vars.length (bval vars)) {j : Nat} {x : ByteArray × Int} (hj : vars[j]? = some x) :
    ∃ b o, A = some ⟨b, o, none⟩ ∧ w.cell? ⟨b, o + j * 2, none⟩ = some (.string x.1) ∧ w.cell? ⟨b, o + j * 2 + 1, none⟩ = some (.int .i64 x.2) := by
  have hl : j < vars.length := by
    rcases Nat.lt_or_ge j vars.length with h | h
    · exact h
    · rw [List.getElem?_eq_none h] at hj
      cases hj
  rcases h with h | ⟨b, o, hA, h⟩
  · omega
  · have h1 := (h j hl).2
    have hb : bval vars j = .agg #[.string x.1, .int .i64 x.2] := by unfold bval; rw [hj]
    rw [hb] at h1
    exact ⟨b, o, hA, by simpa [Value.cells] using h1 0 (by omega), by simpa [Value.cells] using h1 1 (by omega)⟩

theorem same_name (s x : ByteArray) (k : Int) (w : World) (q : Nat) (hq : w.cell? ⟨q, 0, none⟩ = some (.string x)) :
    Calls Tryz.prog 110 #[.agg #[.string s, .int .i64 k], .pointer (some ⟨q, 0, none⟩)] w fun e w' => e = .returned (.bool (s.toList == x.toList)) ∧ Below w.heap.size w w' := by
  have hq2 : (w.alloc (.cells #[.string s, .int .i64 k] 53)).cell? ⟨q, 0, none⟩ = some (.string x) := cell_of_below ((Below.refl _ _).alloc (Nat.le_refl _) _) (Nat.le_refl _) hq
  clear hq
  go_enter Tryz.func110, Tryz.ntmps110
  go_wp2_with fail
  go_ret
  exact ⟨rfl, (Below.refl _ _).alloc (Nat.le_refl _) _⟩
def hasName (vars : List (ByteArray × Int)) (x : ByteArray) : Bool := vars.any fun v => v.1.toList == x.toList
theorem hasName_succ {vars : List (ByteArray × Int)} {k : Nat} {x : ByteArray} (hk : k < vars.length) : hasName (vars.take (k + 1)) x = (hasName (vars.take k) x || (vars[k].1.toList == x.toList)) := by
  unfold hasName
  rw [List.take_succ_eq_append_getElem hk, List.any_append]
  simp

set_option maxHeartbeats 1000000 in
theorem sameName_index {w : World} {A : Option Addr} {c : Nat} {vars : List (ByteArray × Int)} {x : ByteArray} {q : Nat} (hn : vars.length ≤ 140737488355328) (hf : RowCells w A 2 vars.length (bval vars)) (hq : w.cell? ⟨q, 0, none⟩ = some (.string x)) :
    Calls Tryz.prog 114 #[.slice A vars.length c, .func (.func 110) #[] #[.pointer (some ⟨q, 0, none⟩)]] w fun e w' => ∃ r : Int, e = .returned (.int .i64 r) ∧ decide (0 ≤ r) = hasName vars x ∧ Below w.heap.size w w' := by
  have Hf := Lib.hid hf
  have Hq := Lib.hid hq
  clear hf hq
  go_enter Tryz.func114, Tryz.ntmps114
  go_wp2_with fail
  go_loopw [8] (fun i wr => ∃ k : Nat, k ≤ vars.length ∧ i = .int .i64 k ∧ hasName (vars.take k) x = false ∧ Below w.heap.size w wr) (fun i _ => vars.length - (intOf i).toNat)
  case atStart => exact ⟨0, Nat.zero_le _, rfl, rfl, Below.refl _ _⟩
  case round =>
    obtain ⟨k, hk, rfl, hno, hbr⟩ := hrel
    have Hbr := Lib.hid hbr
    have Hno := Lib.hid hno
    clear hbr hno
    by_cases hlt : k < vars.length
    · have hx : vars[k]? = some vars[k] := List.getElem?_eq_getElem hlt
      obtain ⟨b, o, rfl, h0, h1⟩ := (Hf.out.below Hbr.out).bound hx
      have Hcall : Hid (∀ s n, Calls Tryz.prog 110 #[.agg #[.string s, .int .i64 n], .pointer (some ⟨q, 0, none⟩)] wr fun e w' => e = .returned (.bool (s.toList == x.toList)) ∧ Below wr.heap.size wr w') := Lib.hid (fun s n => same_name s x n wr q (cell_of_below Hbr.out (Nat.le_refl _) Hq.out))
      have Hs : Hid (hasName (vars.take (k + 1)) x = (vars[k].1.toList == x.toList) ∧ ((vars[k].1.toList == x.toList) = true → hasName vars x = true)) := Lib.hid ⟨by rw [hasName_succ hlt, Hno.out]; rfl, fun h => by
        unfold hasName
        rw [List.any_eq_true]
        exact ⟨vars[k], List.getElem_mem hlt, h⟩⟩
      clear hx
      generalize vars[k] = v at *
      obtain ⟨s, n⟩ := v
      cases hqq : (s.toList == x.toList) with
      | true =>
        have Hr : Hid (hasName vars x = true) := Lib.hid (Hs.out.2 hqq)
        have Hc := Lib.hid (Hcall.out s n)
        rw [hqq] at Hc
        clear hqq Hs
        go_wp2_with (go_at_call 110; refine Calls.mono Hc.out ?_; rintro e w3 ⟨rfl, hb3⟩; have Hb3 := Lib.hid hb3; clear hb3)
        go_ret
        exact ⟨_, rfl, by rw [Hr.out]; simp, Hbr.out.trans (Hb3.out.mono Hbr.out.size)⟩
      | false =>
        have Hr : Hid (hasName (vars.take (k + 1)) x = false) := Lib.hid (by rw [Hs.out.1]; exact hqq)
        have Hc := Lib.hid (Hcall.out s n)
        rw [hqq] at Hc
        clear hqq Hs
        go_wp2_with (go_at_call 110; refine Calls.mono Hc.out ?_; rintro e w3 ⟨rfl, hb3⟩; have Hb3 := Lib.hid hb3; clear hb3)
        go_roundw
        case rel => exact ⟨k + 1, by omega, by go_num, Hr.out, Hbr.out.trans (Hb3.out.mono Hbr.out.size)⟩
        case measure => simp [intOf]; omega
    · have Hr : Hid (hasName vars x = false) := Lib.hid (by have := Hno.out; rwa [List.take_of_length_le (by omega)] at this)
      go_wp2_with fail
      go_ret
      exact ⟨_, rfl, by rw [Hr.out]; simp, Hbr.out⟩
theorem sameName_contains {w : World} {A : Option Addr} {n c : Nat} {vars : List (ByteArray × Int)} {x : ByteArray} {q : Nat} (hnl : n = vars.length) (hn : vars.length ≤ 140737488355328) (hf : RowCells w A 2 vars.length (bval vars)) (hq : w.cell? ⟨q, 0, none⟩ = some (.string x)) :
    Calls Tryz.prog 109 #[.slice A n c, .func (.func 110) #[] #[.pointer (some ⟨q, 0, none⟩)]] w fun e w' => e = .returned (.bool (hasName vars x)) ∧ Below w.heap.size w w' := by
  subst hnl
  go_enter Tryz.func109, Tryz.ntmps109
  go_wp2_with (go_at_call 114; refine (sameName_index hn hf hq (c := c)).mono ?_; rintro e w' ⟨r, rfl, hr, hb⟩; have Hb := Lib.hid hb; clear hb)
  go_ret
  exact ⟨by simp, Hb.out⟩

/-- May variables be bound so? -/
def bindTo (vars : List (ByteArray × Int)) : Nat → Bool
  | 0 => true
  | k + 1 => bindTo vars k && match vars[k]? with | some (s, n) => nameB s && sortB n && !hasName (vars.take k) s | none => false
def bindsB (vars : List (ByteArray × Int)) : Bool := decide (0 < vars.length) && bindTo vars vars.length
theorem bindTo_false {vars : List (ByteArray × Int)} {k n : Nat} (hk : k < n) (h : bindTo vars (k + 1) = false) : bindTo vars n = false := by
  induction n with
  | zero => omega
  | succ n ih =>
    by_cases e : k = n
    · subst e; exact h
    · unfold bindTo
      rw [ih (by omega), Bool.false_and]
theorem RowCells.fewer {w : World} {A : Option Addr} {vars : List (ByteArray × Int)} (h : RowCells w A 2 vars.length (bval vars)) {k : Nat} (hk : k ≤ vars.length) : RowCells w A 2 (vars.take k).length (bval (vars.take k)) := by
  rcases h with h | ⟨b, o, hA, h⟩
  · exact .inl (by simp; omega)
  · refine .inr ⟨b, o, hA, fun j hj => ?_⟩
    have hjk : j < k := by simp at hj; omega
    have : bval (vars.take k) j = bval vars j := by unfold bval; rw [List.getElem?_take, if_pos hjk]
    rw [this]
    exact h j (by simp at hj; omega)
set_option maxHeartbeats 1000000 in
theorem binds_any {w : World} {A : Option Addr} {c : Nat} {vars : List (ByteArray × Int)} (hn : vars.length ≤ 140737488355328) (hc : vars.length ≤ c) (hf : RowCells w A 2 vars.length (bval vars)) (hb : ∀ x ∈ vars, x.1.size ≤ 140737488355328 ∧ i64 x.2) :
    Calls Tryz.prog 95 #[.slice A vars.length c] w fun e w' => e = .returned (.bool (bindsB vars)) ∧ Below w.heap.size w w' := by
  have Hf := Lib.hid hf
  have Hb := Lib.hid hb
  clear hf hb
  go_enter Tryz.func95, Tryz.ntmps95
  go_wp2_with fail
  go_loopw [7] (fun i wr => ∃ k : Nat, k ≤ vars.length ∧ i = .int .i64 k ∧ bindTo vars k = true ∧ Below w.heap.size w wr) (fun i _ => vars.length - (intOf i).toNat)
  case atStart => exact ⟨0, Nat.zero_le _, rfl, rfl, Below.refl _ _⟩
  case round =>
    obtain ⟨k, hk, rfl, hno, hbr⟩ := hrel
    have Hbr := Lib.hid hbr
    have Hno := Lib.hid hno
    clear hbr hno
    by_cases hlt : k < vars.length
    · have hx : vars[k]? = some vars[k] := List.getElem?_eq_getElem hlt
      obtain ⟨b, o, rfl, h0, h1⟩ := (Hf.out.below Hbr.out).bound hx
      obtain ⟨hs1, hs2⟩ := Hb.out _ (List.getElem_mem hlt)
      have Hstep : Hid (bindTo vars (k + 1) = (nameB vars[k].1 && sortB vars[k].2 && !hasName (vars.take k) vars[k].1)) := Lib.hid (by
        unfold bindTo
        rw [Hno.out, hx, Bool.true_and])
      have Hs2 := Lib.hid hs2
      clear hx hs2
      generalize vars[k] = v at *
      obtain ⟨s, n⟩ := v
      have hkc : k ≤ c := by omega
      have Hfew : Hid (∀ wr', Below w.heap.size w wr' → RowCells wr' (some ⟨b, o, none⟩) 2 (vars.take k).length (bval (vars.take k))) := Lib.hid (fun wr' hw => (Hf.out.below hw).fewer hk)
      have Hbox : Hid (Below w.heap.size w (wr.alloc (.cells #[.string s, .int .i64 n] 53))) := Lib.hid (Hbr.out.alloc Hbr.out.size _)
      have Hcells : Hid (∀ w3, Below (wr.heap.size + 1) (wr.alloc (.cells #[.string s, .int .i64 n] 53)) w3 → w3.cell? ⟨wr.heap.size, 0, none⟩ = some (.string s) ∧ w3.cell? ⟨wr.heap.size, 1, none⟩ = some (.int .i64 n)) := Lib.hid (fun w3 h3 => ⟨cell_of_below h3 (by simp) (by simp), cell_of_below h3 (by simp) (by simp)⟩)
      have Hnm : Hid (Calls Tryz.prog 94 #[.string s] (wr.alloc (.cells #[.string s, .int .i64 n] 53)) fun e w' => e = .returned (.bool (nameB s)) ∧ Below (wr.heap.size + 1) (wr.alloc (.cells #[.string s, .int .i64 n] 53)) w') := Lib.hid (by
        have := named_any s (wr.alloc (.cells #[.string s, .int .i64 n] 53)) hs1
        rwa [show (wr.alloc (.cells #[.string s, .int .i64 n] 53)).heap.size = wr.heap.size + 1 by simp] at this)
      have hwr := Hbr.out.size
      cases hA : nameB s with
      | false =>
        have Hr : Hid (bindsB vars = false) := Lib.hid (by unfold bindsB; rw [bindTo_false hlt (by rw [Hstep.out, hA]; rfl), Bool.and_false])
        rw [hA] at Hnm
        clear hA
        go_wp2_with (go_at_call 94; refine Calls.mono Hnm.out ?_; rintro e w3 ⟨rfl, hb3⟩; have Hb3 := Lib.hid hb3; clear hb3)
        go_ret
        exact ⟨by rw [Hr.out]; rfl, Hbox.out.trans (Hb3.out.mono (by omega))⟩
      | true =>
        rw [hA] at Hnm
        cases hB : sortB n with
        | false =>
          have Hr : Hid (bindsB vars = false) := Lib.hid (by unfold bindsB; rw [bindTo_false hlt (by rw [Hstep.out, hA, hB]; rfl), Bool.and_false])
          have HB := Lib.hid hB
          clear hA hB
          go_wp2_with (first
            | (go_at_call 94; refine Calls.mono Hnm.out ?_; rintro e w3 ⟨rfl, hb3⟩; have Hb3 := Lib.hid hb3; obtain ⟨e0, e1⟩ := Hcells.out w3 hb3; clear hb3)
            | (go_at_call 108; refine (sort_any n _ Hs2.out).mono ?_; rintro e w4 ⟨rfl, rfl⟩; rw [HB.out]))
          go_ret
          exact ⟨by rw [Hr.out]; rfl, Hbox.out.trans (Hb3.out.mono (by omega))⟩
        | true =>
          have HB := Lib.hid hB
          cases hC : hasName (vars.take k) s with
          | true =>
            have Hr : Hid (bindsB vars = false) := Lib.hid (by unfold bindsB; rw [bindTo_false hlt (by rw [Hstep.out, hA, hB, hC]; rfl), Bool.and_false])
            have HC := Lib.hid hC
            clear hA hB hC
            go_wp2_with (first
              | (go_at_call 94; refine Calls.mono Hnm.out ?_; rintro e w3 ⟨rfl, hb3⟩; have Hb3 := Lib.hid hb3; obtain ⟨e0, e1⟩ := Hcells.out w3 hb3; clear hb3)
              | (go_at_call 108; refine (sort_any n _ Hs2.out).mono ?_; rintro e w4 ⟨rfl, rfl⟩; rw [HB.out])
              | (go_at_call 109; refine (sameName_contains (vars := vars.take k) (by simp; omega) (by simp; omega) (Hfew.out _ (Hbox.out.trans (Hb3.out.mono (by omega)))) e0).mono ?_; rintro e w5 ⟨rfl, hb5⟩; rw [HC.out]; have Hb5 := Lib.hid hb5; clear hb5))
            go_ret
            exact ⟨by rw [Hr.out]; rfl, (Hbox.out.trans (Hb3.out.mono (by omega))).trans (Hb5.out.mono (by have := Hb3.out.size; simp at this; omega))⟩
          | false =>
            have Hr : Hid (bindTo vars (k + 1) = true) := Lib.hid (by rw [Hstep.out, hA, hB, hC]; rfl)
            have HC := Lib.hid hC
            clear hA hB hC
            go_wp2_with (first
              | (go_at_call 94; refine Calls.mono Hnm.out ?_; rintro e w3 ⟨rfl, hb3⟩; have Hb3 := Lib.hid hb3; obtain ⟨e0, e1⟩ := Hcells.out w3 hb3; clear hb3)
              | (go_at_call 108; refine (sort_any n _ Hs2.out).mono ?_; rintro e w4 ⟨rfl, rfl⟩; rw [HB.out])
              | (go_at_call 109; refine (sameName_contains (vars := vars.take k) (by simp; omega) (by simp; omega) (Hfew.out _ (Hbox.out.trans (Hb3.out.mono (by omega)))) e0).mono ?_; rintro e w5 ⟨rfl, hb5⟩; rw [HC.out]; have Hb5 := Lib.hid hb5; clear hb5))
            go_roundw
            case rel => exact ⟨k + 1, by omega, by go_num, Hr.out, (Hbox.out.trans (Hb3.out.mono (by omega))).trans (Hb5.out.mono (by have := Hb3.out.size; simp at this; omega))⟩
            case measure => simp [intOf]; omega
    · have Hr : Hid (bindsB vars = decide (0 < vars.length)) := Lib.hid (by
        have hkn : k = vars.length := by omega
        have := Hno.out
        rw [hkn] at this
        unfold bindsB
        rw [this, Bool.and_true])
      go_wp2_with fail
      go_ret
      exact ⟨by rw [Hr.out]; rfl, Hbr.out⟩
end Go.Proofs.YtbnonccmlildnaaGreat
