/- Opening the arguments: lists of numbers and lists of clauses, as they were handed in. -/
import Derived.Test.YtmfgdemgepkggaaA15
import Derived.ProofKit
import Derived.OpenShut
import Derived.Deep.Matrix
import Derived.SizedLaws
import Derived.Carry
import Derived.ChangeOld
namespace Go.Proofs.Ytmfgdemgepkggaa
open Go.ChangeShapes Go.WideShapes Go.ChangeAt Go.RowKit

theorem own : ownKnob Try.prog.godebug = none := by kernel_rfl
theorem laidOut : laidOutB Try.prog = true := by kernel_rfl
theorem bytes3 : Try.prog.bytesOf 3 = 8 := by kernel_rfl
theorem bytes23 : Try.prog.bytesOf 23 = 24 := by kernel_rfl
theorem cells3 : Try.prog.cellsOf 3 = 1 := by kernel_rfl
theorem cells23 : Try.prog.cellsOf 23 = 1 := by kernel_rfl

theorem wf_i64 {x : Int} (h : (_root_.Go.Lit.int .i64 x).wf = true) : i64 x := by
  simpa [_root_.Go.Lit.wf, IntKind.min, IntKind.max, IntKind.signed, IntKind.bits, i64] using h

section
variable {H : Type} {enc : TypeId × Value → H} {W : World} {held : Bool} {a : Option Addr} {len cap : Nat} {d : DataW H} {p : List MemPlace}
/-- A slice of numbers that came in. -/
theorem open_ints23 (h : DataW.Trod enc Try.prog W 0 (fun _ => true) held 23 (.slice a len cap) d p) (hz : ∀ n ∈ d.weights Try.prog 23, n ≤ reachBytes) :
    ∃ xs : List Int, len = xs.length ∧ IntsAt W a cap xs ∧ (∀ x ∈ xs, i64 x) ∧ xs.length ≤ 140737488355328 := by
  obtain ⟨fuel, hf⟩ := h
  rcases open_ints Try.underlying23 Try.underlying3 cells3 hf with ⟨hcs, _⟩ | ⟨ad, l, c, zs, hcs, _, hl, hm, hzl, hx, hcell, hw⟩
  · simp [Value.cells] at hcs
    obtain ⟨rfl, rfl, rfl⟩ := hcs
    exact ⟨[], rfl, intsAt_nil _, by simp, by simp⟩
  · simp [Value.cells] at hcs
    obtain ⟨rfl, rfl, rfl⟩ := hcs
    simp only [if_true] at hzl
    obtain ⟨hx, _⟩ := Prod.mk.inj hx
    subst hx
    have hz0 := hz ((((lits (H := H) .i64 (zs.take len)).length + (lits (H := H) .i64 (zs.drop len)).length)) * Try.prog.bytesOf 3) (by simp [DataW.weights, Try.underlying23])
    rw [bytes3] at hz0
    have hlen : (zs.take len).length = len := by simp; omega
    refine ⟨zs.take len, hlen.symm, ⟨by rw [hlen]; exact hl, ?_⟩, fun x hx => wf_i64 (hw x (List.mem_of_mem_take hx)), ?_⟩
    · by_cases h0 : len = 0
      · exact .inl (by simp [h0])
      · refine .inr ⟨ad.block, ad.off, ?_, fun j u hj => ?_⟩
        · have h1 := hcell 0 (by omega)
          simp only [Addr.add, if_true] at h1
          cases ad with
          | mk b o s =>
            cases s with
            | none => rfl
            | some s => simp [World.cell?] at h1; split at h1 <;> cases h1
        · have h1 : ad = ⟨ad.block, ad.off, none⟩ := by
            have h1 := hcell 0 (by omega)
            simp only [Addr.add, if_true] at h1
            cases ad with
            | mk b o s =>
              cases s with
              | none => rfl
              | some s => simp [World.cell?] at h1; split at h1 <;> cases h1
          have hjl : j < len := by
            rcases Nat.lt_or_ge j len with h | h
            · exact h
            · rw [List.getElem?_eq_none (by simp; omega)] at hj
              cases hj
          have h2 := hcell j (by omega)
          rw [h1, Addr.add_lit] at h2
          rw [h2]
          rw [List.getElem?_map, List.getElem?_take, if_pos hjl] at hj
          rw [List.getElem?_eq_getElem (by omega)] at hj
          simp at hj
          rw [← hj]
          simp [List.getD, show j < zs.length by omega]
    · have := reachBytes_lt
      simp only [lits, List.length_map] at hz0
      rw [hlen]
      have h1 : (zs.drop len).length = zs.length - len := by simp
      omega

theorem spot_none {w : World} {ad : Addr} {u : Value} (h : w.cell? ad = some u) : ad = ⟨ad.block, ad.off, none⟩ := by
  cases ad with
  | mk b o s =>
    cases s with
    | none => rfl
    | some s => simp [World.cell?] at h; split at h <;> cases h

/-- A slice of clauses that came in. -/
theorem open_rows22 (h : DataW.Trod enc Try.prog W 0 (fun _ => true) held 22 (.slice a len cap) d p) (hz : ∀ n ∈ d.weights Try.prog 22, n ≤ reachBytes) :
    ∃ l : List (List Int), len = l.length ∧ RowsAt W a cap l ∧ (∀ d ∈ l, ∀ x ∈ d, i64 x) ∧ l.length ≤ 140737488355328 ∧ ∀ d ∈ l, d.length ≤ 140737488355328 := by
  obtain ⟨fuel, hf⟩ := h
  rcases Go.Deep.open_int_rows Try.underlying22 Try.underlying23 Try.underlying3 cells23 cells3 hf with ⟨hcs, _⟩ | ⟨ad, l, c, A, L, C, Z, hcs, _, hl, hm, hx, hcell⟩
  · simp [Value.cells] at hcs
    obtain ⟨rfl, rfl, rfl⟩ := hcs
    exact ⟨[], rfl, ⟨Nat.le_refl _, [], rfl, .inl rfl, by simp⟩, by simp, by simp, by simp⟩
  · simp [Value.cells] at hcs
    obtain ⟨rfl, rfl, rfl⟩ := hcs
    obtain ⟨hx, _⟩ := Prod.mk.inj hx
    subst hx
    have hr := reachBytes_lt
    have hw0 : len * 24 ≤ reachBytes := by
      have := hz _ (by simp only [DataW.weights, Try.underlying22]; exact List.mem_cons_self)
      rw [bytes23] at this
      simp at this
      omega
    have hrow : ∀ r, r < len → L r * 8 ≤ reachBytes := by
      intro r hr
      obtain ⟨h1, h2, h3, h4, h5, h6, h7⟩ := hcell r (by omega)
      cases hA : A r with
      | none => have := h6 hA; omega
      | some a' =>
        have hmem : ((lits (H := H) .i64 ((Z r).take (L r))).length + (lits (H := H) .i64 ((Z r).drop (L r))).length) * Try.prog.bytesOf 3 ∈ DataW.weightsAll Try.prog 23 ((List.range len).map fun r => Go.Deep.intRow (H := H) .i64 (A r) (L r) (Z r)) := by
          have gen : ∀ (ds : List (DataW H)) (x : DataW H) (n : Nat), x ∈ ds → n ∈ x.weights Try.prog 23 → n ∈ DataW.weightsAll Try.prog 23 ds := by
            intro ds
            induction ds with
            | nil => intro x n hx; cases hx
            | cons y ds ih =>
              intro x n hx hn
              simp only [DataW.weightsAll, List.mem_append]
              rcases List.mem_cons.1 hx with rfl | hx
              · exact .inl hn
              · exact .inr (ih x n hx hn)
          refine gen _ (Go.Deep.intRow .i64 (A r) (L r) (Z r)) _ (List.mem_map.2 ⟨r, List.mem_range.2 hr, rfl⟩) ?_
          rw [hA]
          simp only [Go.Deep.intRow, DataW.weights, Try.underlying23]
          exact List.mem_cons_self
        have := hz _ (by simp only [DataW.weights, Try.underlying22]; exact List.mem_cons_of_mem _ (List.mem_append_left _ hmem))
        rw [bytes3] at this
        simp only [lits, List.length_map, List.length_take, List.length_drop] at this
        omega
    refine ⟨(List.range len).map fun r => (Z r).take (L r), by simp, ⟨by simpa using hl, (List.range len).map fun r => .slice (A r) (L r) (C r), by simp, ?_, fun j v xs hv hx => ?_⟩, fun d hd x hx => ?_, by simp; omega, fun d hd => ?_⟩
    · by_cases h0 : len = 0
      · exact .inl (by simp [h0])
      · have h1 := (hcell 0 (by omega)).1
        have h2 := spot_none (by simpa [Addr.add] using h1)
        refine .inr ⟨ad.block, ad.off, by rw [← h2], fun j u hj => ?_⟩
        have hjl : j < len := by
          rcases Nat.lt_or_ge j len with h | h
          · exact h
          · rw [List.getElem?_eq_none (by simp; omega)] at hj
            cases hj
        have h3 := (hcell j (by omega)).1
        rw [h2, Addr.add_lit] at h3
        rw [h3]
        simp [hjl] at hj
        rw [← hj]
    · have hjl : j < len := by
        rcases Nat.lt_or_ge j len with h | h
        · exact h
        · rw [List.getElem?_eq_none (by simp; omega)] at hv
          cases hv
      simp [hjl] at hv hx
      subst hv hx
      obtain ⟨h1, h2, h3, h4, h5, h6, h7⟩ := hcell j (by omega)
      have hll : ((Z j).take (L j)).length = L j := by simp; omega
      refine ⟨A j, C j, by rw [hll], by rw [hll]; exact h2, ?_⟩
      by_cases h0 : L j = 0
      · exact .inl (by simp [h0])
      · cases hA : A j with
        | none => have := h6 hA; omega
        | some a' =>
          have h8 := (h7 a' hA).2
          have h9 := spot_none (by simpa [Addr.add] using h8 0 (by omega))
          refine .inr ⟨a'.block, a'.off, by rw [← h9], fun i u hi => ?_⟩
          have hil : i < L j := by
            rcases Nat.lt_or_ge i (L j) with h | h
            · exact h
            · rw [List.getElem?_eq_none (by simp; omega)] at hi
              cases hi
          have h10 := h8 i (by omega)
          rw [h9, Addr.add_lit] at h10
          rw [h10]
          rw [List.getElem?_map, List.getElem?_take, if_pos hil, List.getElem?_eq_getElem (by omega)] at hi
          simp at hi
          rw [← hi]
          simp [List.getD, show i < (Z j).length by omega]
    · simp only [List.mem_map, List.mem_range] at hd
      obtain ⟨r, hr, rfl⟩ := hd
      exact wf_i64 ((hcell r (by omega)).2.2.2.2.1 x (List.mem_of_mem_take hx))
    · simp only [List.mem_map, List.mem_range] at hd
      obtain ⟨r, hr', rfl⟩ := hd
      have := hrow r hr'
      rw [List.length_take]
      omega
end
end Go.Proofs.Ytmfgdemgepkggaa
