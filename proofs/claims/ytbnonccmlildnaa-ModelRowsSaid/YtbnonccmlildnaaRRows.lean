/- ModelRows: for every list of pairs and every two numbers the call returns true, and its arguments read as before; no condition beyond the row's own. -/
import Derived.Test.YtbnonccmlildnaaM38
import Derived.Test.YtbnonccmlildnaaM39
import Derived.Deep.DeepHandedRow
set_option linter.unusedSimpArgs false
set_option linter.unusedVariables false
namespace Go.Proofs.Ytbnonccmlildnaa
open Go.ChangeShapes Go.WideShapes Go.ChangeAt Go.RowKit

theorem wf_i8 {x : Int} (h : (_root_.Go.Lit.int .i8 x).wf = true) : -128 ≤ x ∧ x ≤ 127 := by
  simpa [_root_.Go.Lit.wf, IntKind.min, IntKind.max, IntKind.signed, IntKind.bits] using h
set_option maxRecDepth 100000 in
theorem open_pairs {H : Type} {enc : TypeId × Value → H} {W : World} {held : Bool} {spare : Nat → Bool} {fuel : Nat} {c : Value} {y : DataW H × List MemPlace} (h : DataW.trod enc Try.prog W 0 spare held fuel 22 [c] = some y) (hf : fits Try.prog 22 y.1) :
    ∃ (rows : List (Int × Int)) (A : Option Addr) (cap : Nat), c = .slice A rows.length cap ∧ PairsAt W A rows ∧ rows.length ≤ 140737488355328 ∧ ∀ r ∈ rows, (-128 ≤ r.1 ∧ r.1 ≤ 127) ∧ (-128 ≤ r.2 ∧ r.2 ≤ 127) := by
  have c29 : Try.prog.cellsOf 29 = 2 := by kernel_rfl
  have c23 : Try.prog.cellsOf 23 = 1 := by kernel_rfl
  have b29 : 1 ≤ Try.prog.bytesOf 29 := of_decide_eq_true (by kernel_rfl)
  rcases open_elems Try.underlying22 c29 (by omega) h with ⟨rfl, _⟩ | ⟨A, len, cap, n, ds, rs, G, _, rfl, hl, hy, hds, hrow, hel⟩
  · exact ⟨[], none, 0, rfl, .inl rfl, by simp, by simp⟩
  · rw [hy] at hf
    have hone : ∀ j, j < len → ∃ v : Int × Int, G j = [.int .i8 v.1, .int .i8 v.2] ∧ (-128 ≤ v.1 ∧ v.1 ≤ 127) ∧ (-128 ≤ v.2 ∧ v.2 ≤ 127) := fun j hj => by
      obtain ⟨z, hz, hdj⟩ := hel j hj
      obtain ⟨xs, m, _, hzx, hlen, hxl, hfs⟩ := DataW.trod_array Try.underlying29 hz
      rw [c29] at hlen
      match hG : G j, hlen with
      | [c0, c1], _ =>
        have f0 := hfs 0 (by omega)
        have f1 := hfs 1 (by omega)
        rw [hG, c23] at f0 f1
        simp only [Nat.zero_mul, Nat.one_mul, List.drop_zero, List.drop_succ_cons, List.take_succ_cons, List.take_zero] at f0 f1
        rw [List.getElem?_eq_getElem (by omega)] at f0 f1
        obtain ⟨q0, e0, _, w0⟩ := DataW.trod_int Try.underlying23 f0
        obtain ⟨q1, e1, _, w1⟩ := DataW.trod_int Try.underlying23 f1
        simp only [List.cons.injEq, and_true] at e0 e1
        exact ⟨(q0, q1), by rw [e0, e1], wf_i8 w0, wf_i8 w1⟩
    obtain ⟨V, hV⟩ := Go.Deep.choose_lt (α := Int × Int) hone
    have hlen : ((List.range len).map V).length = len := by simp
    have hget : ∀ j, j < len → ((List.range len).map V)[j]? = some (V j) := fun j hj => by simp [hj]
    refine ⟨(List.range len).map V, A, cap, by rw [hlen], ?_, by rw [hlen, ← hds]; exact fits_len Try.underlying22 b29 hf, fun r hr => ?_⟩
    · unfold PairsAt
      rw [hlen]
      rcases hrow with h0 | ⟨b, o, rfl, hr⟩
      · exact .inl h0
      · refine .inr ⟨b, o, rfl, fun j hj => ?_⟩
        dsimp only
        rw [hget j hj]
        refine ⟨rfl, fun i hi => ?_⟩
        rw [(hr j hj).2 i hi, (hV j hj).1]
        obtain ⟨s, q⟩ := V j
        simp [Value.cells]
    · obtain ⟨j, hj, rfl⟩ := List.mem_map.1 hr
      exact (hV j (List.mem_range.1 hj)).2
set_option maxRecDepth 100000 in
theorem modelRows_lifted (os : Os) (started : os.Started) (H : Type) (enc : TypeId × Value → H) :
    ReturnsInHanded {} Try.checked os 3 .any (Rows.modelRowsSpec.pre6 enc Try.prog Try.f3 Rows.modelRowsRow.domain false) (Rows.modelRowsSpec.post enc Try.prog Try.f3 false true false false) := by
  refine returnsInHanded_of_change_sized (C := Try.checked) own started (by kernel_rfl) Try.func3
    (ChangeSpec.witness6 (enc := enc) (C := Try.checked) false ⟨#[], #[.slice none 0 0, .int .i8 0, .int .i8 0], []⟩ 8 (by kernel_rfl) (by kernel_rfl) (by kernel_rfl) (by kernel_rfl)) ?_
  intro W base args ds gs before hval0 hW hcnd hsz0 _
  have hsz : (DataW.weightsEach Try.prog (Try.f3.params.toList ++ Rows.modelRowsSpec.plain.varTypes Try.prog) (ds ++ gs)).all (· ≤ reachBytes) = true := hsz0
  have hval : ∀ (j : Nat) t v, Try.f3.params[j]? = some t → args[j]? = some v → Value.okWide Try.prog W .any base t v := hval0
  have hW' := hW
  obtain ⟨p, q, hA0, hV, rfl, hfz, hnd⟩ := hW
  have hA : DataW.TrodAll enc Try.prog W 0 (fun _ => true) true Try.f3.params.toList args.toList ds p := hA0
  rw [Try.params3] at hA hval hsz
  obtain ⟨v0, vs0, d0, ds0, p0, q0, hargs, rfl, rfl, h0, r0⟩ := trodAll_cons hA
  obtain ⟨v1, vs1, d1, ds1, p1, q1, rfl, rfl, rfl, h1, r1⟩ := trodAll_cons r0
  obtain ⟨v2, vs2, d2, ds2, p2, q2, rfl, rfl, rfl, h2, r2⟩ := trodAll_cons r1
  obtain ⟨rfl, rfl, rfl⟩ := trodAll_nil r2
  obtain rfl : args = #[v0, v1, v2] := by cases args; simp_all
  obtain ⟨rfl, rfl⟩ := trodVars_none hV
  obtain ⟨a0, len0, cap0, rfl⟩ := okWide_slice Try.underlying22 (hval 0 22 v0 rfl rfl)
  have lt0 : ∀ x ∈ p0, x.block < W.heap.size := by obtain ⟨m, hm⟩ := h0; exact DataW.trod_lt m _ _ _ hm
  have z0 : fits Try.prog 22 d0 := fun n hn => by
    have := List.all_eq_true.1 hsz n (DataW.weights_mem_each (j := 0) rfl rfl n hn)
    simpa using this
  obtain ⟨rows, S, cs, hc, hrow, hlen, hrs⟩ : ∃ (rows : List (Int × Int)) (A : Option Addr) (cap : Nat), (Value.slice a0 len0 cap0) = .slice A rows.length cap ∧ PairsAt W A rows ∧ rows.length ≤ 140737488355328 ∧ ∀ r ∈ rows, (-128 ≤ r.1 ∧ r.1 ≤ 127) ∧ (-128 ≤ r.2 ∧ r.2 ≤ 127) := by
    obtain ⟨m, hm⟩ := h0
    exact open_pairs hm z0
  obtain ⟨a1, rfl, rfl, rfl, w1⟩ := open_int Try.underlying23 (hval 1 23 v1 rfl rfl) h1
  obtain ⟨a2, rfl, rfl, rfl, w2⟩ := open_int Try.underlying23 (hval 2 23 v2 rfl rfl) h2
  clear hA0 hval0 hsz0 hsz
  rw [hc]
  refine (modelRows_any hrow hlen hrs (wf_i8 w1) (wf_i8 w2)).mono fun e W' ⟨he, bel⟩ => ?_
  subst he
  rw [← hc]
  exact ⟨_, rfl, _, _, _, [], _, [], hW', trodAll_mk1 (shut_bool Try.underlying4 _), (trodAll_cons_mk (Below.trod laidOut (by kernel_rfl) (of_decide_eq_true (by kernel_rfl)) h0 bel lt0) (trodAll_cons_mk (shut_int Try.underlying23 w1) (trodAll_cons_mk (shut_int Try.underlying23 w2) trodAll_mk0))), rfl, bel.frame _, fun h => by cases h⟩
theorem modelRows_holds : Rows.ModelRowsSaid :=
  OpenClaim.holds_of_wide 3 Try.f3 rfl rfl rfl rfl rfl rfl rfl ⟨rfl, rfl, rfl, rfl, rfl⟩ rfl rfl rfl rfl rfl (by kernel_rfl) Try.func3 (by kernel_rfl)
    (of_decide_eq_true (by kernel_rfl)) (by unfold Func.isWrapper; first | (rw [if_pos (by decide +kernel)]; kernel_rfl) | (rw [if_neg (by decide +kernel)]; exact ⟨rfl, rfl⟩))
    (fun os started H enc _ => modelRows_lifted os started H enc)
#print axioms modelRows_holds
end Go.Proofs.Ytbnonccmlildnaa
