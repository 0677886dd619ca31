/- TermSigs: for every two signatures and every term the call returns true, and its arguments read as before; no condition beyond the row's own, whose listed tables are tied to the program's text. -/
import Derived.Test.YtlgbepamnkfpjaaGreatDoorM43
import Derived.Test.YtlgbepamnkfpjaaGreatDoorM42
import Derived.Deep.DeepHandedRow
set_option linter.unusedSimpArgs false
set_option linter.unusedVariables false
set_option linter.unusedVariables false
set_option linter.unusedSimpArgs false
namespace Go.Proofs.YtlgbepamnkfpjaaGreatDoor
open Go.ChangeShapes Go.WideShapes Go.ChangeAt Go.RowKit

noncomputable def funTypes : FunTypes Tryz.prog 22 46 44 3 9 := ⟨_, Tryz.underlying46, by kernel_rfl, Tryz.underlying22, Tryz.underlying44, Tryz.underlying3, Tryz.underlying9, by kernel_rfl, by kernel_rfl, by kernel_rfl, by kernel_rfl, of_decide_eq_true (by kernel_rfl), of_decide_eq_true (by kernel_rfl)⟩
noncomputable def termTypes : TermTypes Tryz.prog 26 23 24 41 3 9 := ⟨_, _, Tryz.underlying26, by kernel_rfl, Tryz.underlying41, by kernel_rfl, Tryz.underlying23, Tryz.underlying24, Tryz.underlying3, Tryz.underlying9, by kernel_rfl, by kernel_rfl, by kernel_rfl, by kernel_rfl, by kernel_rfl, by kernel_rfl, of_decide_eq_true (by kernel_rfl), of_decide_eq_true (by kernel_rfl)⟩
def zArg : Value := .agg #[.int .i64 0, .string ⟨#[]⟩, .int .i64 0, .string ⟨#[]⟩, .slice none 0 0, .slice none 0 0, .slice none 0 0]
set_option maxRecDepth 100000 in
theorem termSigs_lifted (os : Os) (started : os.Started) (H : Type) (enc : TypeId × Value → H) :
    ReturnsInHanded {} Tryz.checked os 5 .any (fun w args => (Rows.termSigsSpec.pre enc Tryz.prog Tryz.f5 [] false w args ∧ laidMetH Tryz.prog laid3 w) ∧ sizedMet enc Tryz.prog Tryz.f5 (OpenSpec.ofChange Rows.termSigsSpec) false w args)
      (Rows.termSigsSpec.post enc Tryz.prog Tryz.f5 false true false false) := by
  refine returnsInHanded_of_change_and (C := Tryz.checked) (X := fun w _ => laidMetH Tryz.prog laid3 w) (fun _ _ _ hh h => h.of_heap hh) own started (by kernel_rfl) Tryz.func5
    (ChangeSpec.witness_shaped (enc := enc) (C := Tryz.checked) (os := os) (X := fun w _ => laidMetH Tryz.prog laid3 w) false (World.doorLaid Tryz.prog 400 os) #[.slice none 0 0, .slice none 0 0, zArg] 8 rfl (World.shaped_of_RefB (by kernel_rfl) (by kernel_rfl)) (by kernel_rfl) (by kernel_rfl) (by kernel_rfl) (door_met os _)) ?_
  intro W base args ds gs before hval0 hW _ hsz0 hlaid _
  have hsz : (DataW.weightsEach Tryz.prog (Tryz.f5.params.toList ++ Rows.termSigsSpec.plain.varTypes Tryz.prog) (ds ++ gs)).all (· ≤ reachBytes) = true := hsz0
  have hval : ∀ (j : Nat) t v, Tryz.f5.params[j]? = some t → args[j]? = some v → Value.okWide Tryz.prog W .any base t v := hval0
  have hW' := hW
  obtain ⟨p, q, hA0, hV, rfl, hfz, hnd⟩ := hW
  have hA : DataW.TrodAll enc Tryz.prog W 0 (fun _ => true) true Tryz.f5.params.toList args.toList ds p := hA0
  rw [Tryz.params5] at hA hval hsz
  obtain ⟨v0, vs0, d0, ds0, p0, q0, hargs, rfl, rfl, h0, r0⟩ := trodAll_cons hA
  obtain ⟨v1, vs1, d1, ds1, p1, q1, rfl, rfl, rfl, h1, r1⟩ := trodAll_cons r0
  obtain ⟨v2, vs2, d2, ds2, p2, q2, rfl, rfl, rfl, h2, r2⟩ := trodAll_cons r1
  obtain ⟨rfl, rfl, rfl⟩ := trodAll_nil r2
  obtain rfl : args = #[v0, v1, v2] := by cases args; simp_all
  obtain ⟨rfl, rfl⟩ := trodVars_none hV
  obtain ⟨a0, len0, cap0, rfl⟩ := okWide_slice Tryz.underlying22 (hval 0 22 v0 rfl rfl)
  obtain ⟨a1, len1, cap1, rfl⟩ := okWide_slice Tryz.underlying22 (hval 1 22 v1 rfl rfl)
  obtain ⟨a2, rfl, _⟩ := okWide_struct Tryz.underlying26 (hval 2 26 v2 rfl rfl)
  have lt0 : ∀ x ∈ p0, x.block < W.heap.size := by obtain ⟨m, hm⟩ := h0; exact DataW.trod_lt m _ _ _ hm
  have lt1 : ∀ x ∈ p1, x.block < W.heap.size := by obtain ⟨m, hm⟩ := h1; exact DataW.trod_lt m _ _ _ hm
  have lt2 : ∀ x ∈ p2, x.block < W.heap.size := by obtain ⟨m, hm⟩ := h2; exact DataW.trod_lt m _ _ _ hm
  have z0 : fits Tryz.prog 22 d0 := fun n hn => by
    have := List.all_eq_true.1 hsz n (DataW.weights_mem_each (j := 0) rfl rfl n hn)
    simpa using this
  have z1 : fits Tryz.prog 22 d1 := fun n hn => by
    have := List.all_eq_true.1 hsz n (DataW.weights_mem_each (j := 1) rfl rfl n hn)
    simpa using this
  have z2 : fits Tryz.prog 26 d2 := fun n hn => by
    have := List.all_eq_true.1 hsz n (DataW.weights_mem_each (j := 2) rfl rfl n hn)
    simpa using this
  obtain ⟨t, ht⟩ : ∃ t, TmV W t (.agg a2) := by
    obtain ⟨m, hm⟩ := h2
    obtain ⟨t, h4, h5⟩ := open_tm termTypes m _ _ hm z2
    exact ⟨t, by simpa [Value.cells] using h4⟩
  obtain ⟨sig, S, cs, hc, hsig, hcap, hnil⟩ : ∃ (sig : List Fn) (S : Option Addr) (cs : Nat), (Value.slice a0 len0 cap0) = .slice S sig.length cs ∧ SigAt W S cs sig ∧ sig.length ≤ cs ∧ (S = none → cs = 0) := by
    obtain ⟨m, hm⟩ := h0
    exact open_fns funTypes hm z0
  obtain ⟨more, M, cm, hc1, hmore, hcap1, hnil1⟩ : ∃ (sig : List Fn) (S : Option Addr) (cs : Nat), (Value.slice a1 len1 cap1) = .slice S sig.length cs ∧ SigAt W S cs sig ∧ sig.length ≤ cs ∧ (S = none → cs = 0) := by
    obtain ⟨m, hm⟩ := h1
    exact open_fns funTypes hm z1
  clear hA0 hval0 hsz0 hsz
  rw [hc, hc1]
  refine (termSigs_any ⟨hsig, hcap, hnil⟩ ⟨hmore, hcap1, hnil1⟩ ht).mono fun e W' ⟨he, bel⟩ => ?_
  subst he
  rw [← hc, ← hc1]
  exact ⟨_, rfl, _, _, _, [], _, [], hW', trodAll_mk1 (shut_bool Tryz.underlying4 _), (trodAll_cons_mk (Below.trod laidOut (by kernel_rfl) (of_decide_eq_true (by kernel_rfl)) h0 bel lt0) (trodAll_cons_mk (Below.trod laidOut (by kernel_rfl) (of_decide_eq_true (by kernel_rfl)) h1 bel lt1) (trodAll_cons_mk (Below.trod laidOut (by kernel_rfl) (of_decide_eq_true (by kernel_rfl)) h2 bel lt2) trodAll_mk0))), rfl, bel.frame _, fun h => by cases h⟩
theorem termSigs_row : Rows.TermSigsSaid :=
  OpenClaim.holds_of_wide 5 Tryz.f5 rfl rfl rfl rfl rfl rfl rfl ⟨rfl, rfl, rfl, rfl, rfl⟩ rfl rfl rfl rfl rfl (by kernel_rfl) Tryz.func5 (by kernel_rfl)
    (of_decide_eq_true (by kernel_rfl)) (by unfold Func.isWrapper; first | (rw [if_pos (by decide +kernel)]; kernel_rfl) | (rw [if_neg (by decide +kernel)]; exact ⟨rfl, rfl⟩))
    (fun os started H enc _ => termSigs_lifted os started H enc)
theorem termSigs_holds : Rows.TermSigsCardSaid :=
  Claim7.holds_tied_plain_at .later [] [.data, .data, .data] true (true, "dad085594ab0223d63b4904c6a60dc69f48619f4669fd66f6450afaf51933733") true
    termSigs_row (fun _ h => by cases h) (by kernel_rfl) (fun _ h => by cases h) termSigs_row_tie rfl ⟨rfl, rfl⟩ (by kernel_rfl) rfl
    (fun f fn hf hfn => by
      obtain rfl : f = 5 := Option.some.inj ((show Tryz.prog.funcNamed "avow/avowlaw3.TermSigs" = some 5 by kernel_rfl).symm.trans hf) |>.symm
      obtain rfl : fn = Tryz.f5 := (Option.some.inj (Tryz.func5.symm.trans hfn)).symm
      exact ⟨by kernel_rfl, fun j t ht => by
        rw [Tryz.params5] at ht
        have hm : t ∈ [22, 22, 26] := by simpa using Array.mem_of_getElem? ht
        have hall : ([22, 22, 26].all fun u => !Tryz.prog.wantsStandIn u) = true := by kernel_rfl
        exact (show Tryz.prog.wantsStandIn t = false by simpa using List.all_eq_true.1 hall t hm)⟩)
    (by kernel_rfl)
#print axioms termSigs_holds
end Go.Proofs.YtlgbepamnkfpjaaGreatDoor
