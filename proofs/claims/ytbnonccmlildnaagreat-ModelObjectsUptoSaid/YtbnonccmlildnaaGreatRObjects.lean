/- ModelObjects, where what it reads is of bulk at most 1048576: for every signature, structure and term the call returns true, and its arguments read as before; no condition beyond the row's own. -/
import Derived.Test.YtbnonccmlildnaaGreatM39
import Derived.Test.YtbnonccmlildnaaGreatM40
import Derived.Deep.DeepHandedRow
import Derived.Deep.CondSized
set_option linter.unusedSimpArgs false
set_option linter.unusedVariables false
namespace Go.Proofs.YtbnonccmlildnaaGreat
open Go.ChangeShapes Go.WideShapes Go.ChangeAt Go.RowKit

noncomputable def funTypes : FunTypes Tryz.prog 22 50 48 3 9 := ⟨_, Tryz.underlying50, by kernel_rfl, Tryz.underlying22, Tryz.underlying48, Tryz.underlying3, Tryz.underlying9, by kernel_rfl, by kernel_rfl, by kernel_rfl, by kernel_rfl, of_decide_eq_true (by kernel_rfl), of_decide_eq_true (by kernel_rfl)⟩
noncomputable def termTypes : TermTypes Tryz.prog 29 26 27 53 3 9 := ⟨_, _, Tryz.underlying29, by kernel_rfl, Tryz.underlying53, by kernel_rfl, Tryz.underlying26, Tryz.underlying27, Tryz.underlying3, Tryz.underlying9, by kernel_rfl, by kernel_rfl, by kernel_rfl, by kernel_rfl, by kernel_rfl, by kernel_rfl, of_decide_eq_true (by kernel_rfl), of_decide_eq_true (by kernel_rfl)⟩
noncomputable def modelTypes : ModelTypes Tryz.prog 25 23 47 45 57 55 3 9 := ⟨_, _, _, Tryz.underlying25, by kernel_rfl, Tryz.underlying47, by kernel_rfl, Tryz.underlying57, by kernel_rfl, Tryz.underlying23, Tryz.underlying45, Tryz.underlying55, Tryz.underlying3, Tryz.underlying9, by kernel_rfl, by kernel_rfl, by kernel_rfl, by kernel_rfl, by kernel_rfl, by kernel_rfl, by kernel_rfl, by kernel_rfl, of_decide_eq_true (by kernel_rfl), of_decide_eq_true (by kernel_rfl), of_decide_eq_true (by kernel_rfl)⟩
def zArg : Value := .agg #[.int .i64 0, .string ⟨#[]⟩, .int .i64 0, .string ⟨#[]⟩, .slice none 0 0, .slice none 0 0, .slice none 0 0]
def zData {H : Type} : DataW H := .agg [.lit (.int .i64 0), .lit (.string []), .lit (.int .i64 0), .lit (.string []), .nil, .nil, .nil]
set_option maxRecDepth 100000 in
theorem modelObjects_lifted (os : Os) (started : os.Started) (H : Type) (enc : TypeId × Value → H) (F : Stop.Interp) :
    ReturnsInHanded {} Tryz.checked os 6 .any ((Rows.OpenSpec.upto Rows.modelObjectsSpec).pre6 enc Tryz.prog Tryz.f6 Rows.modelObjectsUptoRow.domain false) (((Rows.OpenSpec.upto Rows.modelObjectsSpec).at F).post enc Tryz.prog Tryz.f6 false true false false) := by
  refine returnsInHanded_of_cond_sized (C := Tryz.checked) (s := Rows.OpenSpec.upto Rows.modelObjectsSpec) (k := Rows.uptoSmall) rfl own started (by kernel_rfl) Tryz.func6
    (OpenSpec.witness (enc := enc) (C := Tryz.checked) (s := Rows.OpenSpec.upto Rows.modelObjectsSpec) (k := Rows.uptoSmall) rfl false ⟨#[], #[.slice none 0 0, .agg #[.slice none 0 0, .int .i64 0], zArg], []⟩ 8 (by kernel_rfl) (by kernel_rfl) (by kernel_rfl)
      (x := ([.nil, .agg [.nil, .lit (.int .i64 0)], zData], [], [])) (by kernel_rfl) rfl (by kernel_rfl)) ?_
  intro W base args ds gs before hval0 hW _ hbk0 hsz0 _
  have hsz : (DataW.weightsEach Tryz.prog (Tryz.f6.params.toList ++ Rows.modelObjectsSpec.plain.varTypes Tryz.prog) (ds ++ gs)).all (· ≤ reachBytes) = true := hsz0
  have hval : ∀ (j : Nat) t v, Tryz.f6.params[j]? = some t → args[j]? = some v → Value.okWide Tryz.prog W .any base t v := hval0
  have hW' := hW
  obtain ⟨p, q, hA0, hV, rfl, hfz, hnd⟩ := hW
  have hA : DataW.TrodAll enc Tryz.prog W 0 (fun _ => true) true Tryz.f6.params.toList args.toList ds p := hA0
  rw [Tryz.params6] at hA hval hsz
  obtain ⟨v0, vs0, d0, ds0, p0, q0, hargs, rfl, rfl, h0, r0⟩ := trodAll_cons hA
  obtain ⟨v1, vs1, d1, ds1, p1, q1, rfl, rfl, rfl, h1, r1⟩ := trodAll_cons r0
  obtain ⟨v2, vs2, d2, ds2, p2, q2, rfl, rfl, rfl, h2, r2⟩ := trodAll_cons r1
  obtain ⟨rfl, rfl, rfl⟩ := trodAll_nil r2
  obtain rfl : args = #[v0, v1, v2] := by cases args; simp_all
  obtain ⟨rfl, rfl⟩ := trodVars_none hV
  have hbk : Rows.uptoBulkAll ([d0, d1, d2] ++ ([] : List (DataW H))) ≤ 1048576 := of_decide_eq_true hbk0
  simp only [List.append_nil, Rows.uptoBulkAll] at hbk
  obtain ⟨a0, len0, cap0, rfl⟩ := okWide_slice Tryz.underlying22 (hval 0 22 v0 rfl rfl)
  obtain ⟨a1, rfl, _⟩ := okWide_struct Tryz.underlying25 (hval 1 25 v1 rfl rfl)
  obtain ⟨a2, rfl, _⟩ := okWide_struct Tryz.underlying29 (hval 2 29 v2 rfl rfl)
  have lt0 : ∀ x ∈ p0, x.block < W.heap.size := by obtain ⟨m, hm⟩ := h0; exact DataW.trod_lt m _ _ _ hm
  have lt1 : ∀ x ∈ p1, x.block < W.heap.size := by obtain ⟨m, hm⟩ := h1; exact DataW.trod_lt m _ _ _ hm
  have lt2 : ∀ x ∈ p2, x.block < W.heap.size := by obtain ⟨m, hm⟩ := h2; exact DataW.trod_lt m _ _ _ hm
  have z0 : fits Tryz.prog 22 d0 := fun n hn => by
    have := List.all_eq_true.1 hsz n (DataW.weights_mem_each (j := 0) rfl rfl n hn)
    simpa using this
  have z1 : fits Tryz.prog 25 d1 := fun n hn => by
    have := List.all_eq_true.1 hsz n (DataW.weights_mem_each (j := 1) rfl rfl n hn)
    simpa using this
  have z2 : fits Tryz.prog 29 d2 := fun n hn => by
    have := List.all_eq_true.1 hsz n (DataW.weights_mem_each (j := 2) rfl rfl n hn)
    simpa using this
  obtain ⟨t, ht, hn⟩ : ∃ t, TmV W t (.agg a2) ∧ numsT (Rows.uptoBulk d2) t = true := by
    obtain ⟨m, hm⟩ := h2
    obtain ⟨t, h4, h5⟩ := open_tm termTypes m _ _ hm z2
    exact ⟨t, by simpa [Value.cells] using h4, h5⟩
  obtain ⟨sig, S, cs, hc, hsig, hcap, hnil, hlsig⟩ : ∃ (sig : List Fn) (S : Option Addr) (cs : Nat), (Value.slice a0 len0 cap0) = .slice S sig.length cs ∧ SigAt W S cs sig ∧ sig.length ≤ cs ∧ (S = none → cs = 0) ∧ sig.length ≤ Rows.uptoBulk d0 := by
    obtain ⟨m, hm⟩ := h0
    obtain ⟨sig, S, cs, e1, e2, e3, e4⟩ := open_fns funTypes hm z0
    have hlen := open_len Tryz.underlying22 (show Tryz.prog.cellsOf 50 = 3 by kernel_rfl) (by omega) hm
    refine ⟨sig, S, cs, e1, e2, e3, e4, ?_⟩
    have e5 : len0 = sig.length := by cases e1; rfl
    rw [← e5]
    exact hlen
  obtain ⟨tbs, T, ct, o0, hm1, hio, hT, hTc, hTl, hTb, hT0⟩ : ∃ (tbs : List Tb) (B : Option Addr) (cap : Nat) (o : Int), a1.toList = [.slice B tbs.length cap, .int .i64 o] ∧ i64 o ∧ TbsAt W B tbs ∧ tbs.length ≤ cap ∧ tbs.length ≤ Rows.uptoBulk d1 ∧ tabsL (Rows.uptoBulk d1) tbs ∧ (B = none → cap = 0) := by
    obtain ⟨m, hm⟩ := h1
    obtain ⟨tbs, B, cap, o, e1, e2, e3, e4, _, e6, e7, e8⟩ := open_model modelTypes hm z1
    exact ⟨tbs, B, cap, o, by simpa [Value.cells] using e1, e2, e3, e4, e8, e6, e7⟩
  obtain rfl : a1 = #[.slice T tbs.length ct, .int .i64 o0] := by cases a1; simp_all
  clear hA0 hval0 hsz0 hsz hbk0
  rw [hc]
  refine (modelObjects_any hsig hnil hT (by omega) hT0 (fun tb h => ⟨Nat.le_trans (hTb tb h).1 (by omega), fun r hr => Nat.le_trans ((hTb tb h).2 r hr) (by omega)⟩) hio ht (numsT_le (by omega) t hn) ⟨by omega, by omega⟩).mono fun e W' ⟨he, bel⟩ => ?_
  subst he
  rw [← hc]
  exact ⟨_, rfl, _, _, _, [], _, [], hW', trodAll_mk1 (shut_bool Tryz.underlying4 _), (trodAll_cons_mk (Below.trod laidOut (by kernel_rfl) (of_decide_eq_true (by kernel_rfl)) h0 bel lt0) (trodAll_cons_mk (Below.trod laidOut (by kernel_rfl) (of_decide_eq_true (by kernel_rfl)) h1 bel lt1) (trodAll_cons_mk (Below.trod laidOut (by kernel_rfl) (of_decide_eq_true (by kernel_rfl)) h2 bel lt2) trodAll_mk0))), rfl, bel.frame _, fun h => by cases h⟩
theorem modelObjects_holds : Rows.ModelObjectsUptoSaid :=
  OpenClaim.holds_of_cond 6 Tryz.f6 rfl rfl rfl rfl rfl rfl rfl ⟨rfl, rfl, rfl, rfl, rfl⟩ rfl rfl rfl rfl rfl (by kernel_rfl) Tryz.func6 (by kernel_rfl)
    (of_decide_eq_true (by kernel_rfl)) (by unfold Func.isWrapper; first | (rw [if_pos (by decide +kernel)]; kernel_rfl) | (rw [if_neg (by decide +kernel)]; exact ⟨rfl, rfl⟩))
    (fun os started H enc _ F => modelObjects_lifted os started H enc F)
#print axioms modelObjects_holds
end Go.Proofs.YtbnonccmlildnaaGreat
