/- ModelTurns, where what it reads is of bulk at most 1048576: for every signature, structure and term the call returns true, and its arguments read as before; no condition beyond the row's own. -/
import Derived.Test.YtbnonccmlildnaaGreatM40
import Derived.Test.YtbnonccmlildnaaGreatM41
import Derived.Deep.DeepHandedRow
import Derived.JoinedCond
import Derived.Handed
set_option linter.unusedSimpArgs false
set_option linter.unusedVariables false
set_option linter.constructorNameAsVariable false
namespace Go.Proofs.YtbnonccmlildnaaGreat
open Go.ChangeShapes Go.WideShapes Go.ChangeAt Go.RowKit

noncomputable def funTypes : FunTypes Tryz.prog 22 50 48 3 9 := ⟨_, Tryz.underlying50, by kernel_rfl, Tryz.underlying22, Tryz.underlying48, Tryz.underlying3, Tryz.underlying9, by kernel_rfl, by kernel_rfl, by kernel_rfl, by kernel_rfl, of_decide_eq_true (by kernel_rfl), of_decide_eq_true (by kernel_rfl)⟩
noncomputable def termTypes : TermTypes Tryz.prog 29 26 27 53 3 9 := ⟨_, _, Tryz.underlying29, by kernel_rfl, Tryz.underlying53, by kernel_rfl, Tryz.underlying26, Tryz.underlying27, Tryz.underlying3, Tryz.underlying9, by kernel_rfl, by kernel_rfl, by kernel_rfl, by kernel_rfl, by kernel_rfl, by kernel_rfl, of_decide_eq_true (by kernel_rfl), of_decide_eq_true (by kernel_rfl)⟩
noncomputable def modelTypes : ModelTypes Tryz.prog 25 23 47 45 57 55 3 9 := ⟨_, _, _, Tryz.underlying25, by kernel_rfl, Tryz.underlying47, by kernel_rfl, Tryz.underlying57, by kernel_rfl, Tryz.underlying23, Tryz.underlying45, Tryz.underlying55, Tryz.underlying3, Tryz.underlying9, by kernel_rfl, by kernel_rfl, by kernel_rfl, by kernel_rfl, by kernel_rfl, by kernel_rfl, by kernel_rfl, by kernel_rfl, of_decide_eq_true (by kernel_rfl), of_decide_eq_true (by kernel_rfl), of_decide_eq_true (by kernel_rfl)⟩
def zArg : Value := .agg #[.int .i64 0, .string ⟨#[]⟩, .int .i64 0, .string ⟨#[]⟩, .slice none 0 0, .slice none 0 0, .slice none 0 0]
def zData {H : Type} : DataW H := .agg [.lit (.int .i64 0), .lit (.string []), .lit (.int .i64 0), .lit (.string []), .nil, .nil, .nil]
/-- The library's table: some numbers. -/
theorem tab_shaped {w : World} (h : w.ShapedOpen Tryz.prog) : ∃ tab, TabAt tab w := by
  obtain ⟨cs, hh, hs, hr⟩ := h.1 0 (Array.replicate 20 (.int .u64 0)) 208 (of_decide_eq_true (by kernel_rfl)) (by kernel_rfl)
  obtain ⟨ts, hts, _, hall⟩ := hr (by kernel_rfl)
  have hts2 : Tryz.prog.cellTypes Tryz.prog.depth 208 = some (List.replicate 20 128) := by kernel_rfl
  rw [hts2] at hts
  cases hts
  have h20 : cs.size = 20 := by rw [hs]; simp
  have hu : Tryz.prog.underlying 128 = some (.int .u64) := by kernel_rfl
  have hev : ∀ j : Nat, j < 20 → ∃ n : Nat, w.cell? ⟨0, j, none⟩ = some (.int .u64 (n : Int)) := by
    intro j hj
    have h1 : j < cs.size := by omega
    obtain ⟨u, hu', hok⟩ := hall j (cs[j]'h1) (Array.getElem?_eq_getElem h1)
    have e1 : j % 20 = j := Nat.mod_eq_of_lt hj
    rw [List.length_replicate, e1, List.getElem?_replicate, if_pos hj] at hu'
    cases hu'
    have hcell : w.cell? ⟨0, j, none⟩ = some (cs[j]'h1) := by rw [cell_of_row w 0 j cs 208 (0, 0) hh]; exact Array.getElem?_eq_getElem h1
    rw [hcell]
    unfold Cell.ok at hok
    rw [hu] at hok
    cases hv : cs[j]'h1 <;> rw [hv] at hok <;> simp at hok
    case int k' n =>
      obtain ⟨rfl, hb⟩ := hok
      have h0 : 0 ≤ n := Int.le_trans (by decide) hb.1
      exact ⟨n.toNat, by rw [Int.toNat_of_nonneg h0]⟩
  refine ⟨fun j => if h : j < 20 then (hev j h).choose else 0, fun j hj => ?_⟩
  simp only [dif_pos hj]
  exact (hev j hj).choose_spec
set_option maxRecDepth 100000 in
theorem modelTurns_lifted (os : Os) (started : os.Started) (H : Type) (enc : TypeId × Value → H) (F : Stop.Interp) :
    ReturnsInHanded {} Tryz.checked os 5 .any ((Rows.OpenSpec.upto Rows.modelTurnsSpec).pre6 enc Tryz.prog Tryz.f5 Rows.modelTurnsUptoRow.domain false) (((Rows.OpenSpec.upto Rows.modelTurnsSpec).at F).post enc Tryz.prog Tryz.f5 false true false false) := by
  refine returnsInHanded_of_calls rfl started (by kernel_rfl)
    (OpenSpec.witness (enc := enc) (C := Tryz.checked) (s := Rows.OpenSpec.upto Rows.modelTurnsSpec) (k := Rows.uptoSmall) rfl false ⟨#[], #[.slice none 0 0, .agg #[.slice none 0 0, .int .i64 0], zArg, zArg], []⟩ 8 (by kernel_rfl) (by kernel_rfl) (by kernel_rfl)
      (x := ([.nil, .agg [.nil, .lit (.int .i64 0)], zData, zData], [], [])) (by kernel_rfl) rfl (by kernel_rfl)) ?_
  intro w tape i _ hsh _ hok hpre _
  obtain ⟨_, _, _, fn', hfn', _, _, _, _, hval1⟩ := hok
  have e0 : fn' = Tryz.f5 := Option.some.inj (hfn'.symm.trans Tryz.func5)
  subst e0
  obtain ⟨ds, gs, before, hw, _, hbk0⟩ := (OpenSpec.pre_some (k := Rows.uptoSmall) rfl Rows.modelTurnsUptoRow.domain false _ _).1 hpre.1
  have hsz0 := hpre.2.weights hw
  have hW := DataW.Whole.of_heap (w' := w.forCall tape i) (by rfl) hw
  generalize w.heap.size = base at hval1
  obtain ⟨args, hargs0⟩ : ∃ args, args = i.args := ⟨_, rfl⟩
  rw [← hargs0] at hW hval1 ⊢
  obtain ⟨W, hW0⟩ : ∃ W, W = w.forCall tape i := ⟨_, rfl⟩
  rw [← hW0] at hW hval1 hsh ⊢
  obtain ⟨tab, htab⟩ := tab_shaped hsh
  clear hsh hpre hw hW0 hargs0
  refine (?_ : Calls Tryz.prog 5 args W fun e W' => ∃ v, e = .returned v ∧ ((Rows.OpenSpec.upto Rows.modelTurnsSpec).at F).post enc Tryz.prog Tryz.f5 false true false false W args v W').mono (fun e W' ⟨v, he, hp⟩ => by subst he; exact ChangeSpec.post_blind hp)
  have hsz : (DataW.weightsEach Tryz.prog (Tryz.f5.params.toList ++ Rows.modelTurnsSpec.plain.varTypes Tryz.prog) (ds ++ gs)).all (· ≤ reachBytes) = true := hsz0
  have hval : ∀ (j : Nat) t v, Tryz.f5.params[j]? = some t → args[j]? = some v → Value.okWide Tryz.prog W .any base t v := hval1
  have hW' := hW
  obtain ⟨p, q, hA0, hV, rfl, hfz, hnd⟩ := hW
  have hA : DataW.TrodAll enc Tryz.prog W 0 (fun _ => true) true Tryz.f5.params.toList args.toList ds p := hA0
  rw [Tryz.params5] at hA hval hsz
  obtain ⟨v0, vs0, d0, ds0, p0, q0, hargs, rfl, rfl, h0, r0⟩ := trodAll_cons hA
  obtain ⟨v1, vs1, d1, ds1, p1, q1, rfl, rfl, rfl, h1, r1⟩ := trodAll_cons r0
  obtain ⟨v2, vs2, d2, ds2, p2, q2, rfl, rfl, rfl, h2, r2⟩ := trodAll_cons r1
  obtain ⟨v3, vs3, d3, ds3, p3, q3, rfl, rfl, rfl, h3, r3⟩ := trodAll_cons r2
  obtain ⟨rfl, rfl, rfl⟩ := trodAll_nil r3
  obtain rfl : args = #[v0, v1, v2, v3] := by cases args; simp_all
  obtain ⟨rfl, rfl⟩ := trodVars_none hV
  have hbk : Rows.uptoBulkAll ([d0, d1, d2, d3] ++ ([] : List (DataW H))) ≤ 1048576 := of_decide_eq_true hbk0
  simp only [List.append_nil, Rows.uptoBulkAll] at hbk
  obtain ⟨a0, len0, cap0, rfl⟩ := okWide_slice Tryz.underlying22 (hval 0 22 v0 rfl rfl)
  obtain ⟨a1, rfl, _⟩ := okWide_struct Tryz.underlying25 (hval 1 25 v1 rfl rfl)
  obtain ⟨a2, rfl, _⟩ := okWide_struct Tryz.underlying29 (hval 2 29 v2 rfl rfl)
  obtain ⟨a3, rfl, _⟩ := okWide_struct Tryz.underlying29 (hval 3 29 v3 rfl rfl)
  have lt0 : ∀ x ∈ p0, x.block < W.heap.size := by obtain ⟨m, hm⟩ := h0; exact DataW.trod_lt m _ _ _ hm
  have lt1 : ∀ x ∈ p1, x.block < W.heap.size := by obtain ⟨m, hm⟩ := h1; exact DataW.trod_lt m _ _ _ hm
  have lt2 : ∀ x ∈ p2, x.block < W.heap.size := by obtain ⟨m, hm⟩ := h2; exact DataW.trod_lt m _ _ _ hm
  have lt3 : ∀ x ∈ p3, x.block < W.heap.size := by obtain ⟨m, hm⟩ := h3; exact DataW.trod_lt m _ _ _ hm
  have z0 : fits Tryz.prog 22 d0 := fun n hn => by
    have := List.all_eq_true.1 hsz n (DataW.weights_mem_each (j := 0) rfl rfl n hn)
    simpa using this
  have z1 : fits Tryz.prog 25 d1 := fun n hn => by
    have := List.all_eq_true.1 hsz n (DataW.weights_mem_each (j := 1) rfl rfl n hn)
    simpa using this
  have z2 : fits Tryz.prog 29 d2 := fun n hn => by
    have := List.all_eq_true.1 hsz n (DataW.weights_mem_each (j := 2) rfl rfl n hn)
    simpa using this
  have z3 : fits Tryz.prog 29 d3 := fun n hn => by
    have := List.all_eq_true.1 hsz n (DataW.weights_mem_each (j := 3) rfl rfl n hn)
    simpa using this
  obtain ⟨t2, ht2, hn2⟩ : ∃ t, TmV W t (.agg a2) ∧ numsT (Rows.uptoBulk d2) t = true := by
    obtain ⟨m, hm⟩ := h2
    obtain ⟨t, h4, h5⟩ := open_tm termTypes m _ _ hm z2
    exact ⟨t, by simpa [Value.cells] using h4, h5⟩
  obtain ⟨t3, ht3, hn3⟩ : ∃ t, TmV W t (.agg a3) ∧ numsT (Rows.uptoBulk d3) t = true := by
    obtain ⟨m, hm⟩ := h3
    obtain ⟨t, h4, h5⟩ := open_tm termTypes m _ _ hm z3
    exact ⟨t, by simpa [Value.cells] using h4, h5⟩
  obtain ⟨sig, S, cs, hc, hsig, hcap, hnil, hlsig⟩ : ∃ (sig : List Fn) (S : Option Addr) (cs : Nat), (Value.slice a0 len0 cap0) = .slice S sig.length cs ∧ SigAt W S cs sig ∧ sig.length ≤ cs ∧ (S = none → cs = 0) ∧ sig.length ≤ Rows.uptoBulk d0 := by
    obtain ⟨m, hm⟩ := h0
    obtain ⟨sig, S, cs, e1, e2, e3, e4⟩ := open_fns funTypes hm z0
    have hlen := open_len Tryz.underlying22 (show Tryz.prog.cellsOf 50 = 3 by kernel_rfl) (by omega) hm
    refine ⟨sig, S, cs, e1, e2, e3, e4, ?_⟩
    have e5 : len0 = sig.length := by cases e1; rfl
    rw [← e5]
    exact hlen
  obtain ⟨tbs, T, ct, o0, hm1, hio, hT, hTc, hTl, hTb, hT0⟩ : ∃ (tbs : List Tb) (B : Option Addr) (cap : Nat) (o : Int), a1.toList = [.slice B tbs.length cap, .int .i64 o] ∧ i64 o ∧ TbsAt W B tbs ∧ tbs.length ≤ cap ∧ tbs.length ≤ Rows.uptoBulk d1 ∧ tabsL (Rows.uptoBulk d1) tbs ∧ (B = none → cap = 0) := by
    obtain ⟨m, hm⟩ := h1
    obtain ⟨tbs, B, cap, o, e1, e2, e3, e4, _, e6, e7, e8⟩ := open_model modelTypes hm z1
    exact ⟨tbs, B, cap, o, by simpa [Value.cells] using e1, e2, e3, e4, e8, e6, e7⟩
  obtain rfl : a1 = #[.slice T tbs.length ct, .int .i64 o0] := by cases a1; simp_all
  clear hA0 hval1 hsz0 hsz hbk0
  rw [hc]
  obtain ⟨pa, hpa⟩ := ht2.parts
  obtain rfl : a2 = pa.arr := by cases hpa; rfl
  obtain ⟨pb, hpb⟩ := ht3.parts
  obtain rfl : a3 = pb.arr := by cases hpb; rfl
  refine (modelTurns_any (tab := tab) ⟨hsig, hT, by omega, fun tb h => ⟨Nat.le_trans (hTb tb h).1 (by omega), fun r hr => Nat.le_trans ((hTb tb h).2 r hr) (by omega)⟩, htab⟩ ht2 ht3 (numsT_le (by omega) _ hn2) (numsT_le (by omega) _ hn3)).mono fun e W' ⟨he, bel⟩ => ?_
  subst he
  rw [← hc]
  exact ⟨_, rfl, _, _, _, [], _, [], hW', trodAll_mk1 (shut_bool Tryz.underlying4 _), (trodAll_cons_mk (Below.trod laidOut (by kernel_rfl) (of_decide_eq_true (by kernel_rfl)) h0 bel lt0) (trodAll_cons_mk (Below.trod laidOut (by kernel_rfl) (of_decide_eq_true (by kernel_rfl)) h1 bel lt1) (trodAll_cons_mk (Below.trod laidOut (by kernel_rfl) (of_decide_eq_true (by kernel_rfl)) h2 bel lt2) (trodAll_cons_mk (Below.trod laidOut (by kernel_rfl) (of_decide_eq_true (by kernel_rfl)) h3 bel lt3) trodAll_mk0)))), rfl, bel.frame _, fun h => by cases h⟩
theorem modelTurns_holds : Rows.ModelTurnsUptoSaid :=
  OpenClaim.holds_of_cond 5 Tryz.f5 rfl rfl rfl rfl rfl rfl rfl ⟨rfl, rfl, rfl, rfl, rfl⟩ rfl rfl rfl rfl rfl (by kernel_rfl) Tryz.func5 (by kernel_rfl)
    (of_decide_eq_true (by kernel_rfl)) (by unfold Func.isWrapper; first | (rw [if_pos (by decide +kernel)]; kernel_rfl) | (rw [if_neg (by decide +kernel)]; exact ⟨rfl, rfl⟩))
    (fun os started H enc _ F => modelTurns_lifted os started H enc F)
#print axioms modelTurns_holds
end Go.Proofs.YtbnonccmlildnaaGreat
