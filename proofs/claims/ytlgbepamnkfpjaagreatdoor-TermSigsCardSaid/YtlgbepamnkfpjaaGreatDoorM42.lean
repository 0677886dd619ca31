/- Signatures that came in. -/
import Derived.Test.YtlgbepamnkfpjaaGreatDoorM32
import Derived.Test.YtlgbepamnkfpjaaGreatDoorM39
set_option linter.unusedSimpArgs false
set_option linter.unusedVariables false
set_option linter.unusedVariables false
set_option linter.unusedSimpArgs false
namespace Go.Proofs.YtlgbepamnkfpjaaGreatDoor
open Go.RowKit

/-- The types of a signature and of its parts. -/
structure FunTypes (P : Program) (tG tF tA tI tS : TypeId) where
  fs : Array Field
  hF : P.underlying tF = some (.struct fs)
  fF : fs.toList.map (fun f => (f.offset, f.type)) = [(0, tS), (1, tA), (2, tI)]
  hG : P.underlying tG = some (.slice tF)
  hA : P.underlying tA = some (.slice tI)
  hI : P.underlying tI = some (.int .i64)
  hS : P.underlying tS = some .string
  cF : P.cellsOf tF = 3
  cA : P.cellsOf tA = 1
  cI : P.cellsOf tI = 1
  cS : P.cellsOf tS = 1
  bF : 1 ≤ P.bytesOf tF
  bI : 1 ≤ P.bytesOf tI
instance : Inhabited Fn := ⟨⟨.empty, [], 0⟩⟩
section
variable {H : Type} {enc : TypeId × Value → H} {P : Program} {W : World} {held : Bool} {spare : Nat → Bool} {tG tF tA tI tS : TypeId}
theorem open_ints (T : FunTypes P tG tF tA tI tS) {fuel : Nat} {c : Value} {y : DataW H × List MemPlace} (h : DataW.trod enc P W 0 spare held fuel tA [c] = some y) (hf : fits P tA y.1) :
    ∃ (xs : List Int) (B : Option Addr) (cap : Nat), c = .slice B xs.length cap ∧ IntsAt W B cap xs ∧ xs.length ≤ 140737488355328 := by
  rcases open_elems T.hA T.cI (by omega) h with ⟨rfl, _⟩ | ⟨A, len, cap, n, ds, rs, G, _, rfl, hl, hy, hds, hrow, hel⟩
  · exact ⟨[], none, 0, rfl, ⟨by simp, .inl rfl⟩, by simp⟩
  · rw [hy] at hf
    rcases hrow with h0 | ⟨b, o, rfl, hr⟩
    · subst h0
      exact ⟨[], A, cap, rfl, ⟨by simp, .inl rfl⟩, by simp⟩
    have hone : ∀ j, j < len → ∃ v : Int, G j = [.int .i64 v] := fun j hj => by
      obtain ⟨z, hz, hdj⟩ := hel j hj
      obtain ⟨q, hq, _, hw⟩ := DataW.trod_int T.hI hz
      refine ⟨q, ?_⟩
      have hlen := (hr j hj).1
      match hG : G j, hlen with
      | [c0], _ => rw [hG] at hq; simp at hq; rw [hq]
    obtain ⟨V, hV⟩ := Go.Deep.choose_lt (α := Int) hone
    have hlen : ((List.range len).map V).length = len := by simp
    refine ⟨(List.range len).map V, some ⟨b, o, none⟩, cap, by rw [hlen], ⟨by rw [hlen]; exact hl, .inr (.inr ⟨b, o, rfl, fun j u hj => ?_⟩)⟩, by rw [hlen, ← hds]; exact fits_len T.hA T.bI hf⟩
    have hjl : j < len := by
      rcases Nat.lt_or_ge j len with h | h
      · exact h
      · rw [List.getElem?_eq_none (by simp; omega)] at hj
        cases hj
    have h1 := (hr j hjl).2 0 (by omega)
    rw [hV j hjl] at h1
    simp [hjl] at hj
    subst hj
    simpa using h1
/-- A signature that came in. -/
theorem open_fns (T : FunTypes P tG tF tA tI tS) {fuel : Nat} {c : Value} {y : DataW H × List MemPlace} (h : DataW.trod enc P W 0 spare held fuel tG [c] = some y) (hf : fits P tG y.1) :
    ∃ (sig : List Fn) (S : Option Addr) (cs : Nat), c = .slice S sig.length cs ∧ SigAt W S cs sig ∧ sig.length ≤ cs ∧ (S = none → cs = 0) := by
  rcases open_elems T.hG T.cF (by omega) h with ⟨rfl, _⟩ | ⟨A, len, cap, n, ds, rs, G, _, hc, hl, hy, hds, hrow, hel⟩
  · exact ⟨[], none, 0, rfl, ⟨⟨fun _ => .nilFunc, .inl rfl, by simp⟩, by simp, by simp⟩, by simp, fun _ => rfl⟩
  · rw [hy] at hf
    have hA0 : A = none → cap = 0 := fun e => by
      subst e
      subst hc
      rcases DataW.trod_slice T.hG h with ⟨h0, _⟩ | ⟨a, len', cap', _, _, _, _, h0, _⟩
      · simp at h0; exact h0.2
      · simp at h0
    have hone : ∀ j, j < len → ∃ f : Fn, FnAt W f (.agg (G j).toArray) := fun j hj => by
      obtain ⟨z, hz, hdj⟩ := hel j hj
      obtain ⟨xs, m, _, hzx, hlen, hxl, hfs⟩ := DataW.trod_struct T.hF hz
      have hgs : T.fs.size = 3 := by have := congrArg List.length T.fF; simpa using this
      rw [T.cF] at hlen
      rw [hgs] at hxl
      match xs, hxl with
      | [x0, x1, x2], _ =>
        have g0 : T.fs[0]? = some T.fs[0] := Array.getElem?_eq_getElem (by omega)
        have g1 : T.fs[1]? = some T.fs[1] := Array.getElem?_eq_getElem (by omega)
        have g2 : T.fs[2]? = some T.fs[2] := Array.getElem?_eq_getElem (by omega)
        have e0 : (T.fs[0].offset, T.fs[0].type) = (0, tS) := by have := congrArg (fun l => l[0]?) T.fF; simpa [g0] using this
        have e1 : (T.fs[1].offset, T.fs[1].type) = (1, tA) := by have := congrArg (fun l => l[1]?) T.fF; simpa [g1] using this
        have e2 : (T.fs[2].offset, T.fs[2].type) = (2, tI) := by have := congrArg (fun l => l[2]?) T.fF; simpa [g2] using this
        have f0 := hfs 0 _ g0
        have f1 := hfs 1 _ g1
        have f2 := hfs 2 _ g2
        obtain ⟨o0, t0⟩ := Prod.mk.inj e0
        obtain ⟨o1, t1⟩ := Prod.mk.inj e1
        obtain ⟨o2, t2⟩ := Prod.mk.inj e2
        rw [o0, t0, T.cS, take_one hlen (by omega)] at f0
        rw [o1, t1, T.cA, take_one hlen (by omega)] at f1
        rw [o2, t2, T.cI, take_one hlen (by omega)] at f2
        obtain ⟨s, hs, hx0, _⟩ := DataW.trod_string T.hS f0
        obtain ⟨q, hq, _, hw⟩ := DataW.trod_int T.hI f2
        have hft : fits P tF z.1 := fits_elem T.hG hf (List.mem_of_getElem? hdj)
        rw [hzx] at hft
        have hfn := fits_field T.hF hft (j := 0) g0 (d := x0.1) rfl
        rw [t0, hx0] at hfn
        have hfa := fits_field T.hF hft (j := 1) g1 (d := x1.1) rfl
        rw [t1] at hfa
        obtain ⟨args, B, ca, hB, hi, ha⟩ := open_ints T f1 hfa
        refine ⟨⟨s, args, q⟩, ⟨B, ca, ?_, hi⟩, ?_, ha, wf_i64 hw⟩
        · match hG : G j, hlen with
          | [c0, c1, c2], _ =>
            rw [hG] at hs hq hB
            simp at hs hq hB
            rw [hs, hq, hB]
        · have := fits_string hfn
          rw [Array.length_toList] at this
          exact this
    obtain ⟨V, hV⟩ := Go.Deep.choose_lt (α := Fn) (n := len) (p := fun j f => FnAt W f (.agg (G j).toArray)) hone
    have hlen : ((List.range len).map V).length = len := by simp
    subst hc
    refine ⟨(List.range len).map V, A, cap, by rw [hlen], ⟨⟨fun j => .agg (G j).toArray, ?_, fun j f hj => ?_⟩, by rw [hlen, ← hds]; exact fits_len T.hG T.bF hf, ?_⟩, by rw [hlen]; exact hl, hA0⟩
    · rw [hlen]
      rcases hrow with h0 | ⟨b, o, rfl, hr⟩
      · exact .inl h0
      · refine .inr ⟨b, o, rfl, fun j hj => ⟨by simpa [Value.cells] using (hr j hj).1, fun i hi => ?_⟩⟩
        rw [(hr j hj).2 i hi]
        simp [Value.cells]
    · have hjl : j < len := by
        rcases Nat.lt_or_ge j len with h | h
        · exact h
        · rw [List.getElem?_eq_none (by simp; omega)] at hj
          cases hj
      simp [hjl] at hj
      subst hj
      exact hV j hjl
    · intro f hf2
      obtain ⟨j, hj, rfl⟩ := List.mem_map.1 hf2
      exact (hV j (List.mem_range.1 hj)).out
end
end Go.Proofs.YtlgbepamnkfpjaaGreatDoor
