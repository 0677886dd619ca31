/- app: a function's value. -/
import Derived.Test.YtbnonccmlildnaaGreatM25
import Derived.Maps.AppendAt
import Derived.Deep.RegionHeld3
set_option linter.unusedSimpArgs false
set_option linter.unusedVariables false
namespace Go.Proofs.YtbnonccmlildnaaGreat
open Go.RowKit

/-- What is known of what is looked into. -/
structure MOk (M : Mdl) (τ : Nat → List UInt8) (L : Nat) : Prop where
  fns : FnsAt M.w0 M.S M.sig
  tbs : TbsAt M.w0 M.T M.tbs
  objs : M.objs ≤ 1000
  text : ObjText M τ
  outs : tabsL L M.tbs
  small : L ≤ 20000000
  nsig : M.sig.length ≤ 140737488355328
  ntbs : M.tbs.length ≤ 140737488355328
theorem bytes_eq {a b : ByteArray} (h : a.toList = b.toList) : a = b := by
  rw [ByteArray.toList_eq, ByteArray.toList_eq] at h
  exact ByteArray.ext (Array.ext' h)
theorem maps_eq {xs ys : List ByteArray} : xs.map (·.toList) = ys.map (·.toList) ↔ xs = ys := by
  constructor
  · intro h
    refine List.ext_getElem? fun i => ?_
    have := congrArg (·[i]?) h
    simp only [List.getElem?_map] at this
    cases hx : xs[i]? with
    | none => rw [hx] at this; cases hy : ys[i]? with
      | none => rfl
      | some y => rw [hy] at this; cases this
    | some x => rw [hx] at this; cases hy : ys[i]? with
      | none => rw [hy] at this; cases this
      | some y => rw [hy] at this; simp at this; rw [bytes_eq this]
  · rintro rfl; rfl
theorem strs_cells {w : World} {b o : Nat} {xs : List ByteArray} (h : ∀ (j : Nat) (x : ByteArray), xs[j]? = some x → w.cell? ⟨b, o + j, none⟩ = some (.string x)) : ∀ j, j < xs.length → w.cell? ⟨b, o + j, none⟩ = some (.string (xs.getD j ByteArray.empty)) := fun j hj => by
  rw [h j _ (List.getElem?_eq_getElem hj)]
  simp [List.getD, List.getElem?_eq_getElem hj]
theorem strs_equal {w : World} {A B : Option Addr} {xs ys : List ByteArray} {c d : Nat} (hx : StrsAt w A xs) (hy : StrsAt w B ys) (hxl : xs.length ≤ 140737488355328) (hyl : ys.length ≤ 140737488355328) :
    Calls Tryz.prog 72 #[.slice A xs.length c, .slice B ys.length d] w fun e w' => e = .returned (.bool (decide (xs = ys))) ∧ Below w.heap.size w w' := by
  by_cases hl : xs.length = ys.length
  · rcases hx with rfl | ⟨b1, o1, rfl, h1⟩
    · refine (Tryz.slices_Equal_string_empty A B c ys.length d w (by omega)).mono ?_
      rintro e w' ⟨rfl, rfl⟩
      refine ⟨?_, Below.refl _ _⟩
      have : ys = [] := List.length_eq_zero_iff.1 (by simpa using hl.symm)
      subst this
      rfl
    · rcases hy with rfl | ⟨b2, o2, rfl, h2⟩
      · have : xs = [] := List.length_eq_zero_iff.1 (by simpa using hl)
        subst this
        refine (Tryz.slices_Equal_string_empty _ B c 0 d w (by omega)).mono ?_
        rintro e w' ⟨rfl, rfl⟩
        exact ⟨rfl, Below.refl _ _⟩
      · refine (Tryz.slices_Equal_string b1 o1 xs.length c b2 o2 ys.length d xs ys w (Nat.le_refl _) (Nat.le_refl _) (by omega) (by omega) (strs_cells h1) (strs_cells h2)).mono ?_
        rintro e w' ⟨rfl, q, rfl⟩
        rw [List.take_length, List.take_length]
        exact ⟨rfl, below_drewN (Below.refl _ _) q⟩
  · refine (Tryz.slices_Equal_string_lens A B xs.length c ys.length d w hl).mono ?_
    rintro e w' ⟨rfl, rfl⟩
    refine ⟨?_, Below.refl _ _⟩
    rw [decide_eq_false (fun e => hl (by rw [e]))]
theorem rowOf_drop {rows : List Rw} {args : List ByteArray} {e : ByteArray} {k : Nat} {r : Rw} (h : rows[k]? = some r) : rowOf (rows.drop k) args e = if decide (r.1 = args) then r.2 else rowOf (rows.drop (k + 1)) args e := by
  have hk := (List.getElem?_eq_some_iff.1 h)
  obtain ⟨hk, rfl⟩ := hk
  rw [List.drop_eq_getElem_cons hk]
  generalize rows[k] = r
  obtain ⟨a, o⟩ := r
  simp only [rowOf, maps_eq, decide_eq_true_eq]
theorem read_any (s : ByteArray) (k : Int) (objs : Nat) (w : World) (hs : s.size ≤ 1000000000000) (ho : objs ≤ 1000) (hk : 1 ≤ k ∧ k ≤ 3) : Calls Tryz.prog 73 #[.string s, .int .i64 k, .int .i64 objs] w (ReadPost (readV s k objs) w) := by
  have : k = 1 ∨ k = 2 ∨ k = 3 := by omega
  rcases this with rfl | rfl | rfl
  · exact read_num s objs w hs
  · exact read_tr s objs w
  · exact read_ob s objs w hs ho
end Go.Proofs.YtbnonccmlildnaaGreat
