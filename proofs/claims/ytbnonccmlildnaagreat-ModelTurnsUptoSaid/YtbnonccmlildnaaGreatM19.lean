/- slices.Clone of digits. -/
import Derived.Test.YtbnonccmlildnaaGreatM18
import Derived.Lib.SliceRun
set_option linter.unusedSimpArgs false
set_option linter.unusedVariables false
namespace Go.Proofs.YtbnonccmlildnaaGreat
open Go.RowKit Go.Lib

theorem string_zero {w : World} {A : Option Addr} {c : Nat} {b : Bool} : Calls Tryz.prog 133 #[.agg #[.slice A 0 c, .bool b]] w fun e w' => e = .returned (.string "0".toUTF8) ∧ Below w.heap.size w w' := by
  go_enter Tryz.func133, Tryz.ntmps133
  go_wp2_with fail
  go_ret
  exact ⟨rfl, (Below.refl _ _).alloc (Nat.le_refl _) _⟩
set_option maxRecDepth 100000 in
set_option maxHeartbeats 1000000 in
theorem cloneD_ex {w : World} {A : Option Addr} {ds : List Nat} {n c : Nat} (h : DigAt w A ds) (hn : n = ds.length) (h0 : 0 < n) (hb : n ≤ 20000000000000) :
    Calls Tryz.prog 135 #[.slice A n c] w fun e w' => ∃ v, e = .returned v ∧ DigL w' w.heap.size ds v ∧ Below w.heap.size w w' := by
  have qT : ∀ (w : World) (a : Option Addr) (n c n' c' : Nat), (binOp .eql 87 (.slice a n c) (.slice none n' c')).run Tryz.prog w = .ok (.bool a.isNone) w := fun w a n c n' c' => Lib.run_eql_slice_nil w _ _ a n c n' c' Tryz.underlying87
  rcases h with rfl | ⟨g, rfl, hg, h⟩
  · simp at hn; omega
  obtain ⟨i135, hi, hz0, hz1, hz2⟩ := info_parts info135
  have Hsrc : Hid (∀ j u, (ds.map digV)[j]? = some u → (w.alloc (.cells #[] 131)).cell? ((⟨g, 0, none⟩ : Addr).add j) = some u) := Lib.hid (fun j u hj => by
    rw [List.getElem?_map] at hj
    cases e : ds[j]? with
    | none => rw [e] at hj; cases hj
    | some x =>
      rw [e] at hj
      cases hj
      rw [Addr.add_lit, Nat.zero_add]
      exact cell_of_below ((Below.refl _ _).alloc (Nat.le_refl _) _) (Nat.le_refl _) (h j x e))
  have Hone : Hid (∀ u ∈ ds.map digV, u.oneCell' = true) := Lib.hid (fun u hu => by
    obtain ⟨x, _, rfl⟩ := List.mem_map.1 hu
    rfl)
  have Hown : Hid ((w.alloc (.cells #[] 131)).ownsRow w.heap.size 131 1 (.slice (some ⟨w.heap.size, 0, none⟩) 0 0) 0 []) := Lib.hid ⟨rfl, .inr ⟨w.heap.size, 0, #[], rfl, Nat.le_refl _, heap_alloc_new _ _, Nat.le_refl _, by simp [maxLen], rfl, rfl⟩⟩
  have Hl : Hid ((ds.map digV).length = n * 1) := Lib.hid (by simp [hn])
  have Hn := Lib.hid hn
  clear h hn
  go_enter Tryz.func135, Tryz.ntmps135
  go_wp2_with (at_builtin; refine wpList_append_own _ rfl (.tmp 5) (.tmp 6) 87 rfl w.heap.size 131 i135 _ 1 4 Tryz.underlying87 hi hz0 hz1 hz2 rfl (by decide) (.slice (some ⟨w.heap.size, 0, none⟩) 0 0) 0 [] rfl Hown.out ⟨g, 0, none⟩ n c (ds.map digV) rfl Hl.out Hsrc.out Hone.out (by simp only [maxLen]; omega) (by omega) (by simp) ?_; intro v' w1 hown' hgrow hnil; simp only [Nat.zero_add, List.nil_append] at hown'; have hq' := Lib.hid hown'; have Hg := Lib.hid hgrow; clear hown' hgrow hnil)
  go_ret
  refine ⟨v', rfl, ?_, ((Below.refl w.heap.size w).alloc (Nat.le_refl _) _).grown Hg.out (by simp) (fun j hj => by cases hj; exact Nat.le_refl _)⟩
  unfold DigL
  rw [← Hn.out]
  exact hq'.out
end Go.Proofs.YtbnonccmlildnaaGreat
