/- 'Place'; the chapter's example. -/
import Derived.Test.YtmfgdemgepkggaaA14
namespace Go.Proofs.Ytmfgdemgepkggaa
open Go.RowKit Go.Maps Go.ChangeMaps

set_option maxHeartbeats 1000000 in
theorem place_any (k n : Int) (w : World) (hk : i64 k) (hn : 0 < n) (hn2 : n ≤ 1000000) :
    Calls Try.prog 11 #[.int .i64 k, .int .i64 n] w fun e w' => e = .returned (.int .i64 (k % n)) ∧ w = w' := by
  obtain ⟨l1, l2⟩ := hk
  have hne : (n == 0) = false := by simpa using (by omega : n ≠ 0)
  by_cases h0 : k.tmod n < 0
  · have hd : decide (k.tmod n < 0) = true := by simpa using h0
    have b1 : -n < k.tmod n := Int.lt_tmod_of_pos k hn
    have Hr : Hid (k.tmod n + n = k % n) := Lib.hid (by
      have := Int.tmod_eq_emod (a := k) (b := n)
      have h1 := Int.emod_nonneg k (by omega : n ≠ 0)
      have h2 := Int.emod_lt_of_pos k hn
      have h3 : n.natAbs = n := by omega
      split at this <;> omega)
    go_enter Try.func11, Try.ntmps11
    go_wp2_with fail
    go_ret
    exact ⟨by rw [← Hr.out]; rfl, rfl⟩
  · have hd : decide (k.tmod n < 0) = false := by simpa using h0
    have Hr : Hid (k.tmod n = k % n) := Lib.hid (by
      have := Int.tmod_eq_emod (a := k) (b := n)
      have h3 : n.natAbs = n := by omega
      have h1 := Int.emod_nonneg k (by omega : n ≠ 0)
      have h2 := Int.emod_lt_of_pos k hn
      split at this <;> omega)
    go_enter Try.func11, Try.ntmps11
    go_wp2_with fail
    go_ret
    exact ⟨by rw [← Hr.out]; rfl, rfl⟩

def L4 : List (List Int) := [[1, 2], [1, -2], [-1, 2], [-1, -2]]
theorem fol_one : Fol L4 [1] := by
  refine ⟨by decide, .inl ⟨2, ?_, ?_⟩⟩
  · refine .unit (d := [1, 2]) (by decide) (by decide) (by decide) (fun y hy hne => ?_)
    simp at hy
    rcases hy with rfl | rfl
    · exact .neg (by decide)
    · exact absurd rfl hne
  · refine .unit (d := [1, -2]) (by decide) (by decide) (by decide) (fun y hy hne => ?_)
    simp at hy
    rcases hy with rfl | rfl
    · exact .neg (by decide)
    · exact absurd rfl hne
theorem fol_none : Fol (L4 ++ [[1]]) [] := by
  have h1 : Der (L4 ++ [[1]]) [] 1 := .unit (d := [1]) (by decide) (by decide) (by decide) (fun y hy hne => by simp at hy; exact absurd hy hne)
  refine ⟨by decide, .inl ⟨2, ?_, ?_⟩⟩
  · refine .unit (d := [-1, 2]) (by decide) (by decide) (by decide) (fun y hy hne => ?_)
    simp at hy
    rcases hy with rfl | rfl
    · exact h1
    · exact absurd rfl hne
  · refine .unit (d := [-1, -2]) (by decide) (by decide) (by decide) (fun y hy hne => ?_)
    simp at hy
    rcases hy with rfl | rfl
    · exact h1
    · exact absurd rfl hne
theorem not_fol : ¬ Fol L4 [] := by
  rintro ⟨_, h⟩
  refine Told.fine (ts := []) ⟨by simp, by simp, by simp⟩ (by simp) (fun d hd _ => ?_) h
  simp [L4] at hd
  rcases hd with rfl | rfl | rfl | rfl
  · exact .inr ⟨1, by simp, 2, by simp, by decide, by simp, by simp, by simp, by simp⟩
  · exact .inr ⟨1, by simp, -2, by simp, by decide, by simp, by simp, by simp, by simp⟩
  · exact .inr ⟨-1, by simp, 2, by simp, by decide, by simp, by simp, by simp, by simp⟩
  · exact .inr ⟨-1, by simp, -2, by simp, by decide, by simp, by simp, by simp, by simp⟩
theorem check_one : CheckIs L4 [[1], []] 2 0 := by
  refine .inr ⟨rfl, fun j d hj hd => ?_, by decide⟩
  simp at hj
  match j, hj, hd with
  | 0, _, hd => simp at hd; subst hd; simpa using fol_one
  | 1, _, hd => simp at hd; subst hd; exact fol_none
theorem check_two : CheckIs L4 [[]] 0 70 := by
  refine .inl ⟨0, by simp, rfl, rfl, fun j d hj => by omega, fun d hd => ?_⟩
  simp at hd
  subst hd
  simpa using not_fol

/-- The four clauses and a world in which they lie. -/
theorem four (w : World) : RowsAt (((((w.alloc (.cells #[.int .i64 1, .int .i64 2] 3)).alloc (.cells #[.int .i64 1, .int .i64 (-2)] 3)).alloc (.cells #[.int .i64 (-1), .int .i64 2] 3)).alloc (.cells #[.int .i64 (-1), .int .i64 (-2)] 3)).alloc
    (.cells #[.slice (some ⟨w.heap.size, 0, none⟩) 2 2, .slice (some ⟨w.heap.size + 1, 0, none⟩) 2 2, .slice (some ⟨w.heap.size + 1 + 1, 0, none⟩) 2 2, .slice (some ⟨w.heap.size + 1 + 1 + 1, 0, none⟩) 2 2] 23)) (some ⟨w.heap.size + 1 + 1 + 1 + 1, 0, none⟩) 4 L4 := by
  have h1 := ints_new w [1, 2]
  have h2 := ints_new (w.alloc (.cells #[.int .i64 1, .int .i64 2] 3)) [1, -2]
  have h3 := ints_new ((w.alloc (.cells #[.int .i64 1, .int .i64 2] 3)).alloc (.cells #[.int .i64 1, .int .i64 (-2)] 3)) [-1, 2]
  have h4 := ints_new (((w.alloc (.cells #[.int .i64 1, .int .i64 2] 3)).alloc (.cells #[.int .i64 1, .int .i64 (-2)] 3)).alloc (.cells #[.int .i64 (-1), .int .i64 2] 3)) [-1, -2]
  have h := rows_new ((((w.alloc (.cells #[.int .i64 1, .int .i64 2] 3)).alloc (.cells #[.int .i64 1, .int .i64 (-2)] 3)).alloc (.cells #[.int .i64 (-1), .int .i64 2] 3)).alloc (.cells #[.int .i64 (-1), .int .i64 (-2)] 3))
    [.slice (some ⟨w.heap.size, 0, none⟩) 2 2, .slice (some ⟨w.heap.size + 1, 0, none⟩) 2 2, .slice (some ⟨w.heap.size + 1 + 1, 0, none⟩) 2 2, .slice (some ⟨w.heap.size + 1 + 1 + 1, 0, none⟩) 2 2] L4 rfl (fun j v xs hv hx => by
      match j, hv, hx with
      | 0, hv, hx => simp [L4] at hv hx; subst hv hx; exact ((h1.alloc _).alloc _).alloc _
      | 1, hv, hx => simp [L4] at hv hx; subst hv hx; simpa using ((h2.alloc _).alloc _)
      | 2, hv, hx => simp [L4] at hv hx; subst hv hx; simpa using (h3.alloc _)
      | 3, hv, hx => simp [L4] at hv hx; subst hv hx; simpa using h4
      | j + 4, hv, hx => simp at hv)
  have e : L4.length = 4 := rfl
  rw [e] at h
  simpa using h
theorem one_and_none (W : World) (n : Nat) (hn : W.heap.size = n) : RowsAt (((W.alloc (.cells #[.int .i64 1] 3)).alloc (.cells #[] 3)).alloc (.cells #[.slice (some ⟨n, 0, none⟩) 1 1, .slice (some ⟨n + 1, 0, none⟩) 0 0] 23)) (some ⟨n + 1 + 1, 0, none⟩) 2 [[1], []] := by
  subst hn
  have h1 := ints_new W [1]
  have h2 := ints_new (W.alloc (.cells #[.int .i64 1] 3)) []
  have h := rows_new ((W.alloc (.cells #[.int .i64 1] 3)).alloc (.cells #[] 3)) [.slice (some ⟨W.heap.size, 0, none⟩) 1 1, .slice (some ⟨W.heap.size + 1, 0, none⟩) 0 0] [[1], []] rfl (fun j v xs hv hx => by
    match j, hv, hx with
    | 0, hv, hx => simp at hv hx; subst hv hx; exact h1.alloc _
    | 1, hv, hx => simp at hv hx; subst hv hx; simpa using h2
    | j + 2, hv, hx => simp at hv)
  simpa using h
theorem none_alone (W : World) (n : Nat) (hn : W.heap.size = n) : RowsAt ((W.alloc (.cells #[] 3)).alloc (.cells #[.slice (some ⟨n, 0, none⟩) 0 0] 23)) (some ⟨n + 1, 0, none⟩) 1 [[]] := by
  subst hn
  have h2 := ints_new W []
  have h := rows_new (W.alloc (.cells #[] 3)) [.slice (some ⟨W.heap.size, 0, none⟩) 0 0] [[]] rfl (fun j v xs hv hx => by
    match j, hv, hx with
    | 0, hv, hx => simp at hv hx; subst hv hx; simpa using h2
    | j + 1, hv, hx => simp at hv)
  simpa using h

instance (x : Int) : Decidable (i64 x) := by unfold i64; infer_instance
theorem wf_L4 : ∀ d ∈ L4, ∀ x ∈ d, i64 x := by decide
/-- The chapter's example holds. -/
theorem known_any (w : World) : Calls Try.prog 9 #[] w fun e w' => e = .returned (.bool true) ∧ Below w.heap.size w w' := by
  have hr := four w
  have Hr := Lib.hid hr
  clear hr
  have Hb : Hid (Below w.heap.size w (((((w.alloc (.cells #[.int .i64 1, .int .i64 2] 3)).alloc (.cells #[.int .i64 1, .int .i64 (-2)] 3)).alloc (.cells #[.int .i64 (-1), .int .i64 2] 3)).alloc (.cells #[.int .i64 (-1), .int .i64 (-2)] 3)).alloc
    (.cells #[.slice (some ⟨w.heap.size, 0, none⟩) 2 2, .slice (some ⟨w.heap.size + 1, 0, none⟩) 2 2, .slice (some ⟨w.heap.size + 1 + 1, 0, none⟩) 2 2, .slice (some ⟨w.heap.size + 1 + 1 + 1, 0, none⟩) 2 2] 23))) :=
    Lib.hid ((((((Below.refl _ _).alloc (Nat.le_refl _) _).alloc (by simp) _).alloc (by simp; omega) _).alloc (by simp; omega) _).alloc (by simp; omega) _)
  go_enter Try.func9, Try.ntmps9
  go_wp2_with fail
  refine (check_is (l := L4) (tr := [[1], []]) (((Hr.out.alloc _).alloc _).alloc _) (one_and_none _ _ (by simp)) (by decide) (by decide) (by decide) check_one).mono ?_
  rintro e w1 ⟨rfl, hb1⟩
  have Hr1 := Lib.hid ((((Hr.out.alloc _).alloc _).alloc _).below hb1)
  have Hb1 := Lib.hid ((((Hb.out.alloc (by simp; omega) _).alloc (by simp; omega) _).alloc (by simp; omega) _).trans (hb1.mono (by simp; omega)))
  clear hb1 Hr Hb
  go_wp2_with fail
  refine (check_is (l := L4) (tr := [[]]) ((Hr1.out.alloc _).alloc _) (none_alone _ _ rfl) (by decide) (by decide) (by decide) check_two).mono ?_
  rintro e w2 ⟨rfl, hb2⟩
  have Hr2 := Lib.hid (((Hr1.out.alloc _).alloc _).below hb2)
  have Hb2 := Lib.hid (((Hb1.out.alloc Hb1.out.size _).alloc (by have := Hb1.out.size; simp; omega) _).trans (hb2.mono (by have := Hb1.out.size; simp; omega)))
  clear hb2 Hr1 Hb1
  go_wp2_with fail
  refine (follows_yes _ _ L4 _ _ [1] _ (Hr2.out.alloc _) (Ints.at_ (ints_new w2 [1])) (by decide) (by decide) (by decide) (by decide) (by decide) fol_one).mono ?_
  rintro e w3 ⟨rfl, hb3⟩
  have Hr3 := Lib.hid ((Hr2.out.alloc _).below hb3)
  have Hb3 := Lib.hid ((Hb2.out.alloc Hb2.out.size _).trans (hb3.mono (by have := Hb2.out.size; simp; omega)))
  clear hb3 Hr2 Hb2
  go_wp2_with fail
  refine (follows_no _ _ L4 _ _ [] _ Hr3.out (intsAt_nil _) (by decide) (by decide) (by decide) (by decide) (by decide) not_fol).mono ?_
  rintro e w4 ⟨rfl, hb4⟩
  have Hb4 := Lib.hid (Hb3.out.trans (hb4.mono Hb3.out.size))
  clear hb4 Hr3 Hb3
  go_wp2_with fail
  go_ret
  exact ⟨rfl, Hb4.out⟩
end Go.Proofs.Ytmfgdemgepkggaa
