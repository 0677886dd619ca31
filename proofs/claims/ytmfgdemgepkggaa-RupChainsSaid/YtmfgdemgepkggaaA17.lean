/- The laws RupChecks and RupFollows, walked. -/
import Derived.Test.YtmfgdemgepkggaaA16
namespace Go.Proofs.Ytmfgdemgepkggaa
open Go.RowKit Go.Maps Go.ChangeMaps

theorem checkIs_exists (l tr : List (List Int)) : ∃ n c, CheckIs l tr n c := by
  by_cases h : ∀ (j : Nat) (d : List Int), j < tr.length → tr[j]? = some d → Fol (l ++ tr.take j) d
  · exact ⟨_, _, .inr ⟨rfl, h, rfl⟩⟩
  · have h' : ∃ j, j < tr.length ∧ ∀ d, tr[j]? = some d → ¬ Fol (l ++ tr.take j) d := by
      refine Classical.byContradiction fun hn => h fun j d hj hd => Classical.byContradiction fun hf => hn ⟨j, hj, fun d' hd' => ?_⟩
      rw [hd] at hd'
      cases hd'
      exact hf
    obtain ⟨i, ⟨hi, hf⟩, hleast⟩ := exists_least h'
    refine ⟨i, 70, .inl ⟨i, hi, rfl, rfl, fun j d hj hd => Classical.byContradiction fun hn => ?_, hf⟩⟩
    have := hleast j ⟨by omega, fun d' hd' => by rw [hd] at hd'; cases hd'; exact hn⟩
    omega

theorem light_yes {A : Option Addr} {c : Nat} {ls : List (List (List Int))} {w : World} (h : ListsAt w A c ls) (hl : ls.length ≤ 9223372036854775807) (hb : ∀ l ∈ ls, l.length ≤ 140737488355328 ∧ ∀ d ∈ l, d.length ≤ 140737488355328) (hw : wts ls ≤ 1000) :
    Calls Try.prog 10 #[.slice A ls.length c] w fun e w' => e = .returned (.bool true) ∧ w = w' :=
  (light_any A c ls w h hl hb).mono fun e w' ⟨b, h1, h2, h3⟩ => by
    rw [h2.2 hw] at h1
    exact ⟨h1, h3⟩
theorem light_no {A : Option Addr} {c : Nat} {ls : List (List (List Int))} {w : World} (h : ListsAt w A c ls) (hl : ls.length ≤ 9223372036854775807) (hb : ∀ l ∈ ls, l.length ≤ 140737488355328 ∧ ∀ d ∈ l, d.length ≤ 140737488355328) (hw : ¬ wts ls ≤ 1000) :
    Calls Try.prog 10 #[.slice A ls.length c] w fun e w' => e = .returned (.bool false) ∧ w = w' :=
  (light_any A c ls w h hl hb).mono fun e w' ⟨b, h1, h2, h3⟩ => by
    cases b with
    | true => exact absurd (h2.1 rfl) hw
    | false => exact ⟨h1, h3⟩
/-- Two lists, just laid side by side. -/
theorem two_lists {W : World} {A B : Option Addr} {ca cb : Nat} {l m : List (List Int)} (hl : RowsAt W A ca l) (hm : RowsAt W B cb m) :
    ListsAt (W.alloc (.cells #[.slice A l.length ca, .slice B m.length cb] 22)) (some ⟨W.heap.size, 0, none⟩) 2 [l, m] :=
  lists_new W [.slice A l.length ca, .slice B m.length cb] [l, m] rfl (fun j v x hv hx => by
    match j, hv, hx with
    | 0, hv, hx => simp at hv hx; subst hv hx; exact ⟨_, _, rfl, hl⟩
    | 1, hv, hx => simp at hv hx; subst hv hx; exact ⟨_, _, rfl, hm⟩
    | j + 2, hv, hx => simp at hv)
theorem wts_two (l m : List (List Int)) : wts [l, m] = wt l + wt m := by simp [wts]

/-- What came in. -/
structure InRows (w : World) (A : Option Addr) (c : Nat) (l : List (List Int)) : Prop where
  rows : RowsAt w A c l
  wf : ∀ d ∈ l, ∀ x ∈ d, i64 x
  len : l.length ≤ 140737488355328
  lens : ∀ d ∈ l, d.length ≤ 140737488355328
structure InInts (w : World) (A : Option Addr) (c : Nat) (xs : List Int) : Prop where
  ints : IntsAt w A c xs
  wf : ∀ x ∈ xs, i64 x
  len : xs.length ≤ 140737488355328

set_option maxHeartbeats 1000000 in
theorem rupChecks_any {A B : Option Addr} {ca cb : Nat} {l tr : List (List Int)} {w : World} (hl : InRows w A ca l) (ht : InRows w B cb tr) :
    Calls Try.prog 4 #[.slice A l.length ca, .slice B tr.length cb] w fun e w' => e = .returned (.bool true) ∧ Below w.heap.size w w' := by
  have Hl := Lib.hid hl
  have Ht := Lib.hid ht
  clear hl ht
  have Hls : Hid (∀ x ∈ [l, tr], x.length ≤ 140737488355328 ∧ ∀ d ∈ x, d.length ≤ 140737488355328) := Lib.hid (fun x hx => by
    simp at hx
    rcases hx with rfl | rfl
    · exact ⟨Hl.out.len, Hl.out.lens⟩
    · exact ⟨Ht.out.len, Ht.out.lens⟩)
  by_cases hw : wts [l, tr] ≤ 1000
  · have Hw := Lib.hid hw
    have Hb2 : Hid ((l ++ tr).length < 10000 ∧ (l ++ tr).flatten.length < 100000) := Lib.hid (by
      rw [wts_two] at hw
      unfold wt at hw
      simp only [List.length_append, List.flatten_append]
      omega)
    have Hi : Hid (∀ d ∈ l ++ tr, ∀ x ∈ d, i64 x) := Lib.hid (fun d hd => by
      simp only [List.mem_append] at hd
      rcases hd with hd | hd
      · exact Hl.out.wf d hd
      · exact Ht.out.wf d hd)
    clear hw
    obtain ⟨n, c, hc⟩ := checkIs_exists l tr
    have Hc := Lib.hid hc
    clear hc
    go_enter Try.func4, Try.ntmps4
    go_wp2_with fail
    refine (known_any _).mono ?_
    rintro e w1 ⟨rfl, hb1⟩
    have Hl1 := Lib.hid (Hl.out.rows.below hb1)
    have Ht1 := Lib.hid (Ht.out.rows.below hb1)
    have Hbel := Lib.hid hb1
    clear hb1
    go_wp2_with fail
    refine (light_yes (ls := [l, tr]) (two_lists Hl1.out Ht1.out) (by simp) Hls.out Hw.out).mono ?_
    rintro e w2 ⟨rfl, rfl⟩
    go_wp2_with fail
    refine (check_is (Hl1.out.alloc _) (Ht1.out.alloc _) Hi.out Hb2.out.1 Hb2.out.2 Hc.out).mono ?_
    rintro e w3 ⟨rfl, hb3⟩
    have Hl3 := Lib.hid ((Hl1.out.alloc _).below hb3)
    have Ht3 := Lib.hid ((Ht1.out.alloc _).below hb3)
    have Hbel3 := Lib.hid ((Hbel.out.alloc Hbel.out.size _).trans (hb3.mono (by have := Hbel.out.size; simp; omega)))
    clear hb3 Hl1 Ht1 Hbel
    go_wp2_with fail
    refine (ref_check_is Hl3.out Ht3.out Hi.out Hb2.out.1 Hb2.out.2 Hc.out).mono ?_
    rintro e w4 ⟨rfl, hb4⟩
    have Hbel4 := Lib.hid (Hbel3.out.trans (hb4.mono Hbel3.out.size))
    clear hb4 Hl3 Ht3 Hbel3
    go_wp2_with fail
    go_ret
    exact ⟨rfl, Hbel4.out⟩
  · have Hw := Lib.hid hw
    clear hw
    go_enter Try.func4, Try.ntmps4
    go_wp2_with fail
    refine (known_any _).mono ?_
    rintro e w1 ⟨rfl, hb1⟩
    have Hl1 := Lib.hid (Hl.out.rows.below hb1)
    have Ht1 := Lib.hid (Ht.out.rows.below hb1)
    have Hbel := Lib.hid hb1
    clear hb1
    go_wp2_with fail
    refine (light_no (ls := [l, tr]) (two_lists Hl1.out Ht1.out) (by simp) Hls.out Hw.out).mono ?_
    rintro e w2 ⟨rfl, rfl⟩
    go_wp2_with fail
    go_ret
    exact ⟨rfl, Hbel.out.alloc Hbel.out.size _⟩
end Go.Proofs.Ytmfgdemgepkggaa
