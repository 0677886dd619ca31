/- The law RupEmpty, walked. -/
import Derived.Test.YtmfgdemgepkggaaA18
namespace Go.Proofs.Ytmfgdemgepkggaa
open Go.RowKit Go.Maps Go.ChangeMaps

theorem none0_iff {d : List Int} : none0 d = true ↔ 0 ∈ d ∨ (-9223372036854775808) ∈ d := by simp [none0, hasI]

theorem check_is_at {A : Option Addr} {ca : Nat} {l : List (List Int)} {B : Option Addr} {cb : Nat} {tr : List (List Int)} {w0 : World} {m : Nat} (hm : m = l.length) (hl : RowsAt w0 A ca l) (ht : RowsAt w0 B cb tr)
    (hi : ∀ d ∈ l ++ tr, ∀ x ∈ d, i64 x) (hlen : (l ++ tr).length < 10000) (hsum : (l ++ tr).flatten.length < 100000) {n c : Int} (h : CheckIs l tr n c) :
    Calls Try.prog 14 #[.slice A m ca, .slice B tr.length cb] w0 fun e w' => e = .returned (.tuple #[.int .i64 n, .int .i64 c]) ∧ Below w0.heap.size w0 w' := by
  subst hm
  exact check_is hl ht hi hlen hsum h

set_option maxRecDepth 100000 in
set_option maxHeartbeats 2000000 in
theorem rupEmpty_any {A B : Option Addr} {ca cb : Nat} {l tr : List (List Int)} {w : World} {x : Int} (hl : InRows w A ca l) (ht : InRows w B cb tr) (_ : i64 x) :
    Calls Try.prog 8 #[.slice A l.length ca, .slice B tr.length cb, .int .i64 x] w fun e w' => e = .returned (.bool true) ∧ Below w.heap.size w w' := by
  have Hl := Lib.hid hl
  have Ht := Lib.hid ht
  clear hl ht
  have Hls : Hid (∀ x ∈ [l, tr], x.length ≤ 140737488355328 ∧ ∀ d ∈ x, d.length ≤ 140737488355328) := Lib.hid (fun x hx => by
    simp at hx
    rcases hx with rfl | rfl
    · exact ⟨Hl.out.len, Hl.out.lens⟩
    · exact ⟨Ht.out.len, Ht.out.lens⟩)
  by_cases hw : wts [l, tr] ≤ 1000
  · have Hw := Lib.hid hw
    have hlb : l.length ≤ 1000 := by
      rw [wts_two] at hw
      unfold wt at hw
      omega
    have htb : tr.length ≤ 1000 := by
      rw [wts_two] at hw
      unfold wt at hw
      omega
    have Hb2 : Hid (((l ++ [[]]) ++ tr).length < 10000 ∧ ((l ++ [[]]) ++ tr).flatten.length < 100000) := Lib.hid (by
      rw [wts_two] at hw
      unfold wt at hw
      simp only [List.length_append, List.flatten_append, List.length_cons, List.length_nil, List.flatten_cons, List.flatten_nil]
      omega)
    have Hi : Hid (∀ d ∈ (l ++ [[]]) ++ tr, ∀ x ∈ d, i64 x) := Lib.hid (fun d hd => by
      simp only [List.mem_append, List.mem_singleton] at hd
      rcases hd with (hd | hd) | hd
      · exact Hl.out.wf d hd
      · subst hd
        simp
      · exact Ht.out.wf d hd)
    clear hw
    obtain ⟨n, c, hc⟩ := checkIs_exists (l ++ [[]]) tr
    have Hc := Lib.hid hc
    have Hd := Lib.hid (empty_check hc)
    clear hc
    obtain ⟨us, hu1, hu2, hu3⟩ := Hl.out.rows.open
    have Hu1 := Lib.hid hu1
    have Hu2 := Lib.hid hu2
    have Hu3 := Lib.hid hu3
    clear hu1 hu2 hu3
    go_enter Try.func8, Try.ntmps8
    go_wp2_with fail
    refine (known_any _).mono ?_
    rintro e w1 ⟨rfl, hb1⟩
    have Hbel := Lib.hid hb1
    clear hb1
    go_wp2_with fail
    refine (light_yes (ls := [l, tr]) (two_lists (Hl.out.rows.below Hbel.out) (Ht.out.rows.below Hbel.out)) (by simp) Hls.out Hw.out).mono ?_
    rintro e w2 ⟨rfl, rfl⟩
    have Hb1 := Lib.hid (Hbel.out.alloc Hbel.out.size (.cells #[.slice A l.length ca, .slice B tr.length cb] 22))
    generalize w1.alloc (.cells #[.slice A l.length ca, .slice B tr.length cb] 22) = w2 at *
    clear Hbel
    go_wp2_with (first
      | (at_builtin; refine wpList_append_have w _ rfl _ _ rfl (.slice none 0 0) [] rfl (Have.nil _ _) Hb1.out A ca l rfl us Hu1.out (Hu2.out.below Hb1.out) Hu3.out (by simp; omega) ?_; intro A1 c1 w3 hh hb; have Hh := Lib.hid hh; have Hb3 := Lib.hid hb; clear hh hb)
      | (at_builtin; refine wpList_append_have w ((w3.alloc (.cells #[] 3)).alloc (.cells #[.slice (some ⟨w3.heap.size, 0, none⟩) 0 0] 23)) rfl _ _ rfl (.slice A1 ([] ++ l).length c1) ([] ++ l) rfl ((Hh.out.same ((Below.refl _ _).alloc (Nat.le_refl _) _)).same ((Below.refl _ _).alloc (Nat.le_refl _) _)) ((Hb3.out.alloc Hb3.out.size _).alloc (by have := Hb3.out.size; simp; omega) _) (some ⟨w3.heap.size + 1, 0, none⟩) 1 [[]] rfl [.slice (some ⟨w3.heap.size, 0, none⟩) 0 0] rfl (.inr ⟨w3.heap.size + 1, 0, rfl, fun j u hj => by cases j with | zero => (simp at hj; subst hj; simp) | succ j => simp at hj⟩) (fun j u d hu hd => by cases j with | zero => (simp at hu hd; subst hu hd; exact ⟨_, _, rfl, Nat.le_refl _, .inr ⟨_, _, rfl, by simp⟩⟩) | succ j => simp at hu) (by simp; omega) ?_; intro A2 c2 w4 hh2 hb4; have Hh2 := Lib.hid hh2; have Hb4 := Lib.hid hb4; clear hh2 hb4))
    have Hr4 := Lib.hid (Hh2.out.rows' Hb4.out)
    have Ht4 := Lib.hid (Ht.out.rows.below Hb4.out)
    clear Hh Hb3 Hh2 Hb1
    refine (check_is_at (l := l ++ [[]]) (by simp) Hr4.out Ht4.out Hi.out Hb2.out.1 Hb2.out.2 Hc.out).mono ?_
    rintro e w5 ⟨rfl, hb5⟩
    have Ht5 := Lib.hid (Ht4.out.below hb5)
    have Hb5 := Lib.hid (Hb4.out.trans (hb5.mono Hb4.out.size))
    clear hb5 Hr4 Ht4 Hb4
    rcases Hd.out with ⟨rfl, rfl⟩ | ⟨rfl, i, hi, rfl, hn⟩
    · clear Hd Hc Hi
      go_wp2_with fail
      go_ret
      exact ⟨rfl, Hb5.out⟩
    · have Hn := Lib.hid (none0_iff.1 hn)
      obtain ⟨b, off, B2, cb2, rfl, hcell, hrow⟩ := Ht5.out.get hi
      have Hrow := Lib.hid hrow
      have hdl : tr[i].length ≤ 140737488355328 := Ht.out.lens _ (List.getElem_mem hi)
      clear Hd Hc Hi hn hrow
      generalize tr[i] = d at *
      go_wp2_with fail
      go_loop [10] (fun v => ∃ k : Nat, k ≤ d.length ∧ v = .int .i64 k ∧ Hid (∀ j : Nat, j < k → d[j]? ≠ some 0 ∧ d[j]? ≠ some (-9223372036854775808))) (fun v => d.length - (intOf v).toNat)
      case atStart => exact ⟨0, Nat.zero_le _, rfl, Lib.hid (by omega)⟩
      case round =>
        obtain ⟨k, hk, rfl, Hrel⟩ := hrel
        by_cases hlt : k < d.length
        · obtain ⟨b3, off3, hB2, hc3⟩ := Hrow.out.get hlt
          subst hB2
          have Hx : Hid (d[k]? = some d[k]) := Lib.hid (List.getElem?_eq_getElem hlt)
          generalize d[k] = y at *
          by_cases h0 : y = 0
          · subst h0
            go_wp2_with fail
            go_ret
            exact ⟨rfl, Hb5.out⟩
          · by_cases h1 : y = -9223372036854775808
            · subst h1
              go_wp2_with fail
              go_ret
              exact ⟨rfl, Hb5.out⟩
            · have hb0 : (y == 0) = false := by simpa using h0
              have hb1 : (y == -9223372036854775808) = false := by simpa using h1
              go_wp2_with fail
              go_round
              case rel =>
                refine ⟨k + 1, by omega, by go_num, Lib.hid (fun j hj => ?_)⟩
                by_cases e : j = k
                · subst e
                  rw [Hx.out]
                  simp [h0, h1]
                · exact Hrel.out j (by omega)
              case measure => simp [intOf]; omega
        · exfalso
          rcases Hn.out with h | h
          · obtain ⟨j, hj, e⟩ := List.getElem_of_mem h
            exact (Hrel.out j (by omega)).1 (by rw [List.getElem?_eq_getElem hj, e])
          · obtain ⟨j, hj, e⟩ := List.getElem_of_mem h
            exact (Hrel.out j (by omega)).2 (by rw [List.getElem?_eq_getElem hj, e])
  · have Hw := Lib.hid hw
    clear hw
    go_enter Try.func8, Try.ntmps8
    go_wp2_with fail
    refine (known_any _).mono ?_
    rintro e w1 ⟨rfl, hb1⟩
    have Hl1 := Lib.hid (Hl.out.rows.below hb1)
    have Ht1 := Lib.hid (Ht.out.rows.below hb1)
    have Hbel := Lib.hid hb1
    clear hb1
    go_wp2_with fail
    refine (light_no (ls := [l, tr]) (two_lists Hl1.out Ht1.out) (by simp) Hls.out Hw.out).mono ?_
    rintro e w2 ⟨rfl, rfl⟩
    go_wp2_with fail
    go_ret
    exact ⟨rfl, Hbel.out.alloc Hbel.out.size _⟩
end Go.Proofs.Ytmfgdemgepkggaa
