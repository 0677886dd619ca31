/- The law RupTrue, walked. -/
import Derived.Test.YtmfgdemgepkggaaA22
namespace Go.Proofs.Ytmfgdemgepkggaa
open Go.RowKit Go.Maps Go.ChangeMaps

theorem lit_neg {m y : Int} (h0 : y ≠ 0) : lit m (-y) = !lit m y := by
  unfold lit
  rcases Int.lt_or_gt_of_ne h0 with h | h
  · rw [if_pos (by omega), if_neg (by omega)]
    generalize m / 2 ^ ((-y).toNat - 1) = z
    have : z % 2 = 0 ∨ z % 2 = 1 := by omega
    rcases this with e | e <;> simp [e]
  · rw [if_neg (by omega), if_pos (by omega), Int.neg_neg]
    generalize m / 2 ^ (y.toNat - 1) = z
    have : z % 2 = 0 ∨ z % 2 = 1 := by omega
    rcases this with e | e <;> simp [e]
theorem smallLit_ne {y : Int} (h : smallLit y = true) : y ≠ 0 := by
  rintro rfl
  simp [smallLit] at h
/-- What follows is true where all are. -/
theorem true_of_fol {l : List (List Int)} {c : List Int} {m : Int} (h : Fol l c) (hl : ∀ d ∈ l, d.all smallLit = true) (hc : c.all smallLit = true) (hall : ∀ d ∈ l, d.any (lit m) = true) : c.any (lit m) = true := by
  refine Classical.byContradiction fun hn => ?_
  have hcf : ∀ x ∈ c, lit m x = false := fun x hx => by
    cases e : lit m x with
    | false => rfl
    | true => exact absurd (List.any_eq_true.2 ⟨x, hx, e⟩) hn
  have hder : ∀ x, Der l c x → x ≠ 0 ∧ lit m x = true := by
    intro x hx
    induction hx with
    | neg hx =>
      have h0 := smallLit_ne (List.all_eq_true.1 hc _ hx)
      exact ⟨by omega, by rw [lit_neg h0, hcf _ hx]; rfl⟩
    | @unit d x hd _ hx _ ih =>
      refine ⟨smallLit_ne (List.all_eq_true.1 (hl d hd) _ hx), ?_⟩
      obtain ⟨y, hy, hyl⟩ := List.any_eq_true.1 (hall d hd)
      by_cases e : y = x
      · subst e; exact hyl
      · have := (ih y hy e).2
        rw [lit_neg (smallLit_ne (List.all_eq_true.1 (hl d hd) _ hy)), hyl] at this
        cases this
  rcases h.2 with ⟨x, h1, h2⟩ | ⟨d, hd, _, h3⟩
  · have a := hder _ h1
    have b := (hder _ h2).2
    rw [lit_neg a.1, a.2] at b
    cases b
  · obtain ⟨y, hy, hyl⟩ := List.any_eq_true.1 (hall d hd)
    have := (hder _ (h3 y hy)).2
    rw [lit_neg (smallLit_ne (List.all_eq_true.1 (hl d hd) _ hy)), hyl] at this
    cases this
theorem small_is {A : Option Addr} {c : Nat} {xs : List Int} {w : World} {b : Bool} (hb : xs.all smallLit = b) (h : IntsAt w A c xs) (hi : ∀ x ∈ xs, i64 x) (hl : xs.length ≤ 140737488355328) :
    Calls Try.prog 16 #[.slice A xs.length c, .int .i64 6] w fun e w' => e = .returned (.bool b) ∧ w = w' := by
  subst hb
  exact small_any A c xs w h hi hl
theorem holds_is {A : Option Addr} {c : Nat} {xs : List Int} {m : Int} {w : World} {b : Bool} (hb : xs.any (lit m) = b) (h : IntsAt w A c xs) (hi : xs.all smallLit = true) (hm : 0 ≤ m ∧ m < 64) (hl : xs.length ≤ 140737488355328) :
    Calls Try.prog 17 #[.slice A xs.length c, .int .i64 m] w fun e w' => e = .returned (.bool b) ∧ w = w' := by
  subst hb
  exact holds_any A c xs m w h hi hm hl
theorem rows_all_succ {xs : List (List Int)} {k : Nat} {p : List Int → Bool} (hk : k < xs.length) : (xs.take (k + 1)).all p = ((xs.take k).all p && p xs[k]) := by
  rw [List.take_succ_eq_append_getElem hk, List.all_append]
  simp

set_option maxRecDepth 100000 in
set_option maxHeartbeats 2000000 in
theorem rupTrue_any {A B : Option Addr} {ca cb : Nat} {l : List (List Int)} {c : List Int} {w : World} (hl : InRows w A ca l) (hc : InInts w B cb c) :
    Calls Try.prog 5 #[.slice A l.length ca, .slice B c.length cb] w fun e w' => e = .returned (.bool true) ∧ Below w.heap.size w w' := by
  have Hl := Lib.hid hl
  have Hc := Lib.hid hc
  clear hl hc
  have Hls : Hid (∀ x ∈ [l, [c]], x.length ≤ 140737488355328 ∧ ∀ d ∈ x, d.length ≤ 140737488355328) := Lib.hid (fun x hx => by
    simp at hx
    rcases hx with rfl | rfl
    · exact ⟨Hl.out.len, Hl.out.lens⟩
    · exact ⟨by simp, by simpa using Hc.out.len⟩)
  by_cases hw : wts [l, [c]] ≤ 1000
  · have Hw := Lib.hid hw
    obtain ⟨hlb, hlf, hcb⟩ : l.length ≤ 1000 ∧ l.flatten.length ≤ 1000 ∧ c.length ≤ 1000 := by
      rw [wts_two] at hw
      simp [wt] at hw
      simp
      omega
    clear hw
    have Hlf := Lib.hid hlf
    clear hlf
    obtain ⟨fb, hfb⟩ := exists_bool (Fol l c)
    have Hfb := Lib.hid hfb
    have Hmi : Hid ((∀ d ∈ l, ∀ x ∈ d, i64 x) ∧ (∀ x ∈ c, i64 x) ∧ l.length < 100000 ∧ l.flatten.length < 100000 ∧ c.length < 100000 ∧ c.length ≤ 140737488355328) := Lib.hid ⟨Hl.out.wf, Hc.out.wf, by omega, by have := Hlf.out; omega, by omega, by omega⟩
    clear hfb
    go_enter Try.func5, Try.ntmps5
    go_wp2_with fail
    refine (known_any _).mono ?_
    rintro e w1 ⟨rfl, hb1⟩
    have Hbel := Lib.hid hb1
    clear hb1
    go_wp2_with fail
    refine (light_yes (ls := [l, [c]]) (laid_lists (Hl.out.rows.below Hbel.out) (Hc.out.ints.below Hbel.out)) (by simp) Hls.out Hw.out).mono ?_
    rintro e w2 ⟨rfl, rfl⟩
    have Hb1 := Lib.hid ((Hbel.out.alloc Hbel.out.size (.cells #[.slice B c.length cb] 23)).alloc (by have := Hbel.out.size; simp; omega) (.cells #[.slice A l.length ca, .slice (some ⟨w1.heap.size, 0, none⟩) 1 1] 22))
    generalize (w1.alloc (.cells #[.slice B c.length cb] 23)).alloc (.cells #[.slice A l.length ca, .slice (some ⟨w1.heap.size, 0, none⟩) 1 1] 22) = w2 at *
    clear Hbel
    go_wp2_with fail
    refine (follows_is rfl rfl (Hl.out.rows.below Hb1.out) (Hc.out.ints.below Hb1.out) Hmi.out.1 Hmi.out.2.1 Hmi.out.2.2.1 Hmi.out.2.2.2.1 Hmi.out.2.2.2.2.1 Hfb.out).mono ?_
    rintro e w3 ⟨rfl, hb3⟩
    have Hb3 := Lib.hid (Hb1.out.trans (hb3.mono Hb1.out.size))
    clear hb3 Hb1
    cases fb with
    | false =>
      go_wp2_with fail
      go_ret
      exact ⟨rfl, Hb3.out⟩
    | true =>
      have Hf : Hid (Fol l c) := Lib.hid (Hfb.out.1 rfl)
      have Hl3 := Lib.hid (Hl.out.rows.below Hb3.out)
      have Hc3 := Lib.hid (Hc.out.ints.below Hb3.out)
      clear Hfb
      go_wp2_with fail
      go_loop [5] (fun v => ∃ k : Nat, k ≤ l.length ∧ v = .int .i64 k ∧ Hid ((l.take k).all (·.all smallLit) = true)) (fun v => l.length - (intOf v).toNat)
      case atStart => exact ⟨0, Nat.zero_le _, rfl, Lib.hid rfl⟩
      case round =>
        obtain ⟨k, hk, rfl, Hrel⟩ := hrel
        by_cases hlt : k < l.length
        · obtain ⟨b, off, B2, cb2, rfl, hcell, hrow⟩ := Hl3.out.get hlt
          have Hrow := Lib.hid hrow
          have Hd : Hid ((∀ x ∈ l[k], i64 x) ∧ l[k].length ≤ 140737488355328 ∧ (l.take (k + 1)).all (·.all smallLit) = ((l.take k).all (·.all smallLit) && l[k].all smallLit)) := Lib.hid ⟨Hl.out.wf _ (List.getElem_mem hlt), Hl.out.lens _ (List.getElem_mem hlt), rows_all_succ hlt⟩
          clear hrow
          generalize l[k] = d at *
          cases hs : d.all smallLit with
          | true =>
            have Hs := Lib.hid hs
            clear hs
            go_wp2_with fail
            refine (small_is Hs.out Hrow.out Hd.out.1 Hd.out.2.1).mono ?_
            rintro e w4 ⟨rfl, rfl⟩
            go_wp2_with fail
            go_round
            case rel => exact ⟨k + 1, by omega, by go_num, Lib.hid (by rw [Hd.out.2.2, Hrel.out, Hs.out]; rfl)⟩
            case measure => simp [intOf]; omega
          | false =>
            have Hs := Lib.hid hs
            clear hs
            go_wp2_with fail
            refine (small_is Hs.out Hrow.out Hd.out.1 Hd.out.2.1).mono ?_
            rintro e w4 ⟨rfl, rfl⟩
            go_wp2_with fail
            go_ret
            exact ⟨rfl, Hb3.out⟩
        · have Hsm : Hid (∀ d ∈ l, d.all smallLit = true) := Lib.hid (by
            have := Hrel.out
            rw [List.take_of_length_le (by omega)] at this
            exact List.all_eq_true.1 this)
          clear Hrel
          cases hs : c.all smallLit with
          | false =>
            have Hs := Lib.hid hs
            clear hs
            go_wp2_with fail
            refine (small_is Hs.out Hc3.out Hmi.out.2.1 Hmi.out.2.2.2.2.2).mono ?_
            rintro e w4 ⟨rfl, rfl⟩
            go_wp2_with fail
            go_ret
            exact ⟨rfl, Hb3.out⟩
          | true =>
            have Hs := Lib.hid hs
            have Hlaw : Hid (∀ m : Int, l.all (·.any (lit m)) = true → c.any (lit m) = true) := Lib.hid (fun m h => true_of_fol Hf.out Hsm.out hs (List.all_eq_true.1 h))
            clear hs
            go_wp2_with fail
            refine (small_is Hs.out Hc3.out Hmi.out.2.1 Hmi.out.2.2.2.2.2).mono ?_
            rintro e w4 ⟨rfl, rfl⟩
            go_wp2_with fail
            go_loop [6] (fun v => ∃ m : Nat, m ≤ 64 ∧ v = .int .i64 m) (fun v => 64 - (intOf v).toNat)
            case atStart => exact ⟨0, by omega, rfl⟩
            case round =>
              obtain ⟨m, hm, rfl⟩ := hrel
              by_cases hmlt : m < 64
              · go_wp2_with fail
                go_loop [7, 8] (fun b i => ∃ j : Nat, j ≤ l.length ∧ i = .int .i64 j ∧ b = .bool ((l.take j).all (·.any (lit m)))) (fun _ i => l.length - (intOf i).toNat)
                case atStart => exact ⟨0, by omega, rfl, rfl⟩
                case round =>
                  obtain ⟨j, hj, rfl, rfl⟩ := hrel
                  by_cases hjl : j < l.length
                  · obtain ⟨b, off, B2, cb2, rfl, hcell, hrow⟩ := Hl3.out.get hjl
                    have Hrow := Lib.hid hrow
                    have Hd : Hid ((l[j].all smallLit = true) ∧ l[j].length ≤ 140737488355328 ∧ (l.take (j + 1)).all (·.any (lit m)) = ((l.take j).all (·.any (lit m)) && l[j].any (lit m))) := Lib.hid ⟨Hsm.out _ (List.getElem_mem hjl), Hl.out.lens _ (List.getElem_mem hjl), rows_all_succ hjl⟩
                    clear hrow
                    generalize l[j] = d at *
                    generalize (l.take j).all (·.any (lit m)) = sofar at *
                    cases sofar with
                    | false =>
                      go_wp2_with fail
                      go_round
                      case rel => exact ⟨j + 1, by omega, by go_num, by rw [Hd.out.2.2]; rfl⟩
                      case measure => simp [intOf]; omega
                    | true =>
                      go_wp2_with fail
                      refine (holds_is rfl Hrow.out Hd.out.1 ⟨by omega, by omega⟩ Hd.out.2.1).mono ?_
                      rintro e w5 ⟨rfl, rfl⟩
                      go_wp2_with fail
                      go_round
                      case rel => exact ⟨j + 1, by omega, by go_num, by rw [Hd.out.2.2]; rfl⟩
                      case measure => simp [intOf]; omega
                  · rw [List.take_of_length_le (by omega)]
                    cases ha : l.all (·.any (lit m)) with
                    | false =>
                      have Ha := Lib.hid ha
                      clear ha
                      go_wp2_with fail
                      go_round
                      case rel => exact ⟨m + 1, by omega, by go_num⟩
                      case measure => simp [intOf]; omega
                    | true =>
                      have Ha := Lib.hid (Hlaw.out _ ha)
                      clear ha
                      go_wp2_with fail
                      refine (holds_is Ha.out Hc3.out Hs.out ⟨by omega, by omega⟩ Hmi.out.2.2.2.2.2).mono ?_
                      rintro e w5 ⟨rfl, rfl⟩
                      go_wp2_with fail
                      go_round
                      case rel => exact ⟨m + 1, by omega, by go_num⟩
                      case measure => simp [intOf]; omega
              · go_wp2_with fail
                go_ret
                exact ⟨rfl, Hb3.out⟩
  · have Hw := Lib.hid hw
    clear hw
    go_enter Try.func5, Try.ntmps5
    go_wp2_with fail
    refine (known_any _).mono ?_
    rintro e w1 ⟨rfl, hb1⟩
    have Hbel := Lib.hid hb1
    clear hb1
    go_wp2_with fail
    refine (light_no (ls := [l, [c]]) (laid_lists (Hl.out.rows.below Hbel.out) (Hc.out.ints.below Hbel.out)) (by simp) Hls.out Hw.out).mono ?_
    rintro e w2 ⟨rfl, rfl⟩
    go_wp2_with fail
    go_ret
    exact ⟨rfl, (Hbel.out.alloc Hbel.out.size _).alloc (by have := Hbel.out.size; simp; omega) _⟩
end Go.Proofs.Ytmfgdemgepkggaa
