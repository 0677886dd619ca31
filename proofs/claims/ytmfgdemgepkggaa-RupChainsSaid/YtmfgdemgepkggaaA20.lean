/- The law RupFollows, walked. -/
import Derived.Test.YtmfgdemgepkggaaA19
namespace Go.Proofs.Ytmfgdemgepkggaa
open Go.RowKit Go.Maps Go.ChangeMaps

theorem Der.more {l m : List (List Int)} {c d : List Int} {x : Int} (h : Der l c x) (hl : ∀ y ∈ l, y ∈ m) (hc : ∀ y ∈ c, y ∈ d) : Der m d x := by
  induction h with
  | neg h => exact .neg (hc _ h)
  | unit hd hn hx _ ih => exact .unit (hl _ hd) hn hx ih
theorem Confl.more {l m : List (List Int)} {c d : List Int} (h : Confl l c) (hl : ∀ y ∈ l, y ∈ m) (hc : ∀ y ∈ c, y ∈ d) : Confl m d := by
  rcases h with ⟨x, h1, h2⟩ | ⟨e, h1, h2, h3⟩
  · exact .inl ⟨x, h1.more hl hc, h2.more hl hc⟩
  · exact .inr ⟨e, hl _ h1, h2, fun y hy => (h3 y hy).more hl hc⟩
theorem fol_same {l m : List (List Int)} {c : List Int} (h : ∀ y, y ∈ l ↔ y ∈ m) : Fol l c ↔ Fol m c :=
  ⟨fun ⟨a, b⟩ => ⟨a, b.more (fun y hy => (h y).1 hy) (fun _ h => h)⟩, fun ⟨a, b⟩ => ⟨a, b.more (fun y hy => (h y).2 hy) (fun _ h => h)⟩⟩

/-- 'Follows' at a list whose length stands in another form. -/
theorem follows_is {A : Option Addr} {ca : Nat} {l : List (List Int)} {B : Option Addr} {cb : Nat} {c : List Int} {w0 : World} {n m : Nat} {b : Bool} (hn : n = l.length) (hm : m = c.length) (hl : RowsAt w0 A ca l) (hc : IntsAt w0 B cb c)
    (hi : ∀ d ∈ l, ∀ x ∈ d, i64 x) (hic : ∀ x ∈ c, i64 x) (hlen : l.length < 100000) (hsum : l.flatten.length < 100000) (hclen : c.length < 100000) (hf : b = true ↔ Fol l c) :
    Calls Try.prog 13 #[.slice A n ca, .slice B m cb] w0 fun e w' => e = .returned (.bool b) ∧ Below w0.heap.size w0 w' := by
  subst hn hm
  cases b with
  | true => exact follows_yes A ca l B cb c w0 hl hc hi hic hlen hsum hclen (hf.1 rfl)
  | false => exact follows_no A ca l B cb c w0 hl hc hi hic hlen hsum hclen (fun h => by cases hf.2 h)
theorem ref_follows_is {A : Option Addr} {ca : Nat} {l : List (List Int)} {B : Option Addr} {cb : Nat} {c : List Int} {w0 : World} {n m : Nat} {b : Bool} (hn : n = l.length) (hm : m = c.length) (hl : RowsAt w0 A ca l) (hc : IntsAt w0 B cb c)
    (hi : ∀ d ∈ l, ∀ x ∈ d, i64 x) (hic : ∀ x ∈ c, i64 x) (hlen : l.length < 100000) (hsum : l.flatten.length < 100000) (hclen : c.length < 100000) (hf : b = true ↔ Fol l c) :
    Calls Try.prog 12 #[.slice A n ca, .slice B m cb] w0 fun e w' => e = .returned (.bool b) ∧ Below w0.heap.size w0 w' := by
  subst hn hm
  cases b with
  | true => exact ref_follows_yes A ca l B cb c w0 hl hc hi hic hlen hsum hclen (hf.1 rfl)
  | false => exact ref_follows_no A ca l B cb c w0 hl hc hi hic hlen hsum hclen (fun h => by cases hf.2 h)
theorem exists_bool (p : Prop) : ∃ b : Bool, (b = true ↔ p) := by
  by_cases h : p
  · exact ⟨true, by simp [h]⟩
  · exact ⟨false, by simp [h]⟩

/-- A list, and another that is laid at the call. -/
theorem laid_lists {W : World} {A B : Option Addr} {ca cb : Nat} {l : List (List Int)} {c : List Int} (hl : RowsAt W A ca l) (hc : IntsAt W B cb c) :
    ListsAt ((W.alloc (.cells #[.slice B c.length cb] 23)).alloc (.cells #[.slice A l.length ca, .slice (some ⟨W.heap.size, 0, none⟩) 1 1] 22)) (some ⟨W.heap.size + 1, 0, none⟩) 2 [l, [c]] := by
  have h1 := rows_new W [.slice B c.length cb] [c] rfl (fun j v x hv hx => by
    cases j with
    | zero => simp at hv hx; subst hv hx; exact ⟨_, _, rfl, hc⟩
    | succ j => simp at hv)
  have h2 := two_lists (hl.alloc (.cells #[.slice B c.length cb] 23)) h1
  simpa using h2
/-- What stands behind the k-th place. -/
theorem cells_drop {w : World} {b o c k : Nat} {vs : List Value} (h : Cells w (some ⟨b, o, none⟩) vs) (hk : k < vs.length) (_ : vs.length ≤ c) : Cells w (some ⟨b, o + k, none⟩) (vs.drop k) := by
  rcases h with h | ⟨b', o', hA, h⟩
  · subst h; simp at hk
  · simp only [Option.some.injEq, Addr.mk.injEq, and_true] at hA
    obtain ⟨rfl, rfl⟩ := hA
    refine .inr ⟨b, o + k, rfl, fun j u hj => ?_⟩
    rw [List.getElem?_drop] at hj
    rw [Nat.add_assoc]
    exact h _ u hj
theorem cells_take {w : World} {A : Option Addr} (k : Nat) {vs : List Value} (h : Cells w A vs) : Cells w A (vs.take k) := by
  rcases h with h | ⟨b, o, hA, h⟩
  · subst h; exact .inl (by simp)
  · refine .inr ⟨b, o, hA, fun j u hj => ?_⟩
    rw [List.getElem?_take] at hj
    split at hj
    · exact h _ u hj
    · cases hj

set_option maxRecDepth 100000 in
set_option maxHeartbeats 1000000 in
theorem rupFollows_any {A B : Option Addr} {ca cb : Nat} {l : List (List Int)} {c : List Int} {w : World} {x : Int} (hl : InRows w A ca l) (hc : InInts w B cb c) (hx : i64 x) :
    Calls Try.prog 3 #[.slice A l.length ca, .slice B c.length cb, .int .i64 x] w fun e w' => e = .returned (.bool true) ∧ Below w.heap.size w w' := by
  have Hl := Lib.hid hl
  have Hc := Lib.hid hc
  have Hx := Lib.hid hx
  clear hl hc hx
  have Hls : Hid (∀ x ∈ [l, [c]], x.length ≤ 140737488355328 ∧ ∀ d ∈ x, d.length ≤ 140737488355328) := Lib.hid (fun x hx => by
    simp at hx
    rcases hx with rfl | rfl
    · exact ⟨Hl.out.len, Hl.out.lens⟩
    · exact ⟨by simp, by simpa using Hc.out.len⟩)
  by_cases hw : wts [l, [c]] ≤ 1000
  · have Hw := Lib.hid hw
    obtain ⟨hlb, hlf, hcb⟩ : l.length ≤ 1000 ∧ l.flatten.length ≤ 1000 ∧ c.length ≤ 1000 := by
      rw [wts_two] at hw
      simp [wt] at hw
      simp
      omega
    clear hw
    have Hlf := Lib.hid hlf
    clear hlf
    obtain ⟨fb, hfb⟩ := exists_bool (Fol l c)
    have Hfb := Lib.hid hfb
    clear hfb
    by_cases hl0 : l = []
    · have Hlz : Hid (l = [] ∧ l.length = 0) := Lib.hid ⟨hl0, by simp [hl0]⟩
      clear hl0
      go_enter Try.func3, Try.ntmps3
      go_wp2_with fail
      refine (known_any _).mono ?_
      rintro e w1 ⟨rfl, hb1⟩
      have Hbel := Lib.hid hb1
      clear hb1
      go_wp2_with fail
      refine (light_yes (ls := [l, [c]]) (laid_lists (Hl.out.rows.below Hbel.out) (Hc.out.ints.below Hbel.out)) (by simp) Hls.out Hw.out).mono ?_
      rintro e w2 ⟨rfl, rfl⟩
      have Hb1 := Lib.hid ((Hbel.out.alloc Hbel.out.size (.cells #[.slice B c.length cb] 23)).alloc (by have := Hbel.out.size; simp; omega) (.cells #[.slice A l.length ca, .slice (some ⟨w1.heap.size, 0, none⟩) 1 1] 22))
      generalize (w1.alloc (.cells #[.slice B c.length cb] 23)).alloc (.cells #[.slice A l.length ca, .slice (some ⟨w1.heap.size, 0, none⟩) 1 1] 22) = w2 at *
      clear Hbel
      have hlz := Hlz.out.2
      go_wp2_with fail
      have Hrow : Hid (RowsAt w2 none 0 ([] : List (List Int))) := Lib.hid (⟨Nat.le_refl _, [], rfl, .inl rfl, by simp⟩)
      have Hbel : Hid (Below w.heap.size w w2) := Hb1
      have Hmi : Hid ((∀ d ∈ l, ∀ x ∈ d, i64 x) ∧ (∀ d ∈ ([] : List (List Int)), ∀ x ∈ d, i64 x) ∧ (∀ x ∈ c, i64 x) ∧ (l.length < 100000 ∧ l.flatten.length < 100000) ∧ ([] : List (List Int)).length < 100000 ∧ ([] : List (List Int)).flatten.length < 100000 ∧ c.length < 100000 ∧ (fb = true ↔ Fol ([] : List (List Int)) c)) := Lib.hid (⟨Hl.out.wf, by simp, Hc.out.wf, ⟨by omega, by have := Hlf.out; omega⟩, by simp, by simp, by omega, by have h := Hfb.out; rwa [Hlz.out.1] at h⟩)
      refine (ref_follows_is Hlz.out.2.symm rfl (Hl.out.rows.below Hbel.out) (Hc.out.ints.below Hbel.out) Hmi.out.1 Hmi.out.2.2.1 Hmi.out.2.2.2.1.1 Hmi.out.2.2.2.1.2 Hmi.out.2.2.2.2.2.2.1 Hfb.out).mono ?_
      rintro e w5 ⟨rfl, hb5⟩
      have Hrow5 := Lib.hid (Hrow.out.below hb5)
      have Hbel5 := Lib.hid (Hbel.out.trans (hb5.mono Hbel.out.size))
      clear hb5 Hrow Hbel
      go_wp2_with fail
      refine (follows_is Hlz.out.2.symm rfl (Hl.out.rows.below Hbel5.out) (Hc.out.ints.below Hbel5.out) Hmi.out.1 Hmi.out.2.2.1 Hmi.out.2.2.2.1.1 Hmi.out.2.2.2.1.2 Hmi.out.2.2.2.2.2.2.1 Hfb.out).mono ?_
      rintro e w6 ⟨rfl, hb6⟩
      have Hrow6 := Lib.hid (Hrow5.out.below hb6)
      have Hbel6 := Lib.hid (Hbel5.out.trans (hb6.mono Hbel5.out.size))
      clear hb6 Hrow5 Hbel5
      cases fb with
      | true =>
        go_wp2_with fail
        refine (follows_is (b := true) rfl rfl Hrow6.out (Hc.out.ints.below Hbel6.out) Hmi.out.2.1 Hmi.out.2.2.1 Hmi.out.2.2.2.2.1 Hmi.out.2.2.2.2.2.1 Hmi.out.2.2.2.2.2.2.1 (by simpa using Hmi.out.2.2.2.2.2.2.2)).mono ?_
        rintro e w7 ⟨rfl, hb7⟩
        have Hbel7 := Lib.hid (Hbel6.out.trans (hb7.mono Hbel6.out.size))
        go_wp2_with fail
        go_ret
        exact ⟨rfl, Hbel7.out⟩
      | false =>
        go_wp2_with fail
        refine (follows_is (b := false) rfl rfl Hrow6.out (Hc.out.ints.below Hbel6.out) Hmi.out.2.1 Hmi.out.2.2.1 Hmi.out.2.2.2.2.1 Hmi.out.2.2.2.2.2.1 Hmi.out.2.2.2.2.2.2.1 (by simpa using Hmi.out.2.2.2.2.2.2.2)).mono ?_
        rintro e w7 ⟨rfl, hb7⟩
        have Hbel7 := Lib.hid (Hbel6.out.trans (hb7.mono Hbel6.out.size))
        go_wp2_with fail
        go_ret
        exact ⟨rfl, Hbel7.out⟩
    · have hpos : 0 < l.length := List.length_pos_iff.2 hl0
      have Hpl : Hid (i64 x ∧ (0 : Int) < l.length ∧ (l.length : Int) ≤ 1000000) := Lib.hid ⟨Hx.out, by omega, by omega⟩
      obtain ⟨k, hk, hkl⟩ : ∃ k : Nat, x % (l.length : Int) = k ∧ k < l.length := ⟨(x % (l.length : Int)).toNat, by have := Int.emod_nonneg x (show (l.length : Int) ≠ 0 by omega); omega, by have := Int.emod_lt_of_pos x (show (0 : Int) < l.length by omega); have := Int.emod_nonneg x (show (l.length : Int) ≠ 0 by omega); omega⟩
      have Hk := Lib.hid hk
      have hkle : k ≤ l.length := by omega
      clear hk hl0
      obtain ⟨us, hu1, hu2, hu3⟩ := Hl.out.rows.open
      have hcap := Hl.out.rows.1
      have hck : ¬ ca = k := by omega
      have hkc : k ≤ ca := by omega
      obtain ⟨b, o, rfl⟩ : ∃ b o, A = some ⟨b, o, none⟩ := by
        rcases hu2 with h | ⟨b, o, h, _⟩
        · subst h; simp at hu1; omega
        · exact ⟨b, o, h⟩
      have Hu1 := Lib.hid hu1
      have Hu2 := Lib.hid hu2
      have Hu3 := Lib.hid hu3
      clear hu1 hu2 hu3
      go_enter Try.func3, Try.ntmps3
      go_wp2_with fail
      refine (known_any _).mono ?_
      rintro e w1 ⟨rfl, hb1⟩
      have Hbel := Lib.hid hb1
      clear hb1
      go_wp2_with fail
      refine (light_yes (ls := [l, [c]]) (laid_lists (Hl.out.rows.below Hbel.out) (Hc.out.ints.below Hbel.out)) (by simp) Hls.out Hw.out).mono ?_
      rintro e w2 ⟨rfl, rfl⟩
      have Hb1 := Lib.hid ((Hbel.out.alloc Hbel.out.size (.cells #[.slice B c.length cb] 23)).alloc (by have := Hbel.out.size; simp; omega) (.cells #[.slice (some ⟨b, o, none⟩) l.length ca, .slice (some ⟨w1.heap.size, 0, none⟩) 1 1] 22))
      generalize (w1.alloc (.cells #[.slice B c.length cb] 23)).alloc (.cells #[.slice (some ⟨b, o, none⟩) l.length ca, .slice (some ⟨w1.heap.size, 0, none⟩) 1 1] 22) = w2 at *
      clear Hbel
      go_wp2_with fail
      refine (place_any _ _ _ Hpl.out.1 Hpl.out.2.1 Hpl.out.2.2).mono ?_
      rintro e w3 ⟨rfl, rfl⟩
      rw [Hk.out]
      clear Hpl
      go_wp2_with fail
      have Hbd : Hid (Below w.heap.size w w2.drew) := Lib.hid (Hb1.out.drew)
      have Hd : Hid (Cells w2.drew (some ⟨b, o + k, none⟩) (us.drop k)) := Lib.hid (cells_drop (Hu2.out.below Hbd.out) (by rw [Hu1.out]; exact hkl) (by rw [Hu1.out]; exact hcap))
      have Ht3 : Hid (∀ (j : Nat) (v : Value) (xs : List Int), (us.take k)[j]? = some v → (l.take k)[j]? = some xs → Ints w v xs) := Lib.hid (fun j u d hu hd => by
        rw [List.getElem?_take] at hu hd
        split at hu
        · rename_i h
          rw [if_pos h] at hd
          exact Hu3.out _ u d hu hd
        · cases hu)
      have Hd3 : Hid (∀ (j : Nat) (v : Value) (xs : List Int), (us.drop k)[j]? = some v → (l.drop k)[j]? = some xs → Ints w v xs) := Lib.hid (fun j u d hu hd => by
        rw [List.getElem?_drop] at hu hd
        exact Hu3.out _ u d hu hd)
      have Hdl : Hid (l.length - k = (l.drop k).length ∧ (us.drop k).length = (l.drop k).length ∧ ([] : List (List Int)).length + (l.drop k).length ≤ 100000) := Lib.hid (by
        have := Hu1.out
        simp
        omega)
      have Htl : Hid (k = (l.take k).length ∧ (us.take k).length = (l.take k).length ∧ (l.drop k).length + (l.take k).length ≤ 100000 ∧ (l.drop k ++ l.take k).length = l.length) := Lib.hid (by
        have := Hu1.out
        simp
        omega)
      go_region_law (first
        | (refine step_append_have w _ rfl (.tmp 29) (.tmp 32) rfl (.slice A1 (l.length - k) c1) (l.drop k) (by simp [Act.eval]) Hh.out Hb3.out (some ⟨b, o, none⟩) ca (l.take k) k Htl.out.1 (by simp [Act.eval]) (us.take k) Htl.out.2.1 (cells_take k (Hu2.out.below Hb3.out)) Ht3.out Htl.out.2.2.1 ?_
           intro A2 c2 w4 hh hb
           have Hh4 : Hid (Have w w4 w.heap.size (.slice A2 l.length c2) (l.drop k ++ l.take k)) := Lib.hid (by
             have e := Htl.out.2.2.2
             rwa [e] at hh)
           have Hb4 := Lib.hid hb
           clear hh hb Hh Hb3)
        | (fail_if_success (have := A1)
           refine step_append_have w _ rfl (.tmp 25) (.tmp 28) rfl (.slice none 0 0) [] (by simp [Act.eval, Act.put]) (Have.nil _ _) Hbd.out (some ⟨b, o + k, none⟩) (ca - k) (l.drop k) (l.length - k) Hdl.out.1 (by simp [Act.eval, Act.put]) (us.drop k) Hdl.out.2.1 Hd.out Hd3.out Hdl.out.2.2 ?_; intro A1 c1 w3 hh hb; have Hh : Hid (Have w w3 w.heap.size (.slice A1 (l.length - k) c1) (l.drop k)) := Lib.hid (by simpa using hh); have Hb3 := Lib.hid hb; clear hh hb))
      go_wp2_with fail
      have Hrow : Hid (RowsAt w4 A2 c2 (l.drop k ++ l.take k)) := Lib.hid (Hh4.out.rows' Hb4.out)
      have Hbel : Hid (Below w.heap.size w w4) := Hb4
      have Hmi : Hid ((∀ d ∈ l, ∀ x ∈ d, i64 x) ∧ (∀ d ∈ (l.drop k ++ l.take k), ∀ x ∈ d, i64 x) ∧ (∀ x ∈ c, i64 x) ∧ (l.length < 100000 ∧ l.flatten.length < 100000) ∧ ((l.drop k ++ l.take k)).length < 100000 ∧ ((l.drop k ++ l.take k)).flatten.length < 100000 ∧ c.length < 100000 ∧ (fb = true ↔ Fol (l.drop k ++ l.take k) c)) := Lib.hid (by
        have hm : ∀ y, y ∈ l ↔ y ∈ l.drop k ++ l.take k := fun y => by
          conv => lhs; rw [← List.take_append_drop k l]
          simp only [List.mem_append]
          exact or_comm
        have hf : (l.drop k ++ l.take k).flatten.length = l.flatten.length := by
          conv => rhs; rw [← List.take_append_drop k l]
          simp only [List.flatten_append, List.length_append]
          omega
        have := Hlf.out
        have := Htl.out.2.2.2
        exact ⟨Hl.out.wf, fun d hd => Hl.out.wf d ((hm d).2 hd), Hc.out.wf, ⟨by omega, by omega⟩, by omega, by omega, by omega, Hfb.out.trans (fol_same hm)⟩)
      refine (ref_follows_is rfl rfl (Hl.out.rows.below Hbel.out) (Hc.out.ints.below Hbel.out) Hmi.out.1 Hmi.out.2.2.1 Hmi.out.2.2.2.1.1 Hmi.out.2.2.2.1.2 Hmi.out.2.2.2.2.2.2.1 Hfb.out).mono ?_
      rintro e w5 ⟨rfl, hb5⟩
      have Hrow5 := Lib.hid (Hrow.out.below hb5)
      have Hbel5 := Lib.hid (Hbel.out.trans (hb5.mono Hbel.out.size))
      clear hb5 Hrow Hbel
      go_wp2_with fail
      refine (follows_is rfl rfl (Hl.out.rows.below Hbel5.out) (Hc.out.ints.below Hbel5.out) Hmi.out.1 Hmi.out.2.2.1 Hmi.out.2.2.2.1.1 Hmi.out.2.2.2.1.2 Hmi.out.2.2.2.2.2.2.1 Hfb.out).mono ?_
      rintro e w6 ⟨rfl, hb6⟩
      have Hrow6 := Lib.hid (Hrow5.out.below hb6)
      have Hbel6 := Lib.hid (Hbel5.out.trans (hb6.mono Hbel5.out.size))
      clear hb6 Hrow5 Hbel5
      cases fb with
      | true =>
        go_wp2_with fail
        refine (follows_is (b := true) Htl.out.2.2.2.symm rfl Hrow6.out (Hc.out.ints.below Hbel6.out) Hmi.out.2.1 Hmi.out.2.2.1 Hmi.out.2.2.2.2.1 Hmi.out.2.2.2.2.2.1 Hmi.out.2.2.2.2.2.2.1 (by simpa using Hmi.out.2.2.2.2.2.2.2)).mono ?_
        rintro e w7 ⟨rfl, hb7⟩
        have Hbel7 := Lib.hid (Hbel6.out.trans (hb7.mono Hbel6.out.size))
        go_wp2_with fail
        go_ret
        exact ⟨rfl, Hbel7.out⟩
      | false =>
        go_wp2_with fail
        refine (follows_is (b := false) Htl.out.2.2.2.symm rfl Hrow6.out (Hc.out.ints.below Hbel6.out) Hmi.out.2.1 Hmi.out.2.2.1 Hmi.out.2.2.2.2.1 Hmi.out.2.2.2.2.2.1 Hmi.out.2.2.2.2.2.2.1 (by simpa using Hmi.out.2.2.2.2.2.2.2)).mono ?_
        rintro e w7 ⟨rfl, hb7⟩
        have Hbel7 := Lib.hid (Hbel6.out.trans (hb7.mono Hbel6.out.size))
        go_wp2_with fail
        go_ret
        exact ⟨rfl, Hbel7.out⟩
  · have Hw := Lib.hid hw
    clear hw
    go_enter Try.func3, Try.ntmps3
    go_wp2_with fail
    refine (known_any _).mono ?_
    rintro e w1 ⟨rfl, hb1⟩
    have Hbel := Lib.hid hb1
    clear hb1
    go_wp2_with fail
    refine (light_no (ls := [l, [c]]) (laid_lists (Hl.out.rows.below Hbel.out) (Hc.out.ints.below Hbel.out)) (by simp) Hls.out Hw.out).mono ?_
    rintro e w2 ⟨rfl, rfl⟩
    go_wp2_with fail
    go_ret
    exact ⟨rfl, (Hbel.out.alloc Hbel.out.size _).alloc (by have := Hbel.out.size; simp; omega) _⟩
end Go.Proofs.Ytmfgdemgepkggaa
