/- The two 'Check's. -/
import Derived.Test.YtmfgdemgepkggaaA11
namespace Go.Proofs.Ytmfgdemgepkggaa
open Go.RowKit Go.Maps Go.ChangeMaps

def Fol (l : List (List Int)) (c : List Int) : Prop := none0 c = false ∧ Confl l c
/-- What a check of a tr tells. -/
def CheckIs (l tr : List (List Int)) (n e : Int) : Prop :=
  (∃ i : Nat, i < tr.length ∧ n = i ∧ e = 70 ∧ (∀ (j : Nat) (d : List Int), j < i → tr[j]? = some d → Fol (l ++ tr.take j) d) ∧ ∀ d, tr[i]? = some d → ¬ Fol (l ++ tr.take i) d) ∨
  (n = tr.length ∧ (∀ (j : Nat) (d : List Int), j < tr.length → tr[j]? = some d → Fol (l ++ tr.take j) d) ∧ e = if hasEmpty (l ++ tr) = true then 0 else 70)
theorem CheckIs.unique {l tr : List (List Int)} {n e n' e' : Int} (h : CheckIs l tr n e) (h' : CheckIs l tr n' e') : n = n' ∧ e = e' := by
  rcases h with ⟨i, hi, rfl, rfl, h1, h2⟩ | ⟨rfl, h1, rfl⟩
  · rcases h' with ⟨i', hi', rfl, rfl, h1', h2'⟩ | ⟨rfl, h1', rfl⟩
    · have : i = i' := by
        rcases Nat.lt_trichotomy i i' with h | h | h
        · exact absurd (h1' i _ h (List.getElem?_eq_getElem hi)) (h2 _ (List.getElem?_eq_getElem hi))
        · exact h
        · exact absurd (h1 i' _ h (List.getElem?_eq_getElem hi')) (h2' _ (List.getElem?_eq_getElem hi'))
      subst this
      exact ⟨rfl, rfl⟩
    · exact absurd (h1' i _ hi (List.getElem?_eq_getElem hi)) (h2 _ (List.getElem?_eq_getElem hi))
  · rcases h' with ⟨i', hi', rfl, rfl, h1', h2'⟩ | ⟨rfl, h1', rfl⟩
    · exact absurd (h1 i' _ hi' (List.getElem?_eq_getElem hi')) (h2' _ (List.getElem?_eq_getElem hi'))
    · exact ⟨rfl, rfl⟩
def Checked2 (w0 : World) (l tr : List (List Int)) (e : Ending) (w' : World) : Prop :=
  ∃ n c : Int, e = .returned (.tuple #[.int .i64 n, .int .i64 c]) ∧ CheckIs l tr n c ∧ Below w0.heap.size w0 w'
/-- How far the tr has been taken. -/
def CRel (w0 : World) (l tr : List (List Int)) (k : Nat) (hv : Value) (wr : World) : Prop :=
  (∀ (j : Nat) (d : List Int), j < k → tr[j]? = some d → Fol (l ++ tr.take j) d) ∧ Have w0 wr w0.heap.size hv (l ++ tr.take k) ∧ Below w0.heap.size w0 wr
theorem Have.own {w0 w : World} {base : Nat} {v : Value} {hs : List (List Int)} (h : Have w0 w base v hs) : ∃ vs, OwnQ w base 23 v vs ∧ vs.length = hs.length ∧ ∀ (i : Nat) (u : Value) (d : List Int), vs[i]? = some u → hs[i]? = some d → Ints w0 u d := h
theorem have_push {w0 w' : World} {base : Nat} {v' : Value} {hs : List (List Int)} {vs : List Value} {u : Value} {d : List Int} (hl : vs.length = hs.length) (hr : ∀ (i : Nat) (u : Value) (d : List Int), vs[i]? = some u → hs[i]? = some d → Ints w0 u d)
    (hu : Ints w0 u d) (hq : OwnQ w' base 23 v' (vs ++ [u])) : Have w0 w' base v' (hs ++ [d]) := by
  refine ⟨_, hq, by simp [hl], fun i x y hx hy => ?_⟩
  rw [List.getElem?_append] at hx hy
  split at hx
  · rename_i hlt
    rw [if_pos (by omega)] at hy
    exact hr i x y hx hy
  · rename_i hge
    rw [if_neg (by omega)] at hy
    have hi : i - vs.length = 0 := by
      rcases Nat.eq_zero_or_pos (i - vs.length) with h | h
      · exact h
      · rw [List.getElem?_eq_none (by simp; omega)] at hx
        cases hx
    rw [hi] at hx
    rw [← hl, hi] at hy
    simp at hx hy
    subst hx hy
    exact hu
theorem CRel.next {w0 wr wr' : World} {l tr : List (List Int)} {k : Nat} {hv hv' : Value} {d : List Int} (h : CRel w0 l tr k hv wr) (hk : k < tr.length) (hd : tr[k] = d) (hf : Fol (l ++ tr.take k) d)
    (hh : Have w0 wr' w0.heap.size hv' (l ++ tr.take k ++ [d])) (hb : Below w0.heap.size w0 wr') : CRel w0 l tr (k + 1) hv' wr' := by
  refine ⟨fun j d' hj hd' => ?_, ?_, hb⟩
  · by_cases e : j = k
    · subst e
      rw [List.getElem?_eq_getElem hk] at hd'
      cases hd'
      rw [hd]
      exact hf
    · exact h.1 j d' (by omega) hd'
  · rw [List.take_succ_eq_append_getElem hk, hd, ← List.append_assoc]
    exact hh

theorem follows_yes (A : Option Addr) (ca : Nat) (l : List (List Int)) (B : Option Addr) (cb : Nat) (c : List Int) (w0 : World) (hl : RowsAt w0 A ca l) (hc : IntsAt w0 B cb c)
    (hi : ∀ d ∈ l, ∀ x ∈ d, i64 x) (hic : ∀ x ∈ c, i64 x) (hlen : l.length < 100000) (hsum : l.flatten.length < 100000) (hclen : c.length < 100000) (hf : Fol l c) :
    Calls Try.prog 13 #[.slice A l.length ca, .slice B c.length cb] w0 fun e w' => e = .returned (.bool true) ∧ Below w0.heap.size w0 w' :=
  (follows_all A ca l B cb c w0 hl hc hi hic hlen hsum hclen).mono fun e w' ⟨b, h1, h2, h3⟩ => by
    rw [h2.2 hf] at h1
    exact ⟨h1, h3⟩
theorem follows_no (A : Option Addr) (ca : Nat) (l : List (List Int)) (B : Option Addr) (cb : Nat) (c : List Int) (w0 : World) (hl : RowsAt w0 A ca l) (hc : IntsAt w0 B cb c)
    (hi : ∀ d ∈ l, ∀ x ∈ d, i64 x) (hic : ∀ x ∈ c, i64 x) (hlen : l.length < 100000) (hsum : l.flatten.length < 100000) (hclen : c.length < 100000) (hf : ¬ Fol l c) :
    Calls Try.prog 13 #[.slice A l.length ca, .slice B c.length cb] w0 fun e w' => e = .returned (.bool false) ∧ Below w0.heap.size w0 w' :=
  (follows_all A ca l B cb c w0 hl hc hi hic hlen hsum hclen).mono fun e w' ⟨b, h1, h2, h3⟩ => by
    cases b with
    | true => exact absurd (h2.1 rfl) hf
    | false => exact ⟨h1, h3⟩
theorem ref_follows_yes (A : Option Addr) (ca : Nat) (l : List (List Int)) (B : Option Addr) (cb : Nat) (c : List Int) (w0 : World) (hl : RowsAt w0 A ca l) (hc : IntsAt w0 B cb c)
    (hi : ∀ d ∈ l, ∀ x ∈ d, i64 x) (hic : ∀ x ∈ c, i64 x) (hlen : l.length < 100000) (hsum : l.flatten.length < 100000) (hclen : c.length < 100000) (hf : Fol l c) :
    Calls Try.prog 12 #[.slice A l.length ca, .slice B c.length cb] w0 fun e w' => e = .returned (.bool true) ∧ Below w0.heap.size w0 w' :=
  (ref_follows_any A ca l B cb c w0 hl hc hi hic hlen hsum hclen).mono fun e w' ⟨b, h1, h2, h3⟩ => by
    rw [h2.2 hf] at h1
    exact ⟨h1, h3⟩
theorem ref_follows_no (A : Option Addr) (ca : Nat) (l : List (List Int)) (B : Option Addr) (cb : Nat) (c : List Int) (w0 : World) (hl : RowsAt w0 A ca l) (hc : IntsAt w0 B cb c)
    (hi : ∀ d ∈ l, ∀ x ∈ d, i64 x) (hic : ∀ x ∈ c, i64 x) (hlen : l.length < 100000) (hsum : l.flatten.length < 100000) (hclen : c.length < 100000) (hf : ¬ Fol l c) :
    Calls Try.prog 12 #[.slice A l.length ca, .slice B c.length cb] w0 fun e w' => e = .returned (.bool false) ∧ Below w0.heap.size w0 w' :=
  (ref_follows_any A ca l B cb c w0 hl hc hi hic hlen hsum hclen).mono fun e w' ⟨b, h1, h2, h3⟩ => by
    cases b with
    | true => exact absurd (h2.1 rfl) hf
    | false => exact ⟨h1, h3⟩
/-- Bounds of what has been taken so far. -/
theorem part_bounds {l tr : List (List Int)} (k : Nat) (hlen : (l ++ tr).length < 10000) (hsum : (l ++ tr).flatten.length < 100000) :
    (l ++ tr.take k).length < 10000 ∧ (l ++ tr.take k).flatten.length < 100000 := by
  have h1 : l ++ tr = (l ++ tr.take k) ++ tr.drop k := by rw [List.append_assoc, List.take_append_drop]
  rw [h1] at hlen hsum
  simp only [List.length_append, List.flatten_append] at hlen hsum ⊢
  omega

set_option maxRecDepth 100000 in
set_option maxHeartbeats 4000000 in
theorem check_any (A : Option Addr) (ca : Nat) (l : List (List Int)) (B : Option Addr) (cb : Nat) (tr : List (List Int)) (w0 : World) (hl : RowsAt w0 A ca l) (ht : RowsAt w0 B cb tr)
    (hi : ∀ d ∈ l ++ tr, ∀ x ∈ d, i64 x) (hlen : (l ++ tr).length < 10000) (hsum : (l ++ tr).flatten.length < 100000) :
    Calls Try.prog 14 #[.slice A l.length ca, .slice B tr.length cb] w0 (Checked2 w0 l tr) := by
  have Hl := Lib.hid hl
  have Ht := Lib.hid ht
  have Hi := Lib.hid hi
  have hl1 : l.length < 100000 := by simp at hlen; omega
  have htl : tr.length ≤ 10000 := by simp at hlen; omega
  have Hlen := Lib.hid hlen
  have Hsum := Lib.hid hsum
  clear hl ht hi hlen hsum
  obtain ⟨i23, hi23, hz0, hz1, hz2⟩ := info_parts info23
  go_enter Try.func14, Try.ntmps14
  go_wp2_with (go_at_call 23; refine (clone_any A ca l _ Hl.out hl1).mono ?_; rintro e w1 ⟨hv, rfl, hh, hb⟩; have Hh := Lib.hid hh; have Hb := Lib.hid hb; clear hh hb)
  go_loopw [6, 13] (fun v i wr => ∃ k : Nat, k ≤ tr.length ∧ i = .int .i64 k ∧ CRel w0 l tr k v wr) (fun _ i _ => tr.length - (intOf i).toNat)
  case atStart => exact ⟨0, Nat.zero_le _, rfl, by simp, by simpa using Hh.out, Hb.out⟩
  case round =>
    clear Hh Hb
    obtain ⟨k, hk, rfl, hrel⟩ := hrel
    have Hrel := Lib.hid hrel
    clear hrel
    obtain ⟨A1, c1, hv1, hrows⟩ := Hrel.out.2.1.rows Hrel.out.2.2
    have Hhave := Lib.hid Hrel.out.2.1
    have Hbel := Lib.hid Hrel.out.2.2
    have Hrows := Lib.hid hrows
    clear hrows
    have Hpb := Lib.hid (part_bounds k Hlen.out Hsum.out)
    have Hpi : Hid (∀ d ∈ l ++ tr.take k, ∀ x ∈ d, i64 x) := Lib.hid (fun d hd => Hi.out d (by
      simp only [List.mem_append] at hd ⊢
      exact hd.imp id List.mem_of_mem_take))
    have Hend : Hid (tr.length ≤ k → CheckIs l tr tr.length (if hasEmpty (l ++ tr.take k) = true then 0 else 70)) := Lib.hid (fun h => .inr ⟨rfl, fun j d hj hd => Hrel.out.1 j d (by omega) hd, by rw [List.take_of_length_le h]⟩)
    have Hstop : Hid (∀ (hlt : k < tr.length), ¬ Fol (l ++ tr.take k) tr[k] → CheckIs l tr k 70) := Lib.hid (fun hlt hf => .inl ⟨k, hlt, rfl, rfl, Hrel.out.1, fun d' hd' => by
      rw [List.getElem?_eq_getElem hlt] at hd'
      cases hd'
      exact hf⟩)
    have Hnext0 : Hid (∀ (hlt : k < tr.length) (hv' : Value) (wr' : World), Fol (l ++ tr.take k) tr[k] → Have w0 wr' w0.heap.size hv' (l ++ tr.take k ++ [tr[k]]) → Below w0.heap.size w0 wr' → CRel w0 l tr (k + 1) hv' wr') := Lib.hid (fun hlt hv' wr' hf hh hb => Hrel.out.next hlt rfl hf hh hb)
    clear Hrel
    generalize l ++ tr.take k = hs at *
    subst hv1
    have hlen1 : hs.length < 100000 := by have := Hpb.out.1; omega
    have hsum1 : hs.flatten.length < 100000 := Hpb.out.2
    by_cases hlt : k < tr.length
    · obtain ⟨b, off, B2, cb2, rfl, hcell0, hrow0⟩ := Ht.out.get hlt
      have hcell := cell_of_below Hbel.out (Nat.le_refl _) hcell0
      have Hrow0 := Lib.hid hrow0
      have Hrow := Lib.hid (hrow0.below Hbel.out)
      have Hd : Hid ((∀ x ∈ tr[k], i64 x) ∧ tr[k].length < 100000 ∧ tr[k]? = some tr[k]) := Lib.hid ⟨Hi.out _ (by simp), by
        have := (List.sublist_flatten_of_mem (show tr[k] ∈ l ++ tr by simp)).length_le
        have := Hsum.out
        omega, List.getElem?_eq_getElem hlt⟩
      have Hnext := Lib.hid (Hnext0.out hlt)
      have Hstop1 := Lib.hid (Hstop.out hlt)
      clear Hnext0 Hstop
      clear hcell0 hrow0
      generalize tr[k] = d at *
      by_cases hf : Fol hs d
      · have Hf := Lib.hid hf
        clear hf
        obtain ⟨vs, hvs1, hvs2, hvs3⟩ := Hhave.out
        have Hvs1 := Lib.hid hvs1
        have Hvs2 := Lib.hid hvs2
        have Hvs3 := Lib.hid hvs3
        have hvl : vs.length < 10000 := by rw [hvs2]; exact Hpb.out.1
        clear hvs1 hvs2 hvs3
        go_wp2_with (first
          | (go_at_call 13; refine (follows_yes A1 c1 _ B2 cb2 d _ Hrows.out Hrow.out Hpi.out Hd.out.1 hlen1 hsum1 Hd.out.2.1 Hf.out).mono ?_; rintro e w2 ⟨rfl, hb⟩; have Hb := Lib.hid hb
             have Hq1 : Hid (OwnQ (w2.alloc (.cells #[.slice B2 d.length cb2] 23)) w0.heap.size 23 (.slice A1 hs.length c1) vs) := Lib.hid (Hvs1.out.same (fun g hg => (Below.heap_alloc _ _ _ (by have := (Hvs1.out.lt g hg).2; have := hb.size; omega)).trans (hb.block g (Hvs1.out.lt g hg).2)))
             clear hb)
          | (at_builtin; refine wpList_append_q _ rfl _ _ 22 rfl w0.heap.size 23 i23 (.slice none 0 0) 24 Try.underlying22 hi23 hz0 hz1 hz2 rfl (.slice A1 hs.length c1) vs rfl Hq1.out ⟨w2.heap.size, 0, none⟩ 1 (.slice B2 d.length cb2) rfl (by simp) rfl (by simp [maxLen]; omega) (by omega) (by have := Hbel.out.size; have := Hb.out.size; simp; omega) ?_; intro g o c w3 hq3 hg3 hat3; have Hq3 := Lib.hid hq3; have Hg3 := Lib.hid hg3; clear hq3 hg3 hat3))
        go_roundw
        case rel =>
          refine ⟨k + 1, by omega, by go_num, Hnext.out _ _ Hf.out (have_push Hvs2.out Hvs3.out ⟨_, _, rfl, Hrow0.out⟩ Hq3.out) ?_⟩
          have hb2 : Below w0.heap.size w0 w2 := Hbel.out.trans (Hb.out.mono Hbel.out.size)
          exact (hb2.alloc hb2.size _).grown Hg3.out (by have := hb2.size; simp; omega) (fun j hj => (Hvs1.out.lt j hj).1)
        case measure => simp [intOf]; omega
      · have Hf := Lib.hid hf
        clear hf
        go_wp2_with (go_at_call 13; refine (follows_no A1 c1 _ B2 cb2 d _ Hrows.out Hrow.out Hpi.out Hd.out.1 hlen1 hsum1 Hd.out.2.1 Hf.out).mono ?_; rintro e w2 ⟨rfl, hb⟩; have Hb := Lib.hid hb; clear hb)
        go_ret2
        exact ⟨k, 70, rfl, Hstop1.out Hf.out, Hbel.out.trans (Hb.out.mono Hbel.out.size)⟩
    · have Hfull := Lib.hid (Hend.out (by omega))
      have Hcl : Hid (∀ d ∈ hs, d.length < 100000) := Lib.hid (fun d hd => by
        have := (List.sublist_flatten_of_mem hd).length_le
        omega)
      cases he : hasEmpty hs with
      | true =>
        have He := Lib.hid he
        clear he
        go_wp2_with (go_at_call 24; refine (containsFunc_any A1 c1 _ _ Hrows.out hlen1 Hcl.out).mono ?_; rintro e w2 ⟨rfl, rfl⟩; rw [He.out])
        go_ret2
        exact ⟨tr.length, 0, rfl, by have := Hfull.out; rwa [He.out] at this, Hbel.out⟩
      | false =>
        have He := Lib.hid he
        clear he
        go_wp2_with (go_at_call 24; refine (containsFunc_any A1 c1 _ _ Hrows.out hlen1 Hcl.out).mono ?_; rintro e w2 ⟨rfl, rfl⟩; rw [He.out])
        go_ret2
        exact ⟨tr.length, 70, rfl, by have := Hfull.out; rwa [He.out] at this, Hbel.out⟩
end Go.Proofs.Ytmfgdemgepkggaa
