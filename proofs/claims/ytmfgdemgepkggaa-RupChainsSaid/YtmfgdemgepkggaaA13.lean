/- The reference's 'Check'. -/
import Derived.Test.YtmfgdemgepkggaaA12
namespace Go.Proofs.Ytmfgdemgepkggaa
open Go.RowKit Go.Maps Go.ChangeMaps

theorem hasEmpty_snoc (l : List (List Int)) (d : List Int) : hasEmpty (l ++ [d]) = (hasEmpty l || ((d.length : Int) == 0)) := by
  unfold hasEmpty
  rw [List.any_append]
  cases d <;> simp
  omega
set_option maxRecDepth 100000 in
set_option maxHeartbeats 1000000 in
theorem ref_check_any (A : Option Addr) (ca : Nat) (l : List (List Int)) (B : Option Addr) (cb : Nat) (tr : List (List Int)) (w0 : World) (hl : RowsAt w0 A ca l) (ht : RowsAt w0 B cb tr)
    (hi : ∀ d ∈ l ++ tr, ∀ x ∈ d, i64 x) (hlen : (l ++ tr).length < 10000) (hsum : (l ++ tr).flatten.length < 100000) :
    Calls Try.prog 15 #[.slice A l.length ca, .slice B tr.length cb] w0 (Checked2 w0 l tr) := by
  have Hl := Lib.hid hl
  have Ht := Lib.hid ht
  have Hi := Lib.hid hi
  have hl1 : l.length < 10000 := by simp at hlen; omega
  have htl : tr.length ≤ 10000 := by simp at hlen; omega
  have Hlen := Lib.hid hlen
  have Hsum := Lib.hid hsum
  obtain ⟨vs0, h1, h2, h3, h4⟩ := hl.vals
  have H1 := Lib.hid h1
  have H2 := Lib.hid h2
  have H3 := Lib.hid h3
  have H4 := Lib.hid h4
  have Hb0 : Hid (vs0.length < 10000 ∧ l.length = vs0.length) := Lib.hid ⟨by omega, h1.symm⟩
  clear hl ht hi hlen hsum h1 h2 h3 h4
  obtain ⟨i23, hi23, hz0, hz1, hz2⟩ := info_parts info23
  go_enter Try.func15, Try.ntmps15
  go_wp2_with (at_builtin; refine wpList_append_many _ rfl _ _ 22 rfl w0.heap.size 23 i23 (.slice none 0 0) 24 Try.underlying22 hi23 hz0 hz1 hz2 rfl (.slice none 0 0) [] rfl (OwnQ.nil _ _ _) A ca vs0 (by rw [← Hb0.out.2]; rfl) H2.out H3.out (by have := Hb0.out.1; simp [maxLen]; omega) (by have := Hb0.out.1; simp; omega) (by simp) ?_; intro A' cap w1 hq hg hat; have Hq := Lib.hid hq; have Hg := Lib.hid hg; clear hq hg hat)
  have Hbel1 : Hid (Below w0.heap.size w0 w1) := Lib.hid ((Below.refl _ _).grown Hg.out (Nat.le_refl _) (fun k hk => by simp [Value.ownBlock] at hk))
  have Hhave1 : Hid (Have w0 w1 w0.heap.size (.slice A' vs0.length cap) l) := Lib.hid ⟨vs0, by simpa using Hq.out, H1.out, H4.out⟩
  clear Hq Hg H2 H3
  go_loop [7, 8] (fun v7 v8 => ∃ k : Nat, k ≤ l.length ∧ v8 = .int .i64 k ∧ v7 = .bool (hasEmpty (l.take k))) (fun _ i => l.length - (intOf i).toNat)
  case atStart => exact ⟨0, Nat.zero_le _, rfl, by simp [hasEmpty]⟩
  case round =>
    obtain ⟨k, hk, rfl, rfl⟩ := hrel
    by_cases hlt : k < l.length
    · obtain ⟨b, off, B2, cb2, rfl, hcell, hrow⟩ := (Hl.out.below Hbel1.out).get hlt
      have Hs : Hid (hasEmpty (l.take (k + 1)) = (hasEmpty (l.take k) || ((l[k].length : Int) == 0))) := Lib.hid (by rw [List.take_succ_eq_append_getElem hlt, hasEmpty_snoc])
      clear hrow
      generalize l[k] = d at *
      generalize hasEmpty (l.take k) = h0 at *
      cases h0 with
      | true =>
        go_wp2_with fail
        go_round
        case rel => exact ⟨k + 1, by omega, by go_num, by rw [Hs.out]; rfl⟩
        case measure => simp [intOf]; omega
      | false =>
        go_wp2_with fail
        go_round
        case rel => exact ⟨k + 1, by omega, by go_num, by rw [Hs.out]; simp⟩
        case measure => simp [intOf]; omega
    · have Hst : Hid (hasEmpty (l.take k) = hasEmpty l) := Lib.hid (by rw [List.take_of_length_le (by omega)])
      rw [Hst.out]
      go_wp2_with fail
      go_loopw [6, 7, 9] (fun v e i wr => ∃ k : Nat, k ≤ tr.length ∧ i = .int .i64 k ∧ e = .bool (hasEmpty (l ++ tr.take k)) ∧ CRel w0 l tr k v wr) (fun _ _ i _ => tr.length - (intOf i).toNat)
      case atStart => exact ⟨0, Nat.zero_le _, rfl, by simp, by simp, by simpa using Hhave1.out, Hbel1.out⟩
      case round =>
        clear Hhave1 Hbel1 Hst
        obtain ⟨k, hk, rfl, rfl, hrel⟩ := hrel
        have Hrel := Lib.hid hrel
        clear hrel
        obtain ⟨A1, c1, hv1, hrows⟩ := Hrel.out.2.1.rows Hrel.out.2.2
        have Hhave := Lib.hid Hrel.out.2.1
        have Hbel := Lib.hid Hrel.out.2.2
        have Hrows := Lib.hid hrows
        clear hrows
        have Hpb := Lib.hid (part_bounds k Hlen.out Hsum.out)
        have Hpi : Hid (∀ d ∈ l ++ tr.take k, ∀ x ∈ d, i64 x) := Lib.hid (fun d hd => Hi.out d (by
          simp only [List.mem_append] at hd ⊢
          exact hd.imp id List.mem_of_mem_take))
        have Hend : Hid (tr.length ≤ k → CheckIs l tr tr.length (if hasEmpty (l ++ tr.take k) = true then 0 else 70)) := Lib.hid (fun h => .inr ⟨rfl, fun j d hj hd => Hrel.out.1 j d (by omega) hd, by rw [List.take_of_length_le h]⟩)
        have Hstop : Hid (∀ (hlt : k < tr.length), ¬ Fol (l ++ tr.take k) tr[k] → CheckIs l tr k 70) := Lib.hid (fun hlt hf => .inl ⟨k, hlt, rfl, rfl, Hrel.out.1, fun d' hd' => by
          rw [List.getElem?_eq_getElem hlt] at hd'
          cases hd'
          exact hf⟩)
        have Hnext0 : Hid (∀ (hlt : k < tr.length) (hv' : Value) (wr' : World), Fol (l ++ tr.take k) tr[k] → Have w0 wr' w0.heap.size hv' (l ++ tr.take k ++ [tr[k]]) → Below w0.heap.size w0 wr' → CRel w0 l tr (k + 1) hv' wr' ∧ hasEmpty (l ++ tr.take (k + 1)) = (hasEmpty (l ++ tr.take k) || ((tr[k].length : Int) == 0))) := Lib.hid (fun hlt hv' wr' hf hh hb => ⟨Hrel.out.next hlt rfl hf hh hb, by rw [List.take_succ_eq_append_getElem hlt, ← List.append_assoc, hasEmpty_snoc]⟩)
        clear Hrel
        generalize l ++ tr.take k = hs at *
        subst hv1
        have hlen1 : hs.length < 100000 := by have := Hpb.out.1; omega
        have hsum1 : hs.flatten.length < 100000 := Hpb.out.2
        by_cases hlt : k < tr.length
        · obtain ⟨b, off, B2, cb2, rfl, hcell0, hrow0⟩ := Ht.out.get hlt
          have hcell := cell_of_below Hbel.out (Nat.le_refl _) hcell0
          have Hrow0 := Lib.hid hrow0
          have Hrow := Lib.hid (hrow0.below Hbel.out)
          have Hd : Hid ((∀ x ∈ tr[k], i64 x) ∧ tr[k].length < 100000) := Lib.hid ⟨Hi.out _ (by simp), by
            have := (List.sublist_flatten_of_mem (show tr[k] ∈ l ++ tr by simp)).length_le
            have := Hsum.out
            omega⟩
          have Hnext := Lib.hid (Hnext0.out hlt)
          have Hstop1 := Lib.hid (Hstop.out hlt)
          clear Hnext0 Hstop hrow0
          have Hlt := Lib.hid hlt
          generalize tr[k] = d at *
          by_cases hf : Fol hs d
          · have Hf := Lib.hid hf
            clear hf
            obtain ⟨vs, hvs1, hvs2, hvs3⟩ := Hhave.out
            have Hvs1 := Lib.hid hvs1
            have Hvs2 := Lib.hid hvs2
            have Hvs3 := Lib.hid hvs3
            have hvl : vs.length < 10000 := by rw [hvs2]; exact Hpb.out.1
            have Hcell0 := Lib.hid hcell0
            clear hvs1 hvs2 hvs3 hcell0
            have hcase : ∀ e0 : Bool, hasEmpty hs = e0 → hasEmpty hs = e0 := fun _ h => h
            cases he : hasEmpty hs
            all_goals
              have He := Lib.hid he
              clear he hcase
              go_wp2_with (first
                | (go_at_call 12; refine (ref_follows_yes A1 c1 _ B2 cb2 d _ Hrows.out Hrow.out Hpi.out Hd.out.1 hlen1 hsum1 Hd.out.2 Hf.out).mono ?_; rintro e w2 ⟨rfl, hb⟩; have Hb := Lib.hid hb
                   have hcell2 := cell_of_below (Hbel.out.trans (hb.mono Hbel.out.size)) (Nat.le_refl _) Hcell0.out
                   have Hq1 : Hid (OwnQ (w2.alloc (.cells #[.slice B2 d.length cb2] 23)) w0.heap.size 23 (.slice A1 hs.length c1) vs) := Lib.hid (Hvs1.out.same (fun g hg => (Below.heap_alloc _ _ _ (by have := (Hvs1.out.lt g hg).2; have := hb.size; omega)).trans (hb.block g (Hvs1.out.lt g hg).2)))
                   clear hb)
                | (at_builtin; refine wpList_append_q _ rfl _ _ 22 rfl w0.heap.size 23 i23 (.slice none 0 0) 24 Try.underlying22 hi23 hz0 hz1 hz2 rfl (.slice A1 hs.length c1) vs rfl Hq1.out ⟨w2.heap.size, 0, none⟩ 1 (.slice B2 d.length cb2) rfl (by simp) rfl (by simp [maxLen]; omega) (by omega) (by have := Hbel.out.size; have := Hb.out.size; simp; omega) ?_; intro g o c w3 hq3 hg3 hat3
                   have Hb3 : Hid (Below w0.heap.size w0 w3) := Lib.hid (by
                     have hb2 : Below w0.heap.size w0 w2 := Hbel.out.trans (Hb.out.mono Hbel.out.size)
                     exact (hb2.alloc hb2.size _).grown hg3 (by have := hb2.size; simp; omega) (fun j hj => (Hvs1.out.lt j hj).1))
                   have hcell3 := cell_of_below Hb3.out (Nat.le_refl _) Hcell0.out
                   have Hq3 := Lib.hid hq3; clear hq3 hg3 hat3))
              go_roundw
              case rel =>
                obtain ⟨hr1, hr2⟩ := Hnext.out _ _ Hf.out (have_push Hvs2.out Hvs3.out ⟨_, _, rfl, Hrow0.out⟩ Hq3.out) Hb3.out
                exact ⟨k + 1, by omega, by go_num, by rw [hr2, He.out]; simp, hr1⟩
              case measure => simp [intOf]; omega
          · have Hf := Lib.hid hf
            clear hf
            go_wp2_with (go_at_call 12; refine (ref_follows_no A1 c1 _ B2 cb2 d _ Hrows.out Hrow.out Hpi.out Hd.out.1 hlen1 hsum1 Hd.out.2 Hf.out).mono ?_; rintro e w2 ⟨rfl, hb⟩; have Hb := Lib.hid hb; clear hb)
            go_ret2
            exact ⟨k, 70, rfl, Hstop1.out Hf.out, Hbel.out.trans (Hb.out.mono Hbel.out.size)⟩
        · have Hfull := Lib.hid (Hend.out (by omega))
          cases he : hasEmpty hs with
          | true =>
            have He := Lib.hid he
            clear he
            go_wp2_with fail
            go_ret2
            exact ⟨tr.length, 0, rfl, by have := Hfull.out; rwa [He.out] at this, Hbel.out⟩
          | false =>
            have He := Lib.hid he
            clear he
            go_wp2_with fail
            go_ret2
            exact ⟨tr.length, 70, rfl, by have := Hfull.out; rwa [He.out] at this, Hbel.out⟩
end Go.Proofs.Ytmfgdemgepkggaa
