/- The library's Clone and ContainsFunc, as 'Check' calls them; 'Follows' for any clause. -/
import Derived.Test.YtmfgdemgepkggaaA10
import Derived.WalkSpells
namespace Go.Proofs.Ytmfgdemgepkggaa
open Go.RowKit Go.Maps Go.ChangeMaps

/-- 'Follows', whatever the clause. -/
theorem follows_all (A : Option Addr) (ca : Nat) (l : List (List Int)) (B : Option Addr) (cb : Nat) (c : List Int) (w0 : World) (hl : RowsAt w0 A ca l) (hc : IntsAt w0 B cb c)
    (hi : ∀ d ∈ l, ∀ x ∈ d, i64 x) (hic : ∀ x ∈ c, i64 x) (hlen : l.length < 100000) (hsum : l.flatten.length < 100000) (hclen : c.length < 100000) :
    Calls Try.prog 13 #[.slice A l.length ca, .slice B c.length cb] w0 (Answered w0 l c) := by
  cases hn : none0 c with
  | false => exact follows_any A ca l B cb c w0 hl hc hi hic hlen hsum hclen hn
  | true =>
    have Hn := Lib.hid hn
    clear hn
    have hclen' : c.length ≤ 9223372036854775807 := by omega
    have Hc := Lib.hid hc
    clear hc hl hi hic
    go_enter Try.func13, Try.ntmps13
    go_wp2_with fail
    go_step3
    go_wp2_with (go_at_call 20; refine (none_any B cb c _ Hc.out hclen').mono ?_; rintro e w' ⟨rfl, rfl⟩; rw [Hn.out])
    rw [Exit.noGoto_ret]
    go_ret
    exact ⟨false, rfl, by simp [Hn.out], Below.refl _ _⟩

theorem info23' : (Try.prog.info? 23).map (fun i => (i.zero, i.size, i.bytes)) = some (some (.slice none 0 0), 1, 24) := info23

/-- What a copy is. -/
def Cloned (w0 w : World) (l : List (List Int)) (e : Ending) (w' : World) : Prop :=
  ∃ v, e = .returned v ∧ Have w0 w' w.heap.size v l ∧ Below w.heap.size w w'
theorem clone_any (A : Option Addr) (ca : Nat) (l : List (List Int)) (w : World) (hl : RowsAt w A ca l) (hlen : l.length < 100000) :
    Calls Try.prog 23 #[.slice A l.length ca] w (Cloned w w l) := by
  obtain ⟨i23, hi23, hz0, hz1, hz2⟩ := info_parts info23
  obtain ⟨vs, h1, h2, h3, h4⟩ := hl.vals
  have H4 := Lib.hid h4
  have H1 := Lib.hid h1
  have H2 := Lib.hid h2
  have H3 := Lib.hid h3
  clear hl h1 h4 h2 h3
  cases A with
  | none =>
    have hne := Lib.run_eql_slice_nil (P := Try.prog) w 22 23 none l.length ca 0 0 Try.underlying22
    have Hnil : Hid (l = []) := Lib.hid (by
      rcases H2.out with h | ⟨b, o, h, _⟩
      · subst h
        exact List.eq_nil_of_length_eq_zero (by simpa using H1.out.symm)
      · cases h)
    go_enter Try.func23, Try.ntmps23
    go_wp2_with fail
    go_ret
    exact ⟨_, rfl, by rw [Hnil.out]; exact ⟨[], OwnQ.nil _ _ _, rfl, by simp⟩, Below.refl _ _⟩
  | some a =>
    have hne := Lib.run_eql_slice_nil (P := Try.prog) w 22 23 (some a) l.length ca 0 0 Try.underlying22
    have Hown : Hid (OwnQ (w.alloc (.cells #[] 23)) w.heap.size 23 (.slice (some ⟨w.heap.size, 0, none⟩) 0 0) []) := Lib.hid (.inr ⟨w.heap.size, 0, 0, #[], rfl, Nat.le_refl _, heap_alloc_new w _, by simp, by simp [maxLen], by simp, by simp⟩)
    have Hcells : Hid (Cells (w.alloc (.cells #[] 23)) (some a) vs) := Lib.hid (H2.out.below ((Below.refl _ _).alloc (Nat.le_refl _) _))
    have Hb : Hid (vs.length < 100000 ∧ l.length = vs.length) := Lib.hid ⟨by rw [H1.out]; exact hlen, H1.out.symm⟩
    go_enter Try.func23, Try.ntmps23
    go_wp2_with (at_builtin; refine wpList_append_many _ rfl _ _ 22 rfl w.heap.size 23 i23 (.slice none 0 0) 24 Try.underlying22 hi23 hz0 hz1 hz2 rfl (.slice (some ⟨w.heap.size, 0, none⟩) 0 0) [] rfl Hown.out (some a) ca vs (by rw [← Hb.out.2]; rfl) Hcells.out H3.out (by have := Hb.out.1; simp [maxLen]; omega) (by have := Hb.out.1; simp; omega) (by simp) ?_; intro A' cap w2 hq hg hat; have Hq := Lib.hid hq; have Hg := Lib.hid hg; clear hq hg hat)
    go_ret
    refine ⟨_, rfl, ⟨vs, by simpa using Hq.out, H1.out, H4.out⟩, ?_⟩
    exact ((Below.refl _ _).alloc (Nat.le_refl _) _).grown Hg.out (by simp) (fun k hk => Nat.le_of_eq (by simpa [Value.ownBlock] using hk))

/-- Is an empty one among them? -/
def hasEmpty (l : List (List Int)) : Bool := l.any (·.isEmpty)
theorem empty_any (A : Option Addr) (c : Nat) (xs : List Int) (w : World) (_ : xs.length ≤ 9223372036854775807) :
    Calls Try.prog 25 #[.slice A xs.length c] w fun e w' => e = .returned (.bool ((xs.length : Int) == 0)) ∧ w = w' := by
  go_enter Try.func25, Try.ntmps25
  go_wp2
  go_ret
  exact ⟨by simp, rfl⟩
def EmptyPost (l : List (List Int)) (w : World) (e : Ending) (w' : World) : Prop := ∃ r : Int, e = .returned (.int .i64 r) ∧ decide (0 ≤ r) = hasEmpty l ∧ w = w'
set_option maxHeartbeats 1000000 in
theorem indexFunc_any (A : Option Addr) (ca : Nat) (l : List (List Int)) (w : World) (hl : RowsAt w A ca l) (hlen : l.length < 100000) (hc : ∀ d ∈ l, d.length < 100000) :
    Calls Try.prog 27 #[.slice A l.length ca, .func (.func 25) #[] #[]] w (EmptyPost l w) := by
  have Hl := Lib.hid hl
  have Hc := Lib.hid hc
  clear hl hc
  go_enter Try.func27, Try.ntmps27
  go_wp2_with fail
  go_loop [8] (fun i => ∃ k : Nat, k ≤ l.length ∧ i = .int .i64 k ∧ hasEmpty (l.take k) = false) (fun i => l.length - (intOf i).toNat)
  case atStart => exact ⟨0, Nat.zero_le _, rfl, by simp [hasEmpty]⟩
  case round =>
    obtain ⟨k, hk, rfl, hno⟩ := hrel
    have Hno := Lib.hid hno
    clear hno
    by_cases hlt : k < l.length
    · obtain ⟨b, off, B2, cb2, rfl, hcell, hrow⟩ := Hl.out.get hlt
      have hd : l[k].length ≤ 9223372036854775807 := by have := Hc.out _ (List.getElem_mem hlt); omega
      have Hs : Hid (hasEmpty (l.take (k + 1)) = (l[k].length == 0) ∧ (l[k].length = 0 → hasEmpty l = true)) := Lib.hid ⟨by
        have h0 := Hno.out
        unfold hasEmpty at h0 ⊢
        rw [List.take_succ_eq_append_getElem hlt, List.any_append, h0]
        cases hx : l[k] <;> simp, fun h0 => by
        unfold hasEmpty
        rw [List.any_eq_true]
        exact ⟨l[k], List.getElem_mem hlt, by rw [List.eq_nil_of_length_eq_zero h0]; rfl⟩⟩
      clear hrow
      generalize l[k] = d at *
      by_cases he : d.length = 0
      · have Hs2 := Lib.hid (Hs.out.2 he)
        have he1 : ((d.length : Int) == 0) = true := by simpa using he
        have He := Lib.hid he
        clear he
        go_wp2_with (go_at_call 25; refine (empty_any B2 cb2 d _ hd).mono ?_; rintro e w' ⟨rfl, rfl⟩; rw [he1])
        go_ret
        exact ⟨_, rfl, by rw [Hs2.out]; simp, rfl⟩
      · have he1 : ((d.length : Int) == 0) = false := by simpa using he
        have Hs1 := Lib.hid (Hs.out.1.trans (by simpa using he : (d.length == 0) = false))
        clear he
        go_wp2_with (go_at_call 25; refine (empty_any B2 cb2 d _ hd).mono ?_; rintro e w' ⟨rfl, rfl⟩; rw [he1])
        go_round
        case rel => exact ⟨k + 1, by omega, by go_num, Hs1.out⟩
        case measure => simp [intOf]; omega
    · have Hn : Hid (hasEmpty l = false) := Lib.hid (by have := Hno.out; rwa [List.take_of_length_le (by omega)] at this)
      go_wp2_with fail
      go_ret
      exact ⟨_, rfl, by rw [Hn.out]; simp, rfl⟩
theorem containsFunc_any (A : Option Addr) (ca : Nat) (l : List (List Int)) (w : World) (hl : RowsAt w A ca l) (hlen : l.length < 100000) (hc : ∀ d ∈ l, d.length < 100000) :
    Calls Try.prog 24 #[.slice A l.length ca, .func (.func 25) #[] #[]] w fun e w' => e = .returned (.bool (hasEmpty l)) ∧ w = w' := by
  go_enter Try.func24, Try.ntmps24
  go_wp2_with (go_at_call 27; refine (indexFunc_any A ca l _ hl hlen hc).mono ?_; rintro e w' ⟨r, rfl, hr, rfl⟩)
  go_ret
  exact ⟨by simp, rfl⟩
end Go.Proofs.Ytmfgdemgepkggaa
