/- TermSigs: two signatures in one list. -/
import Derived.Test.YtlgbepamnkfpjaaGreatDoorM41
set_option linter.unusedSimpArgs false
set_option linter.unusedVariables false
set_option linter.unusedVariables false
set_option linter.unusedSimpArgs false
namespace Go.Proofs.YtlgbepamnkfpjaaGreatDoor
open Go.RowKit Go.Lib

theorem FnAt.mono {w w' : World} {f : Fn} {v : Value} (h : FnAt w f v) (hb : Below w.heap.size w w') : FnAt w' f v := by
  obtain ⟨B, c, e, hi⟩ := h.is
  exact ⟨⟨B, c, e, hi.mono hb⟩, h.name, h.args, h.out⟩
theorem FnAt.three {w : World} {f : Fn} {v : Value} (h : FnAt w f v) : v.cells.size = 3 ∧ ∀ u ∈ v.cells.toList, u.oneCell' = true := by
  obtain ⟨B, c, e, hi⟩ := h.is
  subst e
  refine ⟨rfl, fun u hu => ?_⟩
  simp only [Value.cells, List.mem_cons, List.not_mem_nil, or_false] at hu
  rcases hu with rfl | rfl | rfl <;> rfl
/-- Functions, one by one. -/
structure FnsV (w : World) (sig : List Fn) (us : List Value) : Prop where
  len : us.length = sig.length
  at_ : ∀ (j : Nat) (f : Fn) (u : Value), sig[j]? = some f → us[j]? = some u → FnAt w f u
theorem FnsV.three {w : World} {sig : List Fn} {us : List Value} (h : FnsV w sig us) : (∀ u ∈ us, u.cells.size = 3) ∧ ∀ x ∈ cellsOf us, x.oneCell' = true := by
  have h1 : ∀ u ∈ us, ∃ f, FnAt w f u := fun u hu => by
    obtain ⟨j, hj, e⟩ := List.getElem_of_mem hu
    exact ⟨_, h.at_ j _ u (List.getElem?_eq_getElem (by rw [← h.len]; exact hj)) (by rw [List.getElem?_eq_getElem hj, e])⟩
  refine ⟨fun u hu => by obtain ⟨f, hf⟩ := h1 u hu; exact hf.three.1, fun x hx => ?_⟩
  unfold cellsOf at hx
  obtain ⟨u, hu, hxu⟩ := List.mem_flatMap.1 hx
  obtain ⟨f, hf⟩ := h1 u hu
  exact hf.three.2 x hxu
theorem FnsAt.vals {w : World} {S : Option Addr} {sig : List Fn} {cs : Nat} (h : FnsAt w S sig) (h0 : S = none → cs = 0) : ∃ us, FnsV w sig us ∧ SrcAt w 3 sig.length (.slice S sig.length cs) (cellsOf us) := by
  obtain ⟨g, h1, h2⟩ := h
  have hl : ((List.range sig.length).map g).length = sig.length := by simp
  have hv : FnsV w sig ((List.range sig.length).map g) := ⟨hl, fun j f u hf hu => by
    have hj : j < sig.length := (List.getElem?_eq_some_iff.1 hf).1
    simp [hj] at hu
    subst hu
    exact h2 j f hf⟩
  refine ⟨_, hv, ?_⟩
  have h3 := hv.three
  have hlen := cellsOf_length h3.1
  rw [hl] at hlen
  cases S with
  | none =>
    have hn : sig.length = 0 := by
      rcases h1 with h | ⟨b, o, hA, _⟩
      · exact h
      · cases hA
    exact ⟨hlen, .inl ⟨by rw [h0 rfl, hn], hn⟩, h3.2⟩
  | some ad =>
    refine ⟨hlen, .inr ⟨ad, cs, rfl, fun j u hj => ?_⟩, h3.2⟩
    have hjl : j < sig.length * 3 := by
      rw [← hlen]
      exact (List.getElem?_eq_some_iff.1 hj).1
    rcases h1 with h | ⟨b, o, hA, h4⟩
    · rw [h] at hjl
      omega
    · cases hA
      rw [Addr.add_lit]
      have hq : j / 3 < sig.length := by omega
      have h5 := (h4 (j / 3) hq).2 (j % 3) (by omega)
      have h6 := cellsOf_get h3.1 (j := j / 3) (by rw [hl]; exact hq) (i := j % 3) (by omega)
      rw [show j / 3 * 3 + j % 3 = j by omega, hj] at h6
      rw [show o + j / 3 * 3 + j % 3 = o + j by omega] at h5
      rw [h5, h6]
      simp
theorem FnsV.row {w : World} {sig : List Fn} {us : List Value} {B : Nat} {A : Option Addr} {c : Nat} (h : FnsV w sig us) (hr : w.ownsRow B 46 3 (.slice A sig.length c) sig.length (cellsOf us)) : FnsAt w A sig := by
  obtain ⟨h1, _, _⟩ := ownsRow_cells hr h.three.1 h.len (by decide)
  refine ⟨_, h1, fun j f hf => ?_⟩
  have hj : j < us.length := by rw [h.len]; exact (List.getElem?_eq_some_iff.1 hf).1
  have : us.getD j .nilFunc = us[j] := by simp [List.getElem?_eq_getElem hj]
  rw [this]
  exact h.at_ j f _ hf (List.getElem?_eq_getElem hj)
theorem FnsV.mono {w w' : World} {sig : List Fn} {us : List Value} (h : FnsV w sig us) (hb : Below w.heap.size w w') : FnsV w' sig us := ⟨h.len, fun j f u hf hu => (h.at_ j f u hf hu).mono hb⟩
theorem FnsV.append {w : World} {sig more : List Fn} {us vs : List Value} (h : FnsV w sig us) (k : FnsV w more vs) : FnsV w (sig ++ more) (us ++ vs) := by
  refine ⟨by simp [h.len, k.len], fun j f u hf hu => ?_⟩
  by_cases hj : j < sig.length
  · rw [List.getElem?_append_left hj] at hf
    rw [List.getElem?_append_left (by rw [h.len]; exact hj)] at hu
    exact h.at_ j f u hf hu
  · rw [List.getElem?_append_right (by omega)] at hf
    rw [List.getElem?_append_right (by rw [h.len]; omega), h.len] at hu
    exact k.at_ _ f u hf hu
theorem cellsOf_append (us vs : List Value) : cellsOf (us ++ vs) = cellsOf us ++ cellsOf vs := by simp [cellsOf]
theorem info46 : (Tryz.prog.info? 46).map (fun i => (i.zero, i.size, i.bytes)) = some (some (.agg #[.string ⟨#[]⟩, .slice none 0 0, .int .i64 0]), 3, 48) := by kernel_rfl
def sigsSpec (B n : Nat) (us : List Value) (vS vM : Value) : Nat → World → Value → Prop
  | 0, _, v => v = vS
  | 1, w, v => w.ownsRow B 46 3 v n (cellsOf us)
  | 2, _, v => v = vM
  | _, _, _ => True
theorem sigsSpec_keep (B n : Nat) (us : List Value) (vS vM : Value) (i : Nat) (w w' : World) (v : Value) (h : sigsSpec B n us vS vM i w v) (hb : Below w.heap.size w w') : sigsSpec B n us vS vM i w' v := by
  unfold sigsSpec at h ⊢
  split <;> simp_all
  refine ownsRow_same h fun g hg => ?_
  obtain ⟨_, cur, hc⟩ := ownsRow_lt h g hg
  exact hb.block g (Array.getElem?_eq_some_iff.1 hc).1
end Go.Proofs.YtlgbepamnkfpjaaGreatDoor

/- TermSigs: the walk. -/
set_option linter.unusedVariables false
set_option linter.unusedSimpArgs false
namespace Go.Proofs.YtlgbepamnkfpjaaGreatDoor
open Go.RowKit Go.Lib

theorem wpList_append_run {P : Program} {w : World} {ops : Array Oper} {rest : List Oper} {o : Oper} {a : Act} {Q : Exit → Act → World → Prop} (hgd : o.guard = none) (s x : Operand) (t : TypeId)
    (ho : o.op = .call { callee := .builtin .append, args := #[s, x], argTypes := #[t, t] }) {v' : Value} {w' : World} (hr : (Builtin.append_ #[t, t] o.type #[a.eval s, a.eval x]).run P w = .ok v' w')
    (h : wpList P ops Q rest (a.put o.dst v') w') : wpList P ops Q (o :: rest) a w := by
  refine wpList_plain hgd fun K hK => ?_
  exact wp_append_call s x t ho hr (hK _ _ h)
theorem ownsRow_slice {w : World} {B : Nat} {e : TypeId} {k : Nat} {v : Value} {n : Nat} {xs : List Value} (h : w.ownsRow B e k v n xs) : ∃ A c, v = .slice A n c := by
  rcases h.2 with ⟨rfl, rfl⟩ | ⟨g, cap, cur, rfl, _⟩
  · exact ⟨_, _, rfl⟩
  · exact ⟨_, _, rfl⟩
set_option maxRecDepth 100000 in
set_option maxHeartbeats 8000000 in
theorem termSigs_any {w : World} {sig more : List Fn} {S M : Option Addr} {cs cm : Nat} (hS : SigIn w S cs sig) (hM : SigIn w M cm more) {t : Tm} {v : Value} (h : TmV w t v) : Calls Tryz.prog 5 #[.slice S sig.length cs, .slice M more.length cm, v] w fun e w' => e = .returned (.bool true) ∧ Below w.heap.size w w' := by
  obtain ⟨⟨op, name, sort, n, A, la, ca, V, lv, cv, P, lp, cp⟩, rfl⟩ := h.parts
  have HT := Lib.hid h
  have HSg := Lib.hid hS
  have HMg := Lib.hid hM
  have HB0 : Hid (Below w.heap.size w (boxT w ⟨op, name, sort, n, A, la, ca, V, lv, cv, P, lp, cp⟩)) := Lib.hid (below_boxT _ _)
  have HR0 := Lib.hid (boxT_row w ⟨op, name, sort, n, A, la, ca, V, lv, cv, P, lp, cp⟩)
  obtain ⟨b, hb⟩ : ∃ b, lightB 200 [t] = b := ⟨_, rfl⟩
  have Hlt : Hid (∀ W, Below w.heap.size w W → Calls Tryz.prog 7 #[.slice (some ⟨W.heap.size, 0, none⟩) 1 1, .int .i64 200] (W.alloc (.cells #[.int .i64 op, .string name, .int .i64 sort, .string n, .slice A la ca, .slice V lv cv, .slice P lp cp] 26)) fun e w' => e = .returned (.bool b) ∧ Below W.heap.size W w') := Lib.hid (fun W hW => by
    obtain ⟨A9, c9, e9, hc9, fl, hrow, hlt9⟩ := TsV.one (p := ⟨op, name, sort, n, A, la, ca, V, lv, cv, P, lp, cp⟩) (HT.out.mono hW) 26
    cases e9
    have hA : Below W.heap.size W (W.alloc (.cells #[.int .i64 op, .string name, .int .i64 sort, .string n, .slice A la ca, .slice V lv cv, .slice P lp cp] 26)) := (Below.refl _ _).alloc (Nat.le_refl _) _
    have h := light_any (c := 1) hrow hlt9 (by simp) (most := 200) (by omega) _ (Below.refl _ _)
    rw [hb] at h
    refine Calls.mono h ?_
    rintro e w' ⟨rfl, h2⟩
    exact ⟨rfl, hA.trans (h2.mono hA.size)⟩)
  unfold boxT at HB0
  unfold boxT at HR0
  simp only [Parts.arr] at HB0
  clear h hS hM
  unfold Parts.arr
  have hns0 := HSg.out.at_.len
  have hnm0 := HMg.out.at_.len
  obtain ⟨ns, hns⟩ : ∃ n, sig.length = n := ⟨_, rfl⟩
  obtain ⟨nm, hnm⟩ : ∃ n, more.length = n := ⟨_, rfl⟩
  have Hns := Lib.hid hns
  have Hnm := Lib.hid hnm
  rw [hns] at hns0
  rw [hnm] at hnm0
  rw [hns, hnm]
  clear hns hnm
  cases b with
  | false =>
    go_enter Tryz.func5, Tryz.ntmps5
    go_wp2_with (first
      | (go_at_call 6; (with_reducible refine Calls.mono (known_any _) ?_); rintro e w1 ⟨rfl, hb1⟩; have Hb1 := Lib.hid (HB0.out.trans (hb1.mono HB0.out.size)); obtain ⟨x0, x1, x2, x3, x4, x5, x6⟩ := box_cells (below_keeps hb1 HR0.out); dsimp only at x0 x1 x2 x3 x4 x5 x6; clear hb1)
      | (go_at_call 7; (with_reducible refine Calls.mono (Hlt.out _ Hb1.out) ?_); rintro e w3 ⟨rfl, hb3⟩; have Hb3 := Lib.hid (Hb1.out.trans (hb3.mono Hb1.out.size)); clear hb3))
    go_ret
    exact ⟨rfl, Hb3.out⟩
  | true =>
    by_cases h60 : 60 < ns + nm
    · have h60' : (60 : Int) < (ns : Int) + (nm : Int) := by omega
      go_enter Tryz.func5, Tryz.ntmps5
      go_wp2_with (first
        | (go_at_call 6; (with_reducible refine Calls.mono (known_any _) ?_); rintro e w1 ⟨rfl, hb1⟩; have Hb1 := Lib.hid (HB0.out.trans (hb1.mono HB0.out.size)); obtain ⟨x0, x1, x2, x3, x4, x5, x6⟩ := box_cells (below_keeps hb1 HR0.out); dsimp only at x0 x1 x2 x3 x4 x5 x6; clear hb1)
        | (go_at_call 7; (with_reducible refine Calls.mono (Hlt.out _ Hb1.out) ?_); rintro e w3 ⟨rfl, hb3⟩; have Hb3 := Lib.hid (Hb1.out.trans (hb3.mono Hb1.out.size)); clear hb3))
      go_ret
      exact ⟨rfl, Hb3.out⟩
    · obtain ⟨ht1, ht2, ht3⟩ := light_mem hb (t := t) (by simp)
      have h60' : ¬ (60 : Int) < (ns : Int) + (nm : Int) := by omega
      have hsz60 : ns ≤ 60 ∧ nm ≤ 60 := by omega
      have Hsz60 := Lib.hid hsz60
      have Htw : Hid (tw t ≤ 1000000 ∧ shortT t = true) := Lib.hid ⟨by omega, ht2⟩
      obtain ⟨us, hus, hsu⟩ := HSg.out.at_.at_.vals HSg.out.nil
      obtain ⟨vs, hvs, hsv⟩ := HMg.out.at_.at_.vals HMg.out.nil
      have Hus := Lib.hid hus
      have Hvs := Lib.hid hvs
      have Hsu := Lib.hid hsu
      have Hsv := Lib.hid hsv
      rw [Hns.out] at Hsu
      rw [Hnm.out] at Hsv
      obtain ⟨i46, hi, hz0, hz1, hz2⟩ := info_parts info46
      have Hi := Lib.hid (And.intro hi (And.intro hz0 (And.intro hz1 hz2)))
      obtain ⟨r, hr⟩ : ∃ r, checkTop (sig ++ more) t = r := ⟨_, rfl⟩
      obtain ⟨q, hq⟩ : ∃ q, checkTop sig t = q := ⟨_, rfl⟩
      have Hmore : Hid (q.2 = 0 → r = q) := Lib.hid (fun h => by rw [← hr, ← hq]; exact checkTop_more sig more t (by rw [hq]; exact h))
      have Hr := Lib.hid hr
      have Hq := Lib.hid hq
      clear hb ht1 ht2 ht3 hus hvs hsu hsv hi hz0 hz1 hz2 hsz60 hr hq h60
      go_enter Tryz.func5, Tryz.ntmps5
      go_wp2_with (first
        | (go_at_call 6; (with_reducible refine Calls.mono (known_any _) ?_); rintro e w1 ⟨rfl, hb1⟩; have Hk1 := Lib.hid (below_keeps hb1 HR0.out); have Hb1 := Lib.hid (HB0.out.trans (hb1.mono HB0.out.size)); obtain ⟨x0, x1, x2, x3, x4, x5, x6⟩ := box_cells Hk1.out; dsimp only at x0 x1 x2 x3 x4 x5 x6; clear hb1)
        | (go_at_call 7; (with_reducible refine Calls.mono (Hlt.out _ Hb1.out) ?_); rintro e w3 ⟨rfl, hb3⟩; have Hk3 := Lib.hid (below_keeps hb3 Hk1.out); have Hb3 := Lib.hid (Hb1.out.trans (hb3.mono Hb1.out.size)); clear hb3)
        | (at_builtin; obtain ⟨v4, w4, hr4, ho4, hb4⟩ := run_append_new (P := Tryz.prog) (w := w3) 22 22 46 i46 _ 3 48 Tryz.underlying22 Hi.out.1 Hi.out.2.1 Hi.out.2.2.1 Hi.out.2.2.2 rfl (by decide) (Hsu.out.mono Hb3.out) (by have := Hsz60.out.1; simp only [maxLen]; omega) (by have := Hsz60.out.1; omega); refine wpList_append_run rfl (Operand.const (.slice none 0 0)) (.tmp 28) 22 rfl hr4 ?_; obtain ⟨A4, c4, rfl⟩ := ownsRow_slice ho4; have Ho4 := Lib.hid ho4; have Hb34 := Lib.hid hb4; have Hk4 := Lib.hid (below_keeps hb4 Hk3.out); have Hb4 := Lib.hid (Hb3.out.trans (hb4.mono Hb3.out.size)); clear ho4 hb4 hr4)
        | (at_builtin; obtain ⟨v5, w5, hr5, ho5, hg5⟩ := run_append_src (P := Tryz.prog) (w := w4) w3.heap.size 22 22 46 i46 _ 3 48 Tryz.underlying22 Hi.out.1 Hi.out.2.1 Hi.out.2.2.1 Hi.out.2.2.2 rfl (by decide) _ _ _ Ho4.out (Hsv.out.mono Hb4.out) (by have := Hsz60.out; simp only [maxLen]; omega) (by have := Hsz60.out; omega) Hb34.out.size; refine wpList_append_run rfl (.tmp 29) (.tmp 30) 22 rfl hr5 ?_; obtain ⟨A5, c5, rfl⟩ := ownsRow_slice ho5; have Ho5 := Lib.hid ho5; have hb35 := Hb34.out.grown hg5 Hb34.out.size (fun k hk => (ownsRow_lt Ho4.out k hk).1); have Hk5 := Lib.hid (below_keeps hb35 Hk3.out); have Hb5 := Lib.hid (Hb3.out.trans (hb35.mono Hb3.out.size)); obtain ⟨y0, y1, y2, y3, y4, y5, y6⟩ := box_cells Hk5.out; dsimp only at y0 y1 y2 y3 y4 y5 y6; clear ho5 hg5 hb35 hr5))
      have HSa : Hid (SigAt w5 A5 c5 (sig ++ more)) := Lib.hid (by
        have h1 := (Hus.out.append Hvs.out).mono Hb5.out
        have h2 := Ho5.out
        rw [← cellsOf_append] at h2
        have hl : (sig ++ more).length = ns + nm := by rw [List.length_append, Hns.out, Hnm.out]
        refine ⟨h1.row (B := w3.heap.size) (c := c5) (by rw [hl]; exact h2), by rw [hl]; have := Hsz60.out; omega, fun f hf => ?_⟩
        rcases List.mem_append.1 hf with hf | hf
        · exact HSg.out.at_.out f hf
        · exact HMg.out.at_.out f hf)
      have Hal : Hid ((sig ++ more).length = ns + nm) := Lib.hid (by rw [List.length_append, Hns.out, Hnm.out])
      have HcP : Hid (∀ W, Below w5.heap.size w5 W → Calls Tryz.prog 8 #[.slice A5 (ns + nm) c5, .agg #[.int .i64 op, .string name, .int .i64 sort, .string n, .slice A la ca, .slice V lv cv, .slice P lp cp]] W (SortIs W r)) := Lib.hid (fun W hW => by
        have h := Check_any HSa.out (HT.out.mono Hb5.out) Htw.out.1 Htw.out.2 W hW
        rw [Hal.out, Hr.out] at h
        exact h)
      have HcR : Hid (∀ W, Below w5.heap.size w5 W → Calls Tryz.prog 9 #[.slice A5 (ns + nm) c5, .agg #[.int .i64 op, .string name, .int .i64 sort, .string n, .slice A la ca, .slice V lv cv, .slice P lp cp]] W (SortIs W r)) := Lib.hid (fun W hW => by
        have h := CheckR_any (cs := c5) HSa.out.at_ HSa.out.len HSa.out.out (HT.out.mono Hb5.out) Htw.out.1 W hW
        rw [Hal.out, Hr.out] at h
        exact h)
      have HcS : Hid (∀ W, Below w.heap.size w W → Calls Tryz.prog 8 #[.slice S ns cs, .agg #[.int .i64 op, .string name, .int .i64 sort, .string n, .slice A la ca, .slice V lv cv, .slice P lp cp]] W (SortIs W q)) := Lib.hid (fun W hW => by
        have h := Check_any HSg.out.at_ HT.out Htw.out.1 Htw.out.2 W hW
        rw [Hns.out, Hq.out] at h
        exact h)
      clear Hr Hq
      obtain ⟨r1, r2⟩ := r
      obtain ⟨q1, q2⟩ := q
      by_cases hq2 : q2 = 0
      · have hrq := Hmore.out hq2
        cases hrq
        subst hq2
        go_wp2_with (first
          | (go_at_call 9; (with_reducible refine Calls.mono (HcR.out _ Hb56.out) ?_); rintro e w7 ⟨rfl, hb7⟩; have Hk7 := Lib.hid (below_keeps hb7 Hk6.out); have Hb7 := Lib.hid (Hb6.out.trans (hb7.mono Hb6.out.size)); obtain ⟨s0, s1, s2, s3, s4, s5, s6⟩ := box_cells Hk7.out; dsimp only at s0 s1 s2 s3 s4 s5 s6; clear hb7)
          | (go_at_call 8; (with_reducible refine Calls.mono (HcP.out _ (Below.refl _ _)) ?_); rintro e w6 ⟨rfl, hb6⟩; have Hb56 := Lib.hid hb6; have Hk6 := Lib.hid (below_keeps hb6 Hk5.out); have Hb6 := Lib.hid (Hb5.out.trans (hb6.mono Hb5.out.size)); obtain ⟨z0, z1, z2, z3, z4, z5, z6⟩ := box_cells Hk6.out; dsimp only at z0 z1 z2 z3 z4 z5 z6; clear hb6)
          | (go_at_call 8; (with_reducible refine Calls.mono (HcS.out _ Hb7.out) ?_); rintro e w8 ⟨rfl, hb8⟩; have Hb8 := Lib.hid (Hb7.out.trans (hb8.mono Hb7.out.size)); clear hb8))
        go_ret
        exact ⟨by simp, Hb8.out⟩
      · have hq2' : (q2 != 0) = true := by rw [bne_iff_ne]; exact hq2
        go_wp2_with (first
          | (go_at_call 9; (with_reducible refine Calls.mono (HcR.out _ Hb56.out) ?_); rintro e w7 ⟨rfl, hb7⟩; have Hk7 := Lib.hid (below_keeps hb7 Hk6.out); have Hb7 := Lib.hid (Hb6.out.trans (hb7.mono Hb6.out.size)); obtain ⟨s0, s1, s2, s3, s4, s5, s6⟩ := box_cells Hk7.out; dsimp only at s0 s1 s2 s3 s4 s5 s6; clear hb7)
          | (go_at_call 8; (with_reducible refine Calls.mono (HcP.out _ (Below.refl _ _)) ?_); rintro e w6 ⟨rfl, hb6⟩; have Hb56 := Lib.hid hb6; have Hk6 := Lib.hid (below_keeps hb6 Hk5.out); have Hb6 := Lib.hid (Hb5.out.trans (hb6.mono Hb5.out.size)); obtain ⟨z0, z1, z2, z3, z4, z5, z6⟩ := box_cells Hk6.out; dsimp only at z0 z1 z2 z3 z4 z5 z6; clear hb6)
          | (go_at_call 8; (with_reducible refine Calls.mono (HcS.out _ Hb7.out) ?_); rintro e w8 ⟨rfl, hb8⟩; have Hb8 := Lib.hid (Hb7.out.trans (hb8.mono Hb7.out.size)); clear hb8))
        go_ret
        exact ⟨rfl, Hb8.out⟩
end Go.Proofs.YtlgbepamnkfpjaaGreatDoor
