/- The law RupGrows, walked. -/
import Derived.Test.YtmfgdemgepkggaaA20
namespace Go.Proofs.Ytmfgdemgepkggaa
open Go.RowKit Go.Maps Go.ChangeMaps

/-- Numbers that the call has laid. -/
def HaveI (w0 w : World) (v : Value) (xs : List Int) : Prop := OwnQ w w0.heap.size 3 v (xs.map (Value.int .i64))
theorem HaveI.nil (w0 w : World) : HaveI w0 w (.slice none 0 0) [] := OwnQ.nil _ _ _
theorem HaveI.ints {w0 w : World} {A : Option Addr} {n c : Nat} {xs : List Int} (h : HaveI w0 w (.slice A n c) xs) : IntsAt w A c xs := by
  obtain ⟨A', c', hv, hl, hc⟩ := h.cells
  simp only [Value.slice.injEq] at hv
  obtain ⟨rfl, _, rfl⟩ := hv
  exact ⟨by simpa using hl, hc⟩
/-- What stands behind an append of many numbers. -/
theorem haveI_append {w0 w : World} (ty : TypeId) {v : Value} {xs : List Int} (hh : HaveI w0 w v xs) (hb : Below w0.heap.size w0 w) {A : Option Addr} {c : Nat} {ds : List Int} (hA : IntsAt w A c ds) (hn : xs.length + ds.length ≤ 100000) :
    ∃ A' cap w', (Builtin.append_ #[23, 23] ty #[v, .slice A ds.length c]).run Try.prog w = .ok (.slice A' (xs ++ ds).length cap) w' ∧ HaveI w0 w' (.slice A' (xs ++ ds).length cap) (xs ++ ds) ∧ Below w0.heap.size w0 w' := by
  obtain ⟨i3, hi3, hz0, hz1, hz2⟩ := info_parts info3
  obtain ⟨A', cap, w', h2, h3, h4, h5⟩ := run_append_many (P := Try.prog) w w0.heap.size 23 ty 3 i3 (.int .i64 0) 8 Try.underlying23 hi3 hz0 hz1 hz2 rfl v _ hh A c (ds.map (Value.int .i64)) hA.2 (fun u hu => by
    simp only [List.mem_map] at hu
    obtain ⟨y, _, rfl⟩ := hu
    rfl) (by simp [maxLen]; omega) (by simp; omega) hb.size
  have he : (xs.map (Value.int .i64)).length + (ds.map (Value.int .i64)).length = (xs ++ ds).length := by simp
  rw [he] at h2 h3
  rw [List.length_map] at h2
  refine ⟨A', cap, w', h2, ?_, hb.grown h4 hb.size fun g hg => (hh.lt g hg).1⟩
  unfold HaveI
  rw [List.map_append]
  exact h3
theorem wpList_append_ints_g (w0 w : World) {ops : Array Oper} {rest : List Oper} {o : Oper} {a : Act} {Q : Exit → Act → World → Prop} (hw : Region.wanted o (yielded ops a.tmps) = true) (s x : Operand)
    (ho : o.op = .call { callee := .builtin .append, args := #[s, x], argTypes := #[23, 23] })
    (v : Value) (xs : List Int) (hv : a.eval s = v) (hh : HaveI w0 w v xs) (hb : Below w0.heap.size w0 w) (A : Option Addr) (c : Nat) (ds : List Int) (hx : a.eval x = .slice A ds.length c) (hA : IntsAt w A c ds) (hn : xs.length + ds.length ≤ 100000)
    (h : ∀ A' cap w', HaveI w0 w' (.slice A' (xs ++ ds).length cap) (xs ++ ds) → Below w0.heap.size w0 w' → wpList Try.prog ops Q rest (a.put o.dst (.slice A' (xs ++ ds).length cap)) w') :
    wpList Try.prog ops Q (o :: rest) a w := by
  refine Go.BigFrame.wpList_want hw fun K hK => ?_
  obtain ⟨A', cap, w', h2, h3, h4⟩ := haveI_append o.type hh hb hA hn (c := c)
  unfold Oper.wp execOp
  simp only [ho, resolve, invoke, builtin, Sem.run_bind, Sem.run_pure, Result.andThen_ok, List.map_toArray, List.map_cons, List.map_nil, hv, hx, h2]
  exact hK _ _ (h A' cap w' h3 h4)

/-- Two lists, and another of two that is laid at the call. -/
theorem laid_three {W : World} {A M B D : Option Addr} {ca cm cb cd : Nat} {l m : List (List Int)} {c d : List Int} (hl : RowsAt W A ca l) (hm : RowsAt W M cm m) (hc : IntsAt W B cb c) (hd : IntsAt W D cd d) :
    ListsAt ((W.alloc (.cells #[.slice B c.length cb, .slice D d.length cd] 23)).alloc (.cells #[.slice A l.length ca, .slice M m.length cm, .slice (some ⟨W.heap.size, 0, none⟩) 2 2] 22)) (some ⟨W.heap.size + 1, 0, none⟩) 3 [l, m, [c, d]] := by
  have h1 := rows_new W [.slice B c.length cb, .slice D d.length cd] [c, d] rfl (fun j v x hv hx => by
    match j, hv, hx with
    | 0, hv, hx => simp at hv hx; subst hv hx; exact ⟨_, _, rfl, hc⟩
    | 1, hv, hx => simp at hv hx; subst hv hx; exact ⟨_, _, rfl, hd⟩
    | j + 2, hv, hx => simp at hv)
  have h2 := lists_new (W.alloc (.cells #[.slice B c.length cb, .slice D d.length cd] 23)) [.slice A l.length ca, .slice M m.length cm, .slice (some ⟨W.heap.size, 0, none⟩) 2 2] [l, m, [c, d]] rfl (fun j v x hv hx => by
    match j, hv, hx with
    | 0, hv, hx => simp at hv hx; subst hv hx; exact ⟨_, _, rfl, hl.alloc _⟩
    | 1, hv, hx => simp at hv hx; subst hv hx; exact ⟨_, _, rfl, hm.alloc _⟩
    | 2, hv, hx => simp at hv hx; subst hv hx; exact ⟨_, _, rfl, h1⟩
    | j + 3, hv, hx => simp at hv)
  simpa using h2

set_option maxRecDepth 100000 in
set_option maxHeartbeats 1000000 in
theorem rupGrows_any {A M B D : Option Addr} {ca cm cb cd : Nat} {l m : List (List Int)} {c d : List Int} {w : World} (hl : InRows w A ca l) (hm : InRows w M cm m) (hc : InInts w B cb c) (hd : InInts w D cd d) :
    Calls Try.prog 6 #[.slice A l.length ca, .slice M m.length cm, .slice B c.length cb, .slice D d.length cd] w fun e w' => e = .returned (.bool true) ∧ Below w.heap.size w w' := by
  have Hl := Lib.hid hl
  have Hm := Lib.hid hm
  have Hc := Lib.hid hc
  have Hd := Lib.hid hd
  clear hl hm hc hd
  have Hls : Hid (∀ x ∈ [l, m, [c, d]], x.length ≤ 140737488355328 ∧ ∀ d ∈ x, d.length ≤ 140737488355328) := Lib.hid (fun x hx => by
    simp at hx
    rcases hx with rfl | rfl | rfl
    · exact ⟨Hl.out.len, Hl.out.lens⟩
    · exact ⟨Hm.out.len, Hm.out.lens⟩
    · exact ⟨by simp, by simpa using ⟨Hc.out.len, Hd.out.len⟩⟩)
  by_cases hw : wts [l, m, [c, d]] ≤ 1000
  · have Hw := Lib.hid hw
    obtain ⟨hlb, hlf, hmb, hmf, hcb, hdb⟩ : l.length ≤ 1000 ∧ l.flatten.length ≤ 1000 ∧ m.length ≤ 1000 ∧ m.flatten.length ≤ 1000 ∧ c.length ≤ 1000 ∧ d.length ≤ 1000 := by
      simp [wts, wt] at hw
      simp
      omega
    clear hw
    have Hlf : Hid (l.flatten.length ≤ 1000 ∧ m.flatten.length ≤ 1000) := Lib.hid ⟨hlf, hmf⟩
    clear hlf hmf
    obtain ⟨fb, hfb⟩ := exists_bool (Fol l c)
    have Hfb := Lib.hid hfb
    have Hmi : Hid ((∀ d ∈ l, ∀ x ∈ d, i64 x) ∧ (∀ x ∈ c, i64 x) ∧ l.length < 100000 ∧ l.flatten.length < 100000 ∧ c.length < 100000) := Lib.hid ⟨Hl.out.wf, Hc.out.wf, by omega, by have := Hlf.out; omega, by omega⟩
    clear hfb
    go_enter Try.func6, Try.ntmps6
    go_wp2_with fail
    refine (known_any _).mono ?_
    rintro e w1 ⟨rfl, hb1⟩
    have Hbel := Lib.hid hb1
    clear hb1
    go_wp2_with fail
    refine (light_yes (ls := [l, m, [c, d]]) (laid_three (Hl.out.rows.below Hbel.out) (Hm.out.rows.below Hbel.out) (Hc.out.ints.below Hbel.out) (Hd.out.ints.below Hbel.out)) (by simp) Hls.out Hw.out).mono ?_
    rintro e w2 ⟨rfl, rfl⟩
    have Hb1 := Lib.hid ((Hbel.out.alloc Hbel.out.size (.cells #[.slice B c.length cb, .slice D d.length cd] 23)).alloc (by have := Hbel.out.size; simp; omega) (.cells #[.slice A l.length ca, .slice M m.length cm, .slice (some ⟨w1.heap.size, 0, none⟩) 2 2] 22))
    generalize (w1.alloc (.cells #[.slice B c.length cb, .slice D d.length cd] 23)).alloc (.cells #[.slice A l.length ca, .slice M m.length cm, .slice (some ⟨w1.heap.size, 0, none⟩) 2 2] 22) = w2 at *
    clear Hbel
    go_wp2_with fail
    refine (follows_is rfl rfl (Hl.out.rows.below Hb1.out) (Hc.out.ints.below Hb1.out) Hmi.out.1 Hmi.out.2.1 Hmi.out.2.2.1 Hmi.out.2.2.2.1 Hmi.out.2.2.2.2 Hfb.out).mono ?_
    rintro e w3 ⟨rfl, hb3⟩
    have Hb3 := Lib.hid (Hb1.out.trans (hb3.mono Hb1.out.size))
    clear hb3 Hb1
    cases fb with
    | false =>
      go_wp2_with fail
      go_ret
      exact ⟨rfl, Hb3.out⟩
    | true =>
      have Hf : Hid (Fol l c) := Lib.hid (Hfb.out.1 rfl)
      clear Hfb
      go_wp2_with fail
      go_loop [9] (fun v => ∃ k : Nat, k ≤ d.length ∧ v = .int .i64 k ∧ Hid (∀ j : Nat, j < k → d[j]? ≠ some 0 ∧ d[j]? ≠ some (-9223372036854775808))) (fun v => d.length - (intOf v).toNat)
      case atStart => exact ⟨0, Nat.zero_le _, rfl, Lib.hid (by omega)⟩
      case round =>
        obtain ⟨k, hk, rfl, Hrel⟩ := hrel
        by_cases hlt : k < d.length
        · obtain ⟨b3, off3, hB2, hc3⟩ := (Hd.out.ints.below Hb3.out).get hlt
          subst hB2
          have Hx : Hid (d[k]? = some d[k]) := Lib.hid (List.getElem?_eq_getElem hlt)
          generalize d[k] = y at *
          by_cases h0 : y = 0
          · subst h0
            go_wp2_with fail
            go_ret
            exact ⟨rfl, Hb3.out⟩
          · by_cases h1 : y = -9223372036854775808
            · subst h1
              go_wp2_with fail
              go_ret
              exact ⟨rfl, Hb3.out⟩
            · have hb0 : (y == 0) = false := by simpa using h0
              have hb1 : (y == -9223372036854775808) = false := by simpa using h1
              go_wp2_with fail
              go_round
              case rel =>
                refine ⟨k + 1, by omega, by go_num, Lib.hid (fun j hj => ?_)⟩
                by_cases e : j = k
                · subst e
                  rw [Hx.out]
                  simp [h0, h1]
                · exact Hrel.out j (by omega)
              case measure => simp [intOf]; omega
        · have Hnd : Hid (none0 d = false) := Lib.hid (by
            rw [← Bool.not_eq_true, none0_iff]
            rintro (h | h)
            · obtain ⟨j, hj, e⟩ := List.getElem_of_mem h
              exact (Hrel.out j (by omega)).1 (by rw [List.getElem?_eq_getElem hj, e])
            · obtain ⟨j, hj, e⟩ := List.getElem_of_mem h
              exact (Hrel.out j (by omega)).2 (by rw [List.getElem?_eq_getElem hj, e]))
          have Hf1 : Hid (true = true ↔ Fol (m ++ l) c) := Lib.hid ⟨fun _ => ⟨Hf.out.1, Hf.out.2.more (fun y hy => List.mem_append_right _ hy) (fun _ h => h)⟩, fun _ => rfl⟩
          have Hf2 : Hid (true = true ↔ Fol l (c ++ d)) := Lib.hid ⟨fun _ => ⟨by
            have h1 := Hf.out.1
            have h2 := Hnd.out
            rw [← Bool.not_eq_true, none0_iff] at h1 h2 ⊢
            simp only [List.mem_append]
            rintro ((h | h) | (h | h))
            · exact h1 (.inl h)
            · exact h2 (.inl h)
            · exact h1 (.inr h)
            · exact h2 (.inr h), Hf.out.2.more (fun _ h => h) (fun y hy => List.mem_append_left _ hy)⟩, fun _ => rfl⟩
          have Hmj : Hid ((∀ d ∈ m ++ l, ∀ x ∈ d, i64 x) ∧ (∀ x ∈ c ++ d, i64 x) ∧ (m ++ l).length < 100000 ∧ (m ++ l).flatten.length < 100000 ∧ (c ++ d).length < 100000) := Lib.hid ⟨fun e he => by
            simp only [List.mem_append] at he
            exact he.elim (Hm.out.wf e) (Hl.out.wf e), fun e he => by
            simp only [List.mem_append] at he
            exact he.elim (Hc.out.wf e) (Hd.out.wf e), by simp; omega, by
            have := Hlf.out
            simp only [List.flatten_append, List.length_append]
            omega, by simp; omega⟩
          obtain ⟨us, hu1, hu2, hu3⟩ := Hm.out.rows.open
          have Hu1 := Lib.hid hu1
          have Hu2 := Lib.hid hu2
          have Hu3 := Lib.hid hu3
          obtain ⟨us', hu1', hu2', hu3'⟩ := Hl.out.rows.open
          have Hu1' := Lib.hid hu1'
          have Hu2' := Lib.hid hu2'
          have Hu3' := Lib.hid hu3'
          clear hu1 hu2 hu3 hu1' hu2' hu3' Hnd Hf Hrel
          have hlm : ([] ++ m).length + l.length ≤ 100000 := by simp; omega
          have hmm : ([] : List (List Int)).length + m.length ≤ 100000 := by simp; omega
          go_wp2_with (first
            | (at_builtin; refine wpList_append_have w _ rfl _ _ rfl (.slice A1 ([] ++ m).length c1) ([] ++ m) rfl Hh.out Hb4.out A ca l rfl us' Hu1'.out (Hu2'.out.below Hb4.out) Hu3'.out hlm ?_; intro A2 c2 w5 hh hb; have Hh2 := Lib.hid hh; have Hb5 := Lib.hid hb; clear hh hb)
            | (at_builtin; refine wpList_append_have w _ rfl _ _ rfl (.slice none 0 0) [] rfl (Have.nil _ _) Hb3.out M cm m rfl us Hu1.out (Hu2.out.below Hb3.out) Hu3.out hmm ?_; intro A1 c1 w4 hh hb; have Hh := Lib.hid hh; have Hb4 := Lib.hid hb; clear hh hb))
          refine (follows_is (b := true) (by simp) rfl (Hh2.out.rows' Hb5.out) (Hc.out.ints.below Hb5.out) Hmj.out.1 Hmi.out.2.1 Hmj.out.2.2.1 Hmj.out.2.2.2.1 Hmi.out.2.2.2.2 (by simpa using Hf1.out)).mono ?_
          rintro e w6 ⟨rfl, hb6⟩
          have Hb6 := Lib.hid (Hb5.out.trans (hb6.mono Hb5.out.size))
          clear hb6 Hh Hh2 Hb4 Hb5 Hu1 Hu2 Hu3 Hu1' Hu2' Hu3' Hb3
          have hcc : ([] : List Int).length + c.length ≤ 100000 := by simp; omega
          have hcd : ([] ++ c).length + d.length ≤ 100000 := by simp; omega
          go_wp2_with (first
            | (at_builtin; refine wpList_append_ints_g w _ rfl _ _ rfl (.slice A3 ([] ++ c).length c3) ([] ++ c) rfl Hh3.out Hb7.out D cd d rfl (Hd.out.ints.below Hb7.out) hcd ?_; intro A4 c4 w8 hh hb; have Hh4 := Lib.hid hh; have Hb8 := Lib.hid hb; clear hh hb)
            | (at_builtin; refine wpList_append_ints_g w _ rfl _ _ rfl (.slice none 0 0) [] rfl (HaveI.nil _ _) Hb6.out B cb c rfl (Hc.out.ints.below Hb6.out) hcc ?_; intro A3 c3 w7 hh hb; have Hh3 := Lib.hid hh; have Hb7 := Lib.hid hb; clear hh hb))
          refine (follows_is (b := true) rfl (by simp) (Hl.out.rows.below Hb8.out) Hh4.out.ints Hmi.out.1 Hmj.out.2.1 Hmi.out.2.2.1 Hmi.out.2.2.2.1 Hmj.out.2.2.2.2 (by simpa using Hf2.out)).mono ?_
          rintro e w9 ⟨rfl, hb9⟩
          have Hb9 := Lib.hid (Hb8.out.trans (hb9.mono Hb8.out.size))
          go_wp2_with fail
          go_ret
          exact ⟨rfl, Hb9.out⟩
  · have Hw := Lib.hid hw
    clear hw
    go_enter Try.func6, Try.ntmps6
    go_wp2_with fail
    refine (known_any _).mono ?_
    rintro e w1 ⟨rfl, hb1⟩
    have Hbel := Lib.hid hb1
    clear hb1
    go_wp2_with fail
    refine (light_no (ls := [l, m, [c, d]]) (laid_three (Hl.out.rows.below Hbel.out) (Hm.out.rows.below Hbel.out) (Hc.out.ints.below Hbel.out) (Hd.out.ints.below Hbel.out)) (by simp) Hls.out Hw.out).mono ?_
    rintro e w2 ⟨rfl, rfl⟩
    go_wp2_with fail
    go_ret
    exact ⟨rfl, (Hbel.out.alloc Hbel.out.size _).alloc (by have := Hbel.out.size; simp; omega) _⟩
end Go.Proofs.Ytmfgdemgepkggaa
