/- The law RupChains, walked. -/
import Derived.Test.YtmfgdemgepkggaaA24
namespace Go.Proofs.Ytmfgdemgepkggaa
open Go.RowKit Go.Maps Go.ChangeMaps

/-- How far both lists have been built. -/
structure CR (w0 : World) (n t g : Int) (r : Nat) (lv mv : Value) (w : World) : Prop where
  l : Lay w w0.heap.size lv (chain n t r)
  m : Lay w w0.heap.size mv (broken n t g r)
  apart : Apart lv mv
  below : Below w0.heap.size w0 w

theorem Apart.symm {v m : Value} (h : Apart v m) : Apart m v := fun g hg hv => h g hv hg
theorem laid_clause (w : World) (x y : Int) : Cells ((w.alloc (.cells #[.int .i64 x, .int .i64 y] 3)).alloc (.cells #[.slice (some ⟨w.heap.size, 0, none⟩) 2 2] 23)) (some ⟨w.heap.size + 1, 0, none⟩) [.slice (some ⟨w.heap.size, 0, none⟩) 2 2] ∧
    ∀ (j : Nat) (u : Value) (d : List Int), [Value.slice (some ⟨w.heap.size, 0, none⟩) 2 2][j]? = some u → [[x, y]][j]? = some d → RowIn ((w.alloc (.cells #[.int .i64 x, .int .i64 y] 3)).alloc (.cells #[.slice (some ⟨w.heap.size, 0, none⟩) 2 2] 23)) u d := by
  refine ⟨.inr ⟨_, 0, rfl, fun j u hj => ?_⟩, fun j u d hu hd => ?_⟩
  · cases j with
    | zero => simp at hj; subst hj; simp
    | succ j => simp at hj
  · cases j with
    | zero =>
      simp at hu hd
      subst hu hd
      exact (RowIn.new w [x, y]).below ((Below.refl _ _).alloc (Nat.le_refl _) _)
    | succ j => simp at hu
theorem wpList_append_clause (w : World) {ops : Array Oper} {rest : List Oper} {o : Oper} {a : Act} {Q : Exit → Act → World → Prop} (hw : Region.wanted o (yielded ops a.tmps) = true) (s q : Operand)
    (ho : o.op = .call { callee := .builtin .append, args := #[s, q], argTypes := #[22, 22] })
    (base : Nat) (v : Value) (hs : List (List Int)) (x y : Int) (hv : a.eval s = v) (hh : Lay w base v hs) (hb : base ≤ w.heap.size) (hx : a.eval q = .slice (some ⟨w.heap.size + 1, 0, none⟩) 1 1) (hn : hs.length ≤ 99999)
    (h : ∀ A' cap w', Lay w' base (.slice A' (hs.length + 1) cap) (hs ++ [[x, y]]) → (∀ w0, Below base w0 w → Below base w0 w') → (∀ mv ms, Lay w base mv ms → Apart v mv → Lay w' base mv ms ∧ Apart (.slice A' (hs.length + 1) cap) mv) → wpList Try.prog ops Q rest (a.put o.dst (.slice A' (hs.length + 1) cap)) w') :
    wpList Try.prog ops Q (o :: rest) a ((w.alloc (.cells #[.int .i64 x, .int .i64 y] 3)).alloc (.cells #[.slice (some ⟨w.heap.size, 0, none⟩) 2 2] 23)) := by
  refine wpList_append_lay _ hw s q ho base v hs hv ((hh.alloc _).alloc _) (by simp; omega) (some ⟨w.heap.size + 1, 0, none⟩) 1 [[x, y]] hx [.slice (some ⟨w.heap.size, 0, none⟩) 2 2] rfl (laid_clause w x y).1 (laid_clause w x y).2 (by simp; omega) fun A' cap w' h1 h2 h3 => ?_
  simp only [List.length_append, List.length_cons, List.length_nil] at h1 h3 ⊢
  refine h A' cap w' h1 (fun w0 hw0 => ((hw0.alloc hb _).alloc (by simp; omega) _).trans h2) fun mv ms hm ha => h3 mv ms ((hm.alloc _).alloc _) ha

set_option maxRecDepth 100000 in
set_option maxHeartbeats 1000000 in
theorem rupChains_any {w : World} {x y z : Int} (hx : i64 x) (hy : i64 y) (hz : i64 z) :
    Calls Try.prog 7 #[.int .i64 x, .int .i64 y, .int .i64 z] w fun e w' => e = .returned (.bool true) ∧ Below w.heap.size w w' := by
  have Hxyz := Lib.hid (show i64 x ∧ i64 y ∧ i64 z from ⟨hx, hy, hz⟩)
  clear hx hy hz
  obtain ⟨n, hn, hn1, hn2⟩ : ∃ n : Int, 2 + x % 60 = n ∧ 2 ≤ n ∧ n ≤ 61 := ⟨_, rfl, by have := Int.emod_nonneg x (show (60 : Int) ≠ 0 by omega); omega, by have := Int.emod_lt_of_pos x (show (0 : Int) < 60 by omega); omega⟩
  obtain ⟨g, hg, hg1, hg2⟩ : ∃ g : Int, y % (n - 1) = g ∧ 0 ≤ g ∧ g ≤ n - 2 := ⟨_, rfl, Int.emod_nonneg y (by omega), by have := Int.emod_lt_of_pos y (show (0 : Int) < n - 1 by omega); omega⟩
  obtain ⟨t, ht, ht1, ht2⟩ : ∃ t : Int, z % n = t ∧ 0 ≤ t ∧ t ≤ n - 1 := ⟨_, rfl, Int.emod_nonneg z (by omega), by have := Int.emod_lt_of_pos z (show (0 : Int) < n by omega); omega⟩
  obtain ⟨p, hp, hpn⟩ : ∃ p : Int, x % 60 = p ∧ 2 + p = n := ⟨_, rfl, hn⟩
  have Hp := Lib.hid hp
  have Hg := Lib.hid hg
  have Ht := Lib.hid ht
  have Hpn := Lib.hid hpn
  have hp1 : 0 ≤ p := by omega
  have hp2 : p ≤ 59 := by omega
  clear hp hg ht hn hpn
  go_enter Try.func7, Try.ntmps7
  go_wp2_with fail
  refine (known_any _).mono ?_
  rintro e w1 ⟨rfl, hb1⟩
  have Hbel := Lib.hid hb1
  clear hb1
  go_wp2_with fail
  refine (place_any x 60 _ Hxyz.out.1 (by omega) (by omega)).mono ?_
  rintro e w2 ⟨rfl, rfl⟩
  rw [Hp.out]
  go_wp2_with fail
  rw [Hpn.out]
  refine (place_any y (n - 1) _ Hxyz.out.2.1 (by omega) (by omega)).mono ?_
  rintro e w2 ⟨rfl, rfl⟩
  rw [Hg.out]
  clear Hp Hpn
  go_wp2_with fail
  go_loopw [7, 8, 9] (fun lv mv iv wr => ∃ r : Nat, (r : Int) + 1 ≤ n ∧ iv = .int .i64 ((r : Int) + 1) ∧ CR w n t g r lv mv wr) (fun _ _ iv _ => 100 - (intOf iv).toNat)
  case atStart => exact ⟨0, by omega, rfl, Lay.nil _ _, Lay.nil _ _, by simp [Apart, Value.ownBlock], Hbel.out⟩
  case round =>
    obtain ⟨r, hr, rfl, hcr⟩ := hrel
    have Hcr := Lib.hid hcr
    clear hcr Hbel
    by_cases hlt : (r : Int) + 1 < n
    · obtain ⟨q, hq, hq1, hq2⟩ : ∃ q : Int, ((r : Int) + 1 + t) % (n - 1) = q ∧ 0 ≤ q ∧ q ≤ n - 2 := ⟨_, rfl, Int.emod_nonneg _ (by omega), by have := Int.emod_lt_of_pos ((r : Int) + 1 + t) (show (0 : Int) < n - 1 by omega); omega⟩
      have hk : kk n t (r + 1) = 1 + q := by
        unfold kk
        push_cast
        omega
      have hqt : ((r : Int) + 1 + t).tmod (n - 1) = q := by rw [Int.tmod_eq_emod_of_nonneg (by omega)]; exact hq
      have Hnext : Hid (chain n t (r + 1) = chain n t r ++ [[-(1 + q), 1 + q + 1]] ∧ broken n t g (r + 1) = if q = g then broken n t g r else broken n t g r ++ [[1 + q + 1, -(1 + q)]]) := Lib.hid ⟨by rw [← hk]; rfl, by
        rw [← hk]
        simp only [broken]
        rw [hk, show 1 + q - 1 = q by omega]⟩
      clear hk
      obtain ⟨Al, cl, rfl⟩ := Hcr.out.l.shape
      obtain ⟨Am, cm, rfl⟩ := Hcr.out.m.shape
      have Hlen : Hid ((chain n t r).length ≤ 61 ∧ (broken n t g r).length ≤ 61) := Lib.hid ⟨by rw [chain_len]; omega, by have := broken_len n t g r; omega⟩
      have Hl := Lib.hid Hcr.out.l
      have Hm := Lib.hid Hcr.out.m
      have Hap := Lib.hid Hcr.out.apart
      have Hbel := Lib.hid Hcr.out.below
      have Hsz := Lib.hid Hcr.out.below.size
      have Hrel : Hid (∀ lv' mv' w', Lay w' w.heap.size lv' (chain n t (r + 1)) → Lay w' w.heap.size mv' (broken n t g (r + 1)) → Apart lv' mv' → Below w.heap.size w w' → CR w n t g (r + 1) lv' mv' w') := Lib.hid (fun lv' mv' w' a b c d => ⟨a, b, c, d⟩)
      rw [Hnext.out.1, Hnext.out.2] at Hrel
      clear Hcr Hnext
      generalize chain n t r = cs at *
      generalize broken n t g r = bs at *
      have hcs := Hlen.out.1
      have hbs := Hlen.out.2
      by_cases hqg : q = g
      · rw [if_pos hqg] at Hrel
        subst hqg
        go_wp2_with fail
        refine (place_any z n _ Hxyz.out.2.2 (by omega) (by omega)).mono ?_
        rintro e w2 ⟨rfl, rfl⟩
        rw [Ht.out]
        go_wp2_with (at_builtin; refine wpList_append_clause wr rfl _ _ rfl w.heap.size (.slice Al cs.length cl) cs (-(1 + q)) (1 + q + 1) rfl Hl.out Hsz.out rfl (by omega) ?_; intro A1 c1 w3 k1 k2 k3; have Hl3 := Lib.hid k1; have Hb3 := Lib.hid (k2 _ Hbel.out); have Hm3 := Lib.hid (k3 _ _ Hm.out Hap.out); clear k1 k2 k3)
        go_roundw
        case rel => exact ⟨r + 1, by omega, by go_num, Hrel.out _ _ _ Hl3.out Hm3.out.1 Hm3.out.2 Hb3.out⟩
        case measure => simp [intOf]; omega
      · rw [if_neg hqg] at Hrel
        have hne : (1 + q - 1 == g) = false := by simp; omega
        go_wp2_with fail
        refine (place_any z n _ Hxyz.out.2.2 (by omega) (by omega)).mono ?_
        rintro e w2 ⟨rfl, rfl⟩
        rw [Ht.out]
        go_wp2_with (first
          | (at_builtin; refine wpList_append_clause w3 rfl _ _ rfl w.heap.size (.slice Am bs.length cm) bs (1 + q + 1) (-(1 + q)) rfl Hm3.out.1 Hb3.out.size rfl (by omega) ?_; intro A2 c2 w4 k1 k2 k3; have Hm4 := Lib.hid k1; have Hb4 := Lib.hid (k2 _ Hb3.out); have Hl4 := Lib.hid (k3 _ _ Hl3.out Hm3.out.2.symm); clear k1 k2 k3)
          | (at_builtin; refine wpList_append_clause wr rfl _ _ rfl w.heap.size (.slice Al cs.length cl) cs (-(1 + q)) (1 + q + 1) rfl Hl.out Hsz.out rfl (by omega) ?_; intro A1 c1 w3 k1 k2 k3; have Hl3 := Lib.hid k1; have Hb3 := Lib.hid (k2 _ Hbel.out); have Hm3 := Lib.hid (k3 _ _ Hm.out Hap.out); clear k1 k2 k3))
        go_roundw
        case rel => exact ⟨r + 1, by omega, by go_num, Hrel.out _ _ _ Hl4.out.1 Hm4.out Hl4.out.2.symm Hb4.out⟩
        case measure => simp [intOf]; omega
    · have hr2 : (n - 1).toNat = r := by omega
      have Hf1 : Hid (true = true ↔ Fol (chain n t r) [-1, n]) := Lib.hid (by have := chain_fol (t := t) hn1 (by omega); rw [hr2] at this; simpa using this)
      have Hf2 : Hid (true = true ↔ Fol (chain n t r ++ [[1], [-n]]) []) := Lib.hid (by have := chain_fol2 (t := t) hn1 (by omega); rw [hr2] at this; simpa using this)
      have Hf3 : Hid (false = true ↔ Fol (broken n t g r) [-1, n]) := Lib.hid (by have := broken_not (t := t) hn1 (by omega) hg1 hg2 r; simpa using this)
      have Hwf : Hid ((∀ d ∈ chain n t r, ∀ x ∈ d, i64 x) ∧ (∀ d ∈ broken n t g r, ∀ x ∈ d, i64 x) ∧ (∀ d ∈ chain n t r ++ [[1], [-n]], ∀ x ∈ d, i64 x) ∧ (∀ x ∈ [-1, n], i64 x)) := Lib.hid ⟨chain_wf hn1 (by omega) r, broken_wf hn1 (by omega) r, fun d hd x hx => by
        simp only [List.mem_append, List.mem_cons, List.not_mem_nil, or_false] at hd
        rcases hd with hd | rfl | rfl
        · exact chain_wf hn1 (by omega) r d hd x hx
        · simp at hx; subst hx; constructor <;> omega
        · simp at hx; subst hx; constructor <;> omega, fun x hx => by
        simp at hx
        rcases hx with rfl | rfl <;> constructor <;> omega⟩
      have Hlen : Hid (((chain n t r).length < 100000 ∧ (chain n t r).flatten.length < 100000) ∧ ((broken n t g r).length < 100000 ∧ (broken n t g r).flatten.length < 100000) ∧ ((chain n t r ++ [[1], [-n]]).length < 100000 ∧ (chain n t r ++ [[1], [-n]]).flatten.length < 100000) ∧ ([-1, n] : List Int).length < 100000 ∧ ([] : List Int).length < 100000) := Lib.hid (by
        have h1 := chain_len n t r
        have h2 := chain_flat n t r
        have h3 := broken_len n t g r
        have h4 := broken_flat n t g r
        simp only [List.length_append, List.flatten_append, List.length_cons, List.length_nil, List.flatten_cons, List.flatten_nil]
        omega)
      obtain ⟨Al, cl, rfl⟩ := Hcr.out.l.shape
      obtain ⟨Am, cm, rfl⟩ := Hcr.out.m.shape
      have Hl := Lib.hid Hcr.out.l
      have Hm := Lib.hid Hcr.out.m
      have Hbel := Lib.hid Hcr.out.below
      clear Hcr hr2
      generalize chain n t r = cs at *
      generalize broken n t g r = bs at *
      go_wp2_with fail
      refine (follows_is (l := cs) (c := [-1, n]) (b := true) rfl rfl (Hl.out.alloc _).rows.2 (ints_new wr [-1, n]).at_ Hwf.out.1 Hwf.out.2.2.2 Hlen.out.1.1 Hlen.out.1.2 Hlen.out.2.2.2.1 (by simpa using Hf1.out)).mono ?_
      rintro e w5 ⟨rfl, hb5⟩
      have Hl5 := Lib.hid ((Hl.out.alloc _).below hb5)
      have Hm5 := Lib.hid ((Hm.out.alloc _).below hb5)
      have Hb5 := Lib.hid ((Hbel.out.alloc Hbel.out.size _).trans (hb5.mono (by have := Hbel.out.size; simp; omega)))
      clear hb5 Hl Hm Hbel
      go_wp2_with fail
      refine (follows_is (l := bs) (c := [-1, n]) (b := false) rfl rfl (Hm5.out.alloc _).rows.2 (ints_new w5 [-1, n]).at_ Hwf.out.2.1 Hwf.out.2.2.2 Hlen.out.2.1.1 Hlen.out.2.1.2 Hlen.out.2.2.2.1 (by simpa using Hf3.out)).mono ?_
      rintro e w6 ⟨rfl, hb6⟩
      have Hl6 := Lib.hid ((Hl5.out.alloc _).below hb6)
      have Hb6 := Lib.hid ((Hb5.out.alloc Hb5.out.size _).trans (hb6.mono (by have := Hb5.out.size; simp; omega)))
      clear hb6 Hl5 Hm5 Hb5
      have hcs : cs.length + 2 ≤ 100000 := by
        have := Hlen.out.2.2.1.1
        simp at this
        omega
      obtain ⟨W, hW⟩ : ∃ W, W = ((w6.alloc (.cells #[.int .i64 1] 3)).alloc (.cells #[.int .i64 (-n)] 3)).alloc (.cells #[.slice (some ⟨w6.heap.size, 0, none⟩) 1 1, .slice (some ⟨w6.heap.size + 1, 0, none⟩) 1 1] 23) := ⟨_, rfl⟩
      have Hlaid : Hid (Lay W w.heap.size (.slice Al cs.length cl) cs ∧ Below w.heap.size w W ∧ Cells W (some ⟨w6.heap.size + 1 + 1, 0, none⟩) [.slice (some ⟨w6.heap.size, 0, none⟩) 1 1, .slice (some ⟨w6.heap.size + 1, 0, none⟩) 1 1] ∧
          ∀ (j : Nat) (u : Value) (d : List Int), [Value.slice (some ⟨w6.heap.size, 0, none⟩) 1 1, .slice (some ⟨w6.heap.size + 1, 0, none⟩) 1 1][j]? = some u → [[1], [-n]][j]? = some d → RowIn W u d) := Lib.hid (by
        subst hW
        refine ⟨((Hl6.out.alloc _).alloc _).alloc _, ((Hb6.out.alloc Hb6.out.size _).alloc (by have := Hb6.out.size; simp; omega) _).alloc (by have := Hb6.out.size; simp; omega) _, .inr ⟨_, 0, rfl, fun j u hj => ?_⟩, fun j u d hu hd => ?_⟩
        · have h := cell_of_row _ _ (0 + j) _ 23 (0, 0) (heap_alloc_new ((w6.alloc (.cells #[.int .i64 1] 3)).alloc (.cells #[.int .i64 (-n)] 3)) (.cells #[.slice (some ⟨w6.heap.size, 0, none⟩) 1 1, .slice (some ⟨w6.heap.size + 1, 0, none⟩) 1 1] 23))
          rw [show ((w6.alloc (.cells #[.int .i64 1] 3)).alloc (.cells #[.int .i64 (-n)] 3)).heap.size = w6.heap.size + 1 + 1 by simp] at h
          rw [h]
          simpa using hj
        · match j, hu, hd with
          | 0, hu, hd =>
            simp at hu hd
            subst hu hd
            exact ((RowIn.new w6 [1]).below ((Below.refl _ _).alloc (Nat.le_refl _) _)).below ((Below.refl _ _).alloc (Nat.le_refl _) _)
          | 1, hu, hd =>
            simp at hu hd
            subst hu hd
            have := (RowIn.new (w6.alloc (.cells #[.int .i64 1] 3)) [-n]).below ((Below.refl _ _).alloc (Nat.le_refl _) (.cells #[.slice (some ⟨w6.heap.size, 0, none⟩) 1 1, .slice (some ⟨w6.heap.size + 1, 0, none⟩) 1 1] 23))
            simpa using this
          | j + 2, hu, hd => simp at hu)
      have HW := Lib.hid hW
      clear hW Hl6 Hb6
      go_wp2_with (at_builtin; rw [← HW.out]; refine wpList_append_lay W rfl _ _ rfl w.heap.size (.slice Al cs.length cl) cs rfl Hlaid.out.1 Hlaid.out.2.1.size (some ⟨w6.heap.size + 1 + 1, 0, none⟩) 2 [[1], [-n]] rfl [.slice (some ⟨w6.heap.size, 0, none⟩) 1 1, .slice (some ⟨w6.heap.size + 1, 0, none⟩) 1 1] rfl Hlaid.out.2.2.1 Hlaid.out.2.2.2 hcs ?_; intro A7 c7 w7 k1 k2 k3; have Hl7 := Lib.hid k1; have Hb7 := Lib.hid (Hlaid.out.2.1.trans k2); clear k1 k2 k3)
      refine (follows_is (l := cs ++ [[1], [-n]]) (c := []) (b := true) (by simp) rfl Hl7.out.rows.2 (intsAt_nil _) Hwf.out.2.2.1 (by simp) Hlen.out.2.2.1.1 Hlen.out.2.2.1.2 (by simp) (by simpa using Hf2.out)).mono ?_
      rintro e w8 ⟨rfl, hb8⟩
      have Hb8 := Lib.hid (Hb7.out.trans (hb8.mono Hb7.out.size))
      go_wp2_with fail
      go_ret
      exact ⟨rfl, Hb8.out⟩
end Go.Proofs.Ytmfgdemgepkggaa
