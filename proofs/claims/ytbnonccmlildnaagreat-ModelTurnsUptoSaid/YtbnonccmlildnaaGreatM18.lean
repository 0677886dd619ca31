/- Mul. -/
import Derived.Test.YtbnonccmlildnaaGreatM17
import Derived.Laws.OwnMore
set_option linter.unusedSimpArgs false
set_option linter.unusedVariables false
namespace Go.Proofs.YtbnonccmlildnaaGreat
open Go.RowKit Go.Lib

theorem row_step {x n : Nat} {es orest rd R : List Nat} {k : Nat} (h : R = rd ++ rowC 4294967296 x (es.drop k) orest n) (hk : k < es.length) :
    R = (rd ++ [(n + (x * es[k]?.getD 0 + orest.headD 0)) % 4294967296]) ++ rowC 4294967296 x (es.drop (k + 1)) orest.tail ((n + (x * es[k]?.getD 0 + orest.headD 0)) / 4294967296) := by
  rw [h, List.drop_eq_getElem_cons hk, rowC, List.getElem?_eq_getElem hk]
  simp
theorem zeros_dig (n m : Nat) : List.map digV (([] : List Nat) ++ List.replicate m 0 ++ List.replicate n 0) = List.replicate ((n + m) * 1) (Value.int .u32 0) := by
  simp only [List.nil_append, List.replicate_append_replicate, List.map_replicate, digV, Nat.mul_one, Nat.add_comm n m]
  rfl
/-- One digit of a row of the call's own turned. -/
theorem own_set {w : World} {base g n c : Nat} {p q : List Nat} {x : Nat} (h : w.ownsRow base 131 1 (.slice (some ⟨g, 0, none⟩) n c) n ((p ++ x :: q).map digV)) {i : Nat} (hi : p.length = i) (y : Nat) :
    (w.setCell ⟨g, i, none⟩ (digV y)).ownsRow base 131 1 (.slice (some ⟨g, 0, none⟩) n c) n ((p ++ y :: q).map digV) := by
  have h2 := (h.stored i (digV y)).1
  rw [show (p ++ y :: q).map digV = ((p ++ x :: q).map digV).set i (digV y) by subst hi; simp [List.set_append]]
  exact h2
theorem own_get {w : World} {base g n c : Nat} {p q : List Nat} {x : Nat} (h : w.ownsRow base 131 1 (.slice (some ⟨g, 0, none⟩) n c) n ((p ++ x :: q).map digV)) {i : Nat} (hi : p.length = i) (hn : i < n) : w.cell? ⟨g, i, none⟩ = some (.int .u32 (x : Int)) := by
  rw [h.cellAt i (by omega)]
  subst hi
  simp [digV]
theorem mul_num {n x y o : Nat} (hx : x < 4294967296) (hy : y < 4294967296) (ho : o < 4294967296) (hn : n < 4294967296) : IntKind.u64.wrap ((n : Int) + IntKind.u64.wrap (IntKind.u64.wrap ((x : Int) * (y : Int)) + (o : Int))) = ((n + (x * y + o) : Nat) : Int) := by
  have h1 := mul32 hx hy
  rw [← Int.natCast_mul, IntWalk.u64_in ((x * y : Nat) : Int) (by omega), ← Int.natCast_add, IntWalk.u64_in ((x * y + o : Nat) : Int) (by omega), ← Int.natCast_add, IntWalk.u64_in _ (by omega)]
theorem mul_signed {z y : Int} {b b' : Bool} (h : decide (z < 0) = b) (h' : decide (y < 0) = b') : signed (!(b == b')) (z.natAbs * y.natAbs) = z * y := by
  subst h h'
  by_cases e : z < 0 <;> by_cases e' : y < 0
  · obtain ⟨n, rfl⟩ : ∃ n : Nat, z = -(n : Int) := ⟨z.natAbs, by omega⟩
    obtain ⟨m, rfl⟩ : ∃ m : Nat, y = -(m : Int) := ⟨y.natAbs, by omega⟩
    rw [decide_eq_true e, decide_eq_true e']
    show ((_ : Nat) : Int) = _
    rw [Int.natAbs_neg, Int.natAbs_neg, Int.natAbs_natCast, Int.natAbs_natCast, Int.natCast_mul, Int.neg_mul_neg]
  · obtain ⟨n, rfl⟩ : ∃ n : Nat, z = -(n : Int) := ⟨z.natAbs, by omega⟩
    obtain ⟨m, rfl⟩ : ∃ m : Nat, y = (m : Int) := ⟨y.natAbs, by omega⟩
    rw [decide_eq_true e, decide_eq_false e']
    show -((_ : Nat) : Int) = _
    rw [Int.natAbs_neg, Int.natAbs_natCast, Int.natAbs_natCast, Int.natCast_mul, Int.neg_mul]
  · obtain ⟨n, rfl⟩ : ∃ n : Nat, z = (n : Int) := ⟨z.natAbs, by omega⟩
    obtain ⟨m, rfl⟩ : ∃ m : Nat, y = -(m : Int) := ⟨y.natAbs, by omega⟩
    rw [decide_eq_false e, decide_eq_true e']
    show -((_ : Nat) : Int) = _
    rw [Int.natAbs_neg, Int.natAbs_natCast, Int.natAbs_natCast, Int.natCast_mul, Int.mul_neg]
  · obtain ⟨n, rfl⟩ : ∃ n : Nat, z = (n : Int) := ⟨z.natAbs, by omega⟩
    obtain ⟨m, rfl⟩ : ∃ m : Nat, y = (m : Int) := ⟨y.natAbs, by omega⟩
    simp [signed, e, e']
theorem zeros_val (m : Nat) : dval 4294967296 (List.replicate m 0) = 0 := by
  induction m with
  | zero => rfl
  | succ m ih => simp [List.replicate_succ, dval, ih]
set_option maxRecDepth 100000 in
set_option maxHeartbeats 1000000 in
theorem mul_ex {w : World} {v u : Value} {z y : Int} {k : Nat} (h : NumAt w v z) (hu : NumAt w u y) (hz : z.natAbs < 4294967296 ^ k) (hy : y.natAbs < 4294967296 ^ k) (hk : k ≤ 10000000000000) :
    Calls Tryz.prog 38 #[v, u] w fun e w' => ∃ v, e = .returned v ∧ NumAt w' v (z * y) ∧ Below w.heap.size w w' := by
  obtain ⟨A, c, ds, rfl, hc, hd, h1, h2, h3⟩ := h
  obtain ⟨B, c', es, rfl, hc', he, g1, g2, g3⟩ := hu
  have hl := len_of h2 h3 hz
  have hl' := len_of g2 g3 hy
  generalize hn : ds.length = n at *
  generalize hm : es.length = m at *
  generalize hbz : decide (z < 0) = b at *
  generalize hby : decide (y < 0) = b' at *
  have Hbz := Lib.hid hbz
  have Hby := Lib.hid hby
  clear hbz hby
  have hw0 : Below w.heap.size w (((w.alloc (.cells #[.slice A n c, .bool b] 89)).alloc (.cells #[.slice B m c', .bool b'] 89)).alloc (.cells #[.slice none 0 0, .bool false] 89)) := (((Below.refl _ _).alloc (Nat.le_refl _) _).alloc (by simp) _).alloc (by simp; omega) _
  obtain ⟨hr0, hr1, hr2, hsz⟩ := three_rows w (.cells #[.slice A n c, .bool b] 89 (0, 0)) (.cells #[.slice B m c', .bool b'] 89 (0, 0)) (.cells #[.slice none 0 0, .bool false] 89 (0, 0))
  have Hw0 := Lib.hid hw0
  have Hr0 := Lib.hid hr0
  have Hr1 := Lib.hid hr1
  have Hr2 := Lib.hid hr2
  have Hsz := Lib.hid hsz
  have H1 := Lib.hid h1
  have H2 := Lib.hid h2
  have H3 := Lib.hid h3
  have G1 := Lib.hid g1
  have G2 := Lib.hid g2
  have G3 := Lib.hid g3
  have HD := Lib.hid hd
  have HE := Lib.hid he
  have Hn := Lib.hid hn
  have Hm := Lib.hid hm
  clear hw0 hr0 hr1 hr2 hsz h1 h2 h3 g1 g2 g3 hd he hn hm hz hy
  go_enter Tryz.func38, Tryz.ntmps38
  obtain ⟨i135, hi, hz0, hz1, hz2⟩ := info_parts info135
  go_wp2_with (at_make; refine wpList_make_full _ rfl _ _ 87 rfl w.heap.size 131 i135 (.int .u32 0) 1 Tryz.underlying87 hi hz0 hz1 .i64 .i64 _ _ (n + m) rfl rfl (by omega) (by omega) (by rw [hz2]; omega) (by unfold maxLen; omega) (by simp; omega) ?_; intro w1 hown hgrow; have Hown := Lib.hid hown; have hb1 := (Below.refl _ _).grown hgrow (Nat.le_refl _) (fun g hg => by cases hg); obtain ⟨x0, x1⟩ := num_cells ((hb1.block _ (by have := Hsz.out; omega)).trans Hr0.out); obtain ⟨y0, y1⟩ := num_cells ((hb1.block _ (by have := Hsz.out; omega)).trans Hr1.out); have HB1 := Lib.hid hb1; clear hown hgrow hb1)
  have HO : Hid (w1.ownsRow w.heap.size 131 1 (.slice (some ⟨w.heap.size + 1 + 1 + 1, 0, none⟩) (n + m) (n + m)) (n + m) ((([] : List Nat) ++ List.replicate m 0 ++ List.replicate n 0).map digV)) := Lib.hid (by
    have h := Hown.out
    simp only [Value.cells, Go.toList_madeCells_one] at h
    rw [zeros_dig]
    have e : (((w.alloc (.cells #[.slice A n c, .bool b] 89)).alloc (.cells #[.slice B m c', .bool b'] 89)).alloc (.cells #[.slice none 0 0, .bool false] 89)).heap.size = w.heap.size + 1 + 1 + 1 := by simp
    rwa [e] at h)
  clear Hown
  have Hk := Lib.hid hk
  go_loopw [22] (fun iv wr => ∃ (i : Nat) (done o : List Nat), iv = .int .i64 (i : Int) ∧ i ≤ n ∧ Hid (done.length = i ∧ o.length = m) ∧ Hid (okD 4294967296 o) ∧ Hid (mulC 4294967296 ds es (List.replicate m 0) = done ++ mulC 4294967296 (ds.drop i) es o) ∧ Hid (wr.ownsRow w.heap.size 131 1 (.slice (some ⟨w.heap.size + 1 + 1 + 1, 0, none⟩) (n + m) (n + m)) (n + m) ((done ++ o ++ List.replicate (n - i) 0).map digV)) ∧ Hid (Below (w.heap.size + 3) w1 wr)) (fun iv _ => n - (intOf iv).toNat)
  case atStart => exact ⟨0, [], List.replicate m 0, rfl, by omega, Lib.hid ⟨rfl, by simp⟩, Lib.hid (fun x hx => by rw [List.eq_of_mem_replicate hx]; omega), Lib.hid rfl, HO, Lib.hid (Below.refl _ _)⟩
  case round =>
    clear HO
    obtain ⟨i, done, o, rfl, hin, Hl, Hoo, HM, HW, HB⟩ := hrel
    have hwr1 : Below w.heap.size w wr := (Hw0.out.trans (HB1.out.mono (by have := Hsz.out; omega))).trans (HB.out.mono (by omega))
    have Hwr1 := Lib.hid hwr1
    have Hrow0 : ∀ wq, Below (w.heap.size + 3) w1 wq → wq.heap[w.heap.size]? = some (.cells #[.slice A n c, .bool b] 89 (0, 0)) ∧ wq.heap[w.heap.size + 1]? = some (.cells #[.slice B m c', .bool b'] 89 (0, 0)) := fun wq hq => ⟨(hq.block _ (by omega)).trans ((HB1.out.block _ (by have := Hsz.out; omega)).trans Hr0.out), (hq.block _ (by omega)).trans ((HB1.out.block _ (by have := Hsz.out; omega)).trans Hr1.out)⟩
    have HR := Lib.hid Hrow0
    clear hwr1 Hrow0 x0 x1 y0 y1
    obtain ⟨p0, p1⟩ := num_cells (HR.out _ HB.out).1
    obtain ⟨q0, q1⟩ := num_cells (HR.out _ HB.out).2
    by_cases hlt : i < n
    · obtain ⟨g1, rfl, hg1, hcx0⟩ := HD.out.at (i := i) (by have := Hn.out; omega)
      have hcx : wr.cell? ⟨g1, i, none⟩ = some (.int .u32 ((ds[i]?.getD 0 : Nat) : Int)) := cell_of_below Hwr1.out (Nat.le_refl _) hcx0
      have hxl := okD_getD (B := 4294967296) (by omega) H1.out i
      have HM2 : Hid (mulC 4294967296 (ds.drop i) es o = (rowC 4294967296 (ds[i]?.getD 0) es o 0).headD 0 :: mulC 4294967296 (ds.drop (i + 1)) es (rowC 4294967296 (ds[i]?.getD 0) es o 0).tail) := Lib.hid (by
        have hi : i < ds.length := by have := Hn.out; omega
        rw [List.drop_eq_getElem_cons hi, mulC, List.getElem?_eq_getElem hi]; rfl)
      generalize ds[i]?.getD 0 = x at *
      have Hxl := Lib.hid hxl
      clear hcx0 hxl
      go_wp2_with fail
      go_loopw [8, 30] (fun nv kv wq => ∃ (k nn : Nat) (rd orest : List Nat), kv = .int .i64 (k : Int) ∧ nv = .int .u64 (nn : Int) ∧ k ≤ m ∧ Hid (nn < 4294967296) ∧ Hid (rd.length = k ∧ k + orest.length = m) ∧ Hid (okD 4294967296 orest) ∧ Hid (rowC 4294967296 x es o 0 = rd ++ rowC 4294967296 x (es.drop k) orest nn) ∧ Hid (wq.ownsRow w.heap.size 131 1 (.slice (some ⟨w.heap.size + 1 + 1 + 1, 0, none⟩) (n + m) (n + m)) (n + m) ((done ++ rd ++ orest ++ List.replicate (n - i) 0).map digV)) ∧ Hid (Below (w.heap.size + 3) w1 wq)) (fun _ kv _ => m - (intOf kv).toNat)
      case atStart => exact ⟨0, 0, [], o, rfl, rfl, by omega, Lib.hid (by omega), Lib.hid ⟨rfl, by have := Hl.out.2; omega⟩, Hoo, Lib.hid rfl, Lib.hid (by have := HW.out; simpa using this), HB⟩
      case round =>
        obtain ⟨k, nn, rd, orest, rfl, rfl, hkm, Hnn, Hrl, Hor, HRC, HQ, HBq⟩ := hrel
        clear p0 p1 q0 q1 hcx
        by_cases hkl : k < m
        · obtain ⟨g2, rfl, hg2, hcy0⟩ := HE.out.at (i := k) (by have := Hm.out; omega)
          have hwq : Below w.heap.size w _ := (Hw0.out.trans (HB1.out.mono (by have := Hsz.out; omega))).trans (HBq.out.mono (by omega))
          have hcy := cell_of_below hwq (Nat.le_refl _) hcy0
          have hyl := okD_getD (B := 4294967296) (by omega) G1.out k
          have HR2 := Lib.hid (row_step HRC.out (by have := Hm.out; omega))
          cases orest with
          | nil => exact absurd Hrl.out.2 (by simp; omega)
          | cons o0 orest =>
          simp only [List.headD_cons, List.tail_cons] at HR2
          have hlen : k + 1 + orest.length = m := by have h5 := Hrl.out.2; rw [List.length_cons] at h5; omega
          generalize es[k]?.getD 0 = yv at *
          have hol : o0 < 4294967296 := Hor.out o0 (by simp)
          have hidx : (done ++ rd).length = i + k := by simp [Hl.out.1, Hrl.out.1]
          have hco := own_get (p := done ++ rd) (q := orest ++ List.replicate (n - i) 0) (x := o0) (by have := HQ.out; simpa using this) hidx (by omega)
          have hfz := HQ.out.frozenAt (i + k)
          have hnum := mul_num (n := nn) Hxl.out hyl hol Hnn.out
          have hx1 : IntKind.u64.wrap (x : Int) = (x : Int) := IntWalk.u64_in _ (by have := Hxl.out; omega)
          have hy1 : IntKind.u64.wrap (yv : Int) = (yv : Int) := IntWalk.u64_in _ (by omega)
          have ho1 : IntKind.u64.wrap (o0 : Int) = (o0 : Int) := IntWalk.u64_in _ (by omega)
          have hcar := row_carry (B := 4294967296) Hxl.out hyl hol Hnn.out
          have Hcar := Lib.hid hcar.1
          obtain ⟨s, hs⟩ : ∃ s, s = nn + (x * yv + o0) := ⟨_, rfl⟩
          rw [← hs] at hnum HR2 Hcar
          clear hwq hcy0 hyl hol hcar hs
          go_wp2_with fail
          go_roundw
          case rel =>
            refine ⟨k + 1, s / 4294967296, rd ++ [s % 4294967296], orest, by go_num, by simp, by omega, Hcar, Lib.hid ⟨by simp [Hrl.out.1], hlen⟩, Lib.hid fun t ht => Hor.out t (by simp [ht]), HR2, Lib.hid ?_, Lib.hid (HBq.out.setCell (show w.heap.size + 3 ≤ w.heap.size + 1 + 1 + 1 by omega) _)⟩
            have h := own_set (p := done ++ rd) (q := orest ++ List.replicate (n - i) 0) (x := o0) (by have := HQ.out; simpa using this) hidx (s % 4294967296)
            simpa [digV] using h
          case measure => simp [intOf]; omega
        · obtain ⟨q0, q1⟩ := num_cells (HR.out _ HBq.out).2
          obtain ⟨p0, p1⟩ := num_cells (HR.out _ HBq.out).1
          have hkm2 : k = m := by omega
          subst hkm2
          have hnil : orest = [] := List.length_eq_zero_iff.1 (by have := Hrl.out.2; omega)
          subst hnil
          obtain ⟨j, hj⟩ : ∃ j, n - i = j + 1 := ⟨n - i - 1, by omega⟩
          have hidx : (done ++ rd).length = i + k := by simp [Hl.out.1, Hrl.out.1]
          have hQ2 := HQ.out
          rw [hj, List.replicate_succ, List.append_nil] at hQ2
          have HQ2 := Lib.hid hQ2
          have hfz := HQ.out.frozenAt (i + k)
          have hco := own_get (p := done ++ rd) (q := List.replicate j 0) (x := 0) (by simpa using hQ2) hidx (by omega)
          clear hQ2 HQ
          go_wp2_with fail
          go_roundw
          case rel =>
            have hrow : rowC 4294967296 x es o 0 = rd ++ [nn] := by
              rw [HRC.out, List.drop_of_length_le (by have := Hm.out; omega), rowC]
            have hrl : (rowC 4294967296 x es o 0).length = k + 1 := by rw [hrow]; simp [Hrl.out.1]
            have hset := own_set (p := done ++ rd) (q := List.replicate j 0) (x := 0) (by simpa using HQ2.out) hidx nn
            obtain ⟨h0, tl, hcons⟩ : ∃ h0 tl, rowC 4294967296 x es o 0 = h0 :: tl := by
              cases e : rowC 4294967296 x es o 0 with
              | nil => rw [e] at hrl; simp at hrl
              | cons a t => exact ⟨a, t, rfl⟩
            refine ⟨i + 1, done ++ [h0], tl, by go_num, by omega, Lib.hid ⟨by simp [Hl.out.1], by rw [hcons] at hrl; simpa using hrl⟩, Lib.hid fun t ht => rowC_ok Hxl.out es o 0 G1.out Hoo.out (by omega) t (by rw [hcons]; simp [ht]), Lib.hid ?_, Lib.hid ?_, Lib.hid (HBq.out.setCell (show w.heap.size + 3 ≤ w.heap.size + 1 + 1 + 1 by omega) _)⟩
            · rw [HM.out, HM2.out, hcons]; simp
            · have e1 : done ++ rd ++ nn :: List.replicate j 0 = done ++ [h0] ++ tl ++ List.replicate (n - (i + 1)) 0 := by
                have : rd ++ [nn] = h0 :: tl := by rw [← hrow, hcons]
                rw [show n - (i + 1) = j by omega]
                have e2 : done ++ rd ++ nn :: List.replicate j 0 = done ++ (rd ++ [nn]) ++ List.replicate j 0 := by simp
                rw [e2, this]; simp
              rw [← e1, show ((nn : Int) % 4294967296) = (nn : Int) from Int.emod_eq_of_lt (by omega) (by have := Hnn.out; omega)]
              simpa [digV] using hset
          case measure => simp [intOf]; omega
    · have hin2 : i = n := by omega
      subst hin2
      have hL : mulC 4294967296 ds es (List.replicate m 0) = done ++ o := by
        rw [HM.out, List.drop_of_length_le (by have := Hn.out; omega)]; rfl
      have hat : DigAt wr (some ⟨w.heap.size + 1 + 1 + 1, 0, none⟩) (done ++ o) ∧ (done ++ o).length = i + m := by
        have h := HW.out
        rw [Nat.sub_self, List.replicate_zero, List.append_nil] at h
        have hl : (done ++ o).length = i + m := by simp [Hl.out.1, Hl.out.2]
        rw [← hl] at h
        exact ⟨(DigL.at (show DigL wr w.heap.size (done ++ o) _ from h)).2.2, hl⟩
      rw [← hL] at hat
      have HAT := Lib.hid hat
      clear hat hL HW HM
      have hlen : (List.replicate m 0).length = es.length := by simp [Hm.out]
      have Hmk := Lib.hid (made_ex (neg := !(b == b')) (c := i + m) HAT.out.1 (mulC_ok ds es _ H1.out G1.out (fun x hx => by rw [List.eq_of_mem_replicate hx]; omega) (by omega)) HAT.out.2.symm (by have := HAT.out.2; omega) (by omega))
      have hv : dval 4294967296 (mulC 4294967296 ds es (List.replicate m 0)) = z.natAbs * y.natAbs := by
        rw [mulC_val ds es _ hlen, zeros_val, H3.out, G3.out]; rfl
      rw [hv, mul_signed Hbz.out Hby.out] at Hmk
      obtain ⟨p0, p1⟩ := num_cells ((HB.out.block _ (by omega)).trans ((HB1.out.block _ (by have := Hsz.out; omega)).trans Hr0.out))
      have Hr2w : Hid (wr.heap[w.heap.size + 1 + 1]? = some (.cells #[.slice none 0 0, .bool false] 89 (0, 0))) := Lib.hid ((HB.out.block _ (by omega)).trans ((HB1.out.block _ (by have := Hsz.out; omega)).trans Hr2.out))
      have Hww : Hid (Below w.heap.size w wr) := Lib.hid ((Hw0.out.trans (HB1.out.mono (by have := Hsz.out; omega))).trans (HB.out.mono (by omega)))
      have Hwsz : Hid (w.heap.size + 3 ≤ wr.heap.size) := Lib.hid (by have h1 := HB1.out.size; have h2 := HB.out.size; have h3 := Hsz.out; omega)
      go_wp2_with (go_at_call 66; refine Hmk.out.mono ?_; rintro e w5 ⟨v5, rfl, hv5, hb5⟩; have Hz5 := Lib.hid hv5; obtain ⟨A5, c5, ds5, rfl, _⟩ := hv5; have Hb5 := Lib.hid hb5; have hrw : w5.heap[w.heap.size + 1 + 1]? = some (.cells #[.slice none 0 0, .bool false] 89 (0, 0)) := (hb5.block _ (by have := Hwsz.out; omega)).trans Hr2w.out; have Hrw := Lib.hid hrw; obtain ⟨hf0, hf1, hc0, hc1⟩ := row_facts hrw; clear hb5 hrw; generalize ds5.length = n5 at *; generalize decide (z * y < 0) = b5 at *)
      exact num_ret rfl Hrw.out Hz5.out (Hww.out.trans (Hb5.out.mono Hww.out.size)) (by omega) rfl rfl
end Go.Proofs.YtbnonccmlildnaaGreat
