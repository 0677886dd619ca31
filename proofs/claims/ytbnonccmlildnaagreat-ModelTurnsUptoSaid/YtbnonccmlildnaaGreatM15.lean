/- 'plus': the sum of two rows of digits. -/
import Derived.Test.YtbnonccmlildnaaGreatM14
set_option linter.unusedSimpArgs false
set_option linter.unusedVariables false
namespace Go.Proofs.YtbnonccmlildnaaGreat
open Go.RowKit Go.Lib

theorem headD_drop (l : List Nat) (i : Nat) : (l.drop i).headD 0 = l[i]?.getD 0 := by
  rw [List.headD_eq_head?_getD, List.head?_drop]
theorem okD_getD {B : Nat} (hB : 0 < B) {l : List Nat} (h : okD B l) (i : Nat) : l[i]?.getD 0 < B := by
  cases e : l[i]? with
  | none => simpa using hB
  | some x => exact h x (List.mem_of_getElem? e)
theorem u64_add {a b : Nat} (ha : a < 9223372036854775808) (hb : b < 9223372036854775808) : IntKind.u64.wrap ((a : Int) + (b : Int)) = ((a + b : Nat) : Int) := by
  rw [IntWalk.u64_in _ (by omega)]
  omega
theorem plus_step {ds es done : List Nat} {k c q : Nat} (h : plusC 4294967296 ds es 0 q = done ++ plusC 4294967296 (ds.drop k) (es.drop k) c (q - k)) (hk : k < q) :
    plusC 4294967296 ds es 0 q = (done ++ [(c + ds[k]?.getD 0 + es[k]?.getD 0) % 4294967296]) ++ plusC 4294967296 (ds.drop (k + 1)) (es.drop (k + 1)) ((c + ds[k]?.getD 0 + es[k]?.getD 0) / 4294967296) (q - (k + 1)) := by
  rw [h, show q - k = (q - (k + 1)) + 1 by omega, plusC, headD_drop, headD_drop, List.tail_drop, List.tail_drop, show ds[k]?.getD 0 + es[k]?.getD 0 + c = c + ds[k]?.getD 0 + es[k]?.getD 0 by omega]
  simp
/-- One digit more in a row of the call's own. -/
theorem DigL.snoc {w : World} {base n : Nat} {done : List Nat} {v : Value} {s : Nat} (hl : done.length = n) (h : w.ownsRow base 131 1 v (n + 1) (done.map digV ++ [.int .u32 ((s : Int) % 4294967296)])) : DigL w base (done ++ [s % 4294967296]) v := by
  unfold DigL
  rw [show (done ++ [s % 4294967296]).length = n + 1 by simp [hl]]
  have : (done ++ [s % 4294967296]).map digV = done.map digV ++ [.int .u32 ((s : Int) % 4294967296)] := by simp [digV]
  rw [this]
  exact h
theorem DigAt.at {w : World} {A : Option Addr} {ds : List Nat} (h : DigAt w A ds) {i : Nat} (hi : i < ds.length) : ∃ g, A = some ⟨g, 0, none⟩ ∧ g < w.heap.size ∧ w.cell? ⟨g, i, none⟩ = some (.int .u32 ((ds[i]?.getD 0 : Nat) : Int)) := by
  obtain ⟨g, x, hA, hg, hx, hc⟩ := h.cell hi
  exact ⟨g, hA, hg, by rw [hx]; exact hc⟩

set_option maxRecDepth 100000 in
set_option maxHeartbeats 1000000 in
theorem plus_ex {w : World} {A B : Option Addr} {ds es : List Nat} {n m ca cb : Nat} (hA : DigAt w A ds) (hB : DigAt w B es) (hd : okD 4294967296 ds) (he : okD 4294967296 es) (hn : n = ds.length) (hm : m = es.length) (bn : n ≤ 20000000000000) (bm : m ≤ 20000000000000) :
    Calls Tryz.prog 100 #[.slice A n ca, .slice B m cb] w fun e w' => ∃ v, e = .returned v ∧ DigL w' w.heap.size (plusC 4294967296 ds es 0 (max n m + 1)) v ∧ Below w.heap.size w w' := by
  obtain ⟨i135, hi, hz0, hz1, hz2⟩ := info_parts info135
  have Hn := Lib.hid hn
  have Hm := Lib.hid hm
  have HA := Lib.hid hA
  have HB := Lib.hid hB
  have Hd := Lib.hid hd
  have He := Lib.hid he
  clear hA hB hd he hn hm
  obtain ⟨q, hq⟩ : ∃ q, q = max n m + 1 := ⟨_, rfl⟩
  rw [← hq]
  have hqn : n ≤ q := by omega
  have hqm : m ≤ q := by omega
  have bq : q ≤ 20000000000001 := by omega
  go_enter Tryz.func100, Tryz.ntmps100
  go_wp2_with fail
  all_goals
    first | rw [show ((m : Int) + 1) = (q : Int) by omega] | rw [show ((n : Int) + 1) = (q : Int) by omega]
    clear hq
    have Hqn := Lib.hid hqn
    have Hqm := Lib.hid hqm
    clear hqn hqm
    go_loopw [5, 6, 14] (fun out nv iv wr => ∃ (k c : Nat) (done : List Nat), iv = .int .i64 (k : Int) ∧ nv = .int .u64 (c : Int) ∧ k ≤ q ∧ Hid (done.length = k) ∧ Hid (c ≤ 1) ∧ Hid (DigL wr w.heap.size done out) ∧ Hid (plusC 4294967296 ds es 0 q = done ++ plusC 4294967296 (ds.drop k) (es.drop k) c (q - k)) ∧ Hid (Below w.heap.size w wr)) (fun _ _ iv _ => q - (intOf iv).toNat)
    case atStart => exact ⟨0, 0, [], rfl, rfl, Nat.zero_le _, Lib.hid rfl, Lib.hid (by omega), Lib.hid (DigL.nil _ _), Lib.hid rfl, Lib.hid (Below.refl _ _)⟩
    case round =>
      obtain ⟨k, c, done, rfl, rfl, hk, Hl, Hc, HD, HP, Hb⟩ := hrel
      by_cases hkq : k < q
      · have HP2 := Lib.hid (plus_step HP.out hkq)
        clear HP
        have hx1 := okD_getD (by omega) Hd.out k
        have hx2 := okD_getD (by omega) He.out k
        have hx3 := Hc.out
        have hs1 : IntKind.u64.wrap ((c : Int) + ((ds[k]?.getD 0 : Nat) : Int)) = ((c + ds[k]?.getD 0 : Nat) : Int) := u64_add (by omega) (by omega)
        have hs2 : IntKind.u64.wrap (((c + ds[k]?.getD 0 : Nat) : Int) + ((es[k]?.getD 0 : Nat) : Int)) = ((c + ds[k]?.getD 0 + es[k]?.getD 0 : Nat) : Int) := u64_add (by omega) (by omega)
        have hw1 : IntKind.u64.wrap ((ds[k]?.getD 0 : Nat) : Int) = ((ds[k]?.getD 0 : Nat) : Int) := IntWalk.u64_in _ (by omega)
        have hw2 : IntKind.u64.wrap ((es[k]?.getD 0 : Nat) : Int) = ((es[k]?.getD 0 : Nat) : Int) := IntWalk.u64_in _ (by omega)
        have hc1 : (c + ds[k]?.getD 0 + es[k]?.getD 0) / 4294967296 ≤ 1 := by omega
        have Hc1 := Lib.hid hc1
        have hax : k < n → ∃ g, A = some ⟨g, 0, none⟩ ∧ g < w.heap.size ∧ wr.cell? ⟨g, k, none⟩ = some (.int .u32 ((ds[k]?.getD 0 : Nat) : Int)) := fun h => by
          obtain ⟨g, e1, e2, e3⟩ := HA.out.at (i := k) (by have := Hn.out; omega)
          exact ⟨g, e1, e2, cell_of_below Hb.out (Nat.le_refl _) e3⟩
        have hay : k < m → ∃ g, B = some ⟨g, 0, none⟩ ∧ g < w.heap.size ∧ wr.cell? ⟨g, k, none⟩ = some (.int .u32 ((es[k]?.getD 0 : Nat) : Int)) := fun h => by
          obtain ⟨g, e1, e2, e3⟩ := HB.out.at (i := k) (by have := Hm.out; omega)
          exact ⟨g, e1, e2, cell_of_below Hb.out (Nat.le_refl _) e3⟩
        have h0x : ¬ k < n → ds[k]?.getD 0 = 0 := fun h => by rw [List.getElem?_eq_none (by have := Hn.out; omega)]; rfl
        have h0y : ¬ k < m → es[k]?.getD 0 = 0 := fun h => by rw [List.getElem?_eq_none (by have := Hm.out; omega)]; rfl
        have HX := Lib.hid hax
        have HY := Lib.hid hay
        have H0x := Lib.hid h0x
        have H0y := Lib.hid h0y
        clear hax hay h0x h0y hx1 hx2 hx3 hc1
        generalize ds[k]?.getD 0 = x at *
        generalize es[k]?.getD 0 = y at *
        obtain ⟨s1, hs1e⟩ : ∃ s1, s1 = c + x := ⟨_, rfl⟩
        rw [← hs1e] at hs1 hs2 HP2 Hc1
        obtain ⟨s2, hs2e⟩ : ∃ s2, s2 = s1 + y := ⟨_, rfl⟩
        rw [← hs2e] at hs2 HP2 Hc1
        have Hs1e := Lib.hid hs1e
        have Hs2e := Lib.hid hs2e
        clear hs1e hs2e
        have Hsz : Hid (w.heap.size ≤ wr.heap.size) := Lib.hid Hb.out.size
        obtain ⟨A5, c5, e5⟩ := HD.out.slice
        subst e5
        have HD2 : Hid (wr.ownsRow w.heap.size 131 1 (.slice A5 done.length c5) done.length (done.map digV)) := HD
        rw [Hl.out] at HD2 ⊢
        clear HD
        by_cases hkn : k < n
        · by_cases hkm : k < m
          · obtain ⟨g1, rfl, hg1, hcx⟩ := HX.out hkn
            obtain ⟨g2, rfl, hg2, hcy⟩ := HY.out hkm
            clear HX HY H0x H0y Hs1e Hs2e
            have hu0 : ∀ (y : Int), Hid ((wr.alloc (.cells #[.int .u32 y] 131)).ownsRow w.heap.size 131 1 (.slice A5 k c5) k (done.map digV)) := fun y => Lib.hid (HD2.out.alloc _)
            go_wp2_with (at_builtin; refine wpList_append_own_at _ rfl _ _ 87 rfl w.heap.size 131 i135 (.int .u32 0) 1 4 Tryz.underlying87 hi hz0 hz1 hz2 rfl (by omega) (.slice A5 k c5) k _ rfl (hu0 _).out ⟨wr.heap.size, 0, none⟩ 1 1 [.int .u32 ((s2 : Int) % 4294967296)] rfl rfl (fun j u hj => by cases j with | zero => (simp at hj; subst hj; simp [Addr.add]) | succ j => simp at hj) (fun u hu => by simp at hu; subst hu; rfl) (by simp [maxLen]; omega) (by omega) (by simp; exact Nat.le_succ_of_le Hsz.out) ?_; intro v5 w5 k1 k2 k3 k4; have K1 := Lib.hid k1; have K2 := Lib.hid k2; clear k1 k2 k3 k4)
            go_roundw
            case rel => exact ⟨k + 1, s2 / 4294967296, done ++ [s2 % 4294967296], by go_num, by simp, by omega, Lib.hid (by simp [Hl.out]), Hc1, Lib.hid (DigL.snoc Hl.out K1.out), HP2, Lib.hid ((Hb.out.alloc (Hsz.out) _).grown K2.out (by simp; exact Nat.le_succ_of_le Hsz.out) (fun g hg => (HD2.out.lt g hg).1))⟩
            case measure => simp [intOf]; omega
          · try (exfalso; omega)
            all_goals
              obtain ⟨g1, rfl, hg1, hcx⟩ := HX.out hkn
              have e2 := Hs2e.out
              rw [H0y.out hkm, Nat.add_zero] at e2
              subst e2
              clear HX HY H0x H0y Hs1e Hs2e
              have hu0 : ∀ (y : Int), Hid ((wr.alloc (.cells #[.int .u32 y] 131)).ownsRow w.heap.size 131 1 (.slice A5 k c5) k (done.map digV)) := fun y => Lib.hid (HD2.out.alloc _)
              go_wp2_with (at_builtin; refine wpList_append_own_at _ rfl _ _ 87 rfl w.heap.size 131 i135 (.int .u32 0) 1 4 Tryz.underlying87 hi hz0 hz1 hz2 rfl (by omega) (.slice A5 k c5) k _ rfl (hu0 _).out ⟨wr.heap.size, 0, none⟩ 1 1 [.int .u32 ((s2 : Int) % 4294967296)] rfl rfl (fun j u hj => by cases j with | zero => (simp at hj; subst hj; simp [Addr.add]) | succ j => simp at hj) (fun u hu => by simp at hu; subst hu; rfl) (by simp [maxLen]; omega) (by omega) (by simp; exact Nat.le_succ_of_le Hsz.out) ?_; intro v5 w5 k1 k2 k3 k4; have K1 := Lib.hid k1; have K2 := Lib.hid k2; clear k1 k2 k3 k4)
              go_roundw
              case rel => exact ⟨k + 1, s2 / 4294967296, done ++ [s2 % 4294967296], by go_num, by simp, by omega, Lib.hid (by simp [Hl.out]), Hc1, Lib.hid (DigL.snoc Hl.out K1.out), HP2, Lib.hid ((Hb.out.alloc (Hsz.out) _).grown K2.out (by simp; exact Nat.le_succ_of_le Hsz.out) (fun g hg => (HD2.out.lt g hg).1))⟩
              case measure => simp [intOf]; omega
        · by_cases hkm : k < m
          · try (exfalso; omega)
            all_goals
              have e1 := Hs1e.out
              rw [H0x.out hkn, Nat.add_zero] at e1
              subst e1
              obtain ⟨g2, rfl, hg2, hcy⟩ := HY.out hkm
              clear HX HY H0x H0y Hs1e Hs2e
              have hu0 : ∀ (y : Int), Hid ((wr.alloc (.cells #[.int .u32 y] 131)).ownsRow w.heap.size 131 1 (.slice A5 k c5) k (done.map digV)) := fun y => Lib.hid (HD2.out.alloc _)
              go_wp2_with (at_builtin; refine wpList_append_own_at _ rfl _ _ 87 rfl w.heap.size 131 i135 (.int .u32 0) 1 4 Tryz.underlying87 hi hz0 hz1 hz2 rfl (by omega) (.slice A5 k c5) k _ rfl (hu0 _).out ⟨wr.heap.size, 0, none⟩ 1 1 [.int .u32 ((s2 : Int) % 4294967296)] rfl rfl (fun j u hj => by cases j with | zero => (simp at hj; subst hj; simp [Addr.add]) | succ j => simp at hj) (fun u hu => by simp at hu; subst hu; rfl) (by simp [maxLen]; omega) (by omega) (by simp; exact Nat.le_succ_of_le Hsz.out) ?_; intro v5 w5 k1 k2 k3 k4; have K1 := Lib.hid k1; have K2 := Lib.hid k2; clear k1 k2 k3 k4)
              go_roundw
              case rel => exact ⟨k + 1, s2 / 4294967296, done ++ [s2 % 4294967296], by go_num, by simp, by omega, Lib.hid (by simp [Hl.out]), Hc1, Lib.hid (DigL.snoc Hl.out K1.out), HP2, Lib.hid ((Hb.out.alloc (Hsz.out) _).grown K2.out (by simp; exact Nat.le_succ_of_le Hsz.out) (fun g hg => (HD2.out.lt g hg).1))⟩
              case measure => simp [intOf]; omega
          · have e1 := Hs1e.out
            rw [H0x.out hkn, Nat.add_zero] at e1
            subst e1
            have e2 := Hs2e.out
            rw [H0y.out hkm, Nat.add_zero] at e2
            subst e2
            clear HX HY H0x H0y Hs1e Hs2e
            have hu0 : ∀ (y : Int), Hid ((wr.alloc (.cells #[.int .u32 y] 131)).ownsRow w.heap.size 131 1 (.slice A5 k c5) k (done.map digV)) := fun y => Lib.hid (HD2.out.alloc _)
            go_wp2_with (at_builtin; refine wpList_append_own_at _ rfl _ _ 87 rfl w.heap.size 131 i135 (.int .u32 0) 1 4 Tryz.underlying87 hi hz0 hz1 hz2 rfl (by omega) (.slice A5 k c5) k _ rfl (hu0 _).out ⟨wr.heap.size, 0, none⟩ 1 1 [.int .u32 ((s2 : Int) % 4294967296)] rfl rfl (fun j u hj => by cases j with | zero => (simp at hj; subst hj; simp [Addr.add]) | succ j => simp at hj) (fun u hu => by simp at hu; subst hu; rfl) (by simp [maxLen]; omega) (by omega) (by simp; exact Nat.le_succ_of_le Hsz.out) ?_; intro v5 w5 k1 k2 k3 k4; have K1 := Lib.hid k1; have K2 := Lib.hid k2; clear k1 k2 k3 k4)
            go_roundw
            case rel => exact ⟨k + 1, s2 / 4294967296, done ++ [s2 % 4294967296], by go_num, by simp, by omega, Lib.hid (by simp [Hl.out]), Hc1, Lib.hid (DigL.snoc Hl.out K1.out), HP2, Lib.hid ((Hb.out.alloc (Hsz.out) _).grown K2.out (by simp; exact Nat.le_succ_of_le Hsz.out) (fun g hg => (HD2.out.lt g hg).1))⟩
            case measure => simp [intOf]; omega
      · go_wp2_with fail
        go_ret
        have e := HP.out
        rw [show q - k = 0 by omega, plusC, List.append_nil] at e
        exact ⟨_, rfl, by rw [e]; exact HD.out, Hb.out⟩
end Go.Proofs.YtbnonccmlildnaaGreat

/- bits.Sub32; 'minus': the difference of two rows of digits. -/
namespace Go.Proofs.YtbnonccmlildnaaGreat
open Go.RowKit Go.Lib

theorem wrap_u32n (n : Int) : IntKind.u32.wrap n = n % 4294967296 := by simp [IntKind.wrap, IntKind.bits, IntKind.signed]
theorem ofInt_nat32 {a : Nat} (ha : a < 4294967296) : (BitVec.ofInt 32 (a : Int)).toNat = a := by
  rw [BitVec.ofInt_natCast, BitVec.toNat_ofNat]; exact Nat.mod_eq_of_lt (by omega)
theorem and32 {a b : Nat} (ha : a < 4294967296) (hb : b < 4294967296) : bits .and .u32 (a : Int) (b : Int) = ((a &&& b : Nat) : Int) ∧ a &&& b < 4294967296 := by
  have hx : a &&& b < 2 ^ 32 := Nat.and_lt_two_pow _ (by omega)
  refine ⟨?_, by omega⟩
  show IntKind.u32.wrap ((BitVec.ofInt 32 (a : Int) &&& BitVec.ofInt 32 (b : Int)).toNat : Int) = _
  rw [BitVec.toNat_and, ofInt_nat32 ha, ofInt_nat32 hb, wrap_u32n]
  omega
theorem or32 {a b : Nat} (ha : a < 4294967296) (hb : b < 4294967296) : bits .or .u32 (a : Int) (b : Int) = ((a ||| b : Nat) : Int) ∧ a ||| b < 4294967296 := by
  have hx : a ||| b < 2 ^ 32 := Nat.or_lt_two_pow (by omega) (by omega)
  refine ⟨?_, by omega⟩
  show IntKind.u32.wrap ((BitVec.ofInt 32 (a : Int) ||| BitVec.ofInt 32 (b : Int)).toNat : Int) = _
  rw [BitVec.toNat_or, ofInt_nat32 ha, ofInt_nat32 hb, wrap_u32n]
  omega
theorem xor32 {a b : Nat} (ha : a < 4294967296) (hb : b < 4294967296) : bits .xor .u32 (a : Int) (b : Int) = ((a ^^^ b : Nat) : Int) ∧ a ^^^ b < 4294967296 := by
  have hx : a ^^^ b < 2 ^ 32 := Nat.xor_lt_two_pow (by omega) (by omega)
  refine ⟨?_, by omega⟩
  show IntKind.u32.wrap ((BitVec.ofInt 32 (a : Int) ^^^ BitVec.ofInt 32 (b : Int)).toNat : Int) = _
  rw [BitVec.toNat_xor, ofInt_nat32 ha, ofInt_nat32 hb, wrap_u32n]
  omega
theorem top32 {v : Nat} (hv : v < 4294967296) : v / 2147483648 = if v.testBit 31 = true then 1 else 0 := by
  rw [Nat.testBit_eq_decide_div_mod_eq]
  simp only [decide_eq_true_eq, show (2 : Nat) ^ 31 = 2147483648 from rfl]
  split <;> omega
theorem topd {v : Nat} (hv : v < 4294967296) : v.testBit 31 = decide (2147483648 ≤ v) := by
  rw [Nat.testBit_eq_decide_div_mod_eq, decide_eq_decide, show (2 : Nat) ^ 31 = 2147483648 from rfl]
  omega
theorem borrow32 {x y c d : Nat} (hx : x < 4294967296) (hy : y < 4294967296) (hc : c ≤ 1) (hd : d = if y + c ≤ x then x - (y + c) else x + 4294967296 - (y + c)) :
    bits .or .u32 (bits .and .u32 (bits .xor .u32 IntKind.u32.max (x : Int)) (y : Int)) (bits .and .u32 (bits .xor .u32 IntKind.u32.max (bits .xor .u32 (x : Int) (y : Int))) (d : Int)) / 2147483648 = ((if y + c ≤ x then 0 else 1 : Nat) : Int) := by
  have hdl : d < 4294967296 := by rw [hd]; split <;> omega
  have hM : IntKind.u32.max = ((4294967295 : Nat) : Int) := rfl
  rw [hM, (xor32 (a := 4294967295) (by omega) hx).1, (xor32 hx hy).1, (xor32 (a := 4294967295) (by omega) (xor32 hx hy).2).1, (and32 (xor32 (a := 4294967295) (by omega) hx).2 hy).1, (and32 (xor32 (a := 4294967295) (by omega) (xor32 hx hy).2).2 hdl).1,
    (or32 (and32 (xor32 (a := 4294967295) (by omega) hx).2 hy).2 (and32 (xor32 (a := 4294967295) (by omega) (xor32 hx hy).2).2 hdl).2).1]
  have h := (or32 (and32 (xor32 (a := 4294967295) (by omega) hx).2 hy).2 (and32 (xor32 (a := 4294967295) (by omega) (xor32 hx hy).2).2 hdl).2).2
  have h2 := top32 h
  rw [Nat.testBit_or, Nat.testBit_and, Nat.testBit_and, Nat.testBit_xor, Nat.testBit_xor, Nat.testBit_xor, topd hx, topd hy, topd hdl, show Nat.testBit 4294967295 31 = true from by decide] at h2
  generalize (4294967295 ^^^ x) &&& y ||| (4294967295 ^^^ (x ^^^ y)) &&& d = r at *
  have h3 : r / 2147483648 = if y + c ≤ x then 0 else 1 := by
    rw [h2]
    clear h2 h hM
    by_cases e1 : 2147483648 ≤ x <;> by_cases e2 : 2147483648 ≤ y <;> by_cases e3 : y + c ≤ x <;> by_cases e4 : 2147483648 ≤ d <;> simp only [e1, e2, e3, e4, if_true, if_false] at hd ⊢ <;> first | rfl | (simp; done) | (exfalso; omega)
  rw [← h3]
  omega
set_option maxRecDepth 100000 in
set_option maxHeartbeats 1000000 in
theorem sub32_ex {w : World} {x y c : Nat} (hx : x < 4294967296) (hy : y < 4294967296) (hc : c ≤ 1) :
    Calls Tryz.prog 112 #[.int .u32 (x : Int), .int .u32 (y : Int), .int .u32 (c : Int)] w fun e w' => e = .returned (.tuple #[.int .u32 ((if y + c ≤ x then x - (y + c) else x + 4294967296 - (y + c) : Nat) : Int), .int .u32 ((if y + c ≤ x then 0 else 1 : Nat) : Int)]) ∧ w' = w := by
  obtain ⟨d, hd⟩ : ∃ d : Nat, d = if y + c ≤ x then x - (y + c) else x + 4294967296 - (y + c) := ⟨_, rfl⟩
  obtain ⟨b, hb⟩ : ∃ b : Nat, b = if y + c ≤ x then 0 else 1 := ⟨_, rfl⟩
  rw [← hd, ← hb]
  have Hd := Lib.hid hd
  have Hb := Lib.hid hb
  have hdi : ((x : Int) - (y : Int) - (c : Int)) % 4294967296 = (d : Int) := by
    rw [hd]
    split <;> omega
  have hbi := borrow32 hx hy hc hd
  rw [← hb, ← hdi] at hbi
  have Hdi := Lib.hid hdi
  have Hbi := Lib.hid hbi
  clear hd hb hdi hbi
  go_enter Tryz.func112, Tryz.ntmps112
  go_wp2_with fail
  refine bodyPost_ret (results_tmp2 rfl _ _ _) rfl ?_
  refine ⟨?_, rfl⟩
  show Ending.returned (.tuple #[.int .u32 (((x : Int) - (y : Int) - (c : Int)) % 4294967296), .int .u32 (_ / 2147483648)]) = _
  rw [Hbi.out, Hdi.out]
end Go.Proofs.YtbnonccmlildnaaGreat

/- 'minus': the difference of two rows of digits. -/
namespace Go.Proofs.YtbnonccmlildnaaGreat
open Go.RowKit Go.Lib

def subD (x y c : Nat) : Nat := if y + c ≤ x then x - (y + c) else x + 4294967296 - (y + c)
def subB (x y c : Nat) : Nat := if y + c ≤ x then 0 else 1
theorem sub32_c {w : World} {x y c : Nat} (hx : x < 4294967296) (hy : y < 4294967296) (hc : c ≤ 1) :
    Calls Tryz.prog 112 #[.int .u32 (x : Int), .int .u32 (y : Int), .int .u32 (c : Int)] w fun e w' => e = .returned (.tuple #[.int .u32 (subD x y c : Int), .int .u32 (subB x y c : Int)]) ∧ w' = w := sub32_ex hx hy hc
theorem DigL.snoc2 {w : World} {base n : Nat} {done : List Nat} {v : Value} {s : Nat} (hl : done.length = n) (h : w.ownsRow base 131 1 v (n + 1) (done.map digV ++ [.int .u32 (s : Int)])) : DigL w base (done ++ [s]) v := by
  unfold DigL
  rw [show (done ++ [s]).length = n + 1 by simp [hl]]
  have : (done ++ [s]).map digV = done.map digV ++ [.int .u32 (s : Int)] := by simp [digV]
  rw [this]
  exact h
theorem minus_step {ds es done : List Nat} {k c : Nat} (h : minusC 4294967296 ds es 0 = done ++ minusC 4294967296 (ds.drop k) (es.drop k) c) (hk : k < ds.length) :
    minusC 4294967296 ds es 0 = (done ++ [subD (ds[k]?.getD 0) (es[k]?.getD 0) c]) ++ minusC 4294967296 (ds.drop (k + 1)) (es.drop (k + 1)) (subB (ds[k]?.getD 0) (es[k]?.getD 0) c) := by
  rw [h, List.drop_eq_getElem_cons hk, minusC, headD_drop, List.tail_drop, List.getElem?_eq_getElem hk]
  simp [subD, subB]

set_option maxRecDepth 100000 in
set_option maxHeartbeats 1000000 in
theorem minus_ex {w : World} {A B : Option Addr} {ds es : List Nat} {n m ca cb : Nat} (hA : DigAt w A ds) (hB : DigAt w B es) (hd : okD 4294967296 ds) (he : okD 4294967296 es) (hn : n = ds.length) (hm : m = es.length) (bn : n ≤ 20000000000000) (bm : m ≤ 20000000000000) :
    Calls Tryz.prog 102 #[.slice A n ca, .slice B m cb] w fun e w' => ∃ v, e = .returned v ∧ DigL w' w.heap.size (minusC 4294967296 ds es 0) v ∧ Below w.heap.size w w' := by
  obtain ⟨i135, hi, hz0, hz1, hz2⟩ := info_parts info135
  have Hn := Lib.hid hn
  have Hm := Lib.hid hm
  have HA := Lib.hid hA
  have HB := Lib.hid hB
  have Hd := Lib.hid hd
  have He := Lib.hid he
  clear hA hB hd he hn hm
  go_enter Tryz.func102, Tryz.ntmps102
  go_wp2_with fail
  go_loopw [5, 6, 12] (fun out cv iv wr => ∃ (k c : Nat) (done : List Nat), iv = .int .i64 (k : Int) ∧ cv = .int .u32 (c : Int) ∧ k ≤ n ∧ Hid (done.length = k) ∧ Hid (c ≤ 1) ∧ Hid (DigL wr w.heap.size done out) ∧ Hid (minusC 4294967296 ds es 0 = done ++ minusC 4294967296 (ds.drop k) (es.drop k) c) ∧ Hid (Below w.heap.size w wr)) (fun _ _ iv _ => n - (intOf iv).toNat)
  case atStart => exact ⟨0, 0, [], rfl, rfl, Nat.zero_le _, Lib.hid rfl, Lib.hid (by omega), Lib.hid (DigL.nil _ _), Lib.hid rfl, Lib.hid (Below.refl _ _)⟩
  case round =>
    obtain ⟨k, c, done, rfl, rfl, hk, Hl, Hc, HD, HP, Hb⟩ := hrel
    by_cases hkn : k < n
    · have HP2 := Lib.hid (minus_step HP.out (by have := Hn.out; omega))
      clear HP
      have hx1 := okD_getD (by omega) Hd.out k
      have hx2 := okD_getD (by omega) He.out k
      have hay : k < m → ∃ g, B = some ⟨g, 0, none⟩ ∧ g < w.heap.size ∧ wr.cell? ⟨g, k, none⟩ = some (.int .u32 ((es[k]?.getD 0 : Nat) : Int)) := fun h => by
        obtain ⟨g, e1, e2, e3⟩ := HB.out.at (i := k) (by have := Hm.out; omega)
        exact ⟨g, e1, e2, cell_of_below Hb.out (Nat.le_refl _) e3⟩
      have h0y : ¬ k < m → es[k]?.getD 0 = 0 := fun h => by rw [List.getElem?_eq_none (by have := Hm.out; omega)]; rfl
      obtain ⟨g1, rfl, hg1, hcx0⟩ := HA.out.at (i := k) (by have := Hn.out; omega)
      have hcx : wr.cell? ⟨g1, k, none⟩ = some (.int .u32 ((ds[k]?.getD 0 : Nat) : Int)) := cell_of_below Hb.out (Nat.le_refl _) hcx0
      clear hcx0
      have HY := Lib.hid hay
      have H0y := Lib.hid h0y
      clear hay h0y
      have Hsub := fun wq => Lib.hid (sub32_c (w := wq) hx1 hx2 Hc.out)
      have Hb1 : Hid (subB (ds[k]?.getD 0) (es[k]?.getD 0) c ≤ 1) := Lib.hid (by unfold subB; split <;> omega)
      clear hx1 hx2
      generalize subD (ds[k]?.getD 0) (es[k]?.getD 0) c = d at *
      generalize subB (ds[k]?.getD 0) (es[k]?.getD 0) c = b at *
      generalize ds[k]?.getD 0 = x at *
      generalize es[k]?.getD 0 = y at *
      have Hsz : Hid (w.heap.size ≤ wr.heap.size) := Lib.hid Hb.out.size
      obtain ⟨A5, c5, e5⟩ := HD.out.slice
      subst e5
      have HD2 : Hid (wr.ownsRow w.heap.size 131 1 (.slice A5 done.length c5) done.length (done.map digV)) := HD
      rw [Hl.out] at HD2 ⊢
      clear HD
      have hu0 : ∀ (y : Int), Hid ((wr.alloc (.cells #[.int .u32 y] 131)).ownsRow w.heap.size 131 1 (.slice A5 k c5) k (done.map digV)) := fun y => Lib.hid (HD2.out.alloc _)
      by_cases hkm : k < m
      · obtain ⟨g2, rfl, hg2, hcy⟩ := HY.out hkm
        clear HY H0y
        go_wp2_with (first | (go_at_call 112; refine (Hsub _).out.mono ?_; rintro e w9 ⟨rfl, rfl⟩) | (at_builtin; refine wpList_append_own_at _ rfl _ _ 87 rfl w.heap.size 131 i135 (.int .u32 0) 1 4 Tryz.underlying87 hi hz0 hz1 hz2 rfl (by omega) (.slice A5 k c5) k _ rfl (hu0 _).out ⟨w9.heap.size, 0, none⟩ 1 1 [.int .u32 (d : Int)] rfl rfl (fun j u hj => by cases j with | zero => (simp at hj; subst hj; simp [Addr.add]) | succ j => simp at hj) (fun u hu => by simp at hu; subst hu; rfl) (by simp [maxLen]; omega) (by omega) (by simp; exact Nat.le_succ_of_le Hsz.out) ?_; intro v5 w5 k1 k2 k3 k4; have K1 := Lib.hid k1; have K2 := Lib.hid k2; clear k1 k2 k3 k4))
        go_roundw
        case rel => exact ⟨k + 1, b, done ++ [d], by go_num, rfl, by omega, Lib.hid (by simp [Hl.out]), Hb1, Lib.hid (DigL.snoc2 Hl.out K1.out), HP2, Lib.hid ((Hb.out.alloc (Hsz.out) _).grown K2.out (by simp; exact Nat.le_succ_of_le Hsz.out) (fun g hg => (HD2.out.lt g hg).1))⟩
        case measure => simp [intOf]; omega
      · have hy0 := H0y.out hkm
        subst hy0
        clear HY H0y
        go_wp2_with (first | (go_at_call 112; refine (Hsub _).out.mono ?_; rintro e w9 ⟨rfl, rfl⟩) | (at_builtin; refine wpList_append_own_at _ rfl _ _ 87 rfl w.heap.size 131 i135 (.int .u32 0) 1 4 Tryz.underlying87 hi hz0 hz1 hz2 rfl (by omega) (.slice A5 k c5) k _ rfl (hu0 _).out ⟨w9.heap.size, 0, none⟩ 1 1 [.int .u32 (d : Int)] rfl rfl (fun j u hj => by cases j with | zero => (simp at hj; subst hj; simp [Addr.add]) | succ j => simp at hj) (fun u hu => by simp at hu; subst hu; rfl) (by simp [maxLen]; omega) (by omega) (by simp; exact Nat.le_succ_of_le Hsz.out) ?_; intro v5 w5 k1 k2 k3 k4; have K1 := Lib.hid k1; have K2 := Lib.hid k2; clear k1 k2 k3 k4))
        go_roundw
        case rel => exact ⟨k + 1, b, done ++ [d], by go_num, rfl, by omega, Lib.hid (by simp [Hl.out]), Hb1, Lib.hid (DigL.snoc2 Hl.out K1.out), HP2, Lib.hid ((Hb.out.alloc (Hsz.out) _).grown K2.out (by simp; exact Nat.le_succ_of_le Hsz.out) (fun g hg => (HD2.out.lt g hg).1))⟩
        case measure => simp [intOf]; omega
    · go_wp2_with fail
      go_ret
      have e := HP.out
      rw [List.drop_of_length_le (by have := Hn.out; omega), minusC, List.append_nil] at e
      exact ⟨_, rfl, by rw [e]; exact HD.out, Hb.out⟩
end Go.Proofs.YtbnonccmlildnaaGreat

/- Neg, Add, Sub, Cmp. -/
namespace Go.Proofs.YtbnonccmlildnaaGreat
open Go.RowKit Go.Lib

theorem len_of {ds : List Nat} {z : Int} {k : Nat} (hc : canon ds) (hv : dval 4294967296 ds = z.natAbs) (hz : z.natAbs < 4294967296 ^ k) : ds.length ≤ k := by
  by_cases h0 : ds = []
  · subst h0; simp
  · have h1 := dval_pos hc h0 (B := 4294967296)
    rw [hv] at h1
    have h2 : 4294967296 ^ (ds.length - 1) < 4294967296 ^ k := by omega
    have := (Nat.pow_lt_pow_iff_right (by omega)).1 h2
    omega
theorem neg_signed {z : Int} {ds : List Nat} (hv : dval 4294967296 ds = z.natAbs) : signed (!decide (z < 0)) (dval 4294967296 ds) = -z := by
  rw [hv]
  by_cases h : z < 0
  · simp [signed, h]; omega
  · simp [signed, h]; omega
theorem pos_signed {z : Int} {ds : List Nat} (hv : dval 4294967296 ds = z.natAbs) : signed (decide (z < 0)) (dval 4294967296 ds) = z := by
  rw [hv]
  by_cases h : z < 0
  · simp [signed, h]; omega
  · simp [signed, h]; omega
/-- A number that is handed back by way of a box. -/
theorem num_ret {fn : Func} {p : Tmp} {a : Act} {w w5 : World} {K n c : Nat} {A : Option Addr} {b : Bool} {z : Int} (hf : fn.results = #[.cell p 89]) (hK : w5.heap[K]? = some (.cells #[.slice none 0 0, .bool false] 89 (0, 0)))
    (hz : NumAt w5 (.agg #[.slice A n c, .bool b]) z) (hb : Below w.heap.size w w5) (hKw : w.heap.size ≤ K) (ha : a.tmps.getD p undef = .pointer (some ⟨K, 0, none⟩)) (hd : a.defers = []) :
    bodyPost Tryz.prog fn (fun e w' => ∃ v, e = .returned v ∧ NumAt w' v z ∧ Below w.heap.size w w') Exit.ret a ((w5.setCell ⟨K, 0, none⟩ (.slice A n c)).setCell ⟨K, 1, none⟩ (.bool b)) :=
  bodyPost_ret (results_cell_row hf _ _ K 89 #[.slice A n c, .bool b] (0, 0) _ ha (heap_setCell_same _ K 1 _ 89 (.bool b) (heap_setCell_same w5 K 0 _ 89 (.slice A n c) hK)) Tryz.underlying89 rfl size101) hd ⟨_, rfl, NumAt.boxed hK hz, (hb.setCell hKw _).setCell hKw _⟩
set_option maxRecDepth 100000 in
set_option maxHeartbeats 1000000 in
theorem neg_ex {w : World} {v : Value} {z : Int} {k : Nat} (h : NumAt w v z) (hz : z.natAbs < 4294967296 ^ k) (hk : k ≤ 10000000000000) :
    Calls Tryz.prog 37 #[v] w fun e w' => ∃ v, e = .returned v ∧ NumAt w' v (-z) ∧ Below w.heap.size w w' := by
  obtain ⟨A, c, ds, rfl, hc, hd, h1, h2, h3⟩ := h
  have hl := len_of h2 h3 hz
  have Hmk := fun wq hq => Lib.hid (made_ex (w := wq) (neg := !decide (z < 0)) (hd.mono (Nat.le_refl _) hq) h1 rfl hc (by omega))
  rw [neg_signed h3] at Hmk
  clear hd h1 h2 h3 hz hl hc
  generalize ds.length = n at *
  generalize decide (z < 0) = b at *
  have hbw : Below w.heap.size w ((w.alloc (.cells #[.slice A n c, .bool b] 89)).alloc (.cells #[.slice none 0 0, .bool false] 89)) := ((Below.refl _ _).alloc (Nat.le_refl _) _).alloc (by simp) _
  have Hm := Hmk _ hbw
  have Hbw := Lib.hid hbw
  clear Hmk hbw
  go_enter Tryz.func37, Tryz.ntmps37
  go_wp2_with (go_at_call 66; refine Hm.out.mono ?_; rintro e w5 ⟨v5, rfl, hv5, hb5⟩; have Hz5 := Lib.hid hv5; obtain ⟨A5, c5, ds5, rfl, _⟩ := hv5; have Hb5 := Lib.hid hb5; have hrw : w5.heap[w.heap.size + 1]? = some (.cells #[.slice none 0 0, .bool false] 89 (0, 0)) := (hb5.block _ (by simp)).trans (by have := heap_alloc_new (w.alloc (.cells #[.slice A n c, .bool b] 89)) (.cells #[.slice none 0 0, .bool false] 89); rwa [show (w.alloc (.cells #[.slice A n c, .bool b] 89)).heap.size = w.heap.size + 1 by simp] at this); have Hrw := Lib.hid hrw; obtain ⟨hf0, hf1, hc0, hc1⟩ := row_facts hrw; clear hb5 hrw; generalize ds5.length = n5 at *; generalize decide (-z < 0) = b5 at *)
  exact num_ret rfl Hrw.out Hz5.out ((Hbw.out.trans (Hb5.out.mono (by simp; omega)))) (by omega) rfl rfl

end Go.Proofs.YtbnonccmlildnaaGreat
