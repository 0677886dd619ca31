/- asks: is something asked of all numbers, truths, or of too many lists? -/
import Derived.Test.YtbnonccmlildnaaGreatM33
set_option linter.unusedSimpArgs false
set_option linter.unusedVariables false
namespace Go.Proofs.YtbnonccmlildnaaGreat
open Go.RowKit

def asksFCall (w : World) (n : Nat) (f : Nat → Value) (q : Nat → Bool) (q0 : Nat) : Prop :=
  ∀ j, j < n → ∀ w', Below w.heap.size w w' → Calls Tryz.prog 32 #[f j, .pointer (some ⟨q0, 0, none⟩)] w' fun e w'' => e = .returned (.bool (q j)) ∧ Below w'.heap.size w' w''
set_option maxHeartbeats 1000000 in
theorem asksF_index {w : World} {A : Option Addr} {n c : Nat} {f : Nat → Value} {q : Nat → Bool} (q0 : Nat) (hn : n ≤ 140737488355328) (hf : RowCells w A 7 n f) (hp : ∀ j, j < n → ∃ p : Parts, f j = .agg p.arr) (hc : asksFCall w n f q q0) :
    Calls Tryz.prog 64 #[.slice A n c, .func (.func 32) #[] #[.pointer (some ⟨q0, 0, none⟩)]] w fun e w' => ∃ r : Int, e = .returned (.int .i64 r) ∧ decide (0 ≤ r) = anyTo q n ∧ Below w.heap.size w w' := by
  have Hf := Lib.hid hf
  have Hp := Lib.hid hp
  have Hc := Lib.hid hc
  clear hf hp hc
  go_enter Tryz.func64, Tryz.ntmps64
  go_wp2_with fail
  go_loopw [8] (fun i wr => ∃ k : Nat, k ≤ n ∧ i = .int .i64 k ∧ anyTo q k = false ∧ Below w.heap.size w wr) (fun i _ => n - (intOf i).toNat)
  case atStart => exact ⟨0, Nat.zero_le _, rfl, rfl, Below.refl _ _⟩
  case round =>
    obtain ⟨k, hk, rfl, hno, hbr⟩ := hrel
    have Hbr := Lib.hid hbr
    have Hno := Lib.hid hno
    clear hbr hno
    by_cases hlt : k < n
    · obtain ⟨p, hpp⟩ := Hp.out k hlt
      obtain ⟨b, o, rfl, h0, h1, h2, h3, h4, h5, h6⟩ := (Hf.out.below Hbr.out).get hlt hpp
      have Hcall : Hid (Calls Tryz.prog 32 #[.agg p.arr, .pointer (some ⟨q0, 0, none⟩)] wr fun e w'' => e = .returned (.bool (q k)) ∧ Below wr.heap.size wr w'') := Lib.hid (by
        have := Hc.out k hlt wr Hbr.out
        rwa [hpp] at this)
      have Hs : Hid (anyTo q (k + 1) = q k ∧ (q k = true → anyTo q n = true)) := Lib.hid ⟨by rw [anyTo_succ, Hno.out]; rfl, fun h => anyTo_true hlt h⟩
      clear hpp
      cases hq : q k with
      | true =>
        rw [hq] at Hcall Hs
        clear hq
        go_wp2_with (go_at_call 32; refine Calls.mono Hcall.out ?_; rintro e w3 ⟨rfl, hb3⟩; have Hb3 := Lib.hid hb3; clear hb3)
        go_ret
        exact ⟨_, rfl, by rw [show anyTo q n = true by simpa using Hs.out.2]; simp, Hbr.out.trans (Hb3.out.mono Hbr.out.size)⟩
      | false =>
        rw [hq] at Hcall Hs
        clear hq
        go_wp2_with (go_at_call 32; refine Calls.mono Hcall.out ?_; rintro e w3 ⟨rfl, hb3⟩; have Hb3 := Lib.hid hb3; clear hb3)
        go_roundw
        case rel => exact ⟨k + 1, by omega, by go_num, Hs.out.1, Hbr.out.trans (Hb3.out.mono Hbr.out.size)⟩
        case measure => simp [intOf]; omega
    · have hkn : k = n := by omega
      subst hkn
      go_wp2_with fail
      go_ret
      exact ⟨_, rfl, by rw [Hno.out]; simp, Hbr.out⟩
theorem asksF_contains {w : World} {A : Option Addr} {n c : Nat} {f : Nat → Value} {q : Nat → Bool} (q0 : Nat) (hn : n ≤ 140737488355328) (hf : RowCells w A 7 n f) (hp : ∀ j, j < n → ∃ p : Parts, f j = .agg p.arr) (hc : asksFCall w n f q q0) :
    Calls Tryz.prog 31 #[.slice A n c, .func (.func 32) #[] #[.pointer (some ⟨q0, 0, none⟩)]] w fun e w' => e = .returned (.bool (anyTo q n)) ∧ Below w.heap.size w w' := by
  go_enter Tryz.func31, Tryz.ntmps31
  go_wp2_with (go_at_call 64; refine (asksF_index q0 hn hf hp hc (c := c)).mono ?_; rintro e w' ⟨r, rfl, hr, hb⟩; have Hb := Lib.hid hb; clear hb)
  go_ret
  exact ⟨by simp, Hb.out⟩
theorem asks_sort {objs : Nat} {vars : Bd} {k : Nat} {x : ByteArray} {s : Int} (hk : vars[k]? = some (x, s)) (hs : ¬ s = 3) : askVars objs 19 vars = true := by
  have : (vars.any fun v => v.2 != 3) = true := List.any_eq_true.2 ⟨(x, s), List.mem_of_getElem? hk, by simpa using hs⟩
  simp [askVars, this]
theorem asks_pow {objs : Nat} {vars : Bd} {k : Nat} (hk : k + 1 ≤ vars.length) (h : 65536 < (max objs 1) ^ (k + 1)) : askVars objs 19 vars = true := by
  have h1 : (max objs 1) ^ (k + 1) ≤ (max objs 1) ^ vars.length := Nat.pow_le_pow_right (by omega) hk
  have h2 : 65536 < (max objs 1) ^ vars.length := by omega
  simp [askVars, h2]
theorem asks_none {objs : Nat} {vars : Bd} (hs : ∀ (j : Nat) (v : ByteArray × Int), vars[j]? = some v → v.2 = 3) (h : (max objs 1) ^ vars.length ≤ 65536) : askVars objs 19 vars = false := by
  have h1 : (vars.any fun v => v.2 != 3) = false := by
    rw [List.any_eq_false]
    intro v hv
    obtain ⟨j, hj, rfl⟩ := List.getElem_of_mem hv
    simp [hs j _ (List.getElem?_eq_getElem hj)]
  have h2 : ¬ 65536 < (max objs 1) ^ vars.length := by omega
  simp [askVars, h1, h2]
theorem asks_other {objs : Nat} {op : Int} {vars : Bd} (h : (op == 19) = false) : askVars objs op vars = false := by simp [askVars, h]
theorem asksTs_any {objs : Nat} : ∀ {l : List Tm}, asksTs objs l = l.any (asksT objs)
  | [] => rfl
  | t :: l => by simp only [asksTs, List.any_cons, asksTs_any]
theorem asks1_any {w : World} {p : Parts} {q0 objs : Nat} {b : Bool} (hq : w.cell? ⟨q0, 0, none⟩ = some (.int .i64 objs))
    (hc : Calls Tryz.prog 21 #[.agg p.arr, .int .i64 objs] (boxT w p) fun e w'' => e = .returned (.bool b) ∧ Below (boxT w p).heap.size (boxT w p) w'') :
    Calls Tryz.prog 32 #[.agg p.arr, .pointer (some ⟨q0, 0, none⟩)] w fun e w'' => e = .returned (.bool b) ∧ Below w.heap.size w w'' := by
  have Hc := Lib.hid hc
  clear hc
  have hq2 : (w.alloc (.cells #[.int .i64 p.op, .string p.name, .int .i64 p.sort, .string p.n, .slice p.A p.la p.ca, .slice p.V p.lv p.cv, .slice p.P p.lp p.cp] 29)).cell? ⟨q0, 0, none⟩ = some (.int .i64 objs) := cell_of_below (below_boxT w p) (Nat.le_refl _) hq
  clear hq
  show Calls Tryz.prog 32 #[.agg #[.int .i64 p.op, .string p.name, .int .i64 p.sort, .string p.n, .slice p.A p.la p.ca, .slice p.V p.lv p.cv, .slice p.P p.lp p.cp], .pointer (some ⟨q0, 0, none⟩)] w _
  go_enter Tryz.func32, Tryz.ntmps32
  go_wp2_with (go_at_call 21; refine Calls.mono Hc.out ?_; rintro e w3 ⟨rfl, hb3⟩; have Hb3 := Lib.hid hb3; clear hb3)
  go_ret
  exact ⟨rfl, (below_boxT w p).trans (Hb3.out.mono (by rw [boxT_size]; omega))⟩
set_option maxRecDepth 100000 in
set_option maxHeartbeats 2000000 in
theorem asks_any {objs : Nat} (ho : objs ≤ 1000) {t : Tm} {v : Value} {w : World} (h : TmV w t v) : ∀ w', Below w.heap.size w w' →
    Calls Tryz.prog 21 #[v, .int .i64 objs] w' fun e w'' => e = .returned (.bool (asksT objs t)) ∧ Below w'.heap.size w' w'' := by
  induction h with
  | @mk op name sort n l vars pat A V P ca cv cp f g hbd hl hf hL hv hV hp hg hP ihL _ =>
    intro w' hb
    obtain ⟨m, hm, hm1, hm2⟩ : ∃ m : Nat, m = max objs 1 ∧ 1 ≤ m ∧ m ≤ 1000 := ⟨_, rfl, by omega, by omega⟩
    have hmax : max (objs : Int) 1 = m := by omega
    obtain ⟨P0, hP0⟩ : ∃ P0 : Parts, P0 = ⟨op, name, sort, n, A, l.length, ca, V, vars.length, cv, P, pat.length, cp⟩ := ⟨_, rfl⟩
    obtain ⟨W, hW⟩ : ∃ W, W = (boxT w' P0).alloc (.cells #[.int .i64 objs] 3) := ⟨_, rfl⟩
    have hWb : Below w'.heap.size w' W := by
      rw [hW]
      exact (below_boxT w' _).alloc (by rw [boxT_size]; omega) _
    have hlen := hbd.l
    have hvl := hbd.v
    have HV : Hid (∀ (k : Nat) (x : ByteArray × Int), vars[k]? = some x → ∀ wr, Below W.heap.size W wr → ∃ b o, V = some ⟨b, o, none⟩ ∧ wr.cell? ⟨b, o + k * 2, none⟩ = some (.string x.1) ∧ wr.cell? ⟨b, o + k * 2 + 1, none⟩ = some (.int .i64 x.2)) := Lib.hid (fun k x hx wr hw =>
      RowCells.bound (RowCells.below hV (hb.trans ((hWb.trans (hw.mono hWb.size)).mono hb.size))) hx)
    have hrow : W.heap[w'.heap.size]? = some (.cells P0.arr 29 (0, 0)) ∧ W.heap[w'.heap.size + 1]? = some (.cells #[.int .i64 objs] 3 (0, 0)) ∧ W.heap.size = w'.heap.size + 2 := by
      rw [hW]
      refine ⟨(Below.heap_alloc (boxT w' P0) _ w'.heap.size (by rw [boxT_size]; omega)).trans (heap_alloc_new w' _), ?_, ?_⟩
      · rw [← boxT_size w' P0]; exact heap_alloc_new _ _
      · have := boxT_size w' P0; simp; omega
    have Hrow := Lib.hid hrow
    have Hcall : Hid (asksFCall W l.length f (at? l (asksT objs)) (w'.heap.size + 1)) := Lib.hid (fun j hj w2 hw2 => by
      have ht : l[j]? = some l[j] := List.getElem?_eq_getElem hj
      obtain ⟨p, hpp⟩ := (hL j _ ht).parts
      have hcell : w2.cell? ⟨w'.heap.size + 1, 0, none⟩ = some (.int .i64 objs) := cell_of_below hw2 (Nat.le_refl _) (by rw [cell_of_row _ _ 0 _ 3 (0, 0) hrow.2.1]; rfl)
      have hbw : Below w.heap.size w (boxT w2 p) := (hb.trans ((hWb.trans (hw2.mono hWb.size)).mono hb.size)).trans ((below_boxT w2 p).mono (by have := hb.size; have := hWb.size; have := hw2.size; omega))
      have hi := ihL j _ ht _ hbw
      rw [hpp] at hi ⊢
      have hq : at? l (asksT objs) j = asksT objs l[j] := by rw [at?, ht]
      rw [hq]
      exact asks1_any hcell hi)
    have Hparts : Hid (∀ j, j < l.length → ∃ p : Parts, f j = .agg p.arr) := Lib.hid (fun j hj => (hL j _ (List.getElem?_eq_getElem hj)).parts)
    have Hf := Lib.hid (RowCells.below hf (hb.trans (hWb.mono hb.size)))
    have Hwb := Lib.hid hWb
    have HW : Hid (W = (w'.alloc (.cells #[.int .i64 op, .string name, .int .i64 sort, .string n, .slice A l.length ca, .slice V vars.length cv, .slice P pat.length cp] 29)).alloc (.cells #[.int .i64 objs] 3)) := Lib.hid (by rw [hW, hP0]; rfl)
    have Hres : Hid (askVars objs op vars = false → asksT objs (.mk op name sort n l vars pat) = anyTo (at? l (asksT objs)) l.length) := Lib.hid (fun h => by
      simp only [asksT]
      rw [h, anyTo_at, asksTs_any]
      rfl)
    have Hyes : Hid (askVars objs op vars = true → asksT objs (.mk op name sort n l vars pat) = true) := Lib.hid (fun h => by
      simp only [asksT]
      rw [h]
      rfl)
    generalize asksT objs (.mk op name sort n l vars pat) = res at *
    subst hP0
    clear hf ihL hL hP hg hV hb hbd hW hWb hrow
    generalize hnv : vars.length = nv at *
    by_cases h19 : (op == 19) = true
    · have h19 : op = 19 := by simpa using h19
      subst h19
      have Hno : Hid ((∀ (j : Nat) (v : ByteArray × Int), vars[j]? = some v → v.2 = 3) → m ^ nv ≤ 65536 → res = anyTo (at? l (asksT objs)) l.length) := Lib.hid (fun h1 h2 => Hres.out (asks_none h1 (by rw [← hm, hnv]; exact h2)))
      have Hs : Hid (∀ (k : Nat) (x : ByteArray × Int), vars[k]? = some x → ¬ x.2 = 3 → res = true) := Lib.hid (fun k x hx h => Hyes.out (asks_sort (x := x.1) (s := x.2) hx h))
      have Hp : Hid (∀ k, k + 1 ≤ nv → 65536 < m ^ (k + 1) → res = true) := Lib.hid (fun k hk h => Hyes.out (asks_pow (by rw [hnv]; exact hk) (by rw [← hm]; exact h)))
      clear Hres Hyes
      go_enter Tryz.func21, Tryz.ntmps21
      go_wp2_with fail
      go_loopw [5, 11] (fun nn i wr => ∃ (k : Nat) (z : Nat), k ≤ nv ∧ i = .int .i64 k ∧ nn = .int .i64 z ∧ z ≤ 65536 ∧ Hid (z = m ^ k ∧ ∀ (j : Nat) (v : ByteArray × Int), j < k → vars[j]? = some v → v.2 = 3) ∧ Hid (Below W.heap.size W wr)) (fun _ i _ => nv - (intOf i).toNat)
      case atStart => exact ⟨0, 1, Nat.zero_le _, rfl, rfl, by omega, Lib.hid ⟨rfl, fun j v hj => by omega⟩, Lib.hid (by rw [HW.out]; exact Below.refl _ _)⟩
      case round =>
        obtain ⟨k, z, hk, rfl, rfl, hz, HZ, Hbr⟩ := hrel
        have c0 : wr.cell? ⟨w'.heap.size, 0, none⟩ = some (.int .i64 19) := cell_of_below Hbr.out (Nat.le_refl _) (by rw [cell_of_row _ _ 0 _ 29 (0, 0) Hrow.out.1]; rfl)
        have c4 : wr.cell? ⟨w'.heap.size, 4, none⟩ = some (.slice A l.length ca) := cell_of_below Hbr.out (Nat.le_refl _) (by rw [cell_of_row _ _ 4 _ 29 (0, 0) Hrow.out.1]; rfl)
        have d0 : wr.cell? ⟨w'.heap.size + 1, 0, none⟩ = some (.int .i64 objs) := cell_of_below Hbr.out (Nat.le_refl _) (by rw [cell_of_row _ _ 0 _ 3 (0, 0) Hrow.out.2.1]; rfl)
        have q0 : w'.heap.size < wr.heap.size := by have := Hbr.out.size; have := Hrow.out.2.2; omega
        have q1 : w'.heap.size + 1 < wr.heap.size := by have := Hbr.out.size; have := Hrow.out.2.2; omega
        by_cases hlt : k < nv
        · have hxk : vars[k]? = some (vars[k]'(by omega)) := List.getElem?_eq_getElem _
          obtain ⟨b, o, rfl, v0, v1⟩ := HV.out k _ hxk wr Hbr.out
          generalize vars[k]'(by omega) = vk at *
          have Hxk := Lib.hid hxk
          clear hxk
          have hwr : wrap64 ((z : Int) * (max objs 1 : Nat)) = ((z * m : Nat) : Int) := by
            rw [← hm]
            have h1 : z * m ≤ 65536 * 1000 := Nat.mul_le_mul hz hm2
            have h2 : ((z : Int) * (m : Int)) = ((z * m : Nat) : Int) := by simp
            rw [h2]
            unfold wrap64
            omega
          by_cases hs3 : vk.2 = 3
          · have Hs3 := Lib.hid hs3
            rw [hs3] at v1
            by_cases hbig : 65536 < z * m
            · have Hyes : Hid (res = true) := Lib.hid (Hp.out k (by omega) (by rw [Nat.pow_succ, ← HZ.out.1]; exact hbig))
              have hb2 : ((65536 : Int) < ((z * m : Nat) : Int)) := by omega
              generalize hzm : z * m = zm at *
              go_wp2_with fail
              go_ret
              exact ⟨by rw [Hyes.out]; rfl, Hwb.out.trans ((Hbr.out.alloc Hbr.out.size _).mono Hwb.out.size)⟩
            · have HZ2 : Hid (z * m = m ^ (k + 1) ∧ ∀ (j : Nat) (v : ByteArray × Int), j < k + 1 → vars[j]? = some v → v.2 = 3) := Lib.hid ⟨by rw [Nat.pow_succ, ← HZ.out.1], fun j v hj hv => by
                by_cases hjk : j = k
                · subst hjk
                  rw [Hxk.out] at hv
                  cases hv
                  exact Hs3.out
                · exact HZ.out.2 j v (by omega) hv⟩
              have hb2 : ¬ ((65536 : Int) < ((z * m : Nat) : Int)) := by omega
              generalize hzm : z * m = zm at *
              go_wp2_with fail
              go_roundw
              case rel => exact ⟨k + 1, zm, by omega, by go_num, by rw [hwr], Nat.le_of_not_lt hbig, HZ2, Lib.hid (Hbr.out.alloc Hbr.out.size _)⟩
              case measure => simp [intOf]; omega
          · have Hyes : Hid (res = true) := Lib.hid (Hs.out k _ Hxk.out hs3)
            go_wp2_with fail
            go_ret
            exact ⟨by rw [Hyes.out]; rfl, Hwb.out.trans ((Hbr.out.alloc Hbr.out.size _).mono Hwb.out.size)⟩
        · have hkn : k = nv := by omega
          subst hkn
          have Hfw := Lib.hid (Hf.out.below Hbr.out)
          have Hcall2 : Hid (asksFCall wr l.length f (at? l (asksT objs)) (w'.heap.size + 1)) := Lib.hid (fun j hj w2 hw2 => Hcall.out j hj w2 (Hbr.out.trans (hw2.mono Hbr.out.size)))
          go_wp2_with (go_at_call 31; refine (asksF_contains (w'.heap.size + 1) hlen Hfw.out Hparts.out Hcall2.out).mono ?_; rintro e w3 ⟨rfl, hb3⟩; have Hb3 := Lib.hid hb3; clear hb3)
          go_ret
          exact ⟨by rw [Hno.out (fun j v hj => HZ.out.2 j v (by rw [← hnv]; exact (List.getElem?_eq_some_iff.1 hj).1) hj) (by rw [← HZ.out.1]; exact hz)]; rfl, Hwb.out.trans ((Hbr.out.trans (Hb3.out.mono Hbr.out.size)).mono Hwb.out.size)⟩
    · have h19 : (op == 19) = false := by simpa using h19
      have Hres : Hid (res = anyTo (at? l (asksT objs)) l.length) := Lib.hid (Hres.out (asks_other h19))
      clear Hyes
      go_enter Tryz.func21, Tryz.ntmps21
      go_wp2_with fail
      go_loopw [5, 11] (fun nn i wr => ∃ (k : Nat) (z : Int), k ≤ nv ∧ i = .int .i64 k ∧ nn = .int .i64 z ∧ Hid (Below W.heap.size W wr)) (fun _ i _ => nv - (intOf i).toNat)
      case atStart => exact ⟨0, 1, Nat.zero_le _, rfl, rfl, Lib.hid (by rw [HW.out]; exact Below.refl _ _)⟩
      case round =>
        obtain ⟨k, z, hk, rfl, rfl, Hbr⟩ := hrel
        have c0 : wr.cell? ⟨w'.heap.size, 0, none⟩ = some (.int .i64 op) := cell_of_below Hbr.out (Nat.le_refl _) (by rw [cell_of_row _ _ 0 _ 29 (0, 0) Hrow.out.1]; rfl)
        have c4 : wr.cell? ⟨w'.heap.size, 4, none⟩ = some (.slice A l.length ca) := cell_of_below Hbr.out (Nat.le_refl _) (by rw [cell_of_row _ _ 4 _ 29 (0, 0) Hrow.out.1]; rfl)
        have d0 : wr.cell? ⟨w'.heap.size + 1, 0, none⟩ = some (.int .i64 objs) := cell_of_below Hbr.out (Nat.le_refl _) (by rw [cell_of_row _ _ 0 _ 3 (0, 0) Hrow.out.2.1]; rfl)
        have q0 : w'.heap.size < wr.heap.size := by have := Hbr.out.size; have := Hrow.out.2.2; omega
        have q1 : w'.heap.size + 1 < wr.heap.size := by have := Hbr.out.size; have := Hrow.out.2.2; omega
        by_cases hlt : k < nv
        · have hxk : vars[k]? = some (vars[k]'(by omega)) := List.getElem?_eq_getElem _
          obtain ⟨b, o, rfl, v0, v1⟩ := HV.out k _ hxk wr Hbr.out
          generalize vars[k]'(by omega) = vk at *
          clear hxk
          go_wp2_with fail
          go_roundw
          case rel => exact ⟨k + 1, _, by omega, by go_num, rfl, Lib.hid (Hbr.out.alloc Hbr.out.size _)⟩
          case measure => simp [intOf]; omega
        · have hkn : k = nv := by omega
          subst hkn
          have Hfw := Lib.hid (Hf.out.below Hbr.out)
          have Hcall2 : Hid (asksFCall wr l.length f (at? l (asksT objs)) (w'.heap.size + 1)) := Lib.hid (fun j hj w2 hw2 => Hcall.out j hj w2 (Hbr.out.trans (hw2.mono Hbr.out.size)))
          go_wp2_with (go_at_call 31; refine (asksF_contains (w'.heap.size + 1) hlen Hfw.out Hparts.out Hcall2.out).mono ?_; rintro e w3 ⟨rfl, hb3⟩; have Hb3 := Lib.hid hb3; clear hb3)
          go_ret
          exact ⟨by rw [Hres.out]; rfl, Hwb.out.trans ((Hbr.out.trans (Hb3.out.mono Hbr.out.size)).mono Hwb.out.size)⟩
end Go.Proofs.YtbnonccmlildnaaGreat
