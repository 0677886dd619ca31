/- Find, as the reference tells it. -/
import Derived.Test.YtlgbepamnkfpjaaGreatDoorM36
set_option linter.unusedSimpArgs false
set_option linter.unusedVariables false
set_option linter.unusedVariables false
set_option linter.unusedSimpArgs false
namespace Go.Proofs.YtlgbepamnkfpjaaGreatDoor
open Go.RowKit Go.Lib

def missF (sig : List Fn) (x : ByteArray) (k : Nat) : Prop := ∀ j f, j < k → sig[j]? = some f → (f.name.toList == x.toList) = false
theorem missF_none {sig : List Fn} {x : ByteArray} (h : missF sig x sig.length) : firstFn sig x = none := by
  rw [firstFn_none]
  intro f hf
  obtain ⟨j, hj, e⟩ := List.getElem_of_mem hf
  exact h j f hj (by rw [List.getElem?_eq_getElem hj, e])
theorem missF_some {sig : List Fn} {x : ByteArray} {k : Nat} (hk : k < sig.length) (h : missF sig x k) (he : (sig[k].name.toList == x.toList) = true) : firstFn sig x = some k := by
  unfold firstFn
  rw [List.findIdx?_eq_some_iff_getElem]
  refine ⟨hk, he, fun j hj => ?_⟩
  have := h j sig[j] hj (List.getElem?_eq_getElem _)
  simp [this]
theorem size46 : (Tryz.prog.info? 46).map (·.size) = some 3 := by kernel_rfl
def FindIs (w : World) (sig : List Fn) (x : ByteArray) (e : Ending) (w' : World) : Prop :=
  (foundFn sig x = none ∧ e = .returned (.tuple #[.agg #[.string ⟨#[]⟩, .slice none 0 0, .int .i64 0], .bool false]) ∧ Below w.heap.size w w') ∨
  (∃ f B c, foundFn sig x = some f ∧ firstFn sig x ≠ none ∧ e = .returned (.tuple #[.agg #[.string f.name, .slice B f.args.length c, .int .i64 f.out], .bool true]) ∧ IntsAt w' B c f.args ∧ Below w.heap.size w w')
set_option maxRecDepth 100000 in
set_option maxHeartbeats 4000000 in
theorem Find_any {w0 : World} {sig : List Fn} {S : Option Addr} {cs : Nat} (hS : FnsAt w0 S sig) (hlen : sig.length ≤ 140737488355328) (x : ByteArray) : ∀ W, Below w0.heap.size w0 W →
    Calls Tryz.prog 51 #[.slice S sig.length cs, .string x] W (FindIs W sig x) := by
  intro W hW
  have HW := Lib.hid hW
  have HS := Lib.hid hS
  have HB : Hid (Below W.heap.size W (W.alloc (.cells #[.string ⟨#[]⟩, .slice none 0 0, .int .i64 0] 46))) := Lib.hid ((Below.refl _ _).alloc (Nat.le_refl _) _)
  clear hS hW
  obtain ⟨n, hn⟩ : ∃ n, sig.length = n := ⟨_, rfl⟩
  have Hn := Lib.hid hn
  rw [hn] at hlen ⊢
  clear hn
  go_enter Tryz.func51, Tryz.ntmps51
  go_wp2_with fail
  go_loopw [6] (fun i wr => ∃ k : Nat, k ≤ n ∧ i = .int .i64 k ∧ Hid (missF sig x k) ∧ wr = W.alloc (.cells #[.string ⟨#[]⟩, .slice none 0 0, .int .i64 0] 46)) (fun i _ => n - (Go.RowKit.intOf i).toNat)
  case atStart => exact ⟨0, by omega, rfl, Lib.hid (fun j f h => absurd h (Nat.not_lt_zero _)), rfl⟩
  case round =>
    obtain ⟨k, hk, rfl, HM, rfl⟩ := hrel
    by_cases hlt : k < n
    · have hks : k < sig.length := by have := Hn.out; omega
      obtain ⟨b, o, B, c, rfl, e0, e1, e2, hi⟩ := (HS.out.mono (HW.out.trans (HB.out.mono HW.out.size))).get (List.getElem?_eq_getElem hks)
      have Hi : Hid (IntsAt W B c sig[k].args) := Lib.hid (by
        obtain ⟨b2, o2, B2, c2, he, g0, g1, g2, gi⟩ := (HS.out.mono HW.out).get (List.getElem?_eq_getElem hks)
        cases he
        have h1 := (cell_of_below HB.out (Nat.le_refl _) g1).symm.trans e1
        cases h1
        exact gi)
      have Hms := Lib.hid (missF_some (sig := sig) (x := x) hks HM.out)
      have Hmn : Hid ((sig[k].name.toList == x.toList) = false → missF sig x (k + 1)) := Lib.hid (fun he j f hj hf => by
        by_cases e : j = k
        · subst e
          rw [List.getElem?_eq_getElem hks] at hf
          cases hf
          exact he
        · exact HM.out j f (by omega) hf)
      have Hff : Hid (firstFn sig x = some k → foundFn sig x = some sig[k]) := Lib.hid (fun h => by unfold foundFn; rw [h]; exact List.getElem?_eq_getElem hks)
      have k1 : (0 : Int) ≤ (k : Int) := by omega
      have k2 : (k : Int) < (n : Int) := by omega
      clear hi
      generalize sig[k] = f at *
      obtain ⟨nm, args, out⟩ := f
      dsimp only at e0 e1 e2 Hi Hms Hmn
      cases he : (nm.toList == x.toList) with
      | true =>
        have Hf := Lib.hid (Hms.out he)
        have Hr := Lib.hid (Hff.out Hf.out)
        have Hi2 : Hid (IntsAt (W.alloc (.cells #[.string nm, .slice B args.length c, .int .i64 out] 46)) B c args) := Lib.hid (Hi.out.mono ((Below.refl _ _).alloc (Nat.le_refl _) _))
        have HB2 : Hid (Below W.heap.size W (W.alloc (.cells #[.string nm, .slice B args.length c, .int .i64 out] 46))) := Lib.hid ((Below.refl _ _).alloc (Nat.le_refl _) _)
        go_wp2_with fail
        refine bodyPost_ret (results_two rfl _ _ W.heap.size 46 #[.string nm, .slice B args.length c, .int .i64 out] (0, 0) _ rfl (heap_alloc_new _ _) Tryz.underlying46 rfl size46) rfl ?_
        exact .inr ⟨_, B, c, Hr.out, by rw [Hf.out]; simp, rfl, Hi2.out, HB2.out⟩
      | false =>
        have Hm := Lib.hid (Hmn.out he)
        go_wp2_with fail
        go_roundw
        case rel => exact ⟨k + 1, by omega, by go_num, Hm, trivial⟩
        case measure => simp [Go.RowKit.intOf]; omega
    · have Hr : Hid (foundFn sig x = none) := Lib.hid (by
        have : k = sig.length := by have := Hn.out; omega
        unfold foundFn
        rw [missF_none (by rw [← this]; exact HM.out)])
      have hlt2 : ¬ (k : Int) < (n : Int) := by omega
      go_wp2_with fail
      refine bodyPost_ret (results_two rfl _ _ W.heap.size 46 #[.string ⟨#[]⟩, .slice none 0 0, .int .i64 0] (0, 0) _ rfl (heap_alloc_new _ _) Tryz.underlying46 rfl size46) rfl ?_
      exact .inl ⟨Hr.out, rfl, HB.out⟩
end Go.Proofs.YtlgbepamnkfpjaaGreatDoor

/- all: many operands of one sort. -/
set_option linter.unusedVariables false
set_option linter.unusedSimpArgs false
namespace Go.Proofs.YtlgbepamnkfpjaaGreatDoor
open Go.RowKit Go.Lib

def okBd (bd : Bd) : Prop := ∀ x ∈ bd, x.1.size ≤ 140737488355328 ∧ i64 x.2
/-- What the reference tells of a term. -/
def RefOK (w0 : World) (sig : List Fn) (S : Option Addr) (cs : Nat) (t : Tm) (v : Value) : Prop :=
  ∀ (bd : Bd) (V : Option Addr) (cv : Nat) (W : World), Below w0.heap.size w0 W → RowCells W V 2 bd.length (bval bd) → bd.length ≤ cv → bd.length + tw t ≤ 1000000 → okBd bd → (V = none → cv = 0) →
    Calls Tryz.prog 26 #[.slice S sig.length cs, v, .slice V bd.length cv] W (SortIs W (checkS sig t bd))
def allS (sig : List Fn) (l : List Tm) (bd : Bd) (sort own : Int) : Int × Int :=
  if (checksS sig l bd).2 ≠ 0 then (0, (checksS sig l bd).2) else if (checksS sig l bd).1.all (· == sort) then (own, 0) else (0, 31)
set_option maxRecDepth 100000 in
set_option maxHeartbeats 4000000 in
theorem all_any {w0 : World} {sig : List Fn} {S : Option Addr} {cs : Nat} {op ts : Int} {name tn : ByteArray} {l : List Tm} {A X P : Option Addr} {ca lx cx lp cp : Nat} {f : Nat → Value} (hf : RowCells w0 A 7 l.length f) (hL : ∀ (j : Nat) (t : Tm), l[j]? = some t → TmV w0 t (f j)) (hR : ∀ (j : Nat) (t : Tm), l[j]? = some t → RefOK w0 sig S cs t (f j)) (hl : tws l ≤ 1000000)
    (bd : Bd) (V : Option Addr) (cv : Nat) (sort own : Int) (W : World) (hW : Below w0.heap.size w0 W) (hV : RowCells W V 2 bd.length (bval bd)) (hcv : bd.length ≤ cv) (hbl : bd.length + tws l ≤ 1000000) (hbd : okBd bd) (hll : l.length ≤ 140737488355328) (hV0 : V = none → cv = 0) :
    Calls Tryz.prog 50 #[.slice S sig.length cs, .agg #[.int .i64 op, .string name, .int .i64 ts, .string tn, .slice A l.length ca, .slice X lx cx, .slice P lp cp], .slice V bd.length cv, .int .i64 sort, .int .i64 own] W (SortIs W (allS sig l bd sort own)) := by
  have Hf := Lib.hid hf
  have HL := Lib.hid hL
  have HR := Lib.hid hR
  have HW := Lib.hid hW
  have HV := Lib.hid hV
  have Hbd := Lib.hid hbd
  have HV0 := Lib.hid hV0
  have Hcv := Lib.hid hcv
  have Hbl := Lib.hid hbl
  have HD : Hid (allS sig l bd sort own = if (checksS sig l bd).2 ≠ 0 then (0, (checksS sig l bd).2) else if (checksS sig l bd).1.all (· == sort) then (own, 0) else (0, 31)) := Lib.hid rfl
  have Hrow := Lib.hid (boxT_row W ⟨op, name, ts, tn, A, l.length, ca, X, lx, cx, P, lp, cp⟩)
  have HB : Hid (Below W.heap.size W (boxT W ⟨op, name, ts, tn, A, l.length, ca, X, lx, cx, P, lp, cp⟩)) := Lib.hid (below_boxT _ _)
  obtain ⟨WB, hWB⟩ : ∃ WB, WB = boxT W ⟨op, name, ts, tn, A, l.length, ca, X, lx, cx, P, lp, cp⟩ := ⟨_, rfl⟩
  have HWB := Lib.hid hWB
  have HS : Hid (WB.heap.size = W.heap.size + 1) := Lib.hid (by rw [hWB]; exact boxT_size _ _)
  rw [← hWB] at Hrow HB
  clear hWB hf hL hR hW hV hbd hl hbl hcv hV0
  generalize allS sig l bd sort own = res at *
  obtain ⟨ns, hns⟩ : ∃ ns, sig.length = ns := ⟨_, rfl⟩
  have Hns := Lib.hid hns
  rw [hns]
  obtain ⟨nb, hnb⟩ : ∃ nb, bd.length = nb := ⟨_, rfl⟩
  have Hnb := Lib.hid hnb
  rw [hnb] at HV ⊢
  obtain ⟨ll, hlln⟩ : ∃ ll, l.length = ll := ⟨_, rfl⟩
  have Hll := Lib.hid hlln
  rw [hlln] at Hf HWB Hrow hll ⊢
  clear hnb hlln hns
  go_enter Tryz.func50, Tryz.ntmps50
  go_wp2_with fail
  go_loopw [12, 13] (fun b i wr => ∃ k : Nat, k ≤ ll ∧ i = .int .i64 k ∧ Hid ((checksS sig (l.take k) bd).2 = 0) ∧ b = .bool ((checksS sig (l.take k) bd).1.all (· == sort)) ∧ Hid (Below (W.heap.size + 1) WB wr)) (fun _ i _ => ll - (Go.RowKit.intOf i).toNat)
  case atStart => exact ⟨0, by omega, rfl, Lib.hid rfl, rfl, Lib.hid (by rw [HWB.out]; exact Below.refl _ _)⟩
  case round =>
    obtain ⟨k, hk, rfl, HE, rfl, HBr⟩ := hrel
    have Hbw : Hid (Below W.heap.size W wr) := Lib.hid (HB.out.trans (HBr.out.mono (by omega)))
    have hrow2 := below_keeps (by rw [HS.out]; exact HBr.out) Hrow.out
    obtain ⟨_, _, _, _, x4, _, _⟩ := box_cells hrow2
    dsimp only at x4
    clear hrow2
    by_cases hlt : k < ll
    · have hkl : k < l.length := by have := Hll.out; omega
      have Ht : Hid (l[k]? = some l[k]) := Lib.hid (List.getElem?_eq_getElem hkl)
      have Htk := Lib.hid (checksS_take sig bd hkl HE.out)
      have Hv := Lib.hid (HL.out k _ Ht.out)
      obtain ⟨p, hp⟩ := Hv.out.parts
      have Hp := Lib.hid hp
      have hwr0 : Below w0.heap.size w0 wr := HW.out.trans (Hbw.out.mono HW.out.size)
      obtain ⟨b, o, rfl, e0, e1, e2, e3, e4, e5, e6⟩ := (Hf.out.below hwr0).get hlt hp
      have Hc : Hid (Calls Tryz.prog 26 #[.slice S ns cs, .agg #[.int .i64 p.op, .string p.name, .int .i64 p.sort, .string p.n, .slice p.A p.la p.ca, .slice p.V p.lv p.cv, .slice p.P p.lp p.cp], .slice V nb cv] wr (SortIs wr (checkS sig l[k] bd))) := Lib.hid (by
        have h := HR.out k _ Ht.out bd V cv wr hwr0 (by rw [Hnb.out]; exact HV.out.below Hbw.out) Hcv.out (by have := tws_mem Ht.out; have := Hbl.out; omega) Hbd.out HV0.out
        rw [Hp.out, Hnb.out, Hns.out] at h
        exact h)
      have k1 : (0 : Int) ≤ (k : Int) := by omega
      have k2 : (k : Int) < (ll : Int) := by omega
      clear hp hwr0 Ht Hv Hp
      generalize checkS sig l[k] bd = r at *
      obtain ⟨r1, r2⟩ := r
      by_cases hr : r2 = 0
      · have Hn := Lib.hid (Htk.out.1 hr)
        subst hr
        generalize (checksS sig (l.take k) bd).1 = xs at *
        by_cases hs : r1 = sort
        · subst hs
          have Hq : Hid ((checksS sig (l.take (k + 1)) bd).1.all (· == r1) = xs.all (· == r1)) := Lib.hid (by rw [Hn.out]; simp)
          have Hq2 : Hid ((checksS sig (l.take (k + 1)) bd).2 = 0) := Lib.hid (by rw [Hn.out])
          generalize xs.all (· == r1) = q at *
          cases q
          all_goals
            go_wp2_with (go_at_call 26; (with_reducible refine Calls.mono Hc.out ?_); rintro e w3 ⟨rfl, hb3⟩; have Hb3 := Lib.hid hb3; clear hb3)
            go_roundw
            case rel => exact ⟨k + 1, by omega, by go_num, Hq2, by rw [Hq.out], Lib.hid (HBr.out.trans (Hb3.out.mono (by have := HBr.out.size; rw [HS.out] at this; omega)))⟩
            case measure => simp [Go.RowKit.intOf]; omega
        · have Hq : Hid ((checksS sig (l.take (k + 1)) bd).1.all (· == sort) = false) := Lib.hid (by rw [Hn.out]; simp [hs])
          have Hq2 : Hid ((checksS sig (l.take (k + 1)) bd).2 = 0) := Lib.hid (by rw [Hn.out])
          have hs2 : (r1 == sort) = false := beq_eq_false_iff_ne.2 hs
          generalize xs.all (· == sort) = q at *
          cases q
          all_goals
            go_wp2_with (go_at_call 26; (with_reducible refine Calls.mono Hc.out ?_); rintro e w3 ⟨rfl, hb3⟩; have Hb3 := Lib.hid hb3; clear hb3)
            go_roundw
            case rel => exact ⟨k + 1, by omega, by go_num, Hq2, by rw [Hq.out], Lib.hid (HBr.out.trans (Hb3.out.mono (by have := HBr.out.size; rw [HS.out] at this; omega)))⟩
            case measure => simp [Go.RowKit.intOf]; omega
      · have Hr : Hid (res = (0, r2)) := Lib.hid (by
          have := Htk.out.2 hr
          rw [HD.out, this, if_pos hr])
        have hr2 : (r2 != 0) = true := by rw [bne_iff_ne]; exact hr
        go_wp2_with (go_at_call 26; (with_reducible refine Calls.mono Hc.out ?_); rintro e w3 ⟨rfl, hb3⟩; have Hb3 := Lib.hid hb3; clear hb3)
        go_ret2
        exact ⟨by rw [Hr.out]; rfl, Hbw.out.trans (Hb3.out.mono Hbw.out.size)⟩
    · have hlt2 : ¬ (k : Int) < (ll : Int) := by omega
      have hfull : l.take k = l := List.take_of_length_le (by have := Hll.out; omega)
      have HE2 : Hid (res = if (checksS sig l bd).1.all (· == sort) then (own, 0) else (0, 31)) := Lib.hid (by
        have := HE.out
        rw [hfull] at this
        rw [HD.out, if_neg (by simpa using this)])
      rw [hfull]
      generalize (checksS sig l bd).1.all (· == sort) = q at *
      cases q with
      | true =>
        have Hr : Hid (res = (own, 0)) := Lib.hid (by rw [HE2.out]; rfl)
        go_wp2_with fail
        go_ret2
        exact ⟨by rw [Hr.out]; rfl, Hbw.out⟩
      | false =>
        have Hr : Hid (res = (0, 31)) := Lib.hid (by rw [HE2.out]; rfl)
        go_wp2_with fail
        go_ret2
        exact ⟨by rw [Hr.out]; rfl, Hbw.out⟩
end Go.Proofs.YtlgbepamnkfpjaaGreatDoor

/- The reference's check: what it is given; numbers and truths. -/
set_option linter.unusedVariables false
set_option linter.unusedSimpArgs false
namespace Go.Proofs.YtlgbepamnkfpjaaGreatDoor
open Go.RowKit Go.Lib

structure RefPre (w0 : World) (sig : List Fn) (S : Option Addr) (cs : Nat) (op ts : Int) (name tn : ByteArray) (l : List Tm) (vars : Bd) (pat : List Tm) (A X P : Option Addr) (ca cx cp : Nat) (f g : Nat → Value) (bd : Bd) (V : Option Addr) (cv : Nat) (W : World) : Prop where
  hbd : Bds op ts name tn l.length vars pat.length
  hf : RowCells w0 A 7 l.length f
  hL : ∀ (j : Nat) (t : Tm), l[j]? = some t → TmV w0 t (f j)
  hR : ∀ (j : Nat) (t : Tm), l[j]? = some t → RefOK w0 sig S cs t (f j)
  hX : RowCells w0 X 2 vars.length (bval vars)
  hg : RowCells w0 P 7 pat.length g
  hP : ∀ (j : Nat) (t : Tm), pat[j]? = some t → TmV w0 t (g j)
  hRP : ∀ (j : Nat) (t : Tm), pat[j]? = some t → RefOK w0 sig S cs t (g j)
  hla : l.length ≤ ca
  hxa : vars.length ≤ cx
  hpa : pat.length ≤ cp
  hS : FnsAt w0 S sig
  hns : sig.length ≤ 140737488355328
  hout : ∀ f ∈ sig, i64 f.out
  hW : Below w0.heap.size w0 W
  hV : RowCells W V 2 bd.length (bval bd)
  hcv : bd.length ≤ cv
  hbl : bd.length + tw (.mk op name ts tn l vars pat) ≤ 1000000
  okb : okBd bd
  hV0 : V = none → cv = 0
theorem checkS_shape {sig : List Fn} {op ts : Int} {name tn : ByteArray} {l : List Tm} {vars : Bd} {pat : List Tm} {bd : Bd} (h : shapeB (.mk op name ts tn l vars pat) = false) : checkS sig (.mk op name ts tn l vars pat) bd = (0, 30) := by
  simp only [checkS]
  rw [if_pos h]

set_option maxRecDepth 100000 in
set_option maxHeartbeats 4000000 in
theorem check_num {w0 : World} {sig : List Fn} {S : Option Addr} {cs : Nat} {ts : Int} {name tn : ByteArray} {l : List Tm} {vars : Bd} {pat : List Tm} {A X P : Option Addr} {ca cx cp : Nat} {f g : Nat → Value} {bd : Bd} {V : Option Addr} {cv : Nat} {W : World} (H : RefPre w0 sig S cs 1 ts name tn l vars pat A X P ca cx cp f g bd V cv W) : Calls Tryz.prog 26 #[.slice S sig.length cs, .agg #[.int .i64 1, .string name, .int .i64 ts, .string tn, .slice A l.length ca, .slice X vars.length cx, .slice P pat.length cp], .slice V bd.length cv] W (SortIs W (checkS sig (.mk 1 name ts tn l vars pat) bd)) := by
  have HH := Lib.hid H
  have hll0 := H.hbd.l
  have hlp0 := H.hbd.p
  have hlx0 := H.hbd.v
  have hnb0 : bd.length ≤ 1000000 := by have := H.hbl; omega
  have hns0 := H.hns
  have Hrow := Lib.hid (boxT_row W ⟨1, name, ts, tn, A, l.length, ca, X, vars.length, cx, P, pat.length, cp⟩)
  have HB : Hid (Below W.heap.size W (boxT W ⟨1, name, ts, tn, A, l.length, ca, X, vars.length, cx, P, pat.length, cp⟩)) := Lib.hid (below_boxT _ _)
  obtain ⟨x0, x1, x2, x3, x4, x5, x6⟩ := box_cells Hrow.out
  dsimp only at x0 x1 x2 x3 x4 x5 x6
  unfold boxT at x0 x1 x2 x3 x4 x5 x6
  dsimp only at x0 x1 x2 x3 x4 x5 x6
  obtain ⟨WB, hWB⟩ : ∃ WB, WB = boxT W ⟨1, name, ts, tn, A, l.length, ca, X, vars.length, cx, P, pat.length, cp⟩ := ⟨_, rfl⟩
  have HWB := Lib.hid hWB
  have HS : Hid (WB.heap.size = W.heap.size + 1) := Lib.hid (by rw [hWB]; exact boxT_size _ _)
  have HE : Hid (W.alloc (.cells #[.int .i64 1, .string name, .int .i64 ts, .string tn, .slice A l.length ca, .slice X vars.length cx, .slice P pat.length cp] 26) = WB) := Lib.hid hWB.symm
  rw [← hWB] at Hrow HB
  clear hWB H
  obtain ⟨res, hres⟩ : ∃ res, checkS sig (.mk 1 name ts tn l vars pat) bd = res := ⟨_, rfl⟩
  have HD := Lib.hid hres
  rw [hres]
  obtain ⟨ll, hll⟩ : ∃ n, l.length = n := ⟨_, rfl⟩
  obtain ⟨lx, hlx⟩ : ∃ n, vars.length = n := ⟨_, rfl⟩
  obtain ⟨lp, hlp⟩ : ∃ n, pat.length = n := ⟨_, rfl⟩
  obtain ⟨ns, hns⟩ : ∃ n, sig.length = n := ⟨_, rfl⟩
  obtain ⟨nb, hnb⟩ : ∃ n, bd.length = n := ⟨_, rfl⟩
  have Hll := Lib.hid hll
  have Hlx := Lib.hid hlx
  have Hlp := Lib.hid hlp
  have Hns := Lib.hid hns
  have Hnb := Lib.hid hnb
  rw [hll] at hll0 HWB Hrow HE x4
  rw [hlx] at hlx0 HWB Hrow HE x5
  rw [hlp] at hlp0 HWB Hrow HE x6
  simp only [hll, hlx, hlp] at x0 x1 x2 x3 x4 x5 x6
  rw [hll, hlx, hlp, hns, hnb]
  rw [hns] at hns0
  rw [hnb] at hnb0
  clear hll hlx hlp hns hnb hres

  by_cases h0 : ll = 0
  rotate_left
  · have Hr : Hid (res = (0, 30)) := Lib.hid (by
      rw [← HD.out, checkS_shape]
      have := Hll.out
      simp [shapeB]
      intro _ h
      rw [h] at this
      simp at this
      omega)
    have h0' : ((ll : Int) != 0) = true := by rw [bne_iff_ne]; omega
    go_enter Tryz.func26, Tryz.ntmps26
    go_wp2_with fail
    go_ret2
    exact ⟨by rw [Hr.out]; rfl, by rw [HE.out]; exact HB.out⟩
  have Hl : Hid (l = []) := Lib.hid (List.length_eq_zero_iff.1 (by rw [Hll.out, h0]))
  have Hn : Hid (tn.size ≤ 140737488355328) := Lib.hid HH.out.hbd.n
  subst h0
  cases hr : rightB tn with
  | false =>
    have Hr : Hid (res = (0, 30)) := Lib.hid (by
      rw [← HD.out, checkS_shape]
      simp [shapeB, hr])
    have HR := Lib.hid hr
    clear hr
    go_enter Tryz.func26, Tryz.ntmps26
    go_wp2_with (go_at_call 49; (with_reducible refine Calls.mono (RightR_any _ Hn.out _) ?_); rw [HR.out]; rintro e w3 ⟨rfl, hb3⟩; rw [HE.out] at hb3; have Hb3 := Lib.hid hb3; clear hb3)
    go_ret2
    exact ⟨by rw [Hr.out]; rfl, HB.out.trans (Hb3.out.mono HB.out.size)⟩
  | true =>
    have Hr : Hid (res = (1, 0)) := Lib.hid (by
      rw [← HD.out, Hl.out]
      simp [checkS, checksS, shapeB, hr, ofE, nodeS])
    have HR := Lib.hid hr
    clear hr
    go_enter Tryz.func26, Tryz.ntmps26
    go_wp2_with (go_at_call 49; (with_reducible refine Calls.mono (RightR_any _ Hn.out _) ?_); rw [HR.out]; rintro e w3 ⟨rfl, hb3⟩; rw [HE.out] at hb3; have Hb3 := Lib.hid hb3; clear hb3)
    go_ret2
    exact ⟨by rw [Hr.out]; rfl, HB.out.trans (Hb3.out.mono HB.out.size)⟩
end Go.Proofs.YtlgbepamnkfpjaaGreatDoor

/- The reference's check: operands of one sort; truths; what is no operator. -/
set_option linter.unusedVariables false
set_option linter.unusedSimpArgs false
namespace Go.Proofs.YtlgbepamnkfpjaaGreatDoor
open Go.RowKit Go.Lib

theorem checkS_allS {sig : List Fn} {op ts : Int} {name tn : ByteArray} {l : List Tm} {vars : Bd} {pat : List Tm} {bd : Bd} {i o : Int} (hs : shapeB (.mk op name ts tn l vars pat) = true) (h1 : ofE sig op name ts l.length bd = 0) (h2 : op ≠ 19) (h3 : ∀ xs, nodeS sig op name ts xs = fixedS i o xs) : checkS sig (.mk op name ts tn l vars pat) bd = allS sig l bd i o := by
  simp only [checkS]
  rw [if_neg (by rw [hs]; simp), if_neg (by rw [h1]; simp), if_neg h2]
  unfold allS
  by_cases h4 : (checksS sig l bd).2 ≠ 0
  · rw [if_pos h4, if_pos h4]
  · rw [if_neg h4, if_neg h4, h3]
    unfold fixedS
    rw [if_neg (c := op = 19 ∧ _) (fun h => h2 h.1)]
    split <;> simp

set_option maxRecDepth 100000 in
set_option maxHeartbeats 4000000 in
theorem check_op4 {w0 : World} {sig : List Fn} {S : Option Addr} {cs : Nat} {ts : Int} {name tn : ByteArray} {l : List Tm} {vars : Bd} {pat : List Tm} {A X P : Option Addr} {ca cx cp : Nat} {f g : Nat → Value} {bd : Bd} {V : Option Addr} {cv : Nat} {W : World} (H : RefPre w0 sig S cs 4 ts name tn l vars pat A X P ca cx cp f g bd V cv W) : Calls Tryz.prog 26 #[.slice S sig.length cs, .agg #[.int .i64 4, .string name, .int .i64 ts, .string tn, .slice A l.length ca, .slice X vars.length cx, .slice P pat.length cp], .slice V bd.length cv] W (SortIs W (checkS sig (.mk 4 name ts tn l vars pat) bd)) := by
  have HH := Lib.hid H
  have hll0 := H.hbd.l
  have hlp0 := H.hbd.p
  have hlx0 := H.hbd.v
  have hnb0 : bd.length ≤ 1000000 := by have := H.hbl; omega
  have hns0 := H.hns
  have Hrow := Lib.hid (boxT_row W ⟨4, name, ts, tn, A, l.length, ca, X, vars.length, cx, P, pat.length, cp⟩)
  have HB : Hid (Below W.heap.size W (boxT W ⟨4, name, ts, tn, A, l.length, ca, X, vars.length, cx, P, pat.length, cp⟩)) := Lib.hid (below_boxT _ _)
  obtain ⟨x0, x1, x2, x3, x4, x5, x6⟩ := box_cells Hrow.out
  dsimp only at x0 x1 x2 x3 x4 x5 x6
  unfold boxT at x0 x1 x2 x3 x4 x5 x6
  dsimp only at x0 x1 x2 x3 x4 x5 x6
  obtain ⟨WB, hWB⟩ : ∃ WB, WB = boxT W ⟨4, name, ts, tn, A, l.length, ca, X, vars.length, cx, P, pat.length, cp⟩ := ⟨_, rfl⟩
  have HWB := Lib.hid hWB
  have HS : Hid (WB.heap.size = W.heap.size + 1) := Lib.hid (by rw [hWB]; exact boxT_size _ _)
  have HE : Hid (W.alloc (.cells #[.int .i64 4, .string name, .int .i64 ts, .string tn, .slice A l.length ca, .slice X vars.length cx, .slice P pat.length cp] 26) = WB) := Lib.hid hWB.symm
  rw [← hWB] at Hrow HB
  clear hWB H
  obtain ⟨res, hres⟩ : ∃ res, checkS sig (.mk 4 name ts tn l vars pat) bd = res := ⟨_, rfl⟩
  have HD := Lib.hid hres
  rw [hres]
  obtain ⟨ll, hll⟩ : ∃ n, l.length = n := ⟨_, rfl⟩
  obtain ⟨lx, hlx⟩ : ∃ n, vars.length = n := ⟨_, rfl⟩
  obtain ⟨lp, hlp⟩ : ∃ n, pat.length = n := ⟨_, rfl⟩
  obtain ⟨ns, hns⟩ : ∃ n, sig.length = n := ⟨_, rfl⟩
  obtain ⟨nb, hnb⟩ : ∃ n, bd.length = n := ⟨_, rfl⟩
  have Hll := Lib.hid hll
  have Hlx := Lib.hid hlx
  have Hlp := Lib.hid hlp
  have Hns := Lib.hid hns
  have Hnb := Lib.hid hnb
  rw [hll] at hll0 HWB Hrow HE x4
  rw [hlx] at hlx0 HWB Hrow HE x5
  rw [hlp] at hlp0 HWB Hrow HE x6
  simp only [hll, hlx, hlp] at x0 x1 x2 x3 x4 x5 x6
  rw [hll, hlx, hlp, hns, hnb]
  rw [hns] at hns0
  rw [hnb] at hnb0
  clear hll hlx hlp hns hnb hres
  by_cases h0 : ll = 1
  rotate_left
  · have Hr : Hid (res = (0, 30)) := Lib.hid (by
      rw [← HD.out, checkS_shape]
      simp only [shapeB]
      rw [Hll.out]
      simp
      omega)
    have h0' : ((ll : Int) != 1) = true := by rw [bne_iff_ne]; omega
    go_enter Tryz.func26, Tryz.ntmps26
    go_wp2_with fail
    go_ret2
    exact ⟨by rw [Hr.out]; rfl, by rw [HE.out]; exact HB.out⟩
  subst h0
  have Ha : Hid (Calls Tryz.prog 50 #[.slice S ns cs, .agg #[.int .i64 4, .string name, .int .i64 ts, .string tn, .slice A 1 ca, .slice X lx cx, .slice P lp cp], .slice V nb cv, .int .i64 2, .int .i64 2] WB (SortIs WB (allS sig l bd 2 2))) := Lib.hid (by
    have hbl := HH.out.hbl
    simp only [tw] at hbl
    have h := all_any (op := 4) (ts := ts) (name := name) (tn := tn) (A := A) (X := X) (P := P) (ca := ca) (lx := lx) (cx := cx) (lp := lp) (cp := cp) HH.out.hf HH.out.hL HH.out.hR (by omega) bd V cv 2 2 WB (HH.out.hW.trans (HB.out.mono HH.out.hW.size)) (HH.out.hV.below HB.out) HH.out.hcv (by omega) HH.out.okb HH.out.hbd.l HH.out.hV0
    rw [Hns.out, Hll.out, Hnb.out] at h
    exact h)
  have Hshape : Hid (shapeB (.mk 4 name ts tn l vars pat) = true) := Lib.hid (by simp [shapeB, Hll.out])
  have Hr : Hid (res = allS sig l bd 2 2) := Lib.hid (by
    rw [← HD.out]
    exact checkS_allS Hshape.out (by simp [ofE]) (by decide) (fun xs => by simp [nodeS]))
  generalize allS sig l bd 2 2 = r at *
  obtain ⟨r1, r2⟩ := r
  clear HH
  go_enter Tryz.func26, Tryz.ntmps26
  go_wp2_with (go_at_call 50; rw [HE.out]; (with_reducible refine Calls.mono Ha.out ?_); rintro e w3 ⟨rfl, hb3⟩; have Hb3 := Lib.hid hb3; clear hb3)
  go_ret2
  exact ⟨by rw [Hr.out]; rfl, HB.out.trans (Hb3.out.mono HB.out.size)⟩
end Go.Proofs.YtlgbepamnkfpjaaGreatDoor

/- The reference's check: operands of one sort, more. -/
set_option linter.unusedVariables false
set_option linter.unusedSimpArgs false
namespace Go.Proofs.YtlgbepamnkfpjaaGreatDoor
open Go.RowKit Go.Lib

set_option maxRecDepth 100000 in
set_option maxHeartbeats 4000000 in
theorem check_op5 {w0 : World} {sig : List Fn} {S : Option Addr} {cs : Nat} {ts : Int} {name tn : ByteArray} {l : List Tm} {vars : Bd} {pat : List Tm} {A X P : Option Addr} {ca cx cp : Nat} {f g : Nat → Value} {bd : Bd} {V : Option Addr} {cv : Nat} {W : World} (H : RefPre w0 sig S cs 5 ts name tn l vars pat A X P ca cx cp f g bd V cv W) : Calls Tryz.prog 26 #[.slice S sig.length cs, .agg #[.int .i64 5, .string name, .int .i64 ts, .string tn, .slice A l.length ca, .slice X vars.length cx, .slice P pat.length cp], .slice V bd.length cv] W (SortIs W (checkS sig (.mk 5 name ts tn l vars pat) bd)) := by
  have HH := Lib.hid H
  have hll0 := H.hbd.l
  have hlp0 := H.hbd.p
  have hlx0 := H.hbd.v
  have hnb0 : bd.length ≤ 1000000 := by have := H.hbl; omega
  have hns0 := H.hns
  have Hrow := Lib.hid (boxT_row W ⟨5, name, ts, tn, A, l.length, ca, X, vars.length, cx, P, pat.length, cp⟩)
  have HB : Hid (Below W.heap.size W (boxT W ⟨5, name, ts, tn, A, l.length, ca, X, vars.length, cx, P, pat.length, cp⟩)) := Lib.hid (below_boxT _ _)
  obtain ⟨x0, x1, x2, x3, x4, x5, x6⟩ := box_cells Hrow.out
  dsimp only at x0 x1 x2 x3 x4 x5 x6
  unfold boxT at x0 x1 x2 x3 x4 x5 x6
  dsimp only at x0 x1 x2 x3 x4 x5 x6
  obtain ⟨WB, hWB⟩ : ∃ WB, WB = boxT W ⟨5, name, ts, tn, A, l.length, ca, X, vars.length, cx, P, pat.length, cp⟩ := ⟨_, rfl⟩
  have HWB := Lib.hid hWB
  have HS : Hid (WB.heap.size = W.heap.size + 1) := Lib.hid (by rw [hWB]; exact boxT_size _ _)
  have HE : Hid (W.alloc (.cells #[.int .i64 5, .string name, .int .i64 ts, .string tn, .slice A l.length ca, .slice X vars.length cx, .slice P pat.length cp] 26) = WB) := Lib.hid hWB.symm
  rw [← hWB] at Hrow HB
  clear hWB H
  obtain ⟨res, hres⟩ : ∃ res, checkS sig (.mk 5 name ts tn l vars pat) bd = res := ⟨_, rfl⟩
  have HD := Lib.hid hres
  rw [hres]
  obtain ⟨ll, hll⟩ : ∃ n, l.length = n := ⟨_, rfl⟩
  obtain ⟨lx, hlx⟩ : ∃ n, vars.length = n := ⟨_, rfl⟩
  obtain ⟨lp, hlp⟩ : ∃ n, pat.length = n := ⟨_, rfl⟩
  obtain ⟨ns, hns⟩ : ∃ n, sig.length = n := ⟨_, rfl⟩
  obtain ⟨nb, hnb⟩ : ∃ n, bd.length = n := ⟨_, rfl⟩
  have Hll := Lib.hid hll
  have Hlx := Lib.hid hlx
  have Hlp := Lib.hid hlp
  have Hns := Lib.hid hns
  have Hnb := Lib.hid hnb
  rw [hll] at hll0 HWB Hrow HE x4
  rw [hlx] at hlx0 HWB Hrow HE x5
  rw [hlp] at hlp0 HWB Hrow HE x6
  simp only [hll, hlx, hlp] at x0 x1 x2 x3 x4 x5 x6
  rw [hll, hlx, hlp, hns, hnb]
  rw [hns] at hns0
  rw [hnb] at hnb0
  clear hll hlx hlp hns hnb hres
  have Ha : Hid (Calls Tryz.prog 50 #[.slice S ns cs, .agg #[.int .i64 5, .string name, .int .i64 ts, .string tn, .slice A ll ca, .slice X lx cx, .slice P lp cp], .slice V nb cv, .int .i64 2, .int .i64 2] WB (SortIs WB (allS sig l bd 2 2))) := Lib.hid (by
    have hbl := HH.out.hbl
    simp only [tw] at hbl
    have h := all_any (op := 5) (ts := ts) (name := name) (tn := tn) (A := A) (X := X) (P := P) (ca := ca) (lx := lx) (cx := cx) (lp := lp) (cp := cp) HH.out.hf HH.out.hL HH.out.hR (by omega) bd V cv 2 2 WB (HH.out.hW.trans (HB.out.mono HH.out.hW.size)) (HH.out.hV.below HB.out) HH.out.hcv (by omega) HH.out.okb HH.out.hbd.l HH.out.hV0
    rw [Hns.out, Hll.out, Hnb.out] at h
    exact h)
  have Hshape : Hid (shapeB (.mk 5 name ts tn l vars pat) = true) := Lib.hid (by simp [shapeB])
  have Hr : Hid (res = allS sig l bd 2 2) := Lib.hid (by
    rw [← HD.out]
    exact checkS_allS Hshape.out (by simp [ofE]) (by decide) (fun xs => by simp [nodeS]))
  generalize allS sig l bd 2 2 = r at *
  obtain ⟨r1, r2⟩ := r
  clear HH
  go_enter Tryz.func26, Tryz.ntmps26
  go_wp2_with (go_at_call 50; rw [HE.out]; (with_reducible refine Calls.mono Ha.out ?_); rintro e w3 ⟨rfl, hb3⟩; have Hb3 := Lib.hid hb3; clear hb3)
  go_ret2
  exact ⟨by rw [Hr.out]; rfl, HB.out.trans (Hb3.out.mono HB.out.size)⟩

set_option maxRecDepth 100000 in
set_option maxHeartbeats 4000000 in
theorem check_op6 {w0 : World} {sig : List Fn} {S : Option Addr} {cs : Nat} {ts : Int} {name tn : ByteArray} {l : List Tm} {vars : Bd} {pat : List Tm} {A X P : Option Addr} {ca cx cp : Nat} {f g : Nat → Value} {bd : Bd} {V : Option Addr} {cv : Nat} {W : World} (H : RefPre w0 sig S cs 6 ts name tn l vars pat A X P ca cx cp f g bd V cv W) : Calls Tryz.prog 26 #[.slice S sig.length cs, .agg #[.int .i64 6, .string name, .int .i64 ts, .string tn, .slice A l.length ca, .slice X vars.length cx, .slice P pat.length cp], .slice V bd.length cv] W (SortIs W (checkS sig (.mk 6 name ts tn l vars pat) bd)) := by
  have HH := Lib.hid H
  have hll0 := H.hbd.l
  have hlp0 := H.hbd.p
  have hlx0 := H.hbd.v
  have hnb0 : bd.length ≤ 1000000 := by have := H.hbl; omega
  have hns0 := H.hns
  have Hrow := Lib.hid (boxT_row W ⟨6, name, ts, tn, A, l.length, ca, X, vars.length, cx, P, pat.length, cp⟩)
  have HB : Hid (Below W.heap.size W (boxT W ⟨6, name, ts, tn, A, l.length, ca, X, vars.length, cx, P, pat.length, cp⟩)) := Lib.hid (below_boxT _ _)
  obtain ⟨x0, x1, x2, x3, x4, x5, x6⟩ := box_cells Hrow.out
  dsimp only at x0 x1 x2 x3 x4 x5 x6
  unfold boxT at x0 x1 x2 x3 x4 x5 x6
  dsimp only at x0 x1 x2 x3 x4 x5 x6
  obtain ⟨WB, hWB⟩ : ∃ WB, WB = boxT W ⟨6, name, ts, tn, A, l.length, ca, X, vars.length, cx, P, pat.length, cp⟩ := ⟨_, rfl⟩
  have HWB := Lib.hid hWB
  have HS : Hid (WB.heap.size = W.heap.size + 1) := Lib.hid (by rw [hWB]; exact boxT_size _ _)
  have HE : Hid (W.alloc (.cells #[.int .i64 6, .string name, .int .i64 ts, .string tn, .slice A l.length ca, .slice X vars.length cx, .slice P pat.length cp] 26) = WB) := Lib.hid hWB.symm
  rw [← hWB] at Hrow HB
  clear hWB H
  obtain ⟨res, hres⟩ : ∃ res, checkS sig (.mk 6 name ts tn l vars pat) bd = res := ⟨_, rfl⟩
  have HD := Lib.hid hres
  rw [hres]
  obtain ⟨ll, hll⟩ : ∃ n, l.length = n := ⟨_, rfl⟩
  obtain ⟨lx, hlx⟩ : ∃ n, vars.length = n := ⟨_, rfl⟩
  obtain ⟨lp, hlp⟩ : ∃ n, pat.length = n := ⟨_, rfl⟩
  obtain ⟨ns, hns⟩ : ∃ n, sig.length = n := ⟨_, rfl⟩
  obtain ⟨nb, hnb⟩ : ∃ n, bd.length = n := ⟨_, rfl⟩
  have Hll := Lib.hid hll
  have Hlx := Lib.hid hlx
  have Hlp := Lib.hid hlp
  have Hns := Lib.hid hns
  have Hnb := Lib.hid hnb
  rw [hll] at hll0 HWB Hrow HE x4
  rw [hlx] at hlx0 HWB Hrow HE x5
  rw [hlp] at hlp0 HWB Hrow HE x6
  simp only [hll, hlx, hlp] at x0 x1 x2 x3 x4 x5 x6
  rw [hll, hlx, hlp, hns, hnb]
  rw [hns] at hns0
  rw [hnb] at hnb0
  clear hll hlx hlp hns hnb hres
  have Ha : Hid (Calls Tryz.prog 50 #[.slice S ns cs, .agg #[.int .i64 6, .string name, .int .i64 ts, .string tn, .slice A ll ca, .slice X lx cx, .slice P lp cp], .slice V nb cv, .int .i64 2, .int .i64 2] WB (SortIs WB (allS sig l bd 2 2))) := Lib.hid (by
    have hbl := HH.out.hbl
    simp only [tw] at hbl
    have h := all_any (op := 6) (ts := ts) (name := name) (tn := tn) (A := A) (X := X) (P := P) (ca := ca) (lx := lx) (cx := cx) (lp := lp) (cp := cp) HH.out.hf HH.out.hL HH.out.hR (by omega) bd V cv 2 2 WB (HH.out.hW.trans (HB.out.mono HH.out.hW.size)) (HH.out.hV.below HB.out) HH.out.hcv (by omega) HH.out.okb HH.out.hbd.l HH.out.hV0
    rw [Hns.out, Hll.out, Hnb.out] at h
    exact h)
  have Hshape : Hid (shapeB (.mk 6 name ts tn l vars pat) = true) := Lib.hid (by simp [shapeB])
  have Hr : Hid (res = allS sig l bd 2 2) := Lib.hid (by
    rw [← HD.out]
    exact checkS_allS Hshape.out (by simp [ofE]) (by decide) (fun xs => by simp [nodeS]))
  generalize allS sig l bd 2 2 = r at *
  obtain ⟨r1, r2⟩ := r
  clear HH
  go_enter Tryz.func26, Tryz.ntmps26
  go_wp2_with (go_at_call 50; rw [HE.out]; (with_reducible refine Calls.mono Ha.out ?_); rintro e w3 ⟨rfl, hb3⟩; have Hb3 := Lib.hid hb3; clear hb3)
  go_ret2
  exact ⟨by rw [Hr.out]; rfl, HB.out.trans (Hb3.out.mono HB.out.size)⟩

set_option maxRecDepth 100000 in
set_option maxHeartbeats 4000000 in
theorem check_op7 {w0 : World} {sig : List Fn} {S : Option Addr} {cs : Nat} {ts : Int} {name tn : ByteArray} {l : List Tm} {vars : Bd} {pat : List Tm} {A X P : Option Addr} {ca cx cp : Nat} {f g : Nat → Value} {bd : Bd} {V : Option Addr} {cv : Nat} {W : World} (H : RefPre w0 sig S cs 7 ts name tn l vars pat A X P ca cx cp f g bd V cv W) : Calls Tryz.prog 26 #[.slice S sig.length cs, .agg #[.int .i64 7, .string name, .int .i64 ts, .string tn, .slice A l.length ca, .slice X vars.length cx, .slice P pat.length cp], .slice V bd.length cv] W (SortIs W (checkS sig (.mk 7 name ts tn l vars pat) bd)) := by
  have HH := Lib.hid H
  have hll0 := H.hbd.l
  have hlp0 := H.hbd.p
  have hlx0 := H.hbd.v
  have hnb0 : bd.length ≤ 1000000 := by have := H.hbl; omega
  have hns0 := H.hns
  have Hrow := Lib.hid (boxT_row W ⟨7, name, ts, tn, A, l.length, ca, X, vars.length, cx, P, pat.length, cp⟩)
  have HB : Hid (Below W.heap.size W (boxT W ⟨7, name, ts, tn, A, l.length, ca, X, vars.length, cx, P, pat.length, cp⟩)) := Lib.hid (below_boxT _ _)
  obtain ⟨x0, x1, x2, x3, x4, x5, x6⟩ := box_cells Hrow.out
  dsimp only at x0 x1 x2 x3 x4 x5 x6
  unfold boxT at x0 x1 x2 x3 x4 x5 x6
  dsimp only at x0 x1 x2 x3 x4 x5 x6
  obtain ⟨WB, hWB⟩ : ∃ WB, WB = boxT W ⟨7, name, ts, tn, A, l.length, ca, X, vars.length, cx, P, pat.length, cp⟩ := ⟨_, rfl⟩
  have HWB := Lib.hid hWB
  have HS : Hid (WB.heap.size = W.heap.size + 1) := Lib.hid (by rw [hWB]; exact boxT_size _ _)
  have HE : Hid (W.alloc (.cells #[.int .i64 7, .string name, .int .i64 ts, .string tn, .slice A l.length ca, .slice X vars.length cx, .slice P pat.length cp] 26) = WB) := Lib.hid hWB.symm
  rw [← hWB] at Hrow HB
  clear hWB H
  obtain ⟨res, hres⟩ : ∃ res, checkS sig (.mk 7 name ts tn l vars pat) bd = res := ⟨_, rfl⟩
  have HD := Lib.hid hres
  rw [hres]
  obtain ⟨ll, hll⟩ : ∃ n, l.length = n := ⟨_, rfl⟩
  obtain ⟨lx, hlx⟩ : ∃ n, vars.length = n := ⟨_, rfl⟩
  obtain ⟨lp, hlp⟩ : ∃ n, pat.length = n := ⟨_, rfl⟩
  obtain ⟨ns, hns⟩ : ∃ n, sig.length = n := ⟨_, rfl⟩
  obtain ⟨nb, hnb⟩ : ∃ n, bd.length = n := ⟨_, rfl⟩
  have Hll := Lib.hid hll
  have Hlx := Lib.hid hlx
  have Hlp := Lib.hid hlp
  have Hns := Lib.hid hns
  have Hnb := Lib.hid hnb
  rw [hll] at hll0 HWB Hrow HE x4
  rw [hlx] at hlx0 HWB Hrow HE x5
  rw [hlp] at hlp0 HWB Hrow HE x6
  simp only [hll, hlx, hlp] at x0 x1 x2 x3 x4 x5 x6
  rw [hll, hlx, hlp, hns, hnb]
  rw [hns] at hns0
  rw [hnb] at hnb0
  clear hll hlx hlp hns hnb hres
  by_cases h0 : ll = 2
  rotate_left
  · have Hr : Hid (res = (0, 30)) := Lib.hid (by
      rw [← HD.out, checkS_shape]
      simp only [shapeB]
      rw [Hll.out]
      simp
      omega)
    have h0' : ((ll : Int) != 2) = true := by rw [bne_iff_ne]; omega
    go_enter Tryz.func26, Tryz.ntmps26
    go_wp2_with fail
    go_ret2
    exact ⟨by rw [Hr.out]; rfl, by rw [HE.out]; exact HB.out⟩
  subst h0
  have Ha : Hid (Calls Tryz.prog 50 #[.slice S ns cs, .agg #[.int .i64 7, .string name, .int .i64 ts, .string tn, .slice A 2 ca, .slice X lx cx, .slice P lp cp], .slice V nb cv, .int .i64 2, .int .i64 2] WB (SortIs WB (allS sig l bd 2 2))) := Lib.hid (by
    have hbl := HH.out.hbl
    simp only [tw] at hbl
    have h := all_any (op := 7) (ts := ts) (name := name) (tn := tn) (A := A) (X := X) (P := P) (ca := ca) (lx := lx) (cx := cx) (lp := lp) (cp := cp) HH.out.hf HH.out.hL HH.out.hR (by omega) bd V cv 2 2 WB (HH.out.hW.trans (HB.out.mono HH.out.hW.size)) (HH.out.hV.below HB.out) HH.out.hcv (by omega) HH.out.okb HH.out.hbd.l HH.out.hV0
    rw [Hns.out, Hll.out, Hnb.out] at h
    exact h)
  have Hshape : Hid (shapeB (.mk 7 name ts tn l vars pat) = true) := Lib.hid (by simp [shapeB, Hll.out])
  have Hr : Hid (res = allS sig l bd 2 2) := Lib.hid (by
    rw [← HD.out]
    exact checkS_allS Hshape.out (by simp [ofE]) (by decide) (fun xs => by simp [nodeS]))
  generalize allS sig l bd 2 2 = r at *
  obtain ⟨r1, r2⟩ := r
  clear HH
  go_enter Tryz.func26, Tryz.ntmps26
  go_wp2_with (go_at_call 50; rw [HE.out]; (with_reducible refine Calls.mono Ha.out ?_); rintro e w3 ⟨rfl, hb3⟩; have Hb3 := Lib.hid hb3; clear hb3)
  go_ret2
  exact ⟨by rw [Hr.out]; rfl, HB.out.trans (Hb3.out.mono HB.out.size)⟩

set_option maxRecDepth 100000 in
set_option maxHeartbeats 4000000 in
theorem check_op8 {w0 : World} {sig : List Fn} {S : Option Addr} {cs : Nat} {ts : Int} {name tn : ByteArray} {l : List Tm} {vars : Bd} {pat : List Tm} {A X P : Option Addr} {ca cx cp : Nat} {f g : Nat → Value} {bd : Bd} {V : Option Addr} {cv : Nat} {W : World} (H : RefPre w0 sig S cs 8 ts name tn l vars pat A X P ca cx cp f g bd V cv W) : Calls Tryz.prog 26 #[.slice S sig.length cs, .agg #[.int .i64 8, .string name, .int .i64 ts, .string tn, .slice A l.length ca, .slice X vars.length cx, .slice P pat.length cp], .slice V bd.length cv] W (SortIs W (checkS sig (.mk 8 name ts tn l vars pat) bd)) := by
  have HH := Lib.hid H
  have hll0 := H.hbd.l
  have hlp0 := H.hbd.p
  have hlx0 := H.hbd.v
  have hnb0 : bd.length ≤ 1000000 := by have := H.hbl; omega
  have hns0 := H.hns
  have Hrow := Lib.hid (boxT_row W ⟨8, name, ts, tn, A, l.length, ca, X, vars.length, cx, P, pat.length, cp⟩)
  have HB : Hid (Below W.heap.size W (boxT W ⟨8, name, ts, tn, A, l.length, ca, X, vars.length, cx, P, pat.length, cp⟩)) := Lib.hid (below_boxT _ _)
  obtain ⟨x0, x1, x2, x3, x4, x5, x6⟩ := box_cells Hrow.out
  dsimp only at x0 x1 x2 x3 x4 x5 x6
  unfold boxT at x0 x1 x2 x3 x4 x5 x6
  dsimp only at x0 x1 x2 x3 x4 x5 x6
  obtain ⟨WB, hWB⟩ : ∃ WB, WB = boxT W ⟨8, name, ts, tn, A, l.length, ca, X, vars.length, cx, P, pat.length, cp⟩ := ⟨_, rfl⟩
  have HWB := Lib.hid hWB
  have HS : Hid (WB.heap.size = W.heap.size + 1) := Lib.hid (by rw [hWB]; exact boxT_size _ _)
  have HE : Hid (W.alloc (.cells #[.int .i64 8, .string name, .int .i64 ts, .string tn, .slice A l.length ca, .slice X vars.length cx, .slice P pat.length cp] 26) = WB) := Lib.hid hWB.symm
  rw [← hWB] at Hrow HB
  clear hWB H
  obtain ⟨res, hres⟩ : ∃ res, checkS sig (.mk 8 name ts tn l vars pat) bd = res := ⟨_, rfl⟩
  have HD := Lib.hid hres
  rw [hres]
  obtain ⟨ll, hll⟩ : ∃ n, l.length = n := ⟨_, rfl⟩
  obtain ⟨lx, hlx⟩ : ∃ n, vars.length = n := ⟨_, rfl⟩
  obtain ⟨lp, hlp⟩ : ∃ n, pat.length = n := ⟨_, rfl⟩
  obtain ⟨ns, hns⟩ : ∃ n, sig.length = n := ⟨_, rfl⟩
  obtain ⟨nb, hnb⟩ : ∃ n, bd.length = n := ⟨_, rfl⟩
  have Hll := Lib.hid hll
  have Hlx := Lib.hid hlx
  have Hlp := Lib.hid hlp
  have Hns := Lib.hid hns
  have Hnb := Lib.hid hnb
  rw [hll] at hll0 HWB Hrow HE x4
  rw [hlx] at hlx0 HWB Hrow HE x5
  rw [hlp] at hlp0 HWB Hrow HE x6
  simp only [hll, hlx, hlp] at x0 x1 x2 x3 x4 x5 x6
  rw [hll, hlx, hlp, hns, hnb]
  rw [hns] at hns0
  rw [hnb] at hnb0
  clear hll hlx hlp hns hnb hres
  by_cases h0 : ll = 2
  rotate_left
  · have Hr : Hid (res = (0, 30)) := Lib.hid (by
      rw [← HD.out, checkS_shape]
      simp only [shapeB]
      rw [Hll.out]
      simp
      omega)
    have h0' : ((ll : Int) != 2) = true := by rw [bne_iff_ne]; omega
    go_enter Tryz.func26, Tryz.ntmps26
    go_wp2_with fail
    go_ret2
    exact ⟨by rw [Hr.out]; rfl, by rw [HE.out]; exact HB.out⟩
  subst h0
  have Ha : Hid (Calls Tryz.prog 50 #[.slice S ns cs, .agg #[.int .i64 8, .string name, .int .i64 ts, .string tn, .slice A 2 ca, .slice X lx cx, .slice P lp cp], .slice V nb cv, .int .i64 2, .int .i64 2] WB (SortIs WB (allS sig l bd 2 2))) := Lib.hid (by
    have hbl := HH.out.hbl
    simp only [tw] at hbl
    have h := all_any (op := 8) (ts := ts) (name := name) (tn := tn) (A := A) (X := X) (P := P) (ca := ca) (lx := lx) (cx := cx) (lp := lp) (cp := cp) HH.out.hf HH.out.hL HH.out.hR (by omega) bd V cv 2 2 WB (HH.out.hW.trans (HB.out.mono HH.out.hW.size)) (HH.out.hV.below HB.out) HH.out.hcv (by omega) HH.out.okb HH.out.hbd.l HH.out.hV0
    rw [Hns.out, Hll.out, Hnb.out] at h
    exact h)
  have Hshape : Hid (shapeB (.mk 8 name ts tn l vars pat) = true) := Lib.hid (by simp [shapeB, Hll.out])
  have Hr : Hid (res = allS sig l bd 2 2) := Lib.hid (by
    rw [← HD.out]
    exact checkS_allS Hshape.out (by simp [ofE]) (by decide) (fun xs => by simp [nodeS]))
  generalize allS sig l bd 2 2 = r at *
  obtain ⟨r1, r2⟩ := r
  clear HH
  go_enter Tryz.func26, Tryz.ntmps26
  go_wp2_with (go_at_call 50; rw [HE.out]; (with_reducible refine Calls.mono Ha.out ?_); rintro e w3 ⟨rfl, hb3⟩; have Hb3 := Lib.hid hb3; clear hb3)
  go_ret2
  exact ⟨by rw [Hr.out]; rfl, HB.out.trans (Hb3.out.mono HB.out.size)⟩

set_option maxRecDepth 100000 in
set_option maxHeartbeats 4000000 in
theorem check_op10 {w0 : World} {sig : List Fn} {S : Option Addr} {cs : Nat} {ts : Int} {name tn : ByteArray} {l : List Tm} {vars : Bd} {pat : List Tm} {A X P : Option Addr} {ca cx cp : Nat} {f g : Nat → Value} {bd : Bd} {V : Option Addr} {cv : Nat} {W : World} (H : RefPre w0 sig S cs 10 ts name tn l vars pat A X P ca cx cp f g bd V cv W) : Calls Tryz.prog 26 #[.slice S sig.length cs, .agg #[.int .i64 10, .string name, .int .i64 ts, .string tn, .slice A l.length ca, .slice X vars.length cx, .slice P pat.length cp], .slice V bd.length cv] W (SortIs W (checkS sig (.mk 10 name ts tn l vars pat) bd)) := by
  have HH := Lib.hid H
  have hll0 := H.hbd.l
  have hlp0 := H.hbd.p
  have hlx0 := H.hbd.v
  have hnb0 : bd.length ≤ 1000000 := by have := H.hbl; omega
  have hns0 := H.hns
  have Hrow := Lib.hid (boxT_row W ⟨10, name, ts, tn, A, l.length, ca, X, vars.length, cx, P, pat.length, cp⟩)
  have HB : Hid (Below W.heap.size W (boxT W ⟨10, name, ts, tn, A, l.length, ca, X, vars.length, cx, P, pat.length, cp⟩)) := Lib.hid (below_boxT _ _)
  obtain ⟨x0, x1, x2, x3, x4, x5, x6⟩ := box_cells Hrow.out
  dsimp only at x0 x1 x2 x3 x4 x5 x6
  unfold boxT at x0 x1 x2 x3 x4 x5 x6
  dsimp only at x0 x1 x2 x3 x4 x5 x6
  obtain ⟨WB, hWB⟩ : ∃ WB, WB = boxT W ⟨10, name, ts, tn, A, l.length, ca, X, vars.length, cx, P, pat.length, cp⟩ := ⟨_, rfl⟩
  have HWB := Lib.hid hWB
  have HS : Hid (WB.heap.size = W.heap.size + 1) := Lib.hid (by rw [hWB]; exact boxT_size _ _)
  have HE : Hid (W.alloc (.cells #[.int .i64 10, .string name, .int .i64 ts, .string tn, .slice A l.length ca, .slice X vars.length cx, .slice P pat.length cp] 26) = WB) := Lib.hid hWB.symm
  rw [← hWB] at Hrow HB
  clear hWB H
  obtain ⟨res, hres⟩ : ∃ res, checkS sig (.mk 10 name ts tn l vars pat) bd = res := ⟨_, rfl⟩
  have HD := Lib.hid hres
  rw [hres]
  obtain ⟨ll, hll⟩ : ∃ n, l.length = n := ⟨_, rfl⟩
  obtain ⟨lx, hlx⟩ : ∃ n, vars.length = n := ⟨_, rfl⟩
  obtain ⟨lp, hlp⟩ : ∃ n, pat.length = n := ⟨_, rfl⟩
  obtain ⟨ns, hns⟩ : ∃ n, sig.length = n := ⟨_, rfl⟩
  obtain ⟨nb, hnb⟩ : ∃ n, bd.length = n := ⟨_, rfl⟩
  have Hll := Lib.hid hll
  have Hlx := Lib.hid hlx
  have Hlp := Lib.hid hlp
  have Hns := Lib.hid hns
  have Hnb := Lib.hid hnb
  rw [hll] at hll0 HWB Hrow HE x4
  rw [hlx] at hlx0 HWB Hrow HE x5
  rw [hlp] at hlp0 HWB Hrow HE x6
  simp only [hll, hlx, hlp] at x0 x1 x2 x3 x4 x5 x6
  rw [hll, hlx, hlp, hns, hnb]
  rw [hns] at hns0
  rw [hnb] at hnb0
  clear hll hlx hlp hns hnb hres
  by_cases h0 : ll = 2
  rotate_left
  · have Hr : Hid (res = (0, 30)) := Lib.hid (by
      rw [← HD.out, checkS_shape]
      simp only [shapeB]
      rw [Hll.out]
      simp
      omega)
    have h0' : ((ll : Int) != 2) = true := by rw [bne_iff_ne]; omega
    go_enter Tryz.func26, Tryz.ntmps26
    go_wp2_with fail
    go_ret2
    exact ⟨by rw [Hr.out]; rfl, by rw [HE.out]; exact HB.out⟩
  subst h0
  have Ha : Hid (Calls Tryz.prog 50 #[.slice S ns cs, .agg #[.int .i64 10, .string name, .int .i64 ts, .string tn, .slice A 2 ca, .slice X lx cx, .slice P lp cp], .slice V nb cv, .int .i64 1, .int .i64 2] WB (SortIs WB (allS sig l bd 1 2))) := Lib.hid (by
    have hbl := HH.out.hbl
    simp only [tw] at hbl
    have h := all_any (op := 10) (ts := ts) (name := name) (tn := tn) (A := A) (X := X) (P := P) (ca := ca) (lx := lx) (cx := cx) (lp := lp) (cp := cp) HH.out.hf HH.out.hL HH.out.hR (by omega) bd V cv 1 2 WB (HH.out.hW.trans (HB.out.mono HH.out.hW.size)) (HH.out.hV.below HB.out) HH.out.hcv (by omega) HH.out.okb HH.out.hbd.l HH.out.hV0
    rw [Hns.out, Hll.out, Hnb.out] at h
    exact h)
  have Hshape : Hid (shapeB (.mk 10 name ts tn l vars pat) = true) := Lib.hid (by simp [shapeB, Hll.out])
  have Hr : Hid (res = allS sig l bd 1 2) := Lib.hid (by
    rw [← HD.out]
    exact checkS_allS Hshape.out (by simp [ofE]) (by decide) (fun xs => by simp [nodeS]))
  generalize allS sig l bd 1 2 = r at *
  obtain ⟨r1, r2⟩ := r
  clear HH
  go_enter Tryz.func26, Tryz.ntmps26
  go_wp2_with (go_at_call 50; rw [HE.out]; (with_reducible refine Calls.mono Ha.out ?_); rintro e w3 ⟨rfl, hb3⟩; have Hb3 := Lib.hid hb3; clear hb3)
  go_ret2
  exact ⟨by rw [Hr.out]; rfl, HB.out.trans (Hb3.out.mono HB.out.size)⟩

set_option maxRecDepth 100000 in
set_option maxHeartbeats 4000000 in
theorem check_op11 {w0 : World} {sig : List Fn} {S : Option Addr} {cs : Nat} {ts : Int} {name tn : ByteArray} {l : List Tm} {vars : Bd} {pat : List Tm} {A X P : Option Addr} {ca cx cp : Nat} {f g : Nat → Value} {bd : Bd} {V : Option Addr} {cv : Nat} {W : World} (H : RefPre w0 sig S cs 11 ts name tn l vars pat A X P ca cx cp f g bd V cv W) : Calls Tryz.prog 26 #[.slice S sig.length cs, .agg #[.int .i64 11, .string name, .int .i64 ts, .string tn, .slice A l.length ca, .slice X vars.length cx, .slice P pat.length cp], .slice V bd.length cv] W (SortIs W (checkS sig (.mk 11 name ts tn l vars pat) bd)) := by
  have HH := Lib.hid H
  have hll0 := H.hbd.l
  have hlp0 := H.hbd.p
  have hlx0 := H.hbd.v
  have hnb0 : bd.length ≤ 1000000 := by have := H.hbl; omega
  have hns0 := H.hns
  have Hrow := Lib.hid (boxT_row W ⟨11, name, ts, tn, A, l.length, ca, X, vars.length, cx, P, pat.length, cp⟩)
  have HB : Hid (Below W.heap.size W (boxT W ⟨11, name, ts, tn, A, l.length, ca, X, vars.length, cx, P, pat.length, cp⟩)) := Lib.hid (below_boxT _ _)
  obtain ⟨x0, x1, x2, x3, x4, x5, x6⟩ := box_cells Hrow.out
  dsimp only at x0 x1 x2 x3 x4 x5 x6
  unfold boxT at x0 x1 x2 x3 x4 x5 x6
  dsimp only at x0 x1 x2 x3 x4 x5 x6
  obtain ⟨WB, hWB⟩ : ∃ WB, WB = boxT W ⟨11, name, ts, tn, A, l.length, ca, X, vars.length, cx, P, pat.length, cp⟩ := ⟨_, rfl⟩
  have HWB := Lib.hid hWB
  have HS : Hid (WB.heap.size = W.heap.size + 1) := Lib.hid (by rw [hWB]; exact boxT_size _ _)
  have HE : Hid (W.alloc (.cells #[.int .i64 11, .string name, .int .i64 ts, .string tn, .slice A l.length ca, .slice X vars.length cx, .slice P pat.length cp] 26) = WB) := Lib.hid hWB.symm
  rw [← hWB] at Hrow HB
  clear hWB H
  obtain ⟨res, hres⟩ : ∃ res, checkS sig (.mk 11 name ts tn l vars pat) bd = res := ⟨_, rfl⟩
  have HD := Lib.hid hres
  rw [hres]
  obtain ⟨ll, hll⟩ : ∃ n, l.length = n := ⟨_, rfl⟩
  obtain ⟨lx, hlx⟩ : ∃ n, vars.length = n := ⟨_, rfl⟩
  obtain ⟨lp, hlp⟩ : ∃ n, pat.length = n := ⟨_, rfl⟩
  obtain ⟨ns, hns⟩ : ∃ n, sig.length = n := ⟨_, rfl⟩
  obtain ⟨nb, hnb⟩ : ∃ n, bd.length = n := ⟨_, rfl⟩
  have Hll := Lib.hid hll
  have Hlx := Lib.hid hlx
  have Hlp := Lib.hid hlp
  have Hns := Lib.hid hns
  have Hnb := Lib.hid hnb
  rw [hll] at hll0 HWB Hrow HE x4
  rw [hlx] at hlx0 HWB Hrow HE x5
  rw [hlp] at hlp0 HWB Hrow HE x6
  simp only [hll, hlx, hlp] at x0 x1 x2 x3 x4 x5 x6
  rw [hll, hlx, hlp, hns, hnb]
  rw [hns] at hns0
  rw [hnb] at hnb0
  clear hll hlx hlp hns hnb hres
  by_cases h0 : ll = 2
  rotate_left
  · have Hr : Hid (res = (0, 30)) := Lib.hid (by
      rw [← HD.out, checkS_shape]
      simp only [shapeB]
      rw [Hll.out]
      simp
      omega)
    have h0' : ((ll : Int) != 2) = true := by rw [bne_iff_ne]; omega
    go_enter Tryz.func26, Tryz.ntmps26
    go_wp2_with fail
    go_ret2
    exact ⟨by rw [Hr.out]; rfl, by rw [HE.out]; exact HB.out⟩
  subst h0
  have Ha : Hid (Calls Tryz.prog 50 #[.slice S ns cs, .agg #[.int .i64 11, .string name, .int .i64 ts, .string tn, .slice A 2 ca, .slice X lx cx, .slice P lp cp], .slice V nb cv, .int .i64 1, .int .i64 2] WB (SortIs WB (allS sig l bd 1 2))) := Lib.hid (by
    have hbl := HH.out.hbl
    simp only [tw] at hbl
    have h := all_any (op := 11) (ts := ts) (name := name) (tn := tn) (A := A) (X := X) (P := P) (ca := ca) (lx := lx) (cx := cx) (lp := lp) (cp := cp) HH.out.hf HH.out.hL HH.out.hR (by omega) bd V cv 1 2 WB (HH.out.hW.trans (HB.out.mono HH.out.hW.size)) (HH.out.hV.below HB.out) HH.out.hcv (by omega) HH.out.okb HH.out.hbd.l HH.out.hV0
    rw [Hns.out, Hll.out, Hnb.out] at h
    exact h)
  have Hshape : Hid (shapeB (.mk 11 name ts tn l vars pat) = true) := Lib.hid (by simp [shapeB, Hll.out])
  have Hr : Hid (res = allS sig l bd 1 2) := Lib.hid (by
    rw [← HD.out]
    exact checkS_allS Hshape.out (by simp [ofE]) (by decide) (fun xs => by simp [nodeS]))
  generalize allS sig l bd 1 2 = r at *
  obtain ⟨r1, r2⟩ := r
  clear HH
  go_enter Tryz.func26, Tryz.ntmps26
  go_wp2_with (go_at_call 50; rw [HE.out]; (with_reducible refine Calls.mono Ha.out ?_); rintro e w3 ⟨rfl, hb3⟩; have Hb3 := Lib.hid hb3; clear hb3)
  go_ret2
  exact ⟨by rw [Hr.out]; rfl, HB.out.trans (Hb3.out.mono HB.out.size)⟩

set_option maxRecDepth 100000 in
set_option maxHeartbeats 4000000 in
theorem check_op12 {w0 : World} {sig : List Fn} {S : Option Addr} {cs : Nat} {ts : Int} {name tn : ByteArray} {l : List Tm} {vars : Bd} {pat : List Tm} {A X P : Option Addr} {ca cx cp : Nat} {f g : Nat → Value} {bd : Bd} {V : Option Addr} {cv : Nat} {W : World} (H : RefPre w0 sig S cs 12 ts name tn l vars pat A X P ca cx cp f g bd V cv W) : Calls Tryz.prog 26 #[.slice S sig.length cs, .agg #[.int .i64 12, .string name, .int .i64 ts, .string tn, .slice A l.length ca, .slice X vars.length cx, .slice P pat.length cp], .slice V bd.length cv] W (SortIs W (checkS sig (.mk 12 name ts tn l vars pat) bd)) := by
  have HH := Lib.hid H
  have hll0 := H.hbd.l
  have hlp0 := H.hbd.p
  have hlx0 := H.hbd.v
  have hnb0 : bd.length ≤ 1000000 := by have := H.hbl; omega
  have hns0 := H.hns
  have Hrow := Lib.hid (boxT_row W ⟨12, name, ts, tn, A, l.length, ca, X, vars.length, cx, P, pat.length, cp⟩)
  have HB : Hid (Below W.heap.size W (boxT W ⟨12, name, ts, tn, A, l.length, ca, X, vars.length, cx, P, pat.length, cp⟩)) := Lib.hid (below_boxT _ _)
  obtain ⟨x0, x1, x2, x3, x4, x5, x6⟩ := box_cells Hrow.out
  dsimp only at x0 x1 x2 x3 x4 x5 x6
  unfold boxT at x0 x1 x2 x3 x4 x5 x6
  dsimp only at x0 x1 x2 x3 x4 x5 x6
  obtain ⟨WB, hWB⟩ : ∃ WB, WB = boxT W ⟨12, name, ts, tn, A, l.length, ca, X, vars.length, cx, P, pat.length, cp⟩ := ⟨_, rfl⟩
  have HWB := Lib.hid hWB
  have HS : Hid (WB.heap.size = W.heap.size + 1) := Lib.hid (by rw [hWB]; exact boxT_size _ _)
  have HE : Hid (W.alloc (.cells #[.int .i64 12, .string name, .int .i64 ts, .string tn, .slice A l.length ca, .slice X vars.length cx, .slice P pat.length cp] 26) = WB) := Lib.hid hWB.symm
  rw [← hWB] at Hrow HB
  clear hWB H
  obtain ⟨res, hres⟩ : ∃ res, checkS sig (.mk 12 name ts tn l vars pat) bd = res := ⟨_, rfl⟩
  have HD := Lib.hid hres
  rw [hres]
  obtain ⟨ll, hll⟩ : ∃ n, l.length = n := ⟨_, rfl⟩
  obtain ⟨lx, hlx⟩ : ∃ n, vars.length = n := ⟨_, rfl⟩
  obtain ⟨lp, hlp⟩ : ∃ n, pat.length = n := ⟨_, rfl⟩
  obtain ⟨ns, hns⟩ : ∃ n, sig.length = n := ⟨_, rfl⟩
  obtain ⟨nb, hnb⟩ : ∃ n, bd.length = n := ⟨_, rfl⟩
  have Hll := Lib.hid hll
  have Hlx := Lib.hid hlx
  have Hlp := Lib.hid hlp
  have Hns := Lib.hid hns
  have Hnb := Lib.hid hnb
  rw [hll] at hll0 HWB Hrow HE x4
  rw [hlx] at hlx0 HWB Hrow HE x5
  rw [hlp] at hlp0 HWB Hrow HE x6
  simp only [hll, hlx, hlp] at x0 x1 x2 x3 x4 x5 x6
  rw [hll, hlx, hlp, hns, hnb]
  rw [hns] at hns0
  rw [hnb] at hnb0
  clear hll hlx hlp hns hnb hres
  have Ha : Hid (Calls Tryz.prog 50 #[.slice S ns cs, .agg #[.int .i64 12, .string name, .int .i64 ts, .string tn, .slice A ll ca, .slice X lx cx, .slice P lp cp], .slice V nb cv, .int .i64 1, .int .i64 1] WB (SortIs WB (allS sig l bd 1 1))) := Lib.hid (by
    have hbl := HH.out.hbl
    simp only [tw] at hbl
    have h := all_any (op := 12) (ts := ts) (name := name) (tn := tn) (A := A) (X := X) (P := P) (ca := ca) (lx := lx) (cx := cx) (lp := lp) (cp := cp) HH.out.hf HH.out.hL HH.out.hR (by omega) bd V cv 1 1 WB (HH.out.hW.trans (HB.out.mono HH.out.hW.size)) (HH.out.hV.below HB.out) HH.out.hcv (by omega) HH.out.okb HH.out.hbd.l HH.out.hV0
    rw [Hns.out, Hll.out, Hnb.out] at h
    exact h)
  have Hshape : Hid (shapeB (.mk 12 name ts tn l vars pat) = true) := Lib.hid (by simp [shapeB])
  have Hr : Hid (res = allS sig l bd 1 1) := Lib.hid (by
    rw [← HD.out]
    exact checkS_allS Hshape.out (by simp [ofE]) (by decide) (fun xs => by simp [nodeS]))
  generalize allS sig l bd 1 1 = r at *
  obtain ⟨r1, r2⟩ := r
  clear HH
  go_enter Tryz.func26, Tryz.ntmps26
  go_wp2_with (go_at_call 50; rw [HE.out]; (with_reducible refine Calls.mono Ha.out ?_); rintro e w3 ⟨rfl, hb3⟩; have Hb3 := Lib.hid hb3; clear hb3)
  go_ret2
  exact ⟨by rw [Hr.out]; rfl, HB.out.trans (Hb3.out.mono HB.out.size)⟩

set_option maxRecDepth 100000 in
set_option maxHeartbeats 4000000 in
theorem check_op13 {w0 : World} {sig : List Fn} {S : Option Addr} {cs : Nat} {ts : Int} {name tn : ByteArray} {l : List Tm} {vars : Bd} {pat : List Tm} {A X P : Option Addr} {ca cx cp : Nat} {f g : Nat → Value} {bd : Bd} {V : Option Addr} {cv : Nat} {W : World} (H : RefPre w0 sig S cs 13 ts name tn l vars pat A X P ca cx cp f g bd V cv W) : Calls Tryz.prog 26 #[.slice S sig.length cs, .agg #[.int .i64 13, .string name, .int .i64 ts, .string tn, .slice A l.length ca, .slice X vars.length cx, .slice P pat.length cp], .slice V bd.length cv] W (SortIs W (checkS sig (.mk 13 name ts tn l vars pat) bd)) := by
  have HH := Lib.hid H
  have hll0 := H.hbd.l
  have hlp0 := H.hbd.p
  have hlx0 := H.hbd.v
  have hnb0 : bd.length ≤ 1000000 := by have := H.hbl; omega
  have hns0 := H.hns
  have Hrow := Lib.hid (boxT_row W ⟨13, name, ts, tn, A, l.length, ca, X, vars.length, cx, P, pat.length, cp⟩)
  have HB : Hid (Below W.heap.size W (boxT W ⟨13, name, ts, tn, A, l.length, ca, X, vars.length, cx, P, pat.length, cp⟩)) := Lib.hid (below_boxT _ _)
  obtain ⟨x0, x1, x2, x3, x4, x5, x6⟩ := box_cells Hrow.out
  dsimp only at x0 x1 x2 x3 x4 x5 x6
  unfold boxT at x0 x1 x2 x3 x4 x5 x6
  dsimp only at x0 x1 x2 x3 x4 x5 x6
  obtain ⟨WB, hWB⟩ : ∃ WB, WB = boxT W ⟨13, name, ts, tn, A, l.length, ca, X, vars.length, cx, P, pat.length, cp⟩ := ⟨_, rfl⟩
  have HWB := Lib.hid hWB
  have HS : Hid (WB.heap.size = W.heap.size + 1) := Lib.hid (by rw [hWB]; exact boxT_size _ _)
  have HE : Hid (W.alloc (.cells #[.int .i64 13, .string name, .int .i64 ts, .string tn, .slice A l.length ca, .slice X vars.length cx, .slice P pat.length cp] 26) = WB) := Lib.hid hWB.symm
  rw [← hWB] at Hrow HB
  clear hWB H
  obtain ⟨res, hres⟩ : ∃ res, checkS sig (.mk 13 name ts tn l vars pat) bd = res := ⟨_, rfl⟩
  have HD := Lib.hid hres
  rw [hres]
  obtain ⟨ll, hll⟩ : ∃ n, l.length = n := ⟨_, rfl⟩
  obtain ⟨lx, hlx⟩ : ∃ n, vars.length = n := ⟨_, rfl⟩
  obtain ⟨lp, hlp⟩ : ∃ n, pat.length = n := ⟨_, rfl⟩
  obtain ⟨ns, hns⟩ : ∃ n, sig.length = n := ⟨_, rfl⟩
  obtain ⟨nb, hnb⟩ : ∃ n, bd.length = n := ⟨_, rfl⟩
  have Hll := Lib.hid hll
  have Hlx := Lib.hid hlx
  have Hlp := Lib.hid hlp
  have Hns := Lib.hid hns
  have Hnb := Lib.hid hnb
  rw [hll] at hll0 HWB Hrow HE x4
  rw [hlx] at hlx0 HWB Hrow HE x5
  rw [hlp] at hlp0 HWB Hrow HE x6
  simp only [hll, hlx, hlp] at x0 x1 x2 x3 x4 x5 x6
  rw [hll, hlx, hlp, hns, hnb]
  rw [hns] at hns0
  rw [hnb] at hnb0
  clear hll hlx hlp hns hnb hres
  by_cases h0 : ll = 2
  rotate_left
  · have Hr : Hid (res = (0, 30)) := Lib.hid (by
      rw [← HD.out, checkS_shape]
      simp only [shapeB]
      rw [Hll.out]
      simp
      omega)
    have h0' : ((ll : Int) != 2) = true := by rw [bne_iff_ne]; omega
    go_enter Tryz.func26, Tryz.ntmps26
    go_wp2_with fail
    go_ret2
    exact ⟨by rw [Hr.out]; rfl, by rw [HE.out]; exact HB.out⟩
  subst h0
  have Ha : Hid (Calls Tryz.prog 50 #[.slice S ns cs, .agg #[.int .i64 13, .string name, .int .i64 ts, .string tn, .slice A 2 ca, .slice X lx cx, .slice P lp cp], .slice V nb cv, .int .i64 1, .int .i64 1] WB (SortIs WB (allS sig l bd 1 1))) := Lib.hid (by
    have hbl := HH.out.hbl
    simp only [tw] at hbl
    have h := all_any (op := 13) (ts := ts) (name := name) (tn := tn) (A := A) (X := X) (P := P) (ca := ca) (lx := lx) (cx := cx) (lp := lp) (cp := cp) HH.out.hf HH.out.hL HH.out.hR (by omega) bd V cv 1 1 WB (HH.out.hW.trans (HB.out.mono HH.out.hW.size)) (HH.out.hV.below HB.out) HH.out.hcv (by omega) HH.out.okb HH.out.hbd.l HH.out.hV0
    rw [Hns.out, Hll.out, Hnb.out] at h
    exact h)
  have Hshape : Hid (shapeB (.mk 13 name ts tn l vars pat) = true) := Lib.hid (by simp [shapeB, Hll.out])
  have Hr : Hid (res = allS sig l bd 1 1) := Lib.hid (by
    rw [← HD.out]
    exact checkS_allS Hshape.out (by simp [ofE]) (by decide) (fun xs => by simp [nodeS]))
  generalize allS sig l bd 1 1 = r at *
  obtain ⟨r1, r2⟩ := r
  clear HH
  go_enter Tryz.func26, Tryz.ntmps26
  go_wp2_with (go_at_call 50; rw [HE.out]; (with_reducible refine Calls.mono Ha.out ?_); rintro e w3 ⟨rfl, hb3⟩; have Hb3 := Lib.hid hb3; clear hb3)
  go_ret2
  exact ⟨by rw [Hr.out]; rfl, HB.out.trans (Hb3.out.mono HB.out.size)⟩

set_option maxRecDepth 100000 in
set_option maxHeartbeats 4000000 in
theorem check_op14 {w0 : World} {sig : List Fn} {S : Option Addr} {cs : Nat} {ts : Int} {name tn : ByteArray} {l : List Tm} {vars : Bd} {pat : List Tm} {A X P : Option Addr} {ca cx cp : Nat} {f g : Nat → Value} {bd : Bd} {V : Option Addr} {cv : Nat} {W : World} (H : RefPre w0 sig S cs 14 ts name tn l vars pat A X P ca cx cp f g bd V cv W) : Calls Tryz.prog 26 #[.slice S sig.length cs, .agg #[.int .i64 14, .string name, .int .i64 ts, .string tn, .slice A l.length ca, .slice X vars.length cx, .slice P pat.length cp], .slice V bd.length cv] W (SortIs W (checkS sig (.mk 14 name ts tn l vars pat) bd)) := by
  have HH := Lib.hid H
  have hll0 := H.hbd.l
  have hlp0 := H.hbd.p
  have hlx0 := H.hbd.v
  have hnb0 : bd.length ≤ 1000000 := by have := H.hbl; omega
  have hns0 := H.hns
  have Hrow := Lib.hid (boxT_row W ⟨14, name, ts, tn, A, l.length, ca, X, vars.length, cx, P, pat.length, cp⟩)
  have HB : Hid (Below W.heap.size W (boxT W ⟨14, name, ts, tn, A, l.length, ca, X, vars.length, cx, P, pat.length, cp⟩)) := Lib.hid (below_boxT _ _)
  obtain ⟨x0, x1, x2, x3, x4, x5, x6⟩ := box_cells Hrow.out
  dsimp only at x0 x1 x2 x3 x4 x5 x6
  unfold boxT at x0 x1 x2 x3 x4 x5 x6
  dsimp only at x0 x1 x2 x3 x4 x5 x6
  obtain ⟨WB, hWB⟩ : ∃ WB, WB = boxT W ⟨14, name, ts, tn, A, l.length, ca, X, vars.length, cx, P, pat.length, cp⟩ := ⟨_, rfl⟩
  have HWB := Lib.hid hWB
  have HS : Hid (WB.heap.size = W.heap.size + 1) := Lib.hid (by rw [hWB]; exact boxT_size _ _)
  have HE : Hid (W.alloc (.cells #[.int .i64 14, .string name, .int .i64 ts, .string tn, .slice A l.length ca, .slice X vars.length cx, .slice P pat.length cp] 26) = WB) := Lib.hid hWB.symm
  rw [← hWB] at Hrow HB
  clear hWB H
  obtain ⟨res, hres⟩ : ∃ res, checkS sig (.mk 14 name ts tn l vars pat) bd = res := ⟨_, rfl⟩
  have HD := Lib.hid hres
  rw [hres]
  obtain ⟨ll, hll⟩ : ∃ n, l.length = n := ⟨_, rfl⟩
  obtain ⟨lx, hlx⟩ : ∃ n, vars.length = n := ⟨_, rfl⟩
  obtain ⟨lp, hlp⟩ : ∃ n, pat.length = n := ⟨_, rfl⟩
  obtain ⟨ns, hns⟩ : ∃ n, sig.length = n := ⟨_, rfl⟩
  obtain ⟨nb, hnb⟩ : ∃ n, bd.length = n := ⟨_, rfl⟩
  have Hll := Lib.hid hll
  have Hlx := Lib.hid hlx
  have Hlp := Lib.hid hlp
  have Hns := Lib.hid hns
  have Hnb := Lib.hid hnb
  rw [hll] at hll0 HWB Hrow HE x4
  rw [hlx] at hlx0 HWB Hrow HE x5
  rw [hlp] at hlp0 HWB Hrow HE x6
  simp only [hll, hlx, hlp] at x0 x1 x2 x3 x4 x5 x6
  rw [hll, hlx, hlp, hns, hnb]
  rw [hns] at hns0
  rw [hnb] at hnb0
  clear hll hlx hlp hns hnb hres
  by_cases h0 : ll = 1
  rotate_left
  · have Hr : Hid (res = (0, 30)) := Lib.hid (by
      rw [← HD.out, checkS_shape]
      simp only [shapeB]
      rw [Hll.out]
      simp
      omega)
    have h0' : ((ll : Int) != 1) = true := by rw [bne_iff_ne]; omega
    go_enter Tryz.func26, Tryz.ntmps26
    go_wp2_with fail
    go_ret2
    exact ⟨by rw [Hr.out]; rfl, by rw [HE.out]; exact HB.out⟩
  subst h0
  have Ha : Hid (Calls Tryz.prog 50 #[.slice S ns cs, .agg #[.int .i64 14, .string name, .int .i64 ts, .string tn, .slice A 1 ca, .slice X lx cx, .slice P lp cp], .slice V nb cv, .int .i64 1, .int .i64 1] WB (SortIs WB (allS sig l bd 1 1))) := Lib.hid (by
    have hbl := HH.out.hbl
    simp only [tw] at hbl
    have h := all_any (op := 14) (ts := ts) (name := name) (tn := tn) (A := A) (X := X) (P := P) (ca := ca) (lx := lx) (cx := cx) (lp := lp) (cp := cp) HH.out.hf HH.out.hL HH.out.hR (by omega) bd V cv 1 1 WB (HH.out.hW.trans (HB.out.mono HH.out.hW.size)) (HH.out.hV.below HB.out) HH.out.hcv (by omega) HH.out.okb HH.out.hbd.l HH.out.hV0
    rw [Hns.out, Hll.out, Hnb.out] at h
    exact h)
  have Hshape : Hid (shapeB (.mk 14 name ts tn l vars pat) = true) := Lib.hid (by simp [shapeB, Hll.out])
  have Hr : Hid (res = allS sig l bd 1 1) := Lib.hid (by
    rw [← HD.out]
    exact checkS_allS Hshape.out (by simp [ofE]) (by decide) (fun xs => by simp [nodeS]))
  generalize allS sig l bd 1 1 = r at *
  obtain ⟨r1, r2⟩ := r
  clear HH
  go_enter Tryz.func26, Tryz.ntmps26
  go_wp2_with (go_at_call 50; rw [HE.out]; (with_reducible refine Calls.mono Ha.out ?_); rintro e w3 ⟨rfl, hb3⟩; have Hb3 := Lib.hid hb3; clear hb3)
  go_ret2
  exact ⟨by rw [Hr.out]; rfl, HB.out.trans (Hb3.out.mono HB.out.size)⟩

set_option maxRecDepth 100000 in
set_option maxHeartbeats 4000000 in
theorem check_op15 {w0 : World} {sig : List Fn} {S : Option Addr} {cs : Nat} {ts : Int} {name tn : ByteArray} {l : List Tm} {vars : Bd} {pat : List Tm} {A X P : Option Addr} {ca cx cp : Nat} {f g : Nat → Value} {bd : Bd} {V : Option Addr} {cv : Nat} {W : World} (H : RefPre w0 sig S cs 15 ts name tn l vars pat A X P ca cx cp f g bd V cv W) : Calls Tryz.prog 26 #[.slice S sig.length cs, .agg #[.int .i64 15, .string name, .int .i64 ts, .string tn, .slice A l.length ca, .slice X vars.length cx, .slice P pat.length cp], .slice V bd.length cv] W (SortIs W (checkS sig (.mk 15 name ts tn l vars pat) bd)) := by
  have HH := Lib.hid H
  have hll0 := H.hbd.l
  have hlp0 := H.hbd.p
  have hlx0 := H.hbd.v
  have hnb0 : bd.length ≤ 1000000 := by have := H.hbl; omega
  have hns0 := H.hns
  have Hrow := Lib.hid (boxT_row W ⟨15, name, ts, tn, A, l.length, ca, X, vars.length, cx, P, pat.length, cp⟩)
  have HB : Hid (Below W.heap.size W (boxT W ⟨15, name, ts, tn, A, l.length, ca, X, vars.length, cx, P, pat.length, cp⟩)) := Lib.hid (below_boxT _ _)
  obtain ⟨x0, x1, x2, x3, x4, x5, x6⟩ := box_cells Hrow.out
  dsimp only at x0 x1 x2 x3 x4 x5 x6
  unfold boxT at x0 x1 x2 x3 x4 x5 x6
  dsimp only at x0 x1 x2 x3 x4 x5 x6
  obtain ⟨WB, hWB⟩ : ∃ WB, WB = boxT W ⟨15, name, ts, tn, A, l.length, ca, X, vars.length, cx, P, pat.length, cp⟩ := ⟨_, rfl⟩
  have HWB := Lib.hid hWB
  have HS : Hid (WB.heap.size = W.heap.size + 1) := Lib.hid (by rw [hWB]; exact boxT_size _ _)
  have HE : Hid (W.alloc (.cells #[.int .i64 15, .string name, .int .i64 ts, .string tn, .slice A l.length ca, .slice X vars.length cx, .slice P pat.length cp] 26) = WB) := Lib.hid hWB.symm
  rw [← hWB] at Hrow HB
  clear hWB H
  obtain ⟨res, hres⟩ : ∃ res, checkS sig (.mk 15 name ts tn l vars pat) bd = res := ⟨_, rfl⟩
  have HD := Lib.hid hres
  rw [hres]
  obtain ⟨ll, hll⟩ : ∃ n, l.length = n := ⟨_, rfl⟩
  obtain ⟨lx, hlx⟩ : ∃ n, vars.length = n := ⟨_, rfl⟩
  obtain ⟨lp, hlp⟩ : ∃ n, pat.length = n := ⟨_, rfl⟩
  obtain ⟨ns, hns⟩ : ∃ n, sig.length = n := ⟨_, rfl⟩
  obtain ⟨nb, hnb⟩ : ∃ n, bd.length = n := ⟨_, rfl⟩
  have Hll := Lib.hid hll
  have Hlx := Lib.hid hlx
  have Hlp := Lib.hid hlp
  have Hns := Lib.hid hns
  have Hnb := Lib.hid hnb
  rw [hll] at hll0 HWB Hrow HE x4
  rw [hlx] at hlx0 HWB Hrow HE x5
  rw [hlp] at hlp0 HWB Hrow HE x6
  simp only [hll, hlx, hlp] at x0 x1 x2 x3 x4 x5 x6
  rw [hll, hlx, hlp, hns, hnb]
  rw [hns] at hns0
  rw [hnb] at hnb0
  clear hll hlx hlp hns hnb hres
  by_cases h0 : ll = 2
  rotate_left
  · have Hr : Hid (res = (0, 30)) := Lib.hid (by
      rw [← HD.out, checkS_shape]
      simp only [shapeB]
      rw [Hll.out]
      simp
      intros; omega)
    have h0' : ((ll : Int) != 2) = true := by rw [bne_iff_ne]; omega
    go_enter Tryz.func26, Tryz.ntmps26
    go_wp2_with fail
    go_ret2
    exact ⟨by rw [Hr.out]; rfl, by rw [HE.out]; exact HB.out⟩
  subst h0
  have Ha : Hid (Calls Tryz.prog 50 #[.slice S ns cs, .agg #[.int .i64 15, .string name, .int .i64 ts, .string tn, .slice A 2 ca, .slice X lx cx, .slice P lp cp], .slice V nb cv, .int .i64 1, .int .i64 1] WB (SortIs WB (allS sig l bd 1 1))) := Lib.hid (by
    have hbl := HH.out.hbl
    simp only [tw] at hbl
    have h := all_any (op := 15) (ts := ts) (name := name) (tn := tn) (A := A) (X := X) (P := P) (ca := ca) (lx := lx) (cx := cx) (lp := lp) (cp := cp) HH.out.hf HH.out.hL HH.out.hR (by omega) bd V cv 1 1 WB (HH.out.hW.trans (HB.out.mono HH.out.hW.size)) (HH.out.hV.below HB.out) HH.out.hcv (by omega) HH.out.okb HH.out.hbd.l HH.out.hV0
    rw [Hns.out, Hll.out, Hnb.out] at h
    exact h)
  obtain ⟨l0, hl0⟩ : ∃ l0, l[0]? = some l0 := ⟨_, List.getElem?_eq_getElem (by rw [Hll.out]; omega)⟩
  have Hv := Lib.hid (HH.out.hL 0 _ hl0)
  obtain ⟨p, hp⟩ := Hv.out.parts
  have hpo : opOf l0 = p.op := by
    have := Hv.out.head
    rw [hp] at this
    simpa [Value.cells, Parts.arr] using this.symm
  have Hl1 : Hid (firstNum l = (p.op == 1)) := Lib.hid (by
    cases l with
    | nil => simp at hl0
    | cons a l =>
      simp at hl0
      subst hl0
      simp [firstNum, hpo])
  obtain ⟨b, o, rfl, e0, e1, e2, e3, e4, e5, e6⟩ := (HH.out.hf.below (HH.out.hW.trans (HB.out.mono HH.out.hW.size))).get (j := 0) (by rw [Hll.out]; omega) hp
  simp only [Nat.zero_mul, Nat.add_zero] at e0
  have e00 : (W.alloc (.cells #[.int .i64 15, .string name, .int .i64 ts, .string tn, .slice (some ⟨b, o, none⟩) 2 ca, .slice X lx cx, .slice P lp cp] 26)).cell? ⟨b, o, none⟩ = some (.int .i64 p.op) := by rw [HE.out]; exact e0
  clear e0 e1 e2 e3 e4 e5 e6 hp hl0 hpo
  by_cases h1 : p.op = 1
  rotate_left
  · have Hr : Hid (res = (0, 30)) := Lib.hid (by
      rw [← HD.out, checkS_shape]
      simp only [shapeB]
      rw [Hl1.out, beq_eq_false_iff_ne.2 h1]
      simp)
    have h1' : (p.op != 1) = true := by rw [bne_iff_ne]; exact h1
    go_enter Tryz.func26, Tryz.ntmps26
    go_wp2_with fail
    go_ret2
    exact ⟨by rw [Hr.out]; rfl, by rw [HE.out]; exact HB.out⟩
  have Hshape : Hid (shapeB (.mk 15 name ts tn l vars pat) = true) := Lib.hid (by
    simp only [shapeB]
    rw [Hl1.out, h1, Hll.out]
    simp)
  have h1' : (p.op != 1) = false := by rw [h1]; rfl
  have Hr : Hid (res = allS sig l bd 1 1) := Lib.hid (by
    rw [← HD.out]
    exact checkS_allS Hshape.out (by simp [ofE]) (by decide) (fun xs => by simp [nodeS]))
  generalize allS sig l bd 1 1 = r at *
  obtain ⟨r1, r2⟩ := r
  clear HH
  go_enter Tryz.func26, Tryz.ntmps26
  go_wp2_with (go_at_call 50; rw [HE.out]; (with_reducible refine Calls.mono Ha.out ?_); rintro e w3 ⟨rfl, hb3⟩; have Hb3 := Lib.hid hb3; clear hb3)
  go_ret2
  exact ⟨by rw [Hr.out]; rfl, HB.out.trans (Hb3.out.mono HB.out.size)⟩
end Go.Proofs.YtlgbepamnkfpjaaGreatDoor

/- The reference's check: truths; what is no operator; variables. -/
set_option linter.unusedVariables false
set_option linter.unusedSimpArgs false
namespace Go.Proofs.YtlgbepamnkfpjaaGreatDoor
open Go.RowKit Go.Lib

set_option maxRecDepth 100000 in
set_option maxHeartbeats 4000000 in
theorem check_op2 {w0 : World} {sig : List Fn} {S : Option Addr} {cs : Nat} {ts : Int} {name tn : ByteArray} {l : List Tm} {vars : Bd} {pat : List Tm} {A X P : Option Addr} {ca cx cp : Nat} {f g : Nat → Value} {bd : Bd} {V : Option Addr} {cv : Nat} {W : World} (H : RefPre w0 sig S cs 2 ts name tn l vars pat A X P ca cx cp f g bd V cv W) : Calls Tryz.prog 26 #[.slice S sig.length cs, .agg #[.int .i64 2, .string name, .int .i64 ts, .string tn, .slice A l.length ca, .slice X vars.length cx, .slice P pat.length cp], .slice V bd.length cv] W (SortIs W (checkS sig (.mk 2 name ts tn l vars pat) bd)) := by
  have HH := Lib.hid H
  have hll0 := H.hbd.l
  have hlp0 := H.hbd.p
  have hlx0 := H.hbd.v
  have hnb0 : bd.length ≤ 1000000 := by have := H.hbl; omega
  have hns0 := H.hns
  have Hrow := Lib.hid (boxT_row W ⟨2, name, ts, tn, A, l.length, ca, X, vars.length, cx, P, pat.length, cp⟩)
  have HB : Hid (Below W.heap.size W (boxT W ⟨2, name, ts, tn, A, l.length, ca, X, vars.length, cx, P, pat.length, cp⟩)) := Lib.hid (below_boxT _ _)
  obtain ⟨x0, x1, x2, x3, x4, x5, x6⟩ := box_cells Hrow.out
  dsimp only at x0 x1 x2 x3 x4 x5 x6
  unfold boxT at x0 x1 x2 x3 x4 x5 x6
  dsimp only at x0 x1 x2 x3 x4 x5 x6
  obtain ⟨WB, hWB⟩ : ∃ WB, WB = boxT W ⟨2, name, ts, tn, A, l.length, ca, X, vars.length, cx, P, pat.length, cp⟩ := ⟨_, rfl⟩
  have HWB := Lib.hid hWB
  have HS : Hid (WB.heap.size = W.heap.size + 1) := Lib.hid (by rw [hWB]; exact boxT_size _ _)
  have HE : Hid (W.alloc (.cells #[.int .i64 2, .string name, .int .i64 ts, .string tn, .slice A l.length ca, .slice X vars.length cx, .slice P pat.length cp] 26) = WB) := Lib.hid hWB.symm
  rw [← hWB] at Hrow HB
  clear hWB H
  obtain ⟨res, hres⟩ : ∃ res, checkS sig (.mk 2 name ts tn l vars pat) bd = res := ⟨_, rfl⟩
  have HD := Lib.hid hres
  rw [hres]
  obtain ⟨ll, hll⟩ : ∃ n, l.length = n := ⟨_, rfl⟩
  obtain ⟨lx, hlx⟩ : ∃ n, vars.length = n := ⟨_, rfl⟩
  obtain ⟨lp, hlp⟩ : ∃ n, pat.length = n := ⟨_, rfl⟩
  obtain ⟨ns, hns⟩ : ∃ n, sig.length = n := ⟨_, rfl⟩
  obtain ⟨nb, hnb⟩ : ∃ n, bd.length = n := ⟨_, rfl⟩
  have Hll := Lib.hid hll
  have Hlx := Lib.hid hlx
  have Hlp := Lib.hid hlp
  have Hns := Lib.hid hns
  have Hnb := Lib.hid hnb
  rw [hll] at hll0 HWB Hrow HE x4
  rw [hlx] at hlx0 HWB Hrow HE x5
  rw [hlp] at hlp0 HWB Hrow HE x6
  simp only [hll, hlx, hlp] at x0 x1 x2 x3 x4 x5 x6
  rw [hll, hlx, hlp, hns, hnb]
  rw [hns] at hns0
  rw [hnb] at hnb0
  clear hll hlx hlp hns hnb hres
  by_cases h0 : ll = 0
  rotate_left
  · have Hr : Hid (res = (0, 30)) := Lib.hid (by
      rw [← HD.out, checkS_shape]
      simp only [shapeB]
      rw [Hll.out]
      simp
      omega)
    have h0' : ((ll : Int) != 0) = true := by rw [bne_iff_ne]; omega
    go_enter Tryz.func26, Tryz.ntmps26
    go_wp2_with fail
    go_ret2
    exact ⟨by rw [Hr.out]; rfl, by rw [HE.out]; exact HB.out⟩
  have Hl : Hid (l = []) := Lib.hid (List.length_eq_zero_iff.1 (by rw [Hll.out, h0]))
  have Hr : Hid (res = (2, 0)) := Lib.hid (by
    rw [← HD.out, Hl.out]
    simp [checkS, checksS, shapeB, ofE, nodeS])
  subst h0
  clear HH
  go_enter Tryz.func26, Tryz.ntmps26
  go_wp2_with fail
  go_ret2
  exact ⟨by rw [Hr.out]; rfl, by rw [HE.out]; exact HB.out⟩

set_option maxRecDepth 100000 in
set_option maxHeartbeats 4000000 in
theorem check_op3 {w0 : World} {sig : List Fn} {S : Option Addr} {cs : Nat} {ts : Int} {name tn : ByteArray} {l : List Tm} {vars : Bd} {pat : List Tm} {A X P : Option Addr} {ca cx cp : Nat} {f g : Nat → Value} {bd : Bd} {V : Option Addr} {cv : Nat} {W : World} (H : RefPre w0 sig S cs 3 ts name tn l vars pat A X P ca cx cp f g bd V cv W) : Calls Tryz.prog 26 #[.slice S sig.length cs, .agg #[.int .i64 3, .string name, .int .i64 ts, .string tn, .slice A l.length ca, .slice X vars.length cx, .slice P pat.length cp], .slice V bd.length cv] W (SortIs W (checkS sig (.mk 3 name ts tn l vars pat) bd)) := by
  have HH := Lib.hid H
  have hll0 := H.hbd.l
  have hlp0 := H.hbd.p
  have hlx0 := H.hbd.v
  have hnb0 : bd.length ≤ 1000000 := by have := H.hbl; omega
  have hns0 := H.hns
  have Hrow := Lib.hid (boxT_row W ⟨3, name, ts, tn, A, l.length, ca, X, vars.length, cx, P, pat.length, cp⟩)
  have HB : Hid (Below W.heap.size W (boxT W ⟨3, name, ts, tn, A, l.length, ca, X, vars.length, cx, P, pat.length, cp⟩)) := Lib.hid (below_boxT _ _)
  obtain ⟨x0, x1, x2, x3, x4, x5, x6⟩ := box_cells Hrow.out
  dsimp only at x0 x1 x2 x3 x4 x5 x6
  unfold boxT at x0 x1 x2 x3 x4 x5 x6
  dsimp only at x0 x1 x2 x3 x4 x5 x6
  obtain ⟨WB, hWB⟩ : ∃ WB, WB = boxT W ⟨3, name, ts, tn, A, l.length, ca, X, vars.length, cx, P, pat.length, cp⟩ := ⟨_, rfl⟩
  have HWB := Lib.hid hWB
  have HS : Hid (WB.heap.size = W.heap.size + 1) := Lib.hid (by rw [hWB]; exact boxT_size _ _)
  have HE : Hid (W.alloc (.cells #[.int .i64 3, .string name, .int .i64 ts, .string tn, .slice A l.length ca, .slice X vars.length cx, .slice P pat.length cp] 26) = WB) := Lib.hid hWB.symm
  rw [← hWB] at Hrow HB
  clear hWB H
  obtain ⟨res, hres⟩ : ∃ res, checkS sig (.mk 3 name ts tn l vars pat) bd = res := ⟨_, rfl⟩
  have HD := Lib.hid hres
  rw [hres]
  obtain ⟨ll, hll⟩ : ∃ n, l.length = n := ⟨_, rfl⟩
  obtain ⟨lx, hlx⟩ : ∃ n, vars.length = n := ⟨_, rfl⟩
  obtain ⟨lp, hlp⟩ : ∃ n, pat.length = n := ⟨_, rfl⟩
  obtain ⟨ns, hns⟩ : ∃ n, sig.length = n := ⟨_, rfl⟩
  obtain ⟨nb, hnb⟩ : ∃ n, bd.length = n := ⟨_, rfl⟩
  have Hll := Lib.hid hll
  have Hlx := Lib.hid hlx
  have Hlp := Lib.hid hlp
  have Hns := Lib.hid hns
  have Hnb := Lib.hid hnb
  rw [hll] at hll0 HWB Hrow HE x4
  rw [hlx] at hlx0 HWB Hrow HE x5
  rw [hlp] at hlp0 HWB Hrow HE x6
  simp only [hll, hlx, hlp] at x0 x1 x2 x3 x4 x5 x6
  rw [hll, hlx, hlp, hns, hnb]
  rw [hns] at hns0
  rw [hnb] at hnb0
  clear hll hlx hlp hns hnb hres
  by_cases h0 : ll = 0
  rotate_left
  · have Hr : Hid (res = (0, 30)) := Lib.hid (by
      rw [← HD.out, checkS_shape]
      simp only [shapeB]
      rw [Hll.out]
      simp
      omega)
    have h0' : ((ll : Int) != 0) = true := by rw [bne_iff_ne]; omega
    go_enter Tryz.func26, Tryz.ntmps26
    go_wp2_with fail
    go_ret2
    exact ⟨by rw [Hr.out]; rfl, by rw [HE.out]; exact HB.out⟩
  have Hl : Hid (l = []) := Lib.hid (List.length_eq_zero_iff.1 (by rw [Hll.out, h0]))
  have Hr : Hid (res = (2, 0)) := Lib.hid (by
    rw [← HD.out, Hl.out]
    simp [checkS, checksS, shapeB, ofE, nodeS])
  subst h0
  clear HH
  go_enter Tryz.func26, Tryz.ntmps26
  go_wp2_with fail
  go_ret2
  exact ⟨by rw [Hr.out]; rfl, by rw [HE.out]; exact HB.out⟩

set_option maxRecDepth 100000 in
set_option maxHeartbeats 4000000 in
theorem check_bad {w0 : World} {sig : List Fn} {S : Option Addr} {cs : Nat} {op ts : Int} {name tn : ByteArray} {l : List Tm} {vars : Bd} {pat : List Tm} {A X P : Option Addr} {ca cx cp : Nat} {f g : Nat → Value} {bd : Bd} {V : Option Addr} {cv : Nat} {W : World} (H : RefPre w0 sig S cs op ts name tn l vars pat A X P ca cx cp f g bd V cv W) (ho : op < 1 ∨ 19 < op) : Calls Tryz.prog 26 #[.slice S sig.length cs, .agg #[.int .i64 op, .string name, .int .i64 ts, .string tn, .slice A l.length ca, .slice X vars.length cx, .slice P pat.length cp], .slice V bd.length cv] W (SortIs W (checkS sig (.mk op name ts tn l vars pat) bd)) := by
  have HH := Lib.hid H
  have hll0 := H.hbd.l
  have hlp0 := H.hbd.p
  have hlx0 := H.hbd.v
  have hnb0 : bd.length ≤ 1000000 := by have := H.hbl; omega
  have hns0 := H.hns
  have Hrow := Lib.hid (boxT_row W ⟨op, name, ts, tn, A, l.length, ca, X, vars.length, cx, P, pat.length, cp⟩)
  have HB : Hid (Below W.heap.size W (boxT W ⟨op, name, ts, tn, A, l.length, ca, X, vars.length, cx, P, pat.length, cp⟩)) := Lib.hid (below_boxT _ _)
  obtain ⟨x0, x1, x2, x3, x4, x5, x6⟩ := box_cells Hrow.out
  dsimp only at x0 x1 x2 x3 x4 x5 x6
  unfold boxT at x0 x1 x2 x3 x4 x5 x6
  dsimp only at x0 x1 x2 x3 x4 x5 x6
  obtain ⟨WB, hWB⟩ : ∃ WB, WB = boxT W ⟨op, name, ts, tn, A, l.length, ca, X, vars.length, cx, P, pat.length, cp⟩ := ⟨_, rfl⟩
  have HWB := Lib.hid hWB
  have HS : Hid (WB.heap.size = W.heap.size + 1) := Lib.hid (by rw [hWB]; exact boxT_size _ _)
  have HE : Hid (W.alloc (.cells #[.int .i64 op, .string name, .int .i64 ts, .string tn, .slice A l.length ca, .slice X vars.length cx, .slice P pat.length cp] 26) = WB) := Lib.hid hWB.symm
  rw [← hWB] at Hrow HB
  clear hWB H
  obtain ⟨res, hres⟩ : ∃ res, checkS sig (.mk op name ts tn l vars pat) bd = res := ⟨_, rfl⟩
  have HD := Lib.hid hres
  rw [hres]
  obtain ⟨ll, hll⟩ : ∃ n, l.length = n := ⟨_, rfl⟩
  obtain ⟨lx, hlx⟩ : ∃ n, vars.length = n := ⟨_, rfl⟩
  obtain ⟨lp, hlp⟩ : ∃ n, pat.length = n := ⟨_, rfl⟩
  obtain ⟨ns, hns⟩ : ∃ n, sig.length = n := ⟨_, rfl⟩
  obtain ⟨nb, hnb⟩ : ∃ n, bd.length = n := ⟨_, rfl⟩
  have Hll := Lib.hid hll
  have Hlx := Lib.hid hlx
  have Hlp := Lib.hid hlp
  have Hns := Lib.hid hns
  have Hnb := Lib.hid hnb
  rw [hll] at hll0 HWB Hrow HE x4
  rw [hlx] at hlx0 HWB Hrow HE x5
  rw [hlp] at hlp0 HWB Hrow HE x6
  simp only [hll, hlx, hlp] at x0 x1 x2 x3 x4 x5 x6
  rw [hll, hlx, hlp, hns, hnb]
  rw [hns] at hns0
  rw [hnb] at hnb0
  clear hll hlx hlp hns hnb hres

  have Hr : Hid (res = (0, 30)) := Lib.hid (by
    rw [← HD.out, checkS_shape]
    simp only [shapeB]
    repeat' (rw [if_neg (by omega)]))
  have b1 : (op == 1) = false := beq_eq_false_iff_ne.2 (by omega)
  have b2 : (op == 2) = false := beq_eq_false_iff_ne.2 (by omega)
  have b3 : (op == 3) = false := beq_eq_false_iff_ne.2 (by omega)
  have b4 : (op == 4) = false := beq_eq_false_iff_ne.2 (by omega)
  have b5 : (op == 5) = false := beq_eq_false_iff_ne.2 (by omega)
  have b6 : (op == 6) = false := beq_eq_false_iff_ne.2 (by omega)
  have b7 : (op == 7) = false := beq_eq_false_iff_ne.2 (by omega)
  have b8 : (op == 8) = false := beq_eq_false_iff_ne.2 (by omega)
  have b9 : (op == 9) = false := beq_eq_false_iff_ne.2 (by omega)
  have b10 : (op == 10) = false := beq_eq_false_iff_ne.2 (by omega)
  have b11 : (op == 11) = false := beq_eq_false_iff_ne.2 (by omega)
  have b12 : (op == 12) = false := beq_eq_false_iff_ne.2 (by omega)
  have b13 : (op == 13) = false := beq_eq_false_iff_ne.2 (by omega)
  have b14 : (op == 14) = false := beq_eq_false_iff_ne.2 (by omega)
  have b15 : (op == 15) = false := beq_eq_false_iff_ne.2 (by omega)
  have b16 : (op == 16) = false := beq_eq_false_iff_ne.2 (by omega)
  have b17 : (op == 17) = false := beq_eq_false_iff_ne.2 (by omega)
  have b18 : (op == 18) = false := beq_eq_false_iff_ne.2 (by omega)
  have b19 : (op == 19) = false := beq_eq_false_iff_ne.2 (by omega)
  clear HH
  rcases ho with ho | ho
  · go_enter Tryz.func26, Tryz.ntmps26
    go_wp2_with fail
    go_ret2
    exact ⟨by rw [Hr.out]; rfl, by rw [HE.out]; exact HB.out⟩
  · have ho2 : ¬ op < 1 := by omega
    go_enter Tryz.func26, Tryz.ntmps26
    go_wp2_with fail
    go_ret2
    exact ⟨by rw [Hr.out]; rfl, by rw [HE.out]; exact HB.out⟩
theorem lastVar_take {bd : Bd} {x : ByteArray} {k : Nat} (hk : k < bd.length) : lastVar (bd.take (k + 1)) x = if (bd[k].1.toList == x.toList) = true then some bd[k] else lastVar (bd.take k) x := by
  unfold lastVar
  rw [List.take_succ_eq_append_getElem hk, List.reverse_append]
  simp only [List.reverse_cons, List.reverse_nil, List.nil_append, List.cons_append, List.find?_cons]
  split <;> simp_all
set_option maxRecDepth 100000 in
set_option maxHeartbeats 4000000 in
theorem check_var {w0 : World} {sig : List Fn} {S : Option Addr} {cs : Nat} {ts : Int} {name tn : ByteArray} {l : List Tm} {vars : Bd} {pat : List Tm} {A X P : Option Addr} {ca cx cp : Nat} {f g : Nat → Value} {bd : Bd} {V : Option Addr} {cv : Nat} {W : World} (H : RefPre w0 sig S cs 18 ts name tn l vars pat A X P ca cx cp f g bd V cv W) : Calls Tryz.prog 26 #[.slice S sig.length cs, .agg #[.int .i64 18, .string name, .int .i64 ts, .string tn, .slice A l.length ca, .slice X vars.length cx, .slice P pat.length cp], .slice V bd.length cv] W (SortIs W (checkS sig (.mk 18 name ts tn l vars pat) bd)) := by
  have HH := Lib.hid H
  have hll0 := H.hbd.l
  have hlp0 := H.hbd.p
  have hlx0 := H.hbd.v
  have hnb0 : bd.length ≤ 1000000 := by have := H.hbl; omega
  have hns0 := H.hns
  have Hrow := Lib.hid (boxT_row W ⟨18, name, ts, tn, A, l.length, ca, X, vars.length, cx, P, pat.length, cp⟩)
  have HB : Hid (Below W.heap.size W (boxT W ⟨18, name, ts, tn, A, l.length, ca, X, vars.length, cx, P, pat.length, cp⟩)) := Lib.hid (below_boxT _ _)
  obtain ⟨x0, x1, x2, x3, x4, x5, x6⟩ := box_cells Hrow.out
  dsimp only at x0 x1 x2 x3 x4 x5 x6
  unfold boxT at x0 x1 x2 x3 x4 x5 x6
  dsimp only at x0 x1 x2 x3 x4 x5 x6
  obtain ⟨WB, hWB⟩ : ∃ WB, WB = boxT W ⟨18, name, ts, tn, A, l.length, ca, X, vars.length, cx, P, pat.length, cp⟩ := ⟨_, rfl⟩
  have HWB := Lib.hid hWB
  have HS : Hid (WB.heap.size = W.heap.size + 1) := Lib.hid (by rw [hWB]; exact boxT_size _ _)
  have HE : Hid (W.alloc (.cells #[.int .i64 18, .string name, .int .i64 ts, .string tn, .slice A l.length ca, .slice X vars.length cx, .slice P pat.length cp] 26) = WB) := Lib.hid hWB.symm
  rw [← hWB] at Hrow HB
  clear hWB H
  obtain ⟨res, hres⟩ : ∃ res, checkS sig (.mk 18 name ts tn l vars pat) bd = res := ⟨_, rfl⟩
  have HD := Lib.hid hres
  rw [hres]
  obtain ⟨ll, hll⟩ : ∃ n, l.length = n := ⟨_, rfl⟩
  obtain ⟨lx, hlx⟩ : ∃ n, vars.length = n := ⟨_, rfl⟩
  obtain ⟨lp, hlp⟩ : ∃ n, pat.length = n := ⟨_, rfl⟩
  obtain ⟨ns, hns⟩ : ∃ n, sig.length = n := ⟨_, rfl⟩
  obtain ⟨nb, hnb⟩ : ∃ n, bd.length = n := ⟨_, rfl⟩
  have Hll := Lib.hid hll
  have Hlx := Lib.hid hlx
  have Hlp := Lib.hid hlp
  have Hns := Lib.hid hns
  have Hnb := Lib.hid hnb
  rw [hll] at hll0 HWB Hrow HE x4
  rw [hlx] at hlx0 HWB Hrow HE x5
  rw [hlp] at hlp0 HWB Hrow HE x6
  simp only [hll, hlx, hlp] at x0 x1 x2 x3 x4 x5 x6
  rw [hll, hlx, hlp, hns, hnb]
  rw [hns] at hns0
  rw [hnb] at hnb0
  clear hll hlx hlp hns hnb hres
  by_cases h0 : ll = 0
  rotate_left
  · have Hr : Hid (res = (0, 30)) := Lib.hid (by
      rw [← HD.out, checkS_shape]
      simp only [shapeB]
      rw [Hll.out]
      simp
      omega)
    have h0' : ((ll : Int) != 0) = true := by rw [bne_iff_ne]; omega
    go_enter Tryz.func26, Tryz.ntmps26
    go_wp2_with fail
    go_ret2
    exact ⟨by rw [Hr.out]; rfl, by rw [HE.out]; exact HB.out⟩
  have Hl : Hid (l = []) := Lib.hid (List.length_eq_zero_iff.1 (by rw [Hll.out, h0]))
  subst h0
  cases hr : nameB name with
  | false =>
    have Hr : Hid (res = (0, 30)) := Lib.hid (by
      rw [← HD.out, checkS_shape]
      simp [shapeB, hr])
    have HR := Lib.hid hr
    clear hr
    go_enter Tryz.func26, Tryz.ntmps26
    go_wp2_with (go_at_call 48; (with_reducible refine Calls.mono (wordR_any _ _) ?_); rw [HR.out]; rintro e w3 ⟨rfl, hb3⟩; rw [HE.out] at hb3; have Hb3 := Lib.hid hb3; clear hb3)
    go_ret2
    exact ⟨by rw [Hr.out]; rfl, HB.out.trans (Hb3.out.mono HB.out.size)⟩
  | true =>
    have Hr0 : Hid (res = if (varV bd name ts).2 ≠ 0 then (0, (varV bd name ts).2) else (ts, 0)) := Lib.hid (by
      rw [← HD.out, Hl.out]
      simp [checkS, checksS, shapeB, hr, ofE, nodeS])
    have Hr : Hid (res = match lastVar bd name with | none => (0, 32) | some v => if v.2 = ts then (ts, 0) else (0, 31)) := Lib.hid (by
      rw [Hr0.out]
      unfold varV
      cases lastVar bd name with
      | none => rfl
      | some v =>
        dsimp only
        split <;> simp)
    have HR := Lib.hid hr
    clear hr
    go_enter Tryz.func26, Tryz.ntmps26
    go_wp2_with (go_at_call 48; (with_reducible refine Calls.mono (wordR_any _ _) ?_); rw [HR.out]; rintro e w3 ⟨rfl, hb3⟩; rw [HE.out] at hb3; have Hb3 := Lib.hid hb3; obtain ⟨y0, y1, y2, y3, y4, y5, y6⟩ := box_cells (below_keeps hb3 Hrow.out); dsimp only at y0 y1 y2 y3 y4 y5 y6; clear hb3)
    go_loopw [26] (fun i wr => ∃ k : Nat, k ≤ nb ∧ i = .int .i64 ((k : Int) - 1) ∧ Hid (Below w3.heap.size w3 wr) ∧ Hid (lastVar bd name = lastVar (bd.take k) name)) (fun i _ => (Go.RowKit.intOf i + 1).toNat)
    case atStart => exact ⟨nb, by omega, rfl, Lib.hid (Below.refl _ _), Lib.hid (by rw [List.take_of_length_le (by rw [Hnb.out]; omega)])⟩
    case round =>
      obtain ⟨k, hk, rfl, HBr, HL⟩ := hrel
      clear y0 y1 y2 y3 y4 y5 y6
      obtain ⟨y0, y1, y2, y3, y4, y5, y6⟩ := box_cells (below_keeps (Hb3.out.trans (HBr.out.mono Hb3.out.size)) Hrow.out)
      dsimp only at y0 y1 y2 y3 y4 y5 y6
      have HBw : Hid (Below W.heap.size W wr) := Lib.hid ((HB.out.trans (Hb3.out.mono HB.out.size)).trans (HBr.out.mono (by have := HB.out.size; have := Hb3.out.size; omega)))
      cases k with
      | zero =>
        have Hr2 : Hid (res = (0, 32)) := Lib.hid (by rw [Hr.out, HL.out]; rfl)
        go_wp2_with fail
        go_ret2
        exact ⟨by rw [Hr2.out]; rfl, HBw.out⟩
      | succ k =>
        have hkb : k < bd.length := by rw [Hnb.out]; omega
        have Hx : Hid (bd[k]? = some bd[k]) := Lib.hid (List.getElem?_eq_getElem hkb)
        have Hlt := Lib.hid (lastVar_take (x := name) hkb)
        obtain ⟨b, o, rfl, g0, g1⟩ := (HH.out.hV.below HBw.out).bound Hx.out
        generalize bd[k] = v at *
        obtain ⟨s, so⟩ := v
        dsimp only at g0 g1 Hlt
        have e : ((k + 1 : Nat) : Int) - 1 = (k : Int) := by omega
        rw [e]
        have k1 : (0 : Int) ≤ (k : Int) := by omega
        have k2 : (k : Int) < (nb : Int) := by omega
        clear e
        cases hq : (s.toList == name.toList) with
        | false =>
          have HL2 : Hid (lastVar bd name = lastVar (bd.take k) name) := Lib.hid (by rw [HL.out, Hlt.out, hq]; rfl)
          go_wp2_with fail
          go_region
          go_wp2_with fail
          go_roundw
          case rel => exact ⟨k, by omega, by go_num, Lib.hid HBr.out.drew, HL2⟩
          case measure => simp [Go.RowKit.intOf] <;> omega
        | true =>
          have HL2 : Hid (lastVar bd name = some (s, so)) := Lib.hid (by rw [HL.out, Hlt.out, hq]; rfl)
          by_cases hs : so = ts
          · have Hr2 : Hid (res = (ts, 0)) := Lib.hid (by rw [Hr.out, HL2.out]; simp [hs])
            subst hs
            go_wp2_with fail
            go_region
            go_wp2_with fail
            try go_region
            try go_wp2_with fail
            go_ret2
            exact ⟨by rw [Hr2.out]; rfl, by first | exact HBw.out.drew | exact HBw.out.drew.drew⟩
          · have Hr2 : Hid (res = (0, 31)) := Lib.hid (by rw [Hr.out, HL2.out]; simp [hs])
            have hs' : (so != ts) = true := by rw [bne_iff_ne]; exact hs
            go_wp2_with fail
            go_region
            go_wp2_with fail
            try go_region
            try go_wp2_with fail
            go_ret2
            exact ⟨by rw [Hr2.out]; rfl, by first | exact HBw.out.drew | exact HBw.out.drew.drew⟩
end Go.Proofs.YtlgbepamnkfpjaaGreatDoor
