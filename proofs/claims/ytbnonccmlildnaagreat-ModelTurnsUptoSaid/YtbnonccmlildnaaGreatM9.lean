/- bare: a pattern's operators, and the variables that it names. -/
import Derived.Test.YtbnonccmlildnaaGreatM8
import Derived.Lib.OthersKept
set_option linter.unusedSimpArgs false
set_option linter.unusedVariables false
namespace Go.Proofs.YtbnonccmlildnaaGreat
open Go.RowKit Go.Lib

def bareOp (op : Int) : Bool := op == 18 || op == 1 || op == 17 || op == 12 || op == 13 || op == 14 || op == 15
mutual
def tbare : Tm → Bool
  | .mk op _ _ _ l _ _ => bareOp op && tbares l
def tbares : List Tm → Bool
  | [] => true
  | t :: ts => tbare t && tbares ts
end
mutual
def tnames : Tm → List ByteArray
  | .mk op name _ _ l _ _ => (if op = 18 then [name] else []) ++ tnamess l
def tnamess : List Tm → List ByteArray
  | [] => []
  | t :: ts => tnames t ++ tnamess ts
end
theorem tbares_take {l : List Tm} {k : Nat} (hk : k < l.length) : tbares (l.take (k + 1)) = (tbares (l.take k) && tbare l[k]) := by
  induction l generalizing k with
  | nil => simp at hk
  | cons t l ih =>
    cases k with
    | zero => simp [tbares]
    | succ k =>
      simp only [List.length_cons] at hk
      simp only [List.take_succ_cons, List.getElem_cons_succ, tbares, ih (k := k) (by omega), Bool.and_assoc]
theorem tnamess_take {l : List Tm} {k : Nat} (hk : k < l.length) : tnamess (l.take (k + 1)) = tnamess (l.take k) ++ tnames l[k] := by
  induction l generalizing k with
  | nil => simp at hk
  | cons t l ih =>
    cases k with
    | zero => simp [tnamess]
    | succ k =>
      simp only [List.length_cons] at hk
      simp only [List.take_succ_cons, List.getElem_cons_succ, tnamess, ih (k := k) (by omega), List.append_assoc]
theorem tbares_false {l : List Tm} {k : Nat} (hk : k < l.length) (h : tbare l[k] = false) : tbares l = false := by
  induction l generalizing k with
  | nil => simp at hk
  | cons t l ih =>
    cases k with
    | zero => simp only [List.getElem_cons_zero] at h; simp [tbares, h]
    | succ k =>
      simp only [List.length_cons] at hk
      simp only [List.getElem_cons_succ] at h
      simp [tbares, ih (k := k) (by omega) h]
mutual
theorem tnames_length : ∀ t : Tm, (tnames t).length ≤ tsize t
  | .mk op name _ _ l _ _ => by
    have := tnamess_length l
    simp only [tnames, tsize, List.length_append]
    split <;> simp <;> omega
theorem tnamess_length : ∀ l : List Tm, (tnamess l).length ≤ tsizes l
  | [] => by simp [tnamess]
  | t :: ts => by
    have := tnames_length t
    have := tnamess_length ts
    simp only [tnamess, tsizes, List.length_append]
    omega
end

/-- The names that have been found: their list's own row from base on, its cell in block Q. -/
def FoundAt (w : World) (Q base : Nat) (names : List ByteArray) : Prop :=
  Q < base ∧ base ≤ w.heap.size ∧ ∃ A c, w.heap[Q]? = some (.cells #[.slice A names.length c] 55 (0, 0)) ∧ OwnQ w base 9 (.slice A names.length c) (names.map Value.string)
theorem FoundAt.below {w w' : World} {Q base : Nat} {names : List ByteArray} (h : FoundAt w Q base names) (hb : Below w.heap.size w w') : FoundAt w' Q base names := by
  obtain ⟨h1, h2, A, c, h3, h4⟩ := h
  exact ⟨h1, by have := hb.size; omega, A, c, below_keeps hb h3, h4.same fun g hg => hb.block g (h4.lt g hg).2⟩
theorem info9 : (Tryz.prog.info? 9).map (fun i => (i.zero, i.size, i.bytes)) = some (some (.string ⟨#[]⟩), 1, 16) := by kernel_rfl

def BareIs (w : World) (Q base : Nat) (b : Bool) (names0 more : List ByteArray) (e : Ending) (w' : World) : Prop :=
  e = .returned (.bool b) ∧ Below Q w w' ∧ OthersKept 9 (some Q) w w' ∧ ∃ names, FoundAt w' Q base names ∧ (b = true → names = names0 ++ more)

set_option maxRecDepth 100000 in
set_option maxHeartbeats 2000000 in
theorem bare_not {t : Tm} {v : Value} {w : World} (h : TmV w t v) (ho : bareOp (opOf t) = false) {w' : World} {Q base : Nat} {names : List ByteArray} (hf : FoundAt w' Q base names) (hQ : Q < w'.heap.size) :
    Calls Tryz.prog 98 #[v, .pointer (some ⟨Q, 0, none⟩)] w' (BareIs w' Q base false names []) := by
  cases h with
  | @mk op name sort n l vars pat A V P ca cv cp f g hbd hl hf2 hL hv hV hp hg hP =>
    have HB : Hid (Below w'.heap.size w' (boxT w' ⟨op, name, sort, n, A, l.length, ca, V, vars.length, cv, P, pat.length, cp⟩)) := Lib.hid (below_boxT _ _)
    have HK : Hid (OthersKept 9 (some Q) w' (boxT w' ⟨op, name, sort, n, A, l.length, ca, V, vars.length, cv, P, pat.length, cp⟩)) := Lib.hid ((OthersKept.refl _ _ _).alloc _)
    have Hf := Lib.hid hf
    clear hf2 hL hP hg hV hbd hf
    simp only [opOf, bareOp, Bool.or_eq_false_iff] at ho
    obtain ⟨⟨⟨⟨⟨⟨h1, h2⟩, h3⟩, h4⟩, h5⟩, h6⟩, h7⟩ := ho
    go_enter Tryz.func98, Tryz.ntmps98
    go_wp2_with fail
    go_ret
    exact ⟨rfl, HB.out.mono (by omega), HK.out, names, Hf.out.below HB.out, by simp⟩
end Go.Proofs.YtbnonccmlildnaaGreat

/- bare, whole. -/
namespace Go.Proofs.YtbnonccmlildnaaGreat
open Go.RowKit Go.Lib

theorem FoundAt.cell {w : World} {Q base : Nat} {names : List ByteArray} (h : FoundAt w Q base names) : ∃ A c, w.heap[Q]? = some (.cells #[.slice A names.length c] 55 (0, 0)) ∧ w.cell? ⟨Q, 0, none⟩ = some (.slice A names.length c) ∧ w.frozen? ⟨Q, 0, none⟩ = false ∧ OwnQ w base 9 (.slice A names.length c) (names.map Value.string) ∧ base ≤ w.heap.size ∧ Q < base := by
  obtain ⟨h1, h2, A, c, h3, h4⟩ := h
  exact ⟨A, c, h3, (row1 h3).1, (row1 h3).2, h4, h2, h1⟩
/-- What the append and the store leave. -/
theorem FoundAt.appended {w w' : World} {Q base : Nat} {names : List ByteArray} {x : ByteArray} {A : Option Addr} {c g of cap : Nat} (h3 : w.heap[Q]? = some (.cells #[.slice A names.length c] 55 (0, 0))) (h4 : OwnQ w base 9 (.slice A names.length c) (names.map Value.string)) (hQ : Q < base) (hb : base ≤ w.heap.size)
    (hq : OwnQ w' base 9 (.slice (some ⟨g, of, none⟩) ((names.map Value.string).length + 1) cap) (names.map Value.string ++ [.string x])) (hg : w.grownBy w' (Value.slice A names.length c).ownBlock) :
    FoundAt (w'.setCell ⟨Q, 0, none⟩ (.slice (some ⟨g, of, none⟩) ((names.map Value.string).length + 1) cap)) Q base (names ++ [x]) ∧ Below Q w (w'.setCell ⟨Q, 0, none⟩ (.slice (some ⟨g, of, none⟩) ((names.map Value.string).length + 1) cap)) ∧ OthersKept 9 (some Q) w (w'.setCell ⟨Q, 0, none⟩ (.slice (some ⟨g, of, none⟩) ((names.map Value.string).length + 1) cap)) := by
  have hlt : ∀ k, (Value.slice A names.length c).ownBlock = some k → base ≤ k := fun k hk => (h4.lt k hk).1
  have hQ' : w'.heap[Q]? = some (.cells #[.slice A names.length c] 55 (0, 0)) := (hg.block Q (by omega) (fun e => by have := hlt Q e.symm; omega)).trans h3
  refine ⟨⟨hQ, by have := hg.size; simp [World.setCell]; omega, some ⟨g, of, none⟩, cap, ?_, ?_⟩, ?_, ?_⟩
  · simp [World.setCell, Array.getElem?_modify, hQ']
  · have : OwnQ w' base 9 (.slice (some ⟨g, of, none⟩) (names ++ [x]).length cap) ((names ++ [x]).map Value.string) := by simpa using hq
    exact this.same fun k hk => Below.heap_setCell _ _ _ _ (fun e => by have := (this.lt k hk).1; simp at e; omega)
  · exact (((Below.refl Q w).grown hg (by omega) (fun k hk => by have := hlt k hk; omega))).setCell (p := ⟨Q, 0, none⟩) (Nat.le_refl _) _
  · exact ((OthersKept.refl _ _ _).grown hg (fun k hk => by obtain ⟨cur, hc⟩ := h4.typed k hk; exact ⟨cur, _, hc⟩)).setCell ⟨Q, 0, none⟩ rfl _

theorem found_kept {w w' : World} {Q base : Nat} {v : Value} {xs : List Value} (h3 : w.heap[Q]? = some (.cells #[v] 55 (0, 0))) (h4 : OwnQ w base 9 v xs) (hQ : Q < base) (hg : w.grownBy w' v.ownBlock) : w'.cell? ⟨Q, 0, none⟩ = some v ∧ w'.frozen? ⟨Q, 0, none⟩ = false :=
  row1 ((hg.block Q (Array.getElem?_eq_some_iff.1 h3).1 (fun e => by have := (h4.lt Q e.symm).1; omega)).trans h3)
theorem row_kept_q {W w3 : World} {base k : Nat} {e t : TypeId} {c : Array Value} {v : Value} {xs : List Value} (h : W.heap[k]? = some (.cells c t (0, 0))) (hq : OwnQ W base e v xs) (hg : W.grownBy w3 v.ownBlock) (hne : t ≠ e) : w3.heap[k]? = some (.cells c t (0, 0)) := by
  refine (hg.block k (Array.getElem?_eq_some_iff.1 h).1 fun e => ?_).trans h
  obtain ⟨cur, hc⟩ := hq.typed k e.symm
  rw [h] at hc
  cases hc
  exact hne rfl
theorem OwnQ.alloc {w : World} {base : Nat} {e : TypeId} {v : Value} {xs : List Value} (h : OwnQ w base e v xs) (o : Obj) : OwnQ (w.alloc o) base e v xs := h.same fun g hg => Below.heap_alloc w o g (h.lt g hg).2
theorem OwnQ.drew {w : World} {base : Nat} {e : TypeId} {v : Value} {xs : List Value} (h : OwnQ w base e v xs) : OwnQ w.drew base e v xs := h

set_option maxRecDepth 100000 in
set_option maxHeartbeats 4000000 in
theorem bare_any {t : Tm} {v : Value} {w : World} (h : TmV w t v) : ∀ (Q base : Nat) (names : List ByteArray) (w' : World), Below w.heap.size w w' → w.heap.size ≤ Q → FoundAt w' Q base names → names.length + tsize t ≤ 1000000 →
    Calls Tryz.prog 98 #[v, .pointer (some ⟨Q, 0, none⟩)] w' (BareIs w' Q base (tbare t) names (tnames t)) := by
  induction h with
  | @mk op name sort n l vars pat A V P ca cv cp f g hbd hl hf hL hv hV hp hg hP ihL _ =>
    intro Q base names w' hb hwQ hF hsz
    have hQs : Q < w'.heap.size := by have := hF.1; have := hF.2.1; omega
    cases hbo : bareOp op with
    | false =>
      have := bare_not ((TmV.mk f g hbd hl hf hL hv hV hp hg hP).mono hb) hbo hF hQs
      have e : tbare (.mk op name sort n l vars pat) = false := by simp [tbare, hbo]
      rw [e]
      exact this.mono fun e w'' ⟨h1, h2, h3, ns, h4, h5⟩ => ⟨h1, h2, h3, ns, h4, by simp⟩
    | true =>
      have Hf := Lib.hid hf
      have Hih : Hid (∀ (j : Nat) (t : Tm), l[j]? = some t → ∀ (Q base : Nat) (names : List ByteArray) (w' : World), Below w.heap.size w w' → w.heap.size ≤ Q → FoundAt w' Q base names → names.length + tsize t ≤ 1000000 → Calls Tryz.prog 98 #[f j, .pointer (some ⟨Q, 0, none⟩)] w' (BareIs w' Q base (tbare t) names (tnames t))) := Lib.hid (fun j t h => ihL j t h)
      have HL := Lib.hid hL
      have Hb := Lib.hid hb
      have Hsz : Hid (names.length + (1 + tsizes l) ≤ 1000000) := Lib.hid (by simpa only [tsize] using hsz)
      have hlen : l.length ≤ 1000000 := by
        have := length_tsizes l
        have := Hsz.out
        omega
      have Hs : Hid (tbare (.mk op name sort n l vars pat) = tbares l ∧ tnames (.mk op name sort n l vars pat) = (if op = 18 then [name] else []) ++ tnamess l) := Lib.hid ⟨by simp [tbare, hbo], by simp [tnames]⟩
      have HF := Lib.hid hF
      obtain ⟨P0, hP0⟩ : ∃ P0 : Parts, P0 = ⟨op, name, sort, n, A, l.length, ca, V, vars.length, cv, P, pat.length, cp⟩ := ⟨_, rfl⟩
      have HB1 : Hid (Below w'.heap.size w' (boxT w' P0)) := Lib.hid (below_boxT _ _)
      have HK1 : Hid (OthersKept 9 (some Q) w' (boxT w' P0)) := Lib.hid ((OthersKept.refl _ _ _).alloc _)
      have HF1 : Hid (FoundAt (boxT w' P0) Q base names) := Lib.hid (hF.below (below_boxT _ _))
      have HP0 := Lib.hid hP0
      clear hf ihL hL hP hg hV hb hbd hF hsz hP0
      simp only [bareOp, Bool.or_eq_true, beq_iff_eq] at hbo
      rcases hbo with (((((rfl | rfl) | rfl) | rfl) | rfl) | rfl) | rfl
      · obtain ⟨A0, c0, hh0, hc0', hf0', hq0, hb0, hQb⟩ := HF1.out.cell
        have HcQ : Hid (((w'.alloc (.cells #[.int .i64 18, .string name, .int .i64 sort, .string n, .slice A l.length ca, .slice V vars.length cv, .slice P pat.length cp] 29)).drew.alloc (.cells #[.string name] 9)).heap[Q]? = some (.cells #[.slice A0 names.length c0] 55 (0, 0))) := Lib.hid (by rw [HP0.out] at hh0; rw [Below.heap_alloc _ _ _ (by simp; omega)]; exact hh0)
        obtain ⟨i9, hi9, hz0, hz1, hz2⟩ := info_parts info9
        have hc0 : (w'.alloc (.cells #[.int .i64 18, .string name, .int .i64 sort, .string n, .slice A l.length ca, .slice V vars.length cv, .slice P pat.length cp] 29)).cell? ⟨Q, 0, none⟩ = some (.slice A0 names.length c0) := by rw [HP0.out] at hc0'; exact hc0'
        have hf0 : (w'.alloc (.cells #[.int .i64 18, .string name, .int .i64 sort, .string n, .slice A l.length ca, .slice V vars.length cv, .slice P pat.length cp] 29)).frozen? ⟨Q, 0, none⟩ = false := by rw [HP0.out] at hf0'; exact hf0'
        have Hq0 : Hid (OwnQ (w'.alloc (.cells #[.int .i64 18, .string name, .int .i64 sort, .string n, .slice A l.length ca, .slice V vars.length cv, .slice P pat.length cp] 29)) base 9 (.slice A0 names.length c0) (names.map .string)) := Lib.hid (by rw [HP0.out] at hq0; exact hq0)
        have Hb0 := Lib.hid hb0
        have HQb := Lib.hid hQb
        have HBp : Hid (Below w'.heap.size w' (w'.alloc (.cells #[.int .i64 18, .string name, .int .i64 sort, .string n, .slice A l.length ca, .slice V vars.length cv, .slice P pat.length cp] 29))) := Lib.hid (by have := HB1.out; rw [HP0.out] at this; exact this)
        have HKp : Hid (OthersKept 9 (some Q) w' (w'.alloc (.cells #[.int .i64 18, .string name, .int .i64 sort, .string n, .slice A l.length ca, .slice V vars.length cv, .slice P pat.length cp] 29))) := Lib.hid (by have := HK1.out; rw [HP0.out] at this; exact this)
        have HFp : Hid (FoundAt (w'.alloc (.cells #[.int .i64 18, .string name, .int .i64 sort, .string n, .slice A l.length ca, .slice V vars.length cv, .slice P pat.length cp] 29)) Q base names) := Lib.hid (by have := HF1.out; rw [HP0.out] at this; exact this)
        clear hq0 hb0 hQb hc0' hf0' hh0
        go_enter Tryz.func98, Tryz.ntmps98
        go_wp2_with fail
        go_region_law (refine step_append_q _ rfl (.tmp 14) (.tmp 17) 55 rfl base 9 i9 (.string ⟨#[]⟩) 16 Tryz.underlying55 hi9 hz0 hz1 hz2 rfl (.slice A0 names.length c0) (names.map .string) (by simp [Act.eval, Act.put]) (Hq0.out.drew.alloc _) ⟨w'.heap.size + 1, 0, none⟩ 1 (.string name) (by simp [Act.eval, Act.put]) (by simp) rfl (by simp only [List.length_map, maxLen]; have := Hsz.out; omega) (by simp only [List.length_map]; have := Hsz.out; omega) (by have := Hb0.out; rw [boxT_size] at this; simp; omega) ?_; intro g of cap w3 hq3 hg3 _; obtain ⟨hcq, hfq⟩ := found_kept (h3 := HcQ.out) (Hq0.out.drew.alloc _) HQb.out hg3; have Hq3 := Lib.hid hq3; have Hg3 := Lib.hid hg3; clear hq3 hg3)
        all_goals
          obtain ⟨F1, B1, K1⟩ := FoundAt.appended (x := name) HcQ.out (Hq0.out.drew.alloc _) HQb.out (by have := Hb0.out; rw [boxT_size] at this; simp; omega) Hq3.out Hg3.out
          simp only [List.length_map] at F1 B1 K1
          obtain ⟨own, hown⟩ : ∃ own, own = [name] := ⟨_, rfl⟩
          have HFl : Hid (FoundAt (w3.setCell ⟨Q, 0, none⟩ (.slice (some ⟨g, of, none⟩) (names.length + 1) cap)) Q base (names ++ own)) := Lib.hid (by rw [hown]; exact F1)
          have HBl : Hid (Below Q w' (w3.setCell ⟨Q, 0, none⟩ (.slice (some ⟨g, of, none⟩) (names.length + 1) cap))) := Lib.hid (((HBp.out.drew.alloc (by have := HBp.out.size; exact this) _).mono (by omega)).trans B1)
          have HKl : Hid (OthersKept 9 (some Q) w' (w3.setCell ⟨Q, 0, none⟩ (.slice (some ⟨g, of, none⟩) (names.length + 1) cap))) := Lib.hid ((HKp.out.drew.alloc _).trans K1)
          have HT0 : Hid (w3.cell? ⟨w'.heap.size, 4, none⟩ = some (.slice A l.length ca)) := Lib.hid (by rw [row_at (row_kept_q (W := (w'.alloc (.cells #[.int .i64 18, .string name, .int .i64 sort, .string n, .slice A l.length ca, .slice V vars.length cv, .slice P pat.length cp] 29)).drew.alloc (.cells #[.string name] 9)) (k := w'.heap.size) (by rw [Below.heap_alloc _ _ _ (by simp)]; exact heap_alloc_new w' _) (Hq0.out.drew.alloc _) Hg3.out (by decide))]; rfl)
          have hT0 := HT0.out
          have Hown : Hid (own = if (18 : Int) = 18 then [name] else []) := Lib.hid (by rw [hown]; rfl)
          clear F1 B1 K1 hown Hq3 Hg3
          go_wp2_with fail
          clear HBp HKp HFp Hq0
          go_loopw [30] (fun i wr => ∃ k : Nat, k ≤ l.length ∧ i = .int .i64 k ∧ Hid (tbares (l.take k) = true) ∧ Hid (Below Q w' wr) ∧ Hid (OthersKept 9 (some Q) w' wr ∧ FoundAt wr Q base (names ++ own ++ tnamess (l.take k)))) (fun i _ => l.length - (intOf i).toNat)
          case atStart => exact ⟨0, Nat.zero_le _, rfl, Lib.hid rfl, HBl, Lib.hid ⟨HKl.out, by simpa [tnamess] using HFl.out⟩⟩
          case round =>
            obtain ⟨k, hk, rfl, Htb, Hbr, HKr⟩ := hrel
            by_cases hlt : k < l.length
            · have Ht : Hid (l[k]? = some l[k]) := Lib.hid (List.getElem?_eq_getElem hlt)
              have Hv := Lib.hid (HL.out k _ Ht.out)
              obtain ⟨p, hp⟩ := Hv.out.parts
              have Hp := Lib.hid hp
              have hwr : Below w.heap.size w wr := Hb.out.trans (Hbr.out.mono hwQ)
              obtain ⟨b, o, rfl, h0, h1, h2, h3, h4, h5, h6⟩ := (Hf.out.below hwr).get hlt hp
              clear hp
              have HbW : Hid (Below w.heap.size w (boxT wr p)) := Lib.hid (hwr.trans ((below_boxT wr p).mono hwr.size))
              have Hcall : Hid (Calls Tryz.prog 98 #[.agg #[.int .i64 p.op, .string p.name, .int .i64 p.sort, .string p.n, .slice p.A p.la p.ca, .slice p.V p.lv p.cv, .slice p.P p.lp p.cp], .pointer (some ⟨Q, 0, none⟩)] (wr.alloc (.cells #[.int .i64 p.op, .string p.name, .int .i64 p.sort, .string p.n, .slice p.A p.la p.ca, .slice p.V p.lv p.cv, .slice p.P p.lp p.cp] 29)) (BareIs (boxT wr p) Q base (tbare l[k]) (names ++ own ++ tnamess (l.take k)) (tnames l[k]))) := Lib.hid (by
                have hsz : (names ++ own ++ tnamess (l.take k)).length + tsize l[k] ≤ 1000000 := by
                  have e1 := tnamess_length (l.take k)
                  have e2 := tsizes_le l (k + 1)
                  rw [tsizes_take hlt] at e2
                  have e3 := Hsz.out
                  have e4 : own.length ≤ 1 := by rw [Hown.out]; split <;> simp
                  simp only [List.length_append]
                  omega
                have := Hih.out k _ Ht.out Q base (names ++ own ++ tnamess (l.take k)) (boxT wr p) HbW.out hwQ (HKr.out.2.below (below_boxT wr p)) hsz
                rw [Hp.out] at this
                exact this)
              have Hst : Hid (tbares (l.take (k + 1)) = tbare l[k] ∧ tnamess (l.take (k + 1)) = tnamess (l.take k) ++ tnames l[k] ∧ (tbare l[k] = false → tbares l = false)) := Lib.hid ⟨by rw [tbares_take hlt, Htb.out]; rfl, tnamess_take hlt, tbares_false hlt⟩
              have HKb : Hid (OthersKept 9 (some Q) w' (boxT wr p)) := Lib.hid (HKr.out.1.alloc _)
              have HBb : Hid (Below Q w' (boxT wr p)) := Lib.hid (Hbr.out.trans ((below_boxT wr p).mono (by have := Hbr.out.size; omega)))
              clear hwr
              generalize l[k] = t at *
              cases hbt : tbare t with
              | true =>
                rw [hbt] at Hcall
                have Hbt := Lib.hid hbt
                clear hbt
                go_wp2_with (go_at_call 98; refine Calls.mono Hcall.out ?_; rintro e w5 ⟨rfl, hb5, hk5, ns, hf5, hn5⟩; have HX : Hid (Below Q (boxT wr p) w5 ∧ OthersKept 9 (some Q) (boxT wr p) w5 ∧ FoundAt w5 Q base ns ∧ ns = names ++ own ++ tnamess (l.take k) ++ tnames t) := Lib.hid ⟨hb5, hk5, hf5, hn5 rfl⟩; clear hb5 hk5 hf5 hn5)
                go_roundw
                case rel => exact ⟨k + 1, by omega, by go_num, Lib.hid (by rw [Hst.out.1, Hbt.out]), Lib.hid (HBb.out.trans HX.out.1), Lib.hid ⟨HKb.out.trans HX.out.2.1, by rw [Hst.out.2.1, ← List.append_assoc, ← HX.out.2.2.2]; exact HX.out.2.2.1⟩⟩
                case measure => simp [intOf]; omega
              | false =>
                rw [hbt] at Hcall
                have Hbt := Lib.hid hbt
                clear hbt
                go_wp2_with (go_at_call 98; refine Calls.mono Hcall.out ?_; rintro e w5 ⟨rfl, hb5, hk5, ns, hf5, hn5⟩; have HX : Hid (Below Q (boxT wr p) w5 ∧ OthersKept 9 (some Q) (boxT wr p) w5 ∧ FoundAt w5 Q base ns) := Lib.hid ⟨hb5, hk5, hf5⟩; clear hb5 hk5 hf5 hn5)
                go_ret
                have e : tbare (.mk 18 name sort n l vars pat) = false := by rw [Hs.out.1, Hst.out.2.2 Hbt.out]
                exact ⟨by rw [e]; rfl, HBb.out.trans HX.out.1, HKb.out.trans HX.out.2.1, ns, HX.out.2.2, by rw [e]; simp⟩
            · have Hfull : Hid (tbares l = true ∧ tnamess (l.take k) = tnamess l) := Lib.hid (by
                have := Htb.out
                rw [List.take_of_length_le (by omega)] at this ⊢
                exact ⟨this, rfl⟩)
              go_wp2_with fail
              go_ret
              have e : tbare (.mk 18 name sort n l vars pat) = true := by rw [Hs.out.1, Hfull.out.1]
              exact ⟨by rw [e]; rfl, Hbr.out, HKr.out.1, _, HKr.out.2, fun _ => by rw [Hs.out.2, Hfull.out.2, ← Hown.out, List.append_assoc]⟩
      · obtain ⟨A0, c0, hh0, hc0', hf0', hq0, hb0, hQb⟩ := HF1.out.cell
        have hc0 : (w'.alloc (.cells #[.int .i64 1, .string name, .int .i64 sort, .string n, .slice A l.length ca, .slice V vars.length cv, .slice P pat.length cp] 29)).cell? ⟨Q, 0, none⟩ = some (.slice A0 names.length c0) := by rw [HP0.out] at hc0'; exact hc0'
        have hf0 : (w'.alloc (.cells #[.int .i64 1, .string name, .int .i64 sort, .string n, .slice A l.length ca, .slice V vars.length cv, .slice P pat.length cp] 29)).frozen? ⟨Q, 0, none⟩ = false := by rw [HP0.out] at hf0'; exact hf0'
        have Hq0 : Hid (OwnQ (w'.alloc (.cells #[.int .i64 1, .string name, .int .i64 sort, .string n, .slice A l.length ca, .slice V vars.length cv, .slice P pat.length cp] 29)) base 9 (.slice A0 names.length c0) (names.map .string)) := Lib.hid (by rw [HP0.out] at hq0; exact hq0)
        have Hb0 := Lib.hid hb0
        have HQb := Lib.hid hQb
        have HBp : Hid (Below w'.heap.size w' (w'.alloc (.cells #[.int .i64 1, .string name, .int .i64 sort, .string n, .slice A l.length ca, .slice V vars.length cv, .slice P pat.length cp] 29))) := Lib.hid (by have := HB1.out; rw [HP0.out] at this; exact this)
        have HKp : Hid (OthersKept 9 (some Q) w' (w'.alloc (.cells #[.int .i64 1, .string name, .int .i64 sort, .string n, .slice A l.length ca, .slice V vars.length cv, .slice P pat.length cp] 29))) := Lib.hid (by have := HK1.out; rw [HP0.out] at this; exact this)
        have HFp : Hid (FoundAt (w'.alloc (.cells #[.int .i64 1, .string name, .int .i64 sort, .string n, .slice A l.length ca, .slice V vars.length cv, .slice P pat.length cp] 29)) Q base names) := Lib.hid (by have := HF1.out; rw [HP0.out] at this; exact this)
        clear hq0 hb0 hQb hc0' hf0' hh0
        go_enter Tryz.func98, Tryz.ntmps98
        go_wp2_with fail
        all_goals
          obtain ⟨own, hown⟩ : ∃ own : List ByteArray, own = [] := ⟨_, rfl⟩
          have HFl : Hid (FoundAt (w'.alloc (.cells #[.int .i64 1, .string name, .int .i64 sort, .string n, .slice A l.length ca, .slice V vars.length cv, .slice P pat.length cp] 29)) Q base (names ++ own)) := Lib.hid (by rw [hown, List.append_nil]; exact HFp.out)
          have HBl : Hid (Below Q w' (w'.alloc (.cells #[.int .i64 1, .string name, .int .i64 sort, .string n, .slice A l.length ca, .slice V vars.length cv, .slice P pat.length cp] 29))) := Lib.hid (HBp.out.mono (by omega))
          have HKl : Hid (OthersKept 9 (some Q) w' (w'.alloc (.cells #[.int .i64 1, .string name, .int .i64 sort, .string n, .slice A l.length ca, .slice V vars.length cv, .slice P pat.length cp] 29))) := HKp
          have Hown : Hid (own = if (1 : Int) = 18 then [name] else []) := Lib.hid (by rw [hown]; rfl)
          clear hown
          clear HBp HKp HFp Hq0
          go_loopw [30] (fun i wr => ∃ k : Nat, k ≤ l.length ∧ i = .int .i64 k ∧ Hid (tbares (l.take k) = true) ∧ Hid (Below Q w' wr) ∧ Hid (OthersKept 9 (some Q) w' wr ∧ FoundAt wr Q base (names ++ own ++ tnamess (l.take k)))) (fun i _ => l.length - (intOf i).toNat)
          case atStart => exact ⟨0, Nat.zero_le _, rfl, Lib.hid rfl, HBl, Lib.hid ⟨HKl.out, by simpa [tnamess] using HFl.out⟩⟩
          case round =>
            obtain ⟨k, hk, rfl, Htb, Hbr, HKr⟩ := hrel
            by_cases hlt : k < l.length
            · have Ht : Hid (l[k]? = some l[k]) := Lib.hid (List.getElem?_eq_getElem hlt)
              have Hv := Lib.hid (HL.out k _ Ht.out)
              obtain ⟨p, hp⟩ := Hv.out.parts
              have Hp := Lib.hid hp
              have hwr : Below w.heap.size w wr := Hb.out.trans (Hbr.out.mono hwQ)
              obtain ⟨b, o, rfl, h0, h1, h2, h3, h4, h5, h6⟩ := (Hf.out.below hwr).get hlt hp
              clear hp
              have HbW : Hid (Below w.heap.size w (boxT wr p)) := Lib.hid (hwr.trans ((below_boxT wr p).mono hwr.size))
              have Hcall : Hid (Calls Tryz.prog 98 #[.agg #[.int .i64 p.op, .string p.name, .int .i64 p.sort, .string p.n, .slice p.A p.la p.ca, .slice p.V p.lv p.cv, .slice p.P p.lp p.cp], .pointer (some ⟨Q, 0, none⟩)] (wr.alloc (.cells #[.int .i64 p.op, .string p.name, .int .i64 p.sort, .string p.n, .slice p.A p.la p.ca, .slice p.V p.lv p.cv, .slice p.P p.lp p.cp] 29)) (BareIs (boxT wr p) Q base (tbare l[k]) (names ++ own ++ tnamess (l.take k)) (tnames l[k]))) := Lib.hid (by
                have hsz : (names ++ own ++ tnamess (l.take k)).length + tsize l[k] ≤ 1000000 := by
                  have e1 := tnamess_length (l.take k)
                  have e2 := tsizes_le l (k + 1)
                  rw [tsizes_take hlt] at e2
                  have e3 := Hsz.out
                  have e4 : own.length ≤ 1 := by rw [Hown.out]; split <;> simp
                  simp only [List.length_append]
                  omega
                have := Hih.out k _ Ht.out Q base (names ++ own ++ tnamess (l.take k)) (boxT wr p) HbW.out hwQ (HKr.out.2.below (below_boxT wr p)) hsz
                rw [Hp.out] at this
                exact this)
              have Hst : Hid (tbares (l.take (k + 1)) = tbare l[k] ∧ tnamess (l.take (k + 1)) = tnamess (l.take k) ++ tnames l[k] ∧ (tbare l[k] = false → tbares l = false)) := Lib.hid ⟨by rw [tbares_take hlt, Htb.out]; rfl, tnamess_take hlt, tbares_false hlt⟩
              have HKb : Hid (OthersKept 9 (some Q) w' (boxT wr p)) := Lib.hid (HKr.out.1.alloc _)
              have HBb : Hid (Below Q w' (boxT wr p)) := Lib.hid (Hbr.out.trans ((below_boxT wr p).mono (by have := Hbr.out.size; omega)))
              clear hwr
              generalize l[k] = t at *
              cases hbt : tbare t with
              | true =>
                rw [hbt] at Hcall
                have Hbt := Lib.hid hbt
                clear hbt
                go_wp2_with (go_at_call 98; refine Calls.mono Hcall.out ?_; rintro e w5 ⟨rfl, hb5, hk5, ns, hf5, hn5⟩; have HX : Hid (Below Q (boxT wr p) w5 ∧ OthersKept 9 (some Q) (boxT wr p) w5 ∧ FoundAt w5 Q base ns ∧ ns = names ++ own ++ tnamess (l.take k) ++ tnames t) := Lib.hid ⟨hb5, hk5, hf5, hn5 rfl⟩; clear hb5 hk5 hf5 hn5)
                go_roundw
                case rel => exact ⟨k + 1, by omega, by go_num, Lib.hid (by rw [Hst.out.1, Hbt.out]), Lib.hid (HBb.out.trans HX.out.1), Lib.hid ⟨HKb.out.trans HX.out.2.1, by rw [Hst.out.2.1, ← List.append_assoc, ← HX.out.2.2.2]; exact HX.out.2.2.1⟩⟩
                case measure => simp [intOf]; omega
              | false =>
                rw [hbt] at Hcall
                have Hbt := Lib.hid hbt
                clear hbt
                go_wp2_with (go_at_call 98; refine Calls.mono Hcall.out ?_; rintro e w5 ⟨rfl, hb5, hk5, ns, hf5, hn5⟩; have HX : Hid (Below Q (boxT wr p) w5 ∧ OthersKept 9 (some Q) (boxT wr p) w5 ∧ FoundAt w5 Q base ns) := Lib.hid ⟨hb5, hk5, hf5⟩; clear hb5 hk5 hf5 hn5)
                go_ret
                have e : tbare (.mk 1 name sort n l vars pat) = false := by rw [Hs.out.1, Hst.out.2.2 Hbt.out]
                exact ⟨by rw [e]; rfl, HBb.out.trans HX.out.1, HKb.out.trans HX.out.2.1, ns, HX.out.2.2, by rw [e]; simp⟩
            · have Hfull : Hid (tbares l = true ∧ tnamess (l.take k) = tnamess l) := Lib.hid (by
                have := Htb.out
                rw [List.take_of_length_le (by omega)] at this ⊢
                exact ⟨this, rfl⟩)
              go_wp2_with fail
              go_ret
              have e : tbare (.mk 1 name sort n l vars pat) = true := by rw [Hs.out.1, Hfull.out.1]
              exact ⟨by rw [e]; rfl, Hbr.out, HKr.out.1, _, HKr.out.2, fun _ => by rw [Hs.out.2, Hfull.out.2, ← Hown.out, List.append_assoc]⟩
      · obtain ⟨A0, c0, hh0, hc0', hf0', hq0, hb0, hQb⟩ := HF1.out.cell
        have hc0 : (w'.alloc (.cells #[.int .i64 17, .string name, .int .i64 sort, .string n, .slice A l.length ca, .slice V vars.length cv, .slice P pat.length cp] 29)).cell? ⟨Q, 0, none⟩ = some (.slice A0 names.length c0) := by rw [HP0.out] at hc0'; exact hc0'
        have hf0 : (w'.alloc (.cells #[.int .i64 17, .string name, .int .i64 sort, .string n, .slice A l.length ca, .slice V vars.length cv, .slice P pat.length cp] 29)).frozen? ⟨Q, 0, none⟩ = false := by rw [HP0.out] at hf0'; exact hf0'
        have Hq0 : Hid (OwnQ (w'.alloc (.cells #[.int .i64 17, .string name, .int .i64 sort, .string n, .slice A l.length ca, .slice V vars.length cv, .slice P pat.length cp] 29)) base 9 (.slice A0 names.length c0) (names.map .string)) := Lib.hid (by rw [HP0.out] at hq0; exact hq0)
        have Hb0 := Lib.hid hb0
        have HQb := Lib.hid hQb
        have HBp : Hid (Below w'.heap.size w' (w'.alloc (.cells #[.int .i64 17, .string name, .int .i64 sort, .string n, .slice A l.length ca, .slice V vars.length cv, .slice P pat.length cp] 29))) := Lib.hid (by have := HB1.out; rw [HP0.out] at this; exact this)
        have HKp : Hid (OthersKept 9 (some Q) w' (w'.alloc (.cells #[.int .i64 17, .string name, .int .i64 sort, .string n, .slice A l.length ca, .slice V vars.length cv, .slice P pat.length cp] 29))) := Lib.hid (by have := HK1.out; rw [HP0.out] at this; exact this)
        have HFp : Hid (FoundAt (w'.alloc (.cells #[.int .i64 17, .string name, .int .i64 sort, .string n, .slice A l.length ca, .slice V vars.length cv, .slice P pat.length cp] 29)) Q base names) := Lib.hid (by have := HF1.out; rw [HP0.out] at this; exact this)
        clear hq0 hb0 hQb hc0' hf0' hh0
        go_enter Tryz.func98, Tryz.ntmps98
        go_wp2_with fail
        all_goals
          obtain ⟨own, hown⟩ : ∃ own : List ByteArray, own = [] := ⟨_, rfl⟩
          have HFl : Hid (FoundAt (w'.alloc (.cells #[.int .i64 17, .string name, .int .i64 sort, .string n, .slice A l.length ca, .slice V vars.length cv, .slice P pat.length cp] 29)) Q base (names ++ own)) := Lib.hid (by rw [hown, List.append_nil]; exact HFp.out)
          have HBl : Hid (Below Q w' (w'.alloc (.cells #[.int .i64 17, .string name, .int .i64 sort, .string n, .slice A l.length ca, .slice V vars.length cv, .slice P pat.length cp] 29))) := Lib.hid (HBp.out.mono (by omega))
          have HKl : Hid (OthersKept 9 (some Q) w' (w'.alloc (.cells #[.int .i64 17, .string name, .int .i64 sort, .string n, .slice A l.length ca, .slice V vars.length cv, .slice P pat.length cp] 29))) := HKp
          have Hown : Hid (own = if (17 : Int) = 18 then [name] else []) := Lib.hid (by rw [hown]; rfl)
          clear hown
          clear HBp HKp HFp Hq0
          go_loopw [30] (fun i wr => ∃ k : Nat, k ≤ l.length ∧ i = .int .i64 k ∧ Hid (tbares (l.take k) = true) ∧ Hid (Below Q w' wr) ∧ Hid (OthersKept 9 (some Q) w' wr ∧ FoundAt wr Q base (names ++ own ++ tnamess (l.take k)))) (fun i _ => l.length - (intOf i).toNat)
          case atStart => exact ⟨0, Nat.zero_le _, rfl, Lib.hid rfl, HBl, Lib.hid ⟨HKl.out, by simpa [tnamess] using HFl.out⟩⟩
          case round =>
            obtain ⟨k, hk, rfl, Htb, Hbr, HKr⟩ := hrel
            by_cases hlt : k < l.length
            · have Ht : Hid (l[k]? = some l[k]) := Lib.hid (List.getElem?_eq_getElem hlt)
              have Hv := Lib.hid (HL.out k _ Ht.out)
              obtain ⟨p, hp⟩ := Hv.out.parts
              have Hp := Lib.hid hp
              have hwr : Below w.heap.size w wr := Hb.out.trans (Hbr.out.mono hwQ)
              obtain ⟨b, o, rfl, h0, h1, h2, h3, h4, h5, h6⟩ := (Hf.out.below hwr).get hlt hp
              clear hp
              have HbW : Hid (Below w.heap.size w (boxT wr p)) := Lib.hid (hwr.trans ((below_boxT wr p).mono hwr.size))
              have Hcall : Hid (Calls Tryz.prog 98 #[.agg #[.int .i64 p.op, .string p.name, .int .i64 p.sort, .string p.n, .slice p.A p.la p.ca, .slice p.V p.lv p.cv, .slice p.P p.lp p.cp], .pointer (some ⟨Q, 0, none⟩)] (wr.alloc (.cells #[.int .i64 p.op, .string p.name, .int .i64 p.sort, .string p.n, .slice p.A p.la p.ca, .slice p.V p.lv p.cv, .slice p.P p.lp p.cp] 29)) (BareIs (boxT wr p) Q base (tbare l[k]) (names ++ own ++ tnamess (l.take k)) (tnames l[k]))) := Lib.hid (by
                have hsz : (names ++ own ++ tnamess (l.take k)).length + tsize l[k] ≤ 1000000 := by
                  have e1 := tnamess_length (l.take k)
                  have e2 := tsizes_le l (k + 1)
                  rw [tsizes_take hlt] at e2
                  have e3 := Hsz.out
                  have e4 : own.length ≤ 1 := by rw [Hown.out]; split <;> simp
                  simp only [List.length_append]
                  omega
                have := Hih.out k _ Ht.out Q base (names ++ own ++ tnamess (l.take k)) (boxT wr p) HbW.out hwQ (HKr.out.2.below (below_boxT wr p)) hsz
                rw [Hp.out] at this
                exact this)
              have Hst : Hid (tbares (l.take (k + 1)) = tbare l[k] ∧ tnamess (l.take (k + 1)) = tnamess (l.take k) ++ tnames l[k] ∧ (tbare l[k] = false → tbares l = false)) := Lib.hid ⟨by rw [tbares_take hlt, Htb.out]; rfl, tnamess_take hlt, tbares_false hlt⟩
              have HKb : Hid (OthersKept 9 (some Q) w' (boxT wr p)) := Lib.hid (HKr.out.1.alloc _)
              have HBb : Hid (Below Q w' (boxT wr p)) := Lib.hid (Hbr.out.trans ((below_boxT wr p).mono (by have := Hbr.out.size; omega)))
              clear hwr
              generalize l[k] = t at *
              cases hbt : tbare t with
              | true =>
                rw [hbt] at Hcall
                have Hbt := Lib.hid hbt
                clear hbt
                go_wp2_with (go_at_call 98; refine Calls.mono Hcall.out ?_; rintro e w5 ⟨rfl, hb5, hk5, ns, hf5, hn5⟩; have HX : Hid (Below Q (boxT wr p) w5 ∧ OthersKept 9 (some Q) (boxT wr p) w5 ∧ FoundAt w5 Q base ns ∧ ns = names ++ own ++ tnamess (l.take k) ++ tnames t) := Lib.hid ⟨hb5, hk5, hf5, hn5 rfl⟩; clear hb5 hk5 hf5 hn5)
                go_roundw
                case rel => exact ⟨k + 1, by omega, by go_num, Lib.hid (by rw [Hst.out.1, Hbt.out]), Lib.hid (HBb.out.trans HX.out.1), Lib.hid ⟨HKb.out.trans HX.out.2.1, by rw [Hst.out.2.1, ← List.append_assoc, ← HX.out.2.2.2]; exact HX.out.2.2.1⟩⟩
                case measure => simp [intOf]; omega
              | false =>
                rw [hbt] at Hcall
                have Hbt := Lib.hid hbt
                clear hbt
                go_wp2_with (go_at_call 98; refine Calls.mono Hcall.out ?_; rintro e w5 ⟨rfl, hb5, hk5, ns, hf5, hn5⟩; have HX : Hid (Below Q (boxT wr p) w5 ∧ OthersKept 9 (some Q) (boxT wr p) w5 ∧ FoundAt w5 Q base ns) := Lib.hid ⟨hb5, hk5, hf5⟩; clear hb5 hk5 hf5 hn5)
                go_ret
                have e : tbare (.mk 17 name sort n l vars pat) = false := by rw [Hs.out.1, Hst.out.2.2 Hbt.out]
                exact ⟨by rw [e]; rfl, HBb.out.trans HX.out.1, HKb.out.trans HX.out.2.1, ns, HX.out.2.2, by rw [e]; simp⟩
            · have Hfull : Hid (tbares l = true ∧ tnamess (l.take k) = tnamess l) := Lib.hid (by
                have := Htb.out
                rw [List.take_of_length_le (by omega)] at this ⊢
                exact ⟨this, rfl⟩)
              go_wp2_with fail
              go_ret
              have e : tbare (.mk 17 name sort n l vars pat) = true := by rw [Hs.out.1, Hfull.out.1]
              exact ⟨by rw [e]; rfl, Hbr.out, HKr.out.1, _, HKr.out.2, fun _ => by rw [Hs.out.2, Hfull.out.2, ← Hown.out, List.append_assoc]⟩
      · obtain ⟨A0, c0, hh0, hc0', hf0', hq0, hb0, hQb⟩ := HF1.out.cell
        have hc0 : (w'.alloc (.cells #[.int .i64 12, .string name, .int .i64 sort, .string n, .slice A l.length ca, .slice V vars.length cv, .slice P pat.length cp] 29)).cell? ⟨Q, 0, none⟩ = some (.slice A0 names.length c0) := by rw [HP0.out] at hc0'; exact hc0'
        have hf0 : (w'.alloc (.cells #[.int .i64 12, .string name, .int .i64 sort, .string n, .slice A l.length ca, .slice V vars.length cv, .slice P pat.length cp] 29)).frozen? ⟨Q, 0, none⟩ = false := by rw [HP0.out] at hf0'; exact hf0'
        have Hq0 : Hid (OwnQ (w'.alloc (.cells #[.int .i64 12, .string name, .int .i64 sort, .string n, .slice A l.length ca, .slice V vars.length cv, .slice P pat.length cp] 29)) base 9 (.slice A0 names.length c0) (names.map .string)) := Lib.hid (by rw [HP0.out] at hq0; exact hq0)
        have Hb0 := Lib.hid hb0
        have HQb := Lib.hid hQb
        have HBp : Hid (Below w'.heap.size w' (w'.alloc (.cells #[.int .i64 12, .string name, .int .i64 sort, .string n, .slice A l.length ca, .slice V vars.length cv, .slice P pat.length cp] 29))) := Lib.hid (by have := HB1.out; rw [HP0.out] at this; exact this)
        have HKp : Hid (OthersKept 9 (some Q) w' (w'.alloc (.cells #[.int .i64 12, .string name, .int .i64 sort, .string n, .slice A l.length ca, .slice V vars.length cv, .slice P pat.length cp] 29))) := Lib.hid (by have := HK1.out; rw [HP0.out] at this; exact this)
        have HFp : Hid (FoundAt (w'.alloc (.cells #[.int .i64 12, .string name, .int .i64 sort, .string n, .slice A l.length ca, .slice V vars.length cv, .slice P pat.length cp] 29)) Q base names) := Lib.hid (by have := HF1.out; rw [HP0.out] at this; exact this)
        clear hq0 hb0 hQb hc0' hf0' hh0
        go_enter Tryz.func98, Tryz.ntmps98
        go_wp2_with fail
        all_goals
          obtain ⟨own, hown⟩ : ∃ own : List ByteArray, own = [] := ⟨_, rfl⟩
          have HFl : Hid (FoundAt (w'.alloc (.cells #[.int .i64 12, .string name, .int .i64 sort, .string n, .slice A l.length ca, .slice V vars.length cv, .slice P pat.length cp] 29)) Q base (names ++ own)) := Lib.hid (by rw [hown, List.append_nil]; exact HFp.out)
          have HBl : Hid (Below Q w' (w'.alloc (.cells #[.int .i64 12, .string name, .int .i64 sort, .string n, .slice A l.length ca, .slice V vars.length cv, .slice P pat.length cp] 29))) := Lib.hid (HBp.out.mono (by omega))
          have HKl : Hid (OthersKept 9 (some Q) w' (w'.alloc (.cells #[.int .i64 12, .string name, .int .i64 sort, .string n, .slice A l.length ca, .slice V vars.length cv, .slice P pat.length cp] 29))) := HKp
          have Hown : Hid (own = if (12 : Int) = 18 then [name] else []) := Lib.hid (by rw [hown]; rfl)
          clear hown
          clear HBp HKp HFp Hq0
          go_loopw [30] (fun i wr => ∃ k : Nat, k ≤ l.length ∧ i = .int .i64 k ∧ Hid (tbares (l.take k) = true) ∧ Hid (Below Q w' wr) ∧ Hid (OthersKept 9 (some Q) w' wr ∧ FoundAt wr Q base (names ++ own ++ tnamess (l.take k)))) (fun i _ => l.length - (intOf i).toNat)
          case atStart => exact ⟨0, Nat.zero_le _, rfl, Lib.hid rfl, HBl, Lib.hid ⟨HKl.out, by simpa [tnamess] using HFl.out⟩⟩
          case round =>
            obtain ⟨k, hk, rfl, Htb, Hbr, HKr⟩ := hrel
            by_cases hlt : k < l.length
            · have Ht : Hid (l[k]? = some l[k]) := Lib.hid (List.getElem?_eq_getElem hlt)
              have Hv := Lib.hid (HL.out k _ Ht.out)
              obtain ⟨p, hp⟩ := Hv.out.parts
              have Hp := Lib.hid hp
              have hwr : Below w.heap.size w wr := Hb.out.trans (Hbr.out.mono hwQ)
              obtain ⟨b, o, rfl, h0, h1, h2, h3, h4, h5, h6⟩ := (Hf.out.below hwr).get hlt hp
              clear hp
              have HbW : Hid (Below w.heap.size w (boxT wr p)) := Lib.hid (hwr.trans ((below_boxT wr p).mono hwr.size))
              have Hcall : Hid (Calls Tryz.prog 98 #[.agg #[.int .i64 p.op, .string p.name, .int .i64 p.sort, .string p.n, .slice p.A p.la p.ca, .slice p.V p.lv p.cv, .slice p.P p.lp p.cp], .pointer (some ⟨Q, 0, none⟩)] (wr.alloc (.cells #[.int .i64 p.op, .string p.name, .int .i64 p.sort, .string p.n, .slice p.A p.la p.ca, .slice p.V p.lv p.cv, .slice p.P p.lp p.cp] 29)) (BareIs (boxT wr p) Q base (tbare l[k]) (names ++ own ++ tnamess (l.take k)) (tnames l[k]))) := Lib.hid (by
                have hsz : (names ++ own ++ tnamess (l.take k)).length + tsize l[k] ≤ 1000000 := by
                  have e1 := tnamess_length (l.take k)
                  have e2 := tsizes_le l (k + 1)
                  rw [tsizes_take hlt] at e2
                  have e3 := Hsz.out
                  have e4 : own.length ≤ 1 := by rw [Hown.out]; split <;> simp
                  simp only [List.length_append]
                  omega
                have := Hih.out k _ Ht.out Q base (names ++ own ++ tnamess (l.take k)) (boxT wr p) HbW.out hwQ (HKr.out.2.below (below_boxT wr p)) hsz
                rw [Hp.out] at this
                exact this)
              have Hst : Hid (tbares (l.take (k + 1)) = tbare l[k] ∧ tnamess (l.take (k + 1)) = tnamess (l.take k) ++ tnames l[k] ∧ (tbare l[k] = false → tbares l = false)) := Lib.hid ⟨by rw [tbares_take hlt, Htb.out]; rfl, tnamess_take hlt, tbares_false hlt⟩
              have HKb : Hid (OthersKept 9 (some Q) w' (boxT wr p)) := Lib.hid (HKr.out.1.alloc _)
              have HBb : Hid (Below Q w' (boxT wr p)) := Lib.hid (Hbr.out.trans ((below_boxT wr p).mono (by have := Hbr.out.size; omega)))
              clear hwr
              generalize l[k] = t at *
              cases hbt : tbare t with
              | true =>
                rw [hbt] at Hcall
                have Hbt := Lib.hid hbt
                clear hbt
                go_wp2_with (go_at_call 98; refine Calls.mono Hcall.out ?_; rintro e w5 ⟨rfl, hb5, hk5, ns, hf5, hn5⟩; have HX : Hid (Below Q (boxT wr p) w5 ∧ OthersKept 9 (some Q) (boxT wr p) w5 ∧ FoundAt w5 Q base ns ∧ ns = names ++ own ++ tnamess (l.take k) ++ tnames t) := Lib.hid ⟨hb5, hk5, hf5, hn5 rfl⟩; clear hb5 hk5 hf5 hn5)
                go_roundw
                case rel => exact ⟨k + 1, by omega, by go_num, Lib.hid (by rw [Hst.out.1, Hbt.out]), Lib.hid (HBb.out.trans HX.out.1), Lib.hid ⟨HKb.out.trans HX.out.2.1, by rw [Hst.out.2.1, ← List.append_assoc, ← HX.out.2.2.2]; exact HX.out.2.2.1⟩⟩
                case measure => simp [intOf]; omega
              | false =>
                rw [hbt] at Hcall
                have Hbt := Lib.hid hbt
                clear hbt
                go_wp2_with (go_at_call 98; refine Calls.mono Hcall.out ?_; rintro e w5 ⟨rfl, hb5, hk5, ns, hf5, hn5⟩; have HX : Hid (Below Q (boxT wr p) w5 ∧ OthersKept 9 (some Q) (boxT wr p) w5 ∧ FoundAt w5 Q base ns) := Lib.hid ⟨hb5, hk5, hf5⟩; clear hb5 hk5 hf5 hn5)
                go_ret
                have e : tbare (.mk 12 name sort n l vars pat) = false := by rw [Hs.out.1, Hst.out.2.2 Hbt.out]
                exact ⟨by rw [e]; rfl, HBb.out.trans HX.out.1, HKb.out.trans HX.out.2.1, ns, HX.out.2.2, by rw [e]; simp⟩
            · have Hfull : Hid (tbares l = true ∧ tnamess (l.take k) = tnamess l) := Lib.hid (by
                have := Htb.out
                rw [List.take_of_length_le (by omega)] at this ⊢
                exact ⟨this, rfl⟩)
              go_wp2_with fail
              go_ret
              have e : tbare (.mk 12 name sort n l vars pat) = true := by rw [Hs.out.1, Hfull.out.1]
              exact ⟨by rw [e]; rfl, Hbr.out, HKr.out.1, _, HKr.out.2, fun _ => by rw [Hs.out.2, Hfull.out.2, ← Hown.out, List.append_assoc]⟩
      · obtain ⟨A0, c0, hh0, hc0', hf0', hq0, hb0, hQb⟩ := HF1.out.cell
        have hc0 : (w'.alloc (.cells #[.int .i64 13, .string name, .int .i64 sort, .string n, .slice A l.length ca, .slice V vars.length cv, .slice P pat.length cp] 29)).cell? ⟨Q, 0, none⟩ = some (.slice A0 names.length c0) := by rw [HP0.out] at hc0'; exact hc0'
        have hf0 : (w'.alloc (.cells #[.int .i64 13, .string name, .int .i64 sort, .string n, .slice A l.length ca, .slice V vars.length cv, .slice P pat.length cp] 29)).frozen? ⟨Q, 0, none⟩ = false := by rw [HP0.out] at hf0'; exact hf0'
        have Hq0 : Hid (OwnQ (w'.alloc (.cells #[.int .i64 13, .string name, .int .i64 sort, .string n, .slice A l.length ca, .slice V vars.length cv, .slice P pat.length cp] 29)) base 9 (.slice A0 names.length c0) (names.map .string)) := Lib.hid (by rw [HP0.out] at hq0; exact hq0)
        have Hb0 := Lib.hid hb0
        have HQb := Lib.hid hQb
        have HBp : Hid (Below w'.heap.size w' (w'.alloc (.cells #[.int .i64 13, .string name, .int .i64 sort, .string n, .slice A l.length ca, .slice V vars.length cv, .slice P pat.length cp] 29))) := Lib.hid (by have := HB1.out; rw [HP0.out] at this; exact this)
        have HKp : Hid (OthersKept 9 (some Q) w' (w'.alloc (.cells #[.int .i64 13, .string name, .int .i64 sort, .string n, .slice A l.length ca, .slice V vars.length cv, .slice P pat.length cp] 29))) := Lib.hid (by have := HK1.out; rw [HP0.out] at this; exact this)
        have HFp : Hid (FoundAt (w'.alloc (.cells #[.int .i64 13, .string name, .int .i64 sort, .string n, .slice A l.length ca, .slice V vars.length cv, .slice P pat.length cp] 29)) Q base names) := Lib.hid (by have := HF1.out; rw [HP0.out] at this; exact this)
        clear hq0 hb0 hQb hc0' hf0' hh0
        go_enter Tryz.func98, Tryz.ntmps98
        go_wp2_with fail
        all_goals
          obtain ⟨own, hown⟩ : ∃ own : List ByteArray, own = [] := ⟨_, rfl⟩
          have HFl : Hid (FoundAt (w'.alloc (.cells #[.int .i64 13, .string name, .int .i64 sort, .string n, .slice A l.length ca, .slice V vars.length cv, .slice P pat.length cp] 29)) Q base (names ++ own)) := Lib.hid (by rw [hown, List.append_nil]; exact HFp.out)
          have HBl : Hid (Below Q w' (w'.alloc (.cells #[.int .i64 13, .string name, .int .i64 sort, .string n, .slice A l.length ca, .slice V vars.length cv, .slice P pat.length cp] 29))) := Lib.hid (HBp.out.mono (by omega))
          have HKl : Hid (OthersKept 9 (some Q) w' (w'.alloc (.cells #[.int .i64 13, .string name, .int .i64 sort, .string n, .slice A l.length ca, .slice V vars.length cv, .slice P pat.length cp] 29))) := HKp
          have Hown : Hid (own = if (13 : Int) = 18 then [name] else []) := Lib.hid (by rw [hown]; rfl)
          clear hown
          clear HBp HKp HFp Hq0
          go_loopw [30] (fun i wr => ∃ k : Nat, k ≤ l.length ∧ i = .int .i64 k ∧ Hid (tbares (l.take k) = true) ∧ Hid (Below Q w' wr) ∧ Hid (OthersKept 9 (some Q) w' wr ∧ FoundAt wr Q base (names ++ own ++ tnamess (l.take k)))) (fun i _ => l.length - (intOf i).toNat)
          case atStart => exact ⟨0, Nat.zero_le _, rfl, Lib.hid rfl, HBl, Lib.hid ⟨HKl.out, by simpa [tnamess] using HFl.out⟩⟩
          case round =>
            obtain ⟨k, hk, rfl, Htb, Hbr, HKr⟩ := hrel
            by_cases hlt : k < l.length
            · have Ht : Hid (l[k]? = some l[k]) := Lib.hid (List.getElem?_eq_getElem hlt)
              have Hv := Lib.hid (HL.out k _ Ht.out)
              obtain ⟨p, hp⟩ := Hv.out.parts
              have Hp := Lib.hid hp
              have hwr : Below w.heap.size w wr := Hb.out.trans (Hbr.out.mono hwQ)
              obtain ⟨b, o, rfl, h0, h1, h2, h3, h4, h5, h6⟩ := (Hf.out.below hwr).get hlt hp
              clear hp
              have HbW : Hid (Below w.heap.size w (boxT wr p)) := Lib.hid (hwr.trans ((below_boxT wr p).mono hwr.size))
              have Hcall : Hid (Calls Tryz.prog 98 #[.agg #[.int .i64 p.op, .string p.name, .int .i64 p.sort, .string p.n, .slice p.A p.la p.ca, .slice p.V p.lv p.cv, .slice p.P p.lp p.cp], .pointer (some ⟨Q, 0, none⟩)] (wr.alloc (.cells #[.int .i64 p.op, .string p.name, .int .i64 p.sort, .string p.n, .slice p.A p.la p.ca, .slice p.V p.lv p.cv, .slice p.P p.lp p.cp] 29)) (BareIs (boxT wr p) Q base (tbare l[k]) (names ++ own ++ tnamess (l.take k)) (tnames l[k]))) := Lib.hid (by
                have hsz : (names ++ own ++ tnamess (l.take k)).length + tsize l[k] ≤ 1000000 := by
                  have e1 := tnamess_length (l.take k)
                  have e2 := tsizes_le l (k + 1)
                  rw [tsizes_take hlt] at e2
                  have e3 := Hsz.out
                  have e4 : own.length ≤ 1 := by rw [Hown.out]; split <;> simp
                  simp only [List.length_append]
                  omega
                have := Hih.out k _ Ht.out Q base (names ++ own ++ tnamess (l.take k)) (boxT wr p) HbW.out hwQ (HKr.out.2.below (below_boxT wr p)) hsz
                rw [Hp.out] at this
                exact this)
              have Hst : Hid (tbares (l.take (k + 1)) = tbare l[k] ∧ tnamess (l.take (k + 1)) = tnamess (l.take k) ++ tnames l[k] ∧ (tbare l[k] = false → tbares l = false)) := Lib.hid ⟨by rw [tbares_take hlt, Htb.out]; rfl, tnamess_take hlt, tbares_false hlt⟩
              have HKb : Hid (OthersKept 9 (some Q) w' (boxT wr p)) := Lib.hid (HKr.out.1.alloc _)
              have HBb : Hid (Below Q w' (boxT wr p)) := Lib.hid (Hbr.out.trans ((below_boxT wr p).mono (by have := Hbr.out.size; omega)))
              clear hwr
              generalize l[k] = t at *
              cases hbt : tbare t with
              | true =>
                rw [hbt] at Hcall
                have Hbt := Lib.hid hbt
                clear hbt
                go_wp2_with (go_at_call 98; refine Calls.mono Hcall.out ?_; rintro e w5 ⟨rfl, hb5, hk5, ns, hf5, hn5⟩; have HX : Hid (Below Q (boxT wr p) w5 ∧ OthersKept 9 (some Q) (boxT wr p) w5 ∧ FoundAt w5 Q base ns ∧ ns = names ++ own ++ tnamess (l.take k) ++ tnames t) := Lib.hid ⟨hb5, hk5, hf5, hn5 rfl⟩; clear hb5 hk5 hf5 hn5)
                go_roundw
                case rel => exact ⟨k + 1, by omega, by go_num, Lib.hid (by rw [Hst.out.1, Hbt.out]), Lib.hid (HBb.out.trans HX.out.1), Lib.hid ⟨HKb.out.trans HX.out.2.1, by rw [Hst.out.2.1, ← List.append_assoc, ← HX.out.2.2.2]; exact HX.out.2.2.1⟩⟩
                case measure => simp [intOf]; omega
              | false =>
                rw [hbt] at Hcall
                have Hbt := Lib.hid hbt
                clear hbt
                go_wp2_with (go_at_call 98; refine Calls.mono Hcall.out ?_; rintro e w5 ⟨rfl, hb5, hk5, ns, hf5, hn5⟩; have HX : Hid (Below Q (boxT wr p) w5 ∧ OthersKept 9 (some Q) (boxT wr p) w5 ∧ FoundAt w5 Q base ns) := Lib.hid ⟨hb5, hk5, hf5⟩; clear hb5 hk5 hf5 hn5)
                go_ret
                have e : tbare (.mk 13 name sort n l vars pat) = false := by rw [Hs.out.1, Hst.out.2.2 Hbt.out]
                exact ⟨by rw [e]; rfl, HBb.out.trans HX.out.1, HKb.out.trans HX.out.2.1, ns, HX.out.2.2, by rw [e]; simp⟩
            · have Hfull : Hid (tbares l = true ∧ tnamess (l.take k) = tnamess l) := Lib.hid (by
                have := Htb.out
                rw [List.take_of_length_le (by omega)] at this ⊢
                exact ⟨this, rfl⟩)
              go_wp2_with fail
              go_ret
              have e : tbare (.mk 13 name sort n l vars pat) = true := by rw [Hs.out.1, Hfull.out.1]
              exact ⟨by rw [e]; rfl, Hbr.out, HKr.out.1, _, HKr.out.2, fun _ => by rw [Hs.out.2, Hfull.out.2, ← Hown.out, List.append_assoc]⟩
      · obtain ⟨A0, c0, hh0, hc0', hf0', hq0, hb0, hQb⟩ := HF1.out.cell
        have hc0 : (w'.alloc (.cells #[.int .i64 14, .string name, .int .i64 sort, .string n, .slice A l.length ca, .slice V vars.length cv, .slice P pat.length cp] 29)).cell? ⟨Q, 0, none⟩ = some (.slice A0 names.length c0) := by rw [HP0.out] at hc0'; exact hc0'
        have hf0 : (w'.alloc (.cells #[.int .i64 14, .string name, .int .i64 sort, .string n, .slice A l.length ca, .slice V vars.length cv, .slice P pat.length cp] 29)).frozen? ⟨Q, 0, none⟩ = false := by rw [HP0.out] at hf0'; exact hf0'
        have Hq0 : Hid (OwnQ (w'.alloc (.cells #[.int .i64 14, .string name, .int .i64 sort, .string n, .slice A l.length ca, .slice V vars.length cv, .slice P pat.length cp] 29)) base 9 (.slice A0 names.length c0) (names.map .string)) := Lib.hid (by rw [HP0.out] at hq0; exact hq0)
        have Hb0 := Lib.hid hb0
        have HQb := Lib.hid hQb
        have HBp : Hid (Below w'.heap.size w' (w'.alloc (.cells #[.int .i64 14, .string name, .int .i64 sort, .string n, .slice A l.length ca, .slice V vars.length cv, .slice P pat.length cp] 29))) := Lib.hid (by have := HB1.out; rw [HP0.out] at this; exact this)
        have HKp : Hid (OthersKept 9 (some Q) w' (w'.alloc (.cells #[.int .i64 14, .string name, .int .i64 sort, .string n, .slice A l.length ca, .slice V vars.length cv, .slice P pat.length cp] 29))) := Lib.hid (by have := HK1.out; rw [HP0.out] at this; exact this)
        have HFp : Hid (FoundAt (w'.alloc (.cells #[.int .i64 14, .string name, .int .i64 sort, .string n, .slice A l.length ca, .slice V vars.length cv, .slice P pat.length cp] 29)) Q base names) := Lib.hid (by have := HF1.out; rw [HP0.out] at this; exact this)
        clear hq0 hb0 hQb hc0' hf0' hh0
        go_enter Tryz.func98, Tryz.ntmps98
        go_wp2_with fail
        all_goals
          obtain ⟨own, hown⟩ : ∃ own : List ByteArray, own = [] := ⟨_, rfl⟩
          have HFl : Hid (FoundAt (w'.alloc (.cells #[.int .i64 14, .string name, .int .i64 sort, .string n, .slice A l.length ca, .slice V vars.length cv, .slice P pat.length cp] 29)) Q base (names ++ own)) := Lib.hid (by rw [hown, List.append_nil]; exact HFp.out)
          have HBl : Hid (Below Q w' (w'.alloc (.cells #[.int .i64 14, .string name, .int .i64 sort, .string n, .slice A l.length ca, .slice V vars.length cv, .slice P pat.length cp] 29))) := Lib.hid (HBp.out.mono (by omega))
          have HKl : Hid (OthersKept 9 (some Q) w' (w'.alloc (.cells #[.int .i64 14, .string name, .int .i64 sort, .string n, .slice A l.length ca, .slice V vars.length cv, .slice P pat.length cp] 29))) := HKp
          have Hown : Hid (own = if (14 : Int) = 18 then [name] else []) := Lib.hid (by rw [hown]; rfl)
          clear hown
          clear HBp HKp HFp Hq0
          go_loopw [30] (fun i wr => ∃ k : Nat, k ≤ l.length ∧ i = .int .i64 k ∧ Hid (tbares (l.take k) = true) ∧ Hid (Below Q w' wr) ∧ Hid (OthersKept 9 (some Q) w' wr ∧ FoundAt wr Q base (names ++ own ++ tnamess (l.take k)))) (fun i _ => l.length - (intOf i).toNat)
          case atStart => exact ⟨0, Nat.zero_le _, rfl, Lib.hid rfl, HBl, Lib.hid ⟨HKl.out, by simpa [tnamess] using HFl.out⟩⟩
          case round =>
            obtain ⟨k, hk, rfl, Htb, Hbr, HKr⟩ := hrel
            by_cases hlt : k < l.length
            · have Ht : Hid (l[k]? = some l[k]) := Lib.hid (List.getElem?_eq_getElem hlt)
              have Hv := Lib.hid (HL.out k _ Ht.out)
              obtain ⟨p, hp⟩ := Hv.out.parts
              have Hp := Lib.hid hp
              have hwr : Below w.heap.size w wr := Hb.out.trans (Hbr.out.mono hwQ)
              obtain ⟨b, o, rfl, h0, h1, h2, h3, h4, h5, h6⟩ := (Hf.out.below hwr).get hlt hp
              clear hp
              have HbW : Hid (Below w.heap.size w (boxT wr p)) := Lib.hid (hwr.trans ((below_boxT wr p).mono hwr.size))
              have Hcall : Hid (Calls Tryz.prog 98 #[.agg #[.int .i64 p.op, .string p.name, .int .i64 p.sort, .string p.n, .slice p.A p.la p.ca, .slice p.V p.lv p.cv, .slice p.P p.lp p.cp], .pointer (some ⟨Q, 0, none⟩)] (wr.alloc (.cells #[.int .i64 p.op, .string p.name, .int .i64 p.sort, .string p.n, .slice p.A p.la p.ca, .slice p.V p.lv p.cv, .slice p.P p.lp p.cp] 29)) (BareIs (boxT wr p) Q base (tbare l[k]) (names ++ own ++ tnamess (l.take k)) (tnames l[k]))) := Lib.hid (by
                have hsz : (names ++ own ++ tnamess (l.take k)).length + tsize l[k] ≤ 1000000 := by
                  have e1 := tnamess_length (l.take k)
                  have e2 := tsizes_le l (k + 1)
                  rw [tsizes_take hlt] at e2
                  have e3 := Hsz.out
                  have e4 : own.length ≤ 1 := by rw [Hown.out]; split <;> simp
                  simp only [List.length_append]
                  omega
                have := Hih.out k _ Ht.out Q base (names ++ own ++ tnamess (l.take k)) (boxT wr p) HbW.out hwQ (HKr.out.2.below (below_boxT wr p)) hsz
                rw [Hp.out] at this
                exact this)
              have Hst : Hid (tbares (l.take (k + 1)) = tbare l[k] ∧ tnamess (l.take (k + 1)) = tnamess (l.take k) ++ tnames l[k] ∧ (tbare l[k] = false → tbares l = false)) := Lib.hid ⟨by rw [tbares_take hlt, Htb.out]; rfl, tnamess_take hlt, tbares_false hlt⟩
              have HKb : Hid (OthersKept 9 (some Q) w' (boxT wr p)) := Lib.hid (HKr.out.1.alloc _)
              have HBb : Hid (Below Q w' (boxT wr p)) := Lib.hid (Hbr.out.trans ((below_boxT wr p).mono (by have := Hbr.out.size; omega)))
              clear hwr
              generalize l[k] = t at *
              cases hbt : tbare t with
              | true =>
                rw [hbt] at Hcall
                have Hbt := Lib.hid hbt
                clear hbt
                go_wp2_with (go_at_call 98; refine Calls.mono Hcall.out ?_; rintro e w5 ⟨rfl, hb5, hk5, ns, hf5, hn5⟩; have HX : Hid (Below Q (boxT wr p) w5 ∧ OthersKept 9 (some Q) (boxT wr p) w5 ∧ FoundAt w5 Q base ns ∧ ns = names ++ own ++ tnamess (l.take k) ++ tnames t) := Lib.hid ⟨hb5, hk5, hf5, hn5 rfl⟩; clear hb5 hk5 hf5 hn5)
                go_roundw
                case rel => exact ⟨k + 1, by omega, by go_num, Lib.hid (by rw [Hst.out.1, Hbt.out]), Lib.hid (HBb.out.trans HX.out.1), Lib.hid ⟨HKb.out.trans HX.out.2.1, by rw [Hst.out.2.1, ← List.append_assoc, ← HX.out.2.2.2]; exact HX.out.2.2.1⟩⟩
                case measure => simp [intOf]; omega
              | false =>
                rw [hbt] at Hcall
                have Hbt := Lib.hid hbt
                clear hbt
                go_wp2_with (go_at_call 98; refine Calls.mono Hcall.out ?_; rintro e w5 ⟨rfl, hb5, hk5, ns, hf5, hn5⟩; have HX : Hid (Below Q (boxT wr p) w5 ∧ OthersKept 9 (some Q) (boxT wr p) w5 ∧ FoundAt w5 Q base ns) := Lib.hid ⟨hb5, hk5, hf5⟩; clear hb5 hk5 hf5 hn5)
                go_ret
                have e : tbare (.mk 14 name sort n l vars pat) = false := by rw [Hs.out.1, Hst.out.2.2 Hbt.out]
                exact ⟨by rw [e]; rfl, HBb.out.trans HX.out.1, HKb.out.trans HX.out.2.1, ns, HX.out.2.2, by rw [e]; simp⟩
            · have Hfull : Hid (tbares l = true ∧ tnamess (l.take k) = tnamess l) := Lib.hid (by
                have := Htb.out
                rw [List.take_of_length_le (by omega)] at this ⊢
                exact ⟨this, rfl⟩)
              go_wp2_with fail
              go_ret
              have e : tbare (.mk 14 name sort n l vars pat) = true := by rw [Hs.out.1, Hfull.out.1]
              exact ⟨by rw [e]; rfl, Hbr.out, HKr.out.1, _, HKr.out.2, fun _ => by rw [Hs.out.2, Hfull.out.2, ← Hown.out, List.append_assoc]⟩
      · obtain ⟨A0, c0, hh0, hc0', hf0', hq0, hb0, hQb⟩ := HF1.out.cell
        have hc0 : (w'.alloc (.cells #[.int .i64 15, .string name, .int .i64 sort, .string n, .slice A l.length ca, .slice V vars.length cv, .slice P pat.length cp] 29)).cell? ⟨Q, 0, none⟩ = some (.slice A0 names.length c0) := by rw [HP0.out] at hc0'; exact hc0'
        have hf0 : (w'.alloc (.cells #[.int .i64 15, .string name, .int .i64 sort, .string n, .slice A l.length ca, .slice V vars.length cv, .slice P pat.length cp] 29)).frozen? ⟨Q, 0, none⟩ = false := by rw [HP0.out] at hf0'; exact hf0'
        have Hq0 : Hid (OwnQ (w'.alloc (.cells #[.int .i64 15, .string name, .int .i64 sort, .string n, .slice A l.length ca, .slice V vars.length cv, .slice P pat.length cp] 29)) base 9 (.slice A0 names.length c0) (names.map .string)) := Lib.hid (by rw [HP0.out] at hq0; exact hq0)
        have Hb0 := Lib.hid hb0
        have HQb := Lib.hid hQb
        have HBp : Hid (Below w'.heap.size w' (w'.alloc (.cells #[.int .i64 15, .string name, .int .i64 sort, .string n, .slice A l.length ca, .slice V vars.length cv, .slice P pat.length cp] 29))) := Lib.hid (by have := HB1.out; rw [HP0.out] at this; exact this)
        have HKp : Hid (OthersKept 9 (some Q) w' (w'.alloc (.cells #[.int .i64 15, .string name, .int .i64 sort, .string n, .slice A l.length ca, .slice V vars.length cv, .slice P pat.length cp] 29))) := Lib.hid (by have := HK1.out; rw [HP0.out] at this; exact this)
        have HFp : Hid (FoundAt (w'.alloc (.cells #[.int .i64 15, .string name, .int .i64 sort, .string n, .slice A l.length ca, .slice V vars.length cv, .slice P pat.length cp] 29)) Q base names) := Lib.hid (by have := HF1.out; rw [HP0.out] at this; exact this)
        clear hq0 hb0 hQb hc0' hf0' hh0
        go_enter Tryz.func98, Tryz.ntmps98
        go_wp2_with fail
        all_goals
          obtain ⟨own, hown⟩ : ∃ own : List ByteArray, own = [] := ⟨_, rfl⟩
          have HFl : Hid (FoundAt (w'.alloc (.cells #[.int .i64 15, .string name, .int .i64 sort, .string n, .slice A l.length ca, .slice V vars.length cv, .slice P pat.length cp] 29)) Q base (names ++ own)) := Lib.hid (by rw [hown, List.append_nil]; exact HFp.out)
          have HBl : Hid (Below Q w' (w'.alloc (.cells #[.int .i64 15, .string name, .int .i64 sort, .string n, .slice A l.length ca, .slice V vars.length cv, .slice P pat.length cp] 29))) := Lib.hid (HBp.out.mono (by omega))
          have HKl : Hid (OthersKept 9 (some Q) w' (w'.alloc (.cells #[.int .i64 15, .string name, .int .i64 sort, .string n, .slice A l.length ca, .slice V vars.length cv, .slice P pat.length cp] 29))) := HKp
          have Hown : Hid (own = if (15 : Int) = 18 then [name] else []) := Lib.hid (by rw [hown]; rfl)
          clear hown
          clear HBp HKp HFp Hq0
          go_loopw [30] (fun i wr => ∃ k : Nat, k ≤ l.length ∧ i = .int .i64 k ∧ Hid (tbares (l.take k) = true) ∧ Hid (Below Q w' wr) ∧ Hid (OthersKept 9 (some Q) w' wr ∧ FoundAt wr Q base (names ++ own ++ tnamess (l.take k)))) (fun i _ => l.length - (intOf i).toNat)
          case atStart => exact ⟨0, Nat.zero_le _, rfl, Lib.hid rfl, HBl, Lib.hid ⟨HKl.out, by simpa [tnamess] using HFl.out⟩⟩
          case round =>
            obtain ⟨k, hk, rfl, Htb, Hbr, HKr⟩ := hrel
            by_cases hlt : k < l.length
            · have Ht : Hid (l[k]? = some l[k]) := Lib.hid (List.getElem?_eq_getElem hlt)
              have Hv := Lib.hid (HL.out k _ Ht.out)
              obtain ⟨p, hp⟩ := Hv.out.parts
              have Hp := Lib.hid hp
              have hwr : Below w.heap.size w wr := Hb.out.trans (Hbr.out.mono hwQ)
              obtain ⟨b, o, rfl, h0, h1, h2, h3, h4, h5, h6⟩ := (Hf.out.below hwr).get hlt hp
              clear hp
              have HbW : Hid (Below w.heap.size w (boxT wr p)) := Lib.hid (hwr.trans ((below_boxT wr p).mono hwr.size))
              have Hcall : Hid (Calls Tryz.prog 98 #[.agg #[.int .i64 p.op, .string p.name, .int .i64 p.sort, .string p.n, .slice p.A p.la p.ca, .slice p.V p.lv p.cv, .slice p.P p.lp p.cp], .pointer (some ⟨Q, 0, none⟩)] (wr.alloc (.cells #[.int .i64 p.op, .string p.name, .int .i64 p.sort, .string p.n, .slice p.A p.la p.ca, .slice p.V p.lv p.cv, .slice p.P p.lp p.cp] 29)) (BareIs (boxT wr p) Q base (tbare l[k]) (names ++ own ++ tnamess (l.take k)) (tnames l[k]))) := Lib.hid (by
                have hsz : (names ++ own ++ tnamess (l.take k)).length + tsize l[k] ≤ 1000000 := by
                  have e1 := tnamess_length (l.take k)
                  have e2 := tsizes_le l (k + 1)
                  rw [tsizes_take hlt] at e2
                  have e3 := Hsz.out
                  have e4 : own.length ≤ 1 := by rw [Hown.out]; split <;> simp
                  simp only [List.length_append]
                  omega
                have := Hih.out k _ Ht.out Q base (names ++ own ++ tnamess (l.take k)) (boxT wr p) HbW.out hwQ (HKr.out.2.below (below_boxT wr p)) hsz
                rw [Hp.out] at this
                exact this)
              have Hst : Hid (tbares (l.take (k + 1)) = tbare l[k] ∧ tnamess (l.take (k + 1)) = tnamess (l.take k) ++ tnames l[k] ∧ (tbare l[k] = false → tbares l = false)) := Lib.hid ⟨by rw [tbares_take hlt, Htb.out]; rfl, tnamess_take hlt, tbares_false hlt⟩
              have HKb : Hid (OthersKept 9 (some Q) w' (boxT wr p)) := Lib.hid (HKr.out.1.alloc _)
              have HBb : Hid (Below Q w' (boxT wr p)) := Lib.hid (Hbr.out.trans ((below_boxT wr p).mono (by have := Hbr.out.size; omega)))
              clear hwr
              generalize l[k] = t at *
              cases hbt : tbare t with
              | true =>
                rw [hbt] at Hcall
                have Hbt := Lib.hid hbt
                clear hbt
                go_wp2_with (go_at_call 98; refine Calls.mono Hcall.out ?_; rintro e w5 ⟨rfl, hb5, hk5, ns, hf5, hn5⟩; have HX : Hid (Below Q (boxT wr p) w5 ∧ OthersKept 9 (some Q) (boxT wr p) w5 ∧ FoundAt w5 Q base ns ∧ ns = names ++ own ++ tnamess (l.take k) ++ tnames t) := Lib.hid ⟨hb5, hk5, hf5, hn5 rfl⟩; clear hb5 hk5 hf5 hn5)
                go_roundw
                case rel => exact ⟨k + 1, by omega, by go_num, Lib.hid (by rw [Hst.out.1, Hbt.out]), Lib.hid (HBb.out.trans HX.out.1), Lib.hid ⟨HKb.out.trans HX.out.2.1, by rw [Hst.out.2.1, ← List.append_assoc, ← HX.out.2.2.2]; exact HX.out.2.2.1⟩⟩
                case measure => simp [intOf]; omega
              | false =>
                rw [hbt] at Hcall
                have Hbt := Lib.hid hbt
                clear hbt
                go_wp2_with (go_at_call 98; refine Calls.mono Hcall.out ?_; rintro e w5 ⟨rfl, hb5, hk5, ns, hf5, hn5⟩; have HX : Hid (Below Q (boxT wr p) w5 ∧ OthersKept 9 (some Q) (boxT wr p) w5 ∧ FoundAt w5 Q base ns) := Lib.hid ⟨hb5, hk5, hf5⟩; clear hb5 hk5 hf5 hn5)
                go_ret
                have e : tbare (.mk 15 name sort n l vars pat) = false := by rw [Hs.out.1, Hst.out.2.2 Hbt.out]
                exact ⟨by rw [e]; rfl, HBb.out.trans HX.out.1, HKb.out.trans HX.out.2.1, ns, HX.out.2.2, by rw [e]; simp⟩
            · have Hfull : Hid (tbares l = true ∧ tnamess (l.take k) = tnamess l) := Lib.hid (by
                have := Htb.out
                rw [List.take_of_length_le (by omega)] at this ⊢
                exact ⟨this, rfl⟩)
              go_wp2_with fail
              go_ret
              have e : tbare (.mk 15 name sort n l vars pat) = true := by rw [Hs.out.1, Hfull.out.1]
              exact ⟨by rw [e]; rfl, Hbr.out, HKr.out.1, _, HKr.out.2, fun _ => by rw [Hs.out.2, Hfull.out.2, ← Hown.out, List.append_assoc]⟩
end Go.Proofs.YtbnonccmlildnaaGreat

/- slices.Contains over names. -/
namespace Go.Proofs.YtbnonccmlildnaaGreat
open Go.RowKit Go.Lib

def hasS (names : List ByteArray) (x : ByteArray) : Bool := names.any fun s => x.toList == s.toList
theorem hasS_succ {names : List ByteArray} {k : Nat} {x : ByteArray} (hk : k < names.length) : hasS (names.take (k + 1)) x = (hasS (names.take k) x || (x.toList == names[k].toList)) := by
  unfold hasS
  rw [List.take_succ_eq_append_getElem hk, List.any_append]
  simp
set_option maxHeartbeats 1000000 in
theorem strIndex_any {w : World} {A : Option Addr} {c : Nat} {names : List ByteArray} {x : ByteArray} (hn : names.length ≤ 140737488355328) (hf : Cells w A (names.map Value.string)) :
    Calls Tryz.prog 41 #[.slice A names.length c, .string x] w fun e w' => ∃ r : Int, e = .returned (.int .i64 r) ∧ decide (0 ≤ r) = hasS names x ∧ w = w' := by
  have Hf := Lib.hid hf
  clear hf
  go_enter Tryz.func41, Tryz.ntmps41
  go_wp2_with fail
  go_loop [8] (fun i => ∃ k : Nat, k ≤ names.length ∧ i = .int .i64 k ∧ Hid (hasS (names.take k) x = false)) (fun i => names.length - (intOf i).toNat)
  case atStart => exact ⟨0, Nat.zero_le _, rfl, Lib.hid rfl⟩
  case round =>
    obtain ⟨k, hk, rfl, Hno⟩ := hrel
    by_cases hlt : k < names.length
    · obtain ⟨b, o, rfl, h0⟩ : ∃ b o, A = some ⟨b, o, none⟩ ∧ w.cell? ⟨b, o + k, none⟩ = some (.string names[k]) := by
        rcases Hf.out with h | ⟨b, o, hA, hc⟩
        · have := h.2
          simp at this
          subst this
          simp at hlt
        · exact ⟨b, o, hA, hc k _ (by simp [hlt])⟩
      have Hs : Hid (hasS (names.take (k + 1)) x = (x.toList == names[k].toList) ∧ ((x.toList == names[k].toList) = true → hasS names x = true)) := Lib.hid ⟨by rw [hasS_succ hlt, Hno.out]; rfl, fun h => by
        unfold hasS
        rw [List.any_eq_true]
        exact ⟨names[k], List.getElem_mem hlt, h⟩⟩
      generalize names[k] = s at *
      cases hqq : (x.toList == s.toList) with
      | true =>
        have Hr : Hid (hasS names x = true) := Lib.hid (Hs.out.2 hqq)
        go_wp2_with fail
        go_ret
        exact ⟨_, rfl, by rw [Hr.out]; simp, rfl⟩
      | false =>
        have Hr : Hid (hasS (names.take (k + 1)) x = false) := Lib.hid (by rw [Hs.out.1]; exact hqq)
        go_wp2_with fail
        go_round
        case rel => exact ⟨k + 1, by omega, by go_num, Hr⟩
        case measure => simp [intOf]; omega
    · have Hr : Hid (hasS names x = false) := Lib.hid (by have := Hno.out; rwa [List.take_of_length_le (by omega)] at this)
      go_wp2_with fail
      go_ret
      exact ⟨_, rfl, by rw [Hr.out]; simp, rfl⟩
theorem strContains_any {w : World} {A : Option Addr} {c : Nat} {names : List ByteArray} {x : ByteArray} (hn : names.length ≤ 140737488355328) (hf : Cells w A (names.map Value.string)) :
    Calls Tryz.prog 99 #[.slice A names.length c, .string x] w fun e w' => e = .returned (.bool (hasS names x)) ∧ w = w' := by
  go_enter Tryz.func99, Tryz.ntmps99
  go_wp2_with (go_at_call 41; refine (strIndex_any hn hf (c := c)).mono ?_; rintro e w' ⟨r, rfl, hr, rfl⟩)
  go_ret
  exact ⟨by simp, rfl⟩
end Go.Proofs.YtbnonccmlildnaaGreat

/- A term's sort, plainly: as the program finds it. -/
namespace Go.Proofs.YtbnonccmlildnaaGreat
open Go.RowKit Go.Lib

abbrev Bd := List (ByteArray × Int)
def ofE (sig : List Fn) (op : Int) (name : ByteArray) (sort : Int) (n : Nat) (bd : Bd) : Int :=
  if op = 18 then (varV bd name sort).2 else if op = 17 then appE sig name n else 0
def foundFn (sig : List Fn) (name : ByteArray) : Option Fn := match firstFn sig name with
  | none => none
  | some k => sig[k]?
def nodeS (sig : List Fn) (op : Int) (name : ByteArray) (sort : Int) (xs : List Int) : Int × Int :=
  if op = 1 then (1, 0)
  else if op = 2 ∨ op = 3 then (2, 0)
  else if op = 9 then equalS (xs.getD 0 0) (xs.getD 1 0)
  else if op = 10 ∨ op = 11 then fixedS 1 2 xs
  else if op = 12 ∨ op = 13 ∨ op = 14 ∨ op = 15 then fixedS 1 1 xs
  else if op = 16 then iteS (xs.getD 0 0) (xs.getD 1 0) (xs.getD 2 0)
  else if op = 18 then (sort, 0)
  else if op = 17 then match foundFn sig name with
    | some f => funS f.args f.out xs
    | none => (0, 32)
  else fixedS 2 2 xs
def namedAll (vars : Bd) (names : List ByteArray) : Bool := vars.all fun v => hasS names v.1
mutual
def checkS (sig : List Fn) : Tm → Bd → Int × Int
  | .mk op name sort n l vars pat, bd =>
    if shapeB (.mk op name sort n l vars pat) = false then (0, 30)
    else if ofE sig op name sort l.length bd ≠ 0 then (0, ofE sig op name sort l.length bd)
    else if (checksS sig l (if op = 19 then bd ++ vars else bd)).2 ≠ 0 then (0, (checksS sig l (if op = 19 then bd ++ vars else bd)).2)
    else
      let r := nodeS sig op name sort (checksS sig l (if op = 19 then bd ++ vars else bd)).1
      let e := if op = 19 ∧ r.2 = 0 then (if patsS sig pat (bd ++ vars) ≠ 0 then patsS sig pat (bd ++ vars) else if namedAll vars (tnamess pat) then 0 else 30) else r.2
      if e ≠ 0 then (0, e) else (r.1, 0)
def checksS (sig : List Fn) : List Tm → Bd → List Int × Int
  | [], _ => ([], 0)
  | t :: ts, bd => if (checkS sig t bd).2 ≠ 0 then ([], (checkS sig t bd).2) else if (checksS sig ts bd).2 ≠ 0 then ([], (checksS sig ts bd).2) else ((checkS sig t bd).1 :: (checksS sig ts bd).1, 0)
def patsS (sig : List Fn) : List Tm → Bd → Int
  | [], _ => 0
  | p :: ps, bd => if 200 < tdepth p then 33 else if 50000 < tsize p then 34 else if opOf p ≠ 17 ∨ tbare p = false then 30 else if (checkS sig p bd).2 ≠ 0 then (checkS sig p bd).2 else patsS sig ps bd
end
def patternsS (sig : List Fn) (pat : List Tm) (bd vars : Bd) : Int := if patsS sig pat bd ≠ 0 then patsS sig pat bd else if namedAll vars (tnamess pat) then 0 else 30
theorem checksS_take (sig : List Fn) (bd : Bd) {l : List Tm} {k : Nat} (hk : k < l.length) (h0 : (checksS sig (l.take k) bd).2 = 0) :
    ((checkS sig l[k] bd).2 = 0 → checksS sig (l.take (k + 1)) bd = ((checksS sig (l.take k) bd).1 ++ [(checkS sig l[k] bd).1], 0)) ∧
    ((checkS sig l[k] bd).2 ≠ 0 → (checksS sig l bd).2 = (checkS sig l[k] bd).2) := by
  induction l generalizing k with
  | nil => simp at hk
  | cons t l ih =>
    cases k with
    | zero =>
      simp only [List.getElem_cons_zero, List.take_zero, Nat.zero_add, List.take_succ_cons]
      constructor
      · intro h
        simp [checksS, h]
      · intro h
        simp only [checksS]
        rw [if_pos h]
    | succ k =>
      simp only [List.length_cons] at hk
      simp only [List.take_succ_cons, checksS] at h0
      by_cases h1 : (checkS sig t bd).2 = 0
      · rw [if_neg (by simpa using h1)] at h0
        have h2 : (checksS sig (l.take k) bd).2 = 0 := by
          by_cases h2 : (checksS sig (l.take k) bd).2 = 0
          · exact h2
          · rw [if_pos h2] at h0
            exact absurd h0 h2
        obtain ⟨i1, i2⟩ := ih (k := k) (by omega) h2
        simp only [List.getElem_cons_succ, List.take_succ_cons]
        constructor
        · intro h
          have i1 := i1 h
          simp only [checksS, h1, h2, i1]
          simp
        · intro h
          have i2 := i2 h
          simp only [checksS]
          rw [if_neg (by simpa using h1), if_pos (by rw [i2]; exact h)]
          exact i2
      · rw [if_pos h1] at h0
        exact absurd h0 h1
theorem checksS_length (sig : List Fn) (bd : Bd) (l : List Tm) (h0 : (checksS sig l bd).2 = 0) : (checksS sig l bd).1.length = l.length := by
  induction l with
  | nil => simp [checksS]
  | cons t l ih =>
    simp only [checksS] at h0 ⊢
    by_cases h1 : (checkS sig t bd).2 = 0
    · rw [if_neg (by simpa using h1)] at h0 ⊢
      by_cases h2 : (checksS sig l bd).2 = 0
      · rw [if_neg (by simpa using h2)]
        simp [ih h2]
      · rw [if_pos h2] at h0
        exact absurd h0 h2
    · rw [if_pos h1] at h0
      exact absurd h0 h1
theorem patsS_take (sig : List Fn) (bd : Bd) {l : List Tm} {k : Nat} (hk : k < l.length) (h0 : patsS sig (l.take k) bd = 0) :
    patsS sig (l.take (k + 1)) bd = patsS sig [l[k]] bd ∧ (patsS sig [l[k]] bd ≠ 0 → patsS sig l bd = patsS sig [l[k]] bd) := by
  induction l generalizing k with
  | nil => simp at hk
  | cons t l ih =>
    cases k with
    | zero =>
      simp only [List.getElem_cons_zero, Nat.zero_add, List.take_succ_cons, List.take_zero]
      refine ⟨trivial, ?_⟩
      simp only [patsS]
      intro h
      by_cases h1 : 200 < tdepth t
      · rw [if_pos h1, if_pos h1]
      · rw [if_neg h1] at h ⊢
        rw [if_neg h1]
        by_cases h2 : 50000 < tsize t
        · rw [if_pos h2, if_pos h2]
        · rw [if_neg h2] at h ⊢
          rw [if_neg h2]
          by_cases h3 : opOf t ≠ 17 ∨ tbare t = false
          · rw [if_pos h3, if_pos h3]
          · rw [if_neg h3] at h ⊢
            rw [if_neg h3]
            by_cases h4 : (checkS sig t bd).2 ≠ 0
            · rw [if_pos h4, if_pos h4]
            · rw [if_neg h4] at h
              exact absurd rfl h
    | succ k =>
      simp only [List.length_cons] at hk
      simp only [List.getElem_cons_succ, List.take_succ_cons]
      have key : ∀ m, patsS sig (t :: l.take k) bd = 0 → patsS sig (t :: m) bd = patsS sig m bd ∧ patsS sig (l.take k) bd = 0 := by
        intro m h
        simp only [patsS] at h ⊢
        by_cases h1 : 200 < tdepth t
        · rw [if_pos h1] at h; cases h
        · rw [if_neg h1] at h ⊢
          by_cases h2 : 50000 < tsize t
          · rw [if_pos h2] at h; cases h
          · rw [if_neg h2] at h ⊢
            by_cases h3 : opOf t ≠ 17 ∨ tbare t = false
            · rw [if_pos h3] at h; cases h
            · rw [if_neg h3] at h ⊢
              by_cases h4 : (checkS sig t bd).2 ≠ 0
              · rw [if_pos h4] at h; exact absurd h h4
              · rw [if_neg h4] at h ⊢
                exact ⟨rfl, h⟩
      simp only [List.take_succ_cons] at h0
      obtain ⟨_, h5⟩ := key [] h0
      obtain ⟨i1, i2⟩ := ih (k := k) (by omega) h5
      rw [(key _ h0).1, (key _ h0).1]
      exact ⟨i1, i2⟩
mutual
def tw : Tm → Nat
  | .mk _ _ _ _ l vars pat => 1 + vars.length + tws l + tws pat
def tws : List Tm → Nat
  | [] => 0
  | t :: ts => tw t + tws ts
end
mutual
def shortT : Tm → Bool
  | .mk _ _ _ n l _ pat => decide (n.size ≤ 1000000) && shortTs l && shortTs pat
def shortTs : List Tm → Bool
  | [] => true
  | t :: ts => shortT t && shortTs ts
end
theorem tws_mem {l : List Tm} {k : Nat} {t : Tm} (h : l[k]? = some t) : tw t ≤ tws l := by
  induction l generalizing k with
  | nil => simp at h
  | cons u l ih =>
    cases k with
    | zero => simp at h; subst h; simp only [tws]; omega
    | succ k => have := ih (k := k) (by simpa using h); simp only [tws]; omega
theorem shortTs_mem {l : List Tm} {k : Nat} {t : Tm} (h : l[k]? = some t) (hs : shortTs l = true) : shortT t = true := by
  induction l generalizing k with
  | nil => simp at h
  | cons u l ih =>
    simp only [shortTs, Bool.and_eq_true] at hs
    cases k with
    | zero => simp at h; subst h; exact hs.1
    | succ k => exact ih (k := k) (by simpa using h) hs.2
mutual
theorem tsize_tw : ∀ t : Tm, tsize t ≤ tw t
  | .mk _ _ _ _ l _ _ => by
    have := tsizes_tws l
    simp only [tsize, tw]
    omega
theorem tsizes_tws : ∀ l : List Tm, tsizes l ≤ tws l
  | [] => by simp [tsizes]
  | t :: ts => by
    have := tsize_tw t
    have := tsizes_tws ts
    simp only [tsizes, tws]
    omega
end
theorem tdepth_tsize : ∀ t : Tm, tdepth t ≤ tsize t := tdepth_le
end Go.Proofs.YtbnonccmlildnaaGreat

/- The checker in memory; patterns. -/
namespace Go.Proofs.YtbnonccmlildnaaGreat
open Go.RowKit Go.Lib

def flat (bd : Bd) : List Value := bd.flatMap fun v => [.string v.1, .int .i64 v.2]
theorem flat_length (bd : Bd) : (flat bd).length = bd.length * 2 := by
  induction bd with
  | nil => rfl
  | cons v bd ih => simp only [flat, List.flatMap_cons, List.length_append, List.length_cons, List.length_nil] at ih ⊢; omega
/-- The checker in block K: its signature, the variables that are bound. -/
def ChkAt (w : World) (K : Nat) (S : Option Addr) (ns cs : Nat) (bd : Bd) : Prop :=
  K + 1 ≤ w.heap.size ∧ ∃ B cb, CheckerAt w K S ns cs B bd.length cb ∧ w.ownsRow (K + 1) 53 2 (.slice B bd.length cb) bd.length (flat bd)
theorem ownsRow_lt {w : World} {base : Nat} {e : TypeId} {s : Nat} {v : Value} {n : Nat} {xs : List Value} (h : w.ownsRow base e s v n xs) : ∀ g, v.ownBlock = some g → base ≤ g ∧ ∃ cur, w.heap[g]? = some (.cells cur e (0, 0)) := by
  intro g hg
  rcases h.2 with ⟨rfl, _⟩ | ⟨g', cap, cur, rfl, hb, hh, _⟩
  · simp [Value.ownBlock] at hg
  · simp [Value.ownBlock] at hg
    subst hg
    exact ⟨hb, cur, hh⟩
theorem ownsRow_same {w w' : World} {base : Nat} {e : TypeId} {s : Nat} {v : Value} {n : Nat} {xs : List Value} (h : w.ownsRow base e s v n xs) (hs : ∀ g, v.ownBlock = some g → w'.heap[g]? = w.heap[g]?) : w'.ownsRow base e s v n xs := by
  refine ⟨h.1, ?_⟩
  rcases h.2 with h2 | ⟨g, cap, cur, rfl, hb, hh, r⟩
  · exact .inl h2
  · exact .inr ⟨g, cap, cur, rfl, hb, (hs g (by simp [Value.ownBlock])).trans hh, r⟩
theorem ChkAt.below {w w' : World} {K : Nat} {S : Option Addr} {ns cs : Nat} {bd : Bd} (h : ChkAt w K S ns cs bd) (hb : Below w.heap.size w w') : ChkAt w' K S ns cs bd := by
  obtain ⟨h0, B, cb, h1, h2⟩ := h
  refine ⟨by have := hb.size; omega, B, cb, below_keeps hb h1, ownsRow_same h2 fun g hg => ?_⟩
  obtain ⟨_, cur, hc⟩ := ownsRow_lt h2 g hg
  exact hb.block g (Array.getElem?_eq_some_iff.1 hc).1
theorem ChkAt.kept9 {w w' : World} {x : Value} {K Q : Nat} {S : Option Addr} {ns cs : Nat} {bd : Bd} (h : ChkAt w K S ns cs bd) (hQ : Boxed w Q 55 x) (hKQ : K < Q) (hb : Below Q w w') (hk : OthersKept 9 (some Q) w w') : ChkAt w' K S ns cs bd := by
  obtain ⟨h0, B, cb, h1, h2⟩ := h
  refine ⟨by have := hb.size; omega, B, cb, (hb.block K hKQ).trans h1, ownsRow_same h2 fun g hg => ?_⟩
  obtain ⟨_, cur, hc⟩ := ownsRow_lt h2 g hg
  rw [hc]
  refine hk g _ hc (fun e => ?_) (fun c fz e => by cases e)
  have e2 : g = Q := by cases e; rfl
  rw [e2, show w.heap[Q]? = _ from hQ] at hc
  cases hc
theorem FoundAt.kept33 {w w' : World} {K Q base : Nat} {names : List ByteArray} (h : FoundAt w Q base names) (hKQ : K < Q) (hs : w.heap.size ≤ w'.heap.size) (hk : OthersKept 53 (some K) w w') : FoundAt w' Q base names := by
  obtain ⟨h1, h2, A, c, h3, h4⟩ := h
  refine ⟨h1, by omega, A, c, hk Q _ h3 (fun e => by cases e; omega) (fun c fz e => by cases e), h4.same fun g hg => ?_⟩
  obtain ⟨cur, hc⟩ := h4.typed g hg
  have hl := (h4.lt g hg).1
  rw [hc]
  exact hk g _ hc (fun e => by cases e; omega) (fun c fz e => by cases e)
theorem row_kept33 {w w' : World} {K k : Nat} {c : Array Value} {t : TypeId} (h : w.heap[k]? = some (.cells c t (0, 0))) (hk : OthersKept 53 (some K) w w') (hne : k ≠ K) (ht : t ≠ 53) : w'.heap[k]? = some (.cells c t (0, 0)) :=
  hk k _ h (fun e => hne (by cases e; rfl)) (fun c' fz e => by cases e; exact ht rfl)
theorem row_kept9 {w w' : World} {Q k : Nat} {c : Array Value} {t : TypeId} (h : w.heap[k]? = some (.cells c t (0, 0))) (hk : OthersKept 9 (some Q) w w') (hne : k ≠ Q) (ht : t ≠ 9) : w'.heap[k]? = some (.cells c t (0, 0)) :=
  hk k _ h (fun e => hne (by cases e; rfl)) (fun c' fz e => by cases e; exact ht rfl)
theorem box_cells {W : World} {k : Nat} {p : Parts} (h : W.heap[k]? = some (.cells p.arr 29 (0, 0))) :
    W.cell? ⟨k, 0, none⟩ = some (.int .i64 p.op) ∧ W.cell? ⟨k, 1, none⟩ = some (.string p.name) ∧ W.cell? ⟨k, 2, none⟩ = some (.int .i64 p.sort) ∧ W.cell? ⟨k, 3, none⟩ = some (.string p.n) ∧ W.cell? ⟨k, 4, none⟩ = some (.slice p.A p.la p.ca) ∧ W.cell? ⟨k, 5, none⟩ = some (.slice p.V p.lv p.cv) ∧ W.cell? ⟨k, 6, none⟩ = some (.slice p.P p.lp p.cp) :=
  ⟨row_at h 0, row_at h 1, row_at h 2, row_at h 3, row_at h 4, row_at h 5, row_at h 6⟩
theorem boxT_row (w : World) (p : Parts) : (boxT w p).heap[w.heap.size]? = some (.cells p.arr 29 (0, 0)) := heap_alloc_new w _

def CheckIs (w : World) (K : Nat) (S : Option Addr) (ns cs : Nat) (bd : Bd) (r : Int × Int) (e : Ending) (w' : World) : Prop :=
  e = .returned (.tuple #[.int .i64 r.1, .int .i64 r.2]) ∧ Below K w w' ∧ OthersKept 53 (some K) w w' ∧ ∃ more, ChkAt w' K S ns cs (bd ++ more) ∧ (r.2 = 0 → more = [])
def PatsIs (w : World) (K : Nat) (S : Option Addr) (ns cs : Nat) (bd : Bd) (r : Int) (e : Ending) (w' : World) : Prop :=
  e = .returned (.int .i64 r) ∧ Below K w w' ∧ OthersKept 53 (some K) w w' ∧ ∃ more, ChkAt w' K S ns cs (bd ++ more) ∧ (r = 0 → more = [])
/-- What a term's check comes to, wherever it is called. -/
def CkOK (w : World) (sig : List Fn) (S : Option Addr) (cs : Nat) (t : Tm) (v : Value) : Prop :=
  ∀ (K : Nat) (bd : Bd) (w' : World), Below w.heap.size w w' → w.heap.size ≤ K → ChkAt w' K S sig.length cs bd → bd.length + tw t ≤ 1000000 → shortT t = true →
    Calls Tryz.prog 30 #[.pointer (some ⟨K, 0, none⟩), v] w' (CheckIs w' K S sig.length cs bd (checkS sig t bd))
end Go.Proofs.YtbnonccmlildnaaGreat

/- What is wrong with a formula's patterns. -/
namespace Go.Proofs.YtbnonccmlildnaaGreat
open Go.RowKit Go.Lib

theorem kept_via {e : TypeId} {b : Option Nat} {w a c : World} {Q : Nat} (h : OthersKept e b w a) (hb : Below Q a c) (hs : w.heap.size ≤ Q) : OthersKept e b w c :=
  fun k o hk hkb ho => (hb.block k (by have := (Array.getElem?_eq_some_iff.1 hk).1; omega)).trans (h k o hk hkb ho)
theorem FoundAt.boxed {w : World} {Q base : Nat} {names : List ByteArray} (h : FoundAt w Q base names) : ∃ x, Boxed w Q 55 x := by
  obtain ⟨_, _, A, c, h3, _⟩ := h
  exact ⟨_, h3⟩
theorem kept33_below {w w' : World} {K : Nat} (hb : Below w.heap.size w w') : OthersKept 53 (some K) w w' := kept_via (OthersKept.refl _ _ _) hb (Nat.le_refl _)
/-- What holds at the head of each round. -/
structure PInv (w' wr : World) (K : Nat) (S : Option Addr) (ns cs : Nat) (bd : Bd) (p0 : Parts) (names : List ByteArray) : Prop where
  below : Below K w' wr
  kept : OthersKept 53 (some K) w' wr
  found : FoundAt wr (w'.heap.size + 1) (w'.heap.size + 2) names
  chk : ChkAt wr K S ns cs bd
  box : wr.heap[w'.heap.size]? = some (.cells p0.arr 29 (0, 0))
theorem PInv.low {w' wr wx : World} {K : Nat} {S : Option Addr} {ns cs : Nat} {bd : Bd} {p0 : Parts} {names : List ByteArray} (h : PInv w' wr K S ns cs bd p0 names) (hb : Below wr.heap.size wr wx) (hK : K < w'.heap.size) : PInv w' wx K S ns cs bd p0 names :=
  ⟨h.below.trans (hb.mono (by have := h.below.size; omega)), kept_via h.kept hb h.below.size, h.found.below hb, h.chk.below hb, below_keeps hb h.box⟩
theorem PInv.bare {w' wr wx : World} {K : Nat} {S : Option Addr} {ns cs : Nat} {bd : Bd} {p0 : Parts} {names more : List ByteArray} {b : Bool} {e : Ending} (h : PInv w' wr K S ns cs bd p0 names) (hb : BareIs wr (w'.heap.size + 1) (w'.heap.size + 2) b names more e wx) (hK : K < w'.heap.size) : e = .returned (.bool b) ∧ ∃ ns2, PInv w' wx K S ns cs bd p0 ns2 ∧ (b = true → ns2 = names ++ more) := by
  obtain ⟨h1, h2, h3, ns2, h4, h5⟩ := hb
  obtain ⟨x, hx⟩ := h.found.boxed
  exact ⟨h1, ns2, ⟨h.below.trans (h2.mono (by omega)), kept_via h.kept h2 (by omega), h4, h.chk.kept9 hx (by omega) h2 h3, (h2.block _ (by omega)).trans h.box⟩, h5⟩
theorem PInv.check {w' wr wx : World} {K : Nat} {S : Option Addr} {ns cs : Nat} {bd : Bd} {p0 : Parts} {names : List ByteArray} {r : Int × Int} {e : Ending} (h : PInv w' wr K S ns cs bd p0 names) (hb : CheckIs wr K S ns cs bd r e wx) (hK : K < w'.heap.size) :
    e = .returned (.tuple #[.int .i64 r.1, .int .i64 r.2]) ∧ (∃ more, Below K w' wx ∧ OthersKept 53 (some K) w' wx ∧ ChkAt wx K S ns cs (bd ++ more) ∧ (r.2 = 0 → more = [])) ∧ (r.2 = 0 → PInv w' wx K S ns cs bd p0 names) := by
  obtain ⟨h1, h2, h3, more, h4, h5⟩ := hb
  refine ⟨h1, ⟨more, h.below.trans h2, h.kept.trans h3, h4, h5⟩, fun h0 => ⟨h.below.trans h2, h.kept.trans h3, h.found.kept33 (by omega) h2.size h3, ?_, row_kept33 h.box h3 (by omega) (by decide)⟩⟩
  rw [h5 h0, List.append_nil] at h4
  exact h4
end Go.Proofs.YtbnonccmlildnaaGreat
