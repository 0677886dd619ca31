/- put; Copy. -/
import Derived.Test.YtlgbepamnkfpjaaGreatDoorM18
import Derived.Test.YtlgbepamnkfpjaaGreatDoorM19
set_option linter.unusedSimpArgs false
set_option linter.unusedVariables false
set_option linter.unusedVariables false
set_option linter.unusedSimpArgs false
namespace Go.Proofs.YtlgbepamnkfpjaaGreatDoor
open Go.RowKit Go.Lib

theorem length_tws (l : List Tm) : l.length ≤ tws l := Nat.le_trans (length_tsizes l) (tsizes_tws l)
mutual
theorem tput_nil : ∀ t : Tm, tput [] [] t = t
  | .mk op name s n ts vs ps => by
    rw [tput_not (fun _ => rfl), tputs_nil ts, tputs_nil ps]
theorem tputs_nil : ∀ ts : List Tm, tputs [] [] ts = ts
  | [] => rfl
  | t :: ts => by rw [tputs, tput_nil t, tputs_nil ts]
end
/-- The replacements can be copied. -/
def CopyAll (vars : Bd) (l : List Tm) : Prop := ∀ (wi : World) (x : ByteArray) (y : Tm), instOf vars l x = some y → ∀ (pp : Parts) (W : World), TmV wi y (.agg pp.arr) → Below wi.heap.size wi W → Calls Tryz.prog 29 #[.agg pp.arr] W (PutIs W y)
set_option maxHeartbeats 1000000 in
theorem put_any {w0 : World} {t : Tm} {v : Value} (h : TmV w0 t v) {vars : Bd} {l : List Tm} (hcp : CopyAll vars l) : OkIn vars t → tw t ≤ 1000000 → PutOK w0 vars l t v := by
  induction h with
  | @mk op name sort n ts vs pat A V P ca cv cp f g hbd hl hf hL hv hV hp hg hP ihL ihP =>
    intro hok htw wi ip hi w hb hbi
    by_cases hy : ∃ y, op = 18 ∧ instOf vars l name = some y
    · obtain ⟨y, h18, hy⟩ := hy
      rw [tput_var h18 hy]
      exact put_var (p := ⟨op, name, sort, n, A, ts.length, ca, V, vs.length, cv, P, pat.length, cp⟩) hi h18 hy (hcp wi name y hy) w hbi
    · have hno : op = 18 → instOf vars l name = none := fun h18 => by
        cases h : instOf vars l name with
        | none => rfl
        | some y => exact absurd ⟨y, h18, h⟩ hy
      obtain ⟨hc, hsub, hsubp⟩ := hok.sub
      simp only [tw] at htw
      have l1 := length_tws ts
      have l2 := length_tws pat
      have hA := puts_any (c := ca) (vars := vars) (l := l) hf hL (fun j t ht => ihL j t ht (hsub j t ht) (by have := tws_mem ht; omega)) (by omega)
      have hB := puts_any (c := cp) (vars := vars) (l := l) hg hP (fun j t ht => ihP j t ht (hsubp j t ht) (by have := tws_mem ht; omega)) (by omega)
      by_cases h18 : op = 18
      · exact put_stepB hbd ⟨by omega, by omega, by omega⟩ hV hv h18 hc hno hA hB wi ip hi w hb hbi
      · exact put_stepA hbd ⟨by omega, by omega, by omega⟩ hV hv (by simpa using h18) hc hno hA hB wi ip hi w hb hbi
set_option maxRecDepth 100000 in
set_option maxHeartbeats 1000000 in
theorem Copy_any {w0 : World} {y : Tm} {v : Value} (h : TmV w0 y v) (htw : tw y ≤ 1000000) (W : World) (hb : Below w0.heap.size w0 W) : Calls Tryz.prog 29 #[v] W (PutIs W y) := by
  obtain ⟨p, rfl⟩ := h.parts
  obtain ⟨W1, hW1⟩ : ∃ W1, W1 = (W.alloc (.cells p.arr 26)).alloc (.cells #[.int .i64 0, .string ⟨#[]⟩, .int .i64 0, .string ⟨#[]⟩, .slice none 0 0, .slice none 0 0, .slice none 0 0] 26) := ⟨_, rfl⟩
  have HB : Hid (Below W.heap.size W W1) := Lib.hid (by rw [hW1]; exact (((Below.refl _ _).alloc (Nat.le_refl _) _).alloc (by simp) _))
  have HZ : Hid (W1.heap[W.heap.size + 1]? = some (.cells zeroP.arr 26 (0, 0))) := Lib.hid (by
    rw [hW1]
    have e : (W.alloc (.cells p.arr 26)).heap.size = W.heap.size + 1 := by simp
    have h : ((W.alloc (.cells p.arr 26)).alloc (.cells #[.int .i64 0, .string ⟨#[]⟩, .int .i64 0, .string ⟨#[]⟩, .slice none 0 0, .slice none 0 0, .slice none 0 0] 26)).heap[(W.alloc (.cells p.arr 26)).heap.size]? = some (.cells zeroP.arr 26 (0, 0)) := heap_alloc_new _ _
    rw [e] at h
    exact h)
  have HS : Hid (W1.heap.size = W.heap.size + 1 + 1) := Lib.hid (by rw [hW1]; simp)
  have Hp : Hid (Calls Tryz.prog 35 #[.agg zeroI.arr, .agg p.arr] W1 (PutIs W1 (tput [] [] y))) := Lib.hid (put_any h (vars := []) (l := []) (fun wi x y e => by cases e) (.inr rfl) htw W1 zeroI (insV_zero W1) W1 (hb.trans (HB.out.mono hb.size)) (Below.refl _ _))
  rw [tput_nil] at Hp
  obtain ⟨op, nm, so, n, A, la, ca, V2, lv, cvv, P, lp, cp⟩ := p
  clear h hb
  simp only [zeroI, IParts.arr, Parts.arr] at Hp hW1 ⊢
  have HW1 := Lib.hid hW1
  clear hW1
  go_enter Tryz.func29, Tryz.ntmps29
  go_wp2_with (go_at_call 35; rw [← HW1.out]; refine Calls.mono Hp.out ?_; rintro e w6 ⟨⟨op6, nm6, so6, n6, A6, la6, ca6, V6, lv6, cv6, P6, lp6, cp6⟩, rfl, ht6, hb6⟩; unfold Parts.arr; dsimp only; have Ht6 := Lib.hid ht6; have Hb6 := Lib.hid hb6; have HZ6 : Hid (w6.heap[W.heap.size + 1]? = some (.cells zeroP.arr 26 (0, 0))) := Lib.hid (below_keeps hb6 HZ.out); obtain ⟨z0, z1, z2, z3, z4, z5, z6⟩ := box_cells HZ6.out; have z7 : ∀ i, w6.frozen? ⟨W.heap.size + 1, i, none⟩ = false := (fun i => by simp [World.frozen?, HZ6.out]); clear ht6 hb6)
  refine bodyPost_ret (results_cell_row rfl _ _ (W.heap.size + 1) 26 (Parts.arr ⟨op6, nm6, so6, n6, A6, la6, ca6, V6, lv6, cv6, P6, lp6, cp6⟩) (0, 0) _ rfl (setT_row (p := ⟨op6, nm6, so6, n6, A6, la6, ca6, V6, lv6, cv6, P6, lp6, cp6⟩) HZ6.out) Tryz.underlying26 rfl size27) rfl ?_
  refine ⟨⟨op6, nm6, so6, n6, A6, la6, ca6, V6, lv6, cv6, P6, lp6, cp6⟩, rfl, Ht6.out.inc (inc_setT (k := W.heap.size + 1) (pp := ⟨op6, nm6, so6, n6, A6, la6, ca6, V6, lv6, cv6, P6, lp6, cp6⟩) fun b hb => ?_), setT_below (k := W.heap.size + 1) (HB.out.trans (Hb6.out.mono HB.out.size)) (by omega) ⟨op6, nm6, so6, n6, A6, la6, ca6, V6, lv6, cv6, P6, lp6, cp6⟩⟩
  simp only [decide_eq_true_eq] at hb ⊢
  have := HS.out
  omega
theorem instOf_mem {vars : Bd} {l : List Tm} {x : ByteArray} {y : Tm} (h : instOf vars l x = some y) : y ∈ l := by
  induction vars generalizing l with
  | nil => simp [instOf] at h
  | cons v vs ih =>
    cases l with
    | nil => simp [instOf] at h
    | cons t ts =>
      unfold instOf at h
      split at h
      · cases h
        simp
      · exact List.mem_cons_of_mem _ (ih h)
theorem copyAll {vars : Bd} {l : List Tm} (h : ∀ y ∈ l, tw y ≤ 1000000) : CopyAll vars l := fun wi x y hy pp W ht hW => Copy_any ht (h y (instOf_mem hy)) W hW
end Go.Proofs.YtlgbepamnkfpjaaGreatDoor

/- Inst. -/
set_option linter.unusedVariables false
set_option linter.unusedSimpArgs false
namespace Go.Proofs.YtlgbepamnkfpjaaGreatDoor
open Go.RowKit Go.Lib

def zeroTm : Tm := .mk 0 .empty 0 .empty [] [] []
theorem tmV_zero (w : World) : TmV w zeroTm (.agg zeroP.arr) := .mk (fun _ => .nilFunc) (fun _ => .nilFunc) ⟨by simp [i64], by simp [i64], by simp [ByteArray.size], by simp [ByteArray.size], by simp, by simp, by simp, by simp⟩ (by simp) (.inl rfl) (by simp) (by simp) (.inl rfl) (by simp) (.inl rfl) (by simp)
def instTop (vs : Bd) (l : List Tm) (body : Tm) : Tm × Int := if 50000 < tsize (tput vs l body) then (zeroTm, 34) else if 200 < tdepth (tput vs l body) then (zeroTm, 33) else (tput vs l body, 0)
def InstIs (w : World) (r : Tm × Int) (e : Ending) (w' : World) : Prop := ∃ pp : Parts, e = .returned (.tuple #[.agg pp.arr, .int .i64 r.2]) ∧ TmV w' r.1 (.agg pp.arr) ∧ Below w.heap.size w w'
/-- The cells that Inst reads again and again. -/
structure InstAt (W : World) (k b o : Nat) (A V L : Option Addr) (na ca nv cv nl cl : Nat) (p : Parts) : Prop where
  i0 : W.cell? ⟨k + 1 + 1, 0, none⟩ = some (.slice V nv cv)
  i1 : W.cell? ⟨k + 1 + 1, 1, none⟩ = some (.slice L nl cl)
  c4 : W.cell? ⟨k, 4, none⟩ = some (.slice A na ca)
  g0 : W.cell? ⟨b, o, none⟩ = some (.int .i64 p.op)
  g1 : W.cell? ⟨b, o + 1, none⟩ = some (.string p.name)
  g2 : W.cell? ⟨b, o + 2, none⟩ = some (.int .i64 p.sort)
  g3 : W.cell? ⟨b, o + 3, none⟩ = some (.string p.n)
  g4 : W.cell? ⟨b, o + 4, none⟩ = some (.slice p.A p.la p.ca)
  g5 : W.cell? ⟨b, o + 5, none⟩ = some (.slice p.V p.lv p.cv)
  g6 : W.cell? ⟨b, o + 6, none⟩ = some (.slice p.P p.lp p.cp)
theorem InstAt.below {W W' : World} {k b o : Nat} {A V L : Option Addr} {na ca nv cv nl cl : Nat} {p : Parts} (h : InstAt W k b o A V L na ca nv cv nl cl p) (hb : Below W.heap.size W W') : InstAt W' k b o A V L na ca nv cv nl cl p :=
  ⟨cell_of_below hb (Nat.le_refl _) h.i0, cell_of_below hb (Nat.le_refl _) h.i1, cell_of_below hb (Nat.le_refl _) h.c4, cell_of_below hb (Nat.le_refl _) h.g0, cell_of_below hb (Nat.le_refl _) h.g1, cell_of_below hb (Nat.le_refl _) h.g2, cell_of_below hb (Nat.le_refl _) h.g3, cell_of_below hb (Nat.le_refl _) h.g4, cell_of_below hb (Nat.le_refl _) h.g5, cell_of_below hb (Nat.le_refl _) h.g6⟩
theorem InstAt.drew {W : World} {k b o : Nat} {A V L : Option Addr} {na ca nv cv nl cl : Nat} {p : Parts} (h : InstAt W k b o A V L na ca nv cv nl cl p) : InstAt W.drew k b o A V L na ca nv cv nl cl p := ⟨h.i0, h.i1, h.c4, h.g0, h.g1, h.g2, h.g3, h.g4, h.g5, h.g6⟩
theorem InstAt.setT {W : World} {k b o : Nat} {A V L : Option Addr} {na ca nv cv nl cl : Nat} {p : Parts} (h : InstAt W k b o A V L na ca nv cv nl cl p) (hb : b < k) (q : Parts) : InstAt (setT W (k + 1) q) k b o A V L na ca nv cv nl cl p := by
  refine ⟨?_, ?_, ?_, ?_, ?_, ?_, ?_, ?_, ?_, ?_⟩
  · exact (setT_cell (by simp)).trans h.i0
  · exact (setT_cell (by simp)).trans h.i1
  · exact (setT_cell (by simp)).trans h.c4
  · exact (setT_cell (by show b ≠ k + 1; omega)).trans h.g0
  · exact (setT_cell (by show b ≠ k + 1; omega)).trans h.g1
  · exact (setT_cell (by show b ≠ k + 1; omega)).trans h.g2
  · exact (setT_cell (by show b ≠ k + 1; omega)).trans h.g3
  · exact (setT_cell (by show b ≠ k + 1; omega)).trans h.g4
  · exact (setT_cell (by show b ≠ k + 1; omega)).trans h.g5
  · exact (setT_cell (by show b ≠ k + 1; omega)).trans h.g6
theorem InstAt.all {W : World} {k b o : Nat} {A V L : Option Addr} {na ca nv cv nl cl : Nat} {p : Parts} (h : InstAt W k b o A V L na ca nv cv nl cl p) : W.cell? ⟨k + 1 + 1, 0, none⟩ = some (.slice V nv cv) ∧ W.cell? ⟨k + 1 + 1, 1, none⟩ = some (.slice L nl cl) ∧ W.cell? ⟨k, 4, none⟩ = some (.slice A na ca) ∧ W.cell? ⟨b, o, none⟩ = some (.int .i64 p.op) ∧ W.cell? ⟨b, o + 1, none⟩ = some (.string p.name) ∧ W.cell? ⟨b, o + 2, none⟩ = some (.int .i64 p.sort) ∧
    W.cell? ⟨b, o + 3, none⟩ = some (.string p.n) ∧ W.cell? ⟨b, o + 4, none⟩ = some (.slice p.A p.la p.ca) ∧ W.cell? ⟨b, o + 5, none⟩ = some (.slice p.V p.lv p.cv) ∧ W.cell? ⟨b, o + 6, none⟩ = some (.slice p.P p.lp p.cp) := ⟨h.i0, h.i1, h.c4, h.g0, h.g1, h.g2, h.g3, h.g4, h.g5, h.g6⟩
set_option maxRecDepth 100000 in
set_option maxHeartbeats 4000000 in
theorem Inst_any {w0 : World} {name n : ByteArray} {sort : Int} {body : Tm} {vs : Bd} {pat : List Tm} {v : Value} (h : TmV w0 (.mk 19 name sort n [body] vs pat) v) {l : List Tm} {L : Option Addr} {cl : Nat} {fl : Nat → Value} (hl : RowCells w0 L 7 l.length fl) (hlt : ∀ (j : Nat) (t : Tm), l[j]? = some t → TmV w0 t (fl j))
    (hlen : vs.length = l.length) (hll : l.length ≤ 1000000) (hok : OkIn vs body) (htw : tw body ≤ 1000000) (htl : ∀ y ∈ l, tw y ≤ 1000000) : ∀ w, Below w0.heap.size w0 w → Calls Tryz.prog 15 #[v, .slice L l.length cl] w (InstIs w (instTop vs l body)) := by
  cases h with
  | @mk _ _ _ _ _ _ _ A V P ca cv cp f g hbd hcl hf hL hv hV hp hg hP =>
    intro w hb
    have hbody := hL 0 body rfl
    obtain ⟨p, hpp⟩ := hbody.parts
    obtain ⟨b, o, rfl, g0, g1, g2, g3, g4, g5, g6⟩ := (hf.below hb).get (j := 0) (by simp) hpp
    simp only [Nat.zero_mul, Nat.add_zero] at g0 g1 g2 g3 g4 g5 g6
    rw [hpp] at hbody
    have hins : InsV w0 vs l ⟨V, vs.length, cv, L, l.length, cl⟩ := ⟨rfl, rfl, hlen, hll, hV, fl, hl, hlt⟩
    have Hsz : Hid (∀ W, Below w0.heap.size w0 W → Calls Tryz.prog 33 #[.agg #[.slice V vs.length cv, .slice L l.length cl], .agg #[.int .i64 p.op, .string p.name, .int .i64 p.sort, .string p.n, .slice p.A p.la p.ca, .slice p.V p.lv p.cv, .slice p.P p.lp p.cp], .int .i64 50000] W (SizeIs W (min (tsize (tput vs l body)) (50000 + 1)))) := Lib.hid (fun W hW => isize_any hbody hok w0 _ hins 50000 (by omega) W hW hW)
    have Hdp : Hid (∀ W, Below w0.heap.size w0 W → Calls Tryz.prog 34 #[.agg #[.slice V vs.length cv, .slice L l.length cl], .agg #[.int .i64 p.op, .string p.name, .int .i64 p.sort, .string p.n, .slice p.A p.la p.ca, .slice p.V p.lv p.cv, .slice p.P p.lp p.cp], .int .i64 200] W (DeepIs W (decide (200 < tdepth (tput vs l body))))) := Lib.hid (fun W hW => ideeper_any hbody hok w0 _ hins 200 (by omega) W hW hW)
    have Hput : Hid (∀ W, Below w0.heap.size w0 W → Calls Tryz.prog 35 #[.agg #[.slice V vs.length cv, .slice L l.length cl], .agg #[.int .i64 p.op, .string p.name, .int .i64 p.sort, .string p.n, .slice p.A p.la p.ca, .slice p.V p.lv p.cv, .slice p.P p.lp p.cp]] W (PutIs W (tput vs l body))) := Lib.hid (fun W hW => put_any hbody (copyAll htl) hok htw w0 _ hins W hW hW)
    have hA2 : Below w.heap.size w ((w.alloc (.cells #[.int .i64 19, .string name, .int .i64 sort, .string n, .slice (some ⟨b, o, none⟩) 1 ca, .slice V vs.length cv, .slice P pat.length cp] 26)).alloc (.cells #[.int .i64 0, .string ⟨#[]⟩, .int .i64 0, .string ⟨#[]⟩, .slice none 0 0, .slice none 0 0, .slice none 0 0] 26)) := ((Below.refl _ _).alloc (Nat.le_refl _) _).alloc (by simp) _
    have HB : Hid (Below w.heap.size w (((w.alloc (.cells #[.int .i64 19, .string name, .int .i64 sort, .string n, .slice (some ⟨b, o, none⟩) 1 ca, .slice V vs.length cv, .slice P pat.length cp] 26)).alloc (.cells #[.int .i64 0, .string ⟨#[]⟩, .int .i64 0, .string ⟨#[]⟩, .slice none 0 0, .slice none 0 0, .slice none 0 0] 26)).alloc (.cells #[.slice V vs.length cv, .slice L l.length cl] 64))) := Lib.hid (hA2.alloc (by simp; omega) _)
    have HT : Hid (InstAt (((w.alloc (.cells #[.int .i64 19, .string name, .int .i64 sort, .string n, .slice (some ⟨b, o, none⟩) 1 ca, .slice V vs.length cv, .slice P pat.length cp] 26)).alloc (.cells #[.int .i64 0, .string ⟨#[]⟩, .int .i64 0, .string ⟨#[]⟩, .slice none 0 0, .slice none 0 0, .slice none 0 0] 26)).alloc (.cells #[.slice V vs.length cv, .slice L l.length cl] 64)) w.heap.size b o (some ⟨b, o, none⟩) V L 1 ca vs.length cv l.length cl p) := Lib.hid (by
      have hI : (((w.alloc (.cells #[.int .i64 19, .string name, .int .i64 sort, .string n, .slice (some ⟨b, o, none⟩) 1 ca, .slice V vs.length cv, .slice P pat.length cp] 26)).alloc (.cells #[.int .i64 0, .string ⟨#[]⟩, .int .i64 0, .string ⟨#[]⟩, .slice none 0 0, .slice none 0 0, .slice none 0 0] 26)).alloc (.cells #[.slice V vs.length cv, .slice L l.length cl] 64)).heap[w.heap.size + 1 + 1]? = some (.cells (IParts.arr ⟨V, vs.length, cv, L, l.length, cl⟩) 64 (0, 0)) := by simpa [IParts.arr] using heap_alloc_new ((w.alloc (.cells #[.int .i64 19, .string name, .int .i64 sort, .string n, .slice (some ⟨b, o, none⟩) 1 ca, .slice V vs.length cv, .slice P pat.length cp] 26)).alloc (.cells #[.int .i64 0, .string ⟨#[]⟩, .int .i64 0, .string ⟨#[]⟩, .slice none 0 0, .slice none 0 0, .slice none 0 0] 26)) (.cells #[.slice V vs.length cv, .slice L l.length cl] 64)
      have hT : (((w.alloc (.cells #[.int .i64 19, .string name, .int .i64 sort, .string n, .slice (some ⟨b, o, none⟩) 1 ca, .slice V vs.length cv, .slice P pat.length cp] 26)).alloc (.cells #[.int .i64 0, .string ⟨#[]⟩, .int .i64 0, .string ⟨#[]⟩, .slice none 0 0, .slice none 0 0, .slice none 0 0] 26)).alloc (.cells #[.slice V vs.length cv, .slice L l.length cl] 64)).heap[w.heap.size]? = some (.cells (Parts.arr ⟨19, name, sort, n, some ⟨b, o, none⟩, 1, ca, V, vs.length, cv, P, pat.length, cp⟩) 26 (0, 0)) := by rw [Below.heap_alloc _ _ _ (by simp; omega), Below.heap_alloc _ _ _ (by simp)]; exact heap_alloc_new _ _
      have hb3 : Below w.heap.size w (((w.alloc (.cells #[.int .i64 19, .string name, .int .i64 sort, .string n, .slice (some ⟨b, o, none⟩) 1 ca, .slice V vs.length cv, .slice P pat.length cp] 26)).alloc (.cells #[.int .i64 0, .string ⟨#[]⟩, .int .i64 0, .string ⟨#[]⟩, .slice none 0 0, .slice none 0 0, .slice none 0 0] 26)).alloc (.cells #[.slice V vs.length cv, .slice L l.length cl] 64)) := hA2.alloc (by simp; omega) _
      exact ⟨(boxI_cells hI).1, (boxI_cells hI).2, (box_cells hT).2.2.2.2.1, cell_of_below hb3 (Nat.le_refl _) g0, cell_of_below hb3 (Nat.le_refl _) g1, cell_of_below hb3 (Nat.le_refl _) g2, cell_of_below hb3 (Nat.le_refl _) g3, cell_of_below hb3 (Nat.le_refl _) g4, cell_of_below hb3 (Nat.le_refl _) g5, cell_of_below hb3 (Nat.le_refl _) g6⟩)
    have HZ : Hid ((((w.alloc (.cells #[.int .i64 19, .string name, .int .i64 sort, .string n, .slice (some ⟨b, o, none⟩) 1 ca, .slice V vs.length cv, .slice P pat.length cp] 26)).alloc (.cells #[.int .i64 0, .string ⟨#[]⟩, .int .i64 0, .string ⟨#[]⟩, .slice none 0 0, .slice none 0 0, .slice none 0 0] 26)).alloc (.cells #[.slice V vs.length cv, .slice L l.length cl] 64)).heap[w.heap.size + 1]? = some (.cells zeroP.arr 26 (0, 0))) := Lib.hid (by
      rw [Below.heap_alloc _ _ _ (by simp)]
      have e : (w.alloc (.cells #[.int .i64 19, .string name, .int .i64 sort, .string n, .slice (some ⟨b, o, none⟩) 1 ca, .slice V vs.length cv, .slice P pat.length cp] 26)).heap.size = w.heap.size + 1 := by simp
      have h : ((w.alloc (.cells #[.int .i64 19, .string name, .int .i64 sort, .string n, .slice (some ⟨b, o, none⟩) 1 ca, .slice V vs.length cv, .slice P pat.length cp] 26)).alloc (.cells #[.int .i64 0, .string ⟨#[]⟩, .int .i64 0, .string ⟨#[]⟩, .slice none 0 0, .slice none 0 0, .slice none 0 0] 26)).heap[(w.alloc (.cells #[.int .i64 19, .string name, .int .i64 sort, .string n, .slice (some ⟨b, o, none⟩) 1 ca, .slice V vs.length cv, .slice P pat.length cp] 26)).heap.size]? = some (.cells zeroP.arr 26 (0, 0)) := heap_alloc_new _ _
      rw [e] at h
      exact h)
    have Hb := Lib.hid hb
    have HD3 : Hid (Below w0.heap.size w0 (((w.alloc (.cells #[.int .i64 19, .string name, .int .i64 sort, .string n, .slice (some ⟨b, o, none⟩) 1 ca, .slice V vs.length cv, .slice P pat.length cp] 26)).alloc (.cells #[.int .i64 0, .string ⟨#[]⟩, .int .i64 0, .string ⟨#[]⟩, .slice none 0 0, .slice none 0 0, .slice none 0 0] 26)).alloc (.cells #[.slice V vs.length cv, .slice L l.length cl] 64)).drew) := Lib.hid (hb.trans (HB.out.mono hb.size)).drew
    have Hbl : Hid (b < w.heap.size) := Lib.hid (World.block_lt_of_cell? w ⟨b, o, none⟩ g0)
    obtain ⟨r, Hr⟩ : ∃ r, Hid (instTop vs l body = r) := ⟨_, Lib.hid rfl⟩
    clear hpp g0 g1 g2 g3 g4 g5 g6 hbody hins hA2 hf hL hV hg hP hl hlt hll hok htw htl hb hbd hcl hv hp
    obtain ⟨t, Ht⟩ : ∃ t, Hid (tput vs l body = t) := ⟨_, Lib.hid rfl⟩
    rw [Ht.out] at Hsz Hdp Hput
    have Hr2 : Hid (r = if 50000 < tsize t then (zeroTm, 34) else if 200 < tdepth t then (zeroTm, 33) else (t, 0)) := Lib.hid (by rw [← Hr.out, ← Ht.out]; rfl)
    rw [Hr.out]
    simp only [List.length_singleton]
    clear Hr Ht
    generalize vs.length = nv at *
    generalize l.length = nl at *
    subst hlen
    obtain ⟨m, Hm⟩ : ∃ m, Hid (min (tsize t) (50000 + 1) = m) := ⟨_, Lib.hid rfl⟩
    rw [Hm.out] at Hsz
    by_cases hs : 50000 < tsize t
    · have Hr : Hid (r = (zeroTm, 34)) := Lib.hid (by rw [Hr2.out, if_pos hs])
      have hm : (50000 : Int) < (m : Int) := by have := Hm.out; omega
      clear Hr2 hs Hdp Hput
      go_enter Tryz.func15, Tryz.ntmps15
      go_wp2_with fail
      go_region_held3 (fun w' => w'.cell? ⟨w.heap.size + 1 + 1, 0, none⟩ = some (.slice V nv cv) ∧ w'.cell? ⟨w.heap.size + 1 + 1, 1, none⟩ = some (.slice L nv cl) ∧ w'.cell? ⟨w.heap.size, 4, none⟩ = some (.slice (some ⟨b, o, none⟩) 1 ca) ∧ w'.cell? ⟨b, o, none⟩ = some (.int .i64 p.op) ∧ w'.cell? ⟨b, o + 1, none⟩ = some (.string p.name) ∧ w'.cell? ⟨b, o + 2, none⟩ = some (.int .i64 p.sort) ∧
          w'.cell? ⟨b, o + 3, none⟩ = some (.string p.n) ∧ w'.cell? ⟨b, o + 4, none⟩ = some (.slice p.A p.la p.ca) ∧ w'.cell? ⟨b, o + 5, none⟩ = some (.slice p.V p.lv p.cv) ∧ w'.cell? ⟨b, o + 6, none⟩ = some (.slice p.P p.lp p.cp))
        (first
          | (with_reducible exact HT.out.drew.all)
          | (with_reducible exact HT5.out.all))
        ((go_at_call 33; (with_reducible refine Calls.mono (Hsz.out _ HD3.out) ?_); rintro e w5 ⟨rfl, hb5⟩
          have H5 : Hid (Below w.heap.size w w5) := Lib.hid (HB.out.drew.trans (hb5.mono HB.out.drew.size))
          have HT5 := Lib.hid (HT.out.drew.below hb5)
          have HZ5 : Hid (w5.heap[w.heap.size + 1]? = some (.cells zeroP.arr 26 (0, 0))) := Lib.hid (below_keeps hb5 HZ.out)
          clear hb5))
      obtain ⟨z0, z1, z2, z3, z4, z5, z6⟩ := box_cells HZ5.out
      have z7 : ∀ i, w5.frozen? ⟨w.heap.size + 1, i, none⟩ = false := (fun i => by simp [World.frozen?, HZ5.out])
      go_wp2_with fail
      refine bodyPost_ret (results_two rfl _ _ (w.heap.size + 1) 26 (Parts.arr zeroP) (0, 0) _ rfl (setT_row (p := zeroP) HZ5.out) Tryz.underlying26 rfl size27) rfl ?_
      refine ⟨zeroP, by rw [Hr.out]; rfl, ?_, setT_below (k := w.heap.size + 1) H5.out (by omega) zeroP⟩
      rw [Hr.out]
      exact tmV_zero _
    · have hm : ¬ (50000 : Int) < (m : Int) := by have := Hm.out; omega
      by_cases hd : 200 < tdepth t
      · have Hr : Hid (r = (zeroTm, 33)) := Lib.hid (by rw [Hr2.out, if_neg hs, if_pos hd])
        rw [decide_eq_true hd] at Hdp
        clear Hr2 hs hd Hput
        go_enter Tryz.func15, Tryz.ntmps15
        go_wp2_with fail
        go_region_held3 (fun w' => w'.cell? ⟨w.heap.size + 1 + 1, 0, none⟩ = some (.slice V nv cv) ∧ w'.cell? ⟨w.heap.size + 1 + 1, 1, none⟩ = some (.slice L nv cl) ∧ w'.cell? ⟨w.heap.size, 4, none⟩ = some (.slice (some ⟨b, o, none⟩) 1 ca) ∧ w'.cell? ⟨b, o, none⟩ = some (.int .i64 p.op) ∧ w'.cell? ⟨b, o + 1, none⟩ = some (.string p.name) ∧ w'.cell? ⟨b, o + 2, none⟩ = some (.int .i64 p.sort) ∧
            w'.cell? ⟨b, o + 3, none⟩ = some (.string p.n) ∧ w'.cell? ⟨b, o + 4, none⟩ = some (.slice p.A p.la p.ca) ∧ w'.cell? ⟨b, o + 5, none⟩ = some (.slice p.V p.lv p.cv) ∧ w'.cell? ⟨b, o + 6, none⟩ = some (.slice p.P p.lp p.cp))
          (first
            | (with_reducible exact HT.out.drew.all)
            | (with_reducible exact HT5.out.all))
          ((go_at_call 33; (with_reducible refine Calls.mono (Hsz.out _ HD3.out) ?_); rintro e w5 ⟨rfl, hb5⟩
            have H5 : Hid (Below w.heap.size w w5) := Lib.hid (HB.out.drew.trans (hb5.mono HB.out.drew.size))
            have HT5 := Lib.hid (HT.out.drew.below hb5)
            have HZ5 : Hid (w5.heap[w.heap.size + 1]? = some (.cells zeroP.arr 26 (0, 0))) := Lib.hid (below_keeps hb5 HZ.out)
            clear hb5))
        go_wp2_with fail
        go_region_held3 (fun w' => w'.cell? ⟨w.heap.size + 1 + 1, 0, none⟩ = some (.slice V nv cv) ∧ w'.cell? ⟨w.heap.size + 1 + 1, 1, none⟩ = some (.slice L nv cl) ∧ w'.cell? ⟨w.heap.size, 4, none⟩ = some (.slice (some ⟨b, o, none⟩) 1 ca) ∧ w'.cell? ⟨b, o, none⟩ = some (.int .i64 p.op) ∧ w'.cell? ⟨b, o + 1, none⟩ = some (.string p.name) ∧ w'.cell? ⟨b, o + 2, none⟩ = some (.int .i64 p.sort) ∧
            w'.cell? ⟨b, o + 3, none⟩ = some (.string p.n) ∧ w'.cell? ⟨b, o + 4, none⟩ = some (.slice p.A p.la p.ca) ∧ w'.cell? ⟨b, o + 5, none⟩ = some (.slice p.V p.lv p.cv) ∧ w'.cell? ⟨b, o + 6, none⟩ = some (.slice p.P p.lp p.cp))
          (first
            | (with_reducible exact HT5.out.drew.all)
            | (with_reducible exact HT6.out.all))
          ((go_at_call 34; (with_reducible refine Calls.mono (Hdp.out _ (Hb.out.trans (H5.out.mono Hb.out.size)).drew) ?_); rintro e w6 ⟨rfl, hb6⟩
            have H6 : Hid (Below w.heap.size w w6) := Lib.hid (H5.out.drew.trans (hb6.mono H5.out.drew.size))
            have HT6 := Lib.hid (HT5.out.drew.below hb6)
            have HZ6 : Hid (w6.heap[w.heap.size + 1]? = some (.cells zeroP.arr 26 (0, 0))) := Lib.hid (below_keeps hb6 HZ5.out)
            clear hb6))
        obtain ⟨z0, z1, z2, z3, z4, z5, z6⟩ := box_cells HZ6.out
        have z7 : ∀ i, w6.frozen? ⟨w.heap.size + 1, i, none⟩ = false := (fun i => by simp [World.frozen?, HZ6.out])
        go_wp2_with fail
        refine bodyPost_ret (results_two rfl _ _ (w.heap.size + 1) 26 (Parts.arr zeroP) (0, 0) _ rfl (setT_row (p := zeroP) HZ6.out) Tryz.underlying26 rfl size27) rfl ?_
        refine ⟨zeroP, by rw [Hr.out]; rfl, ?_, setT_below (k := w.heap.size + 1) H6.out (by omega) zeroP⟩
        rw [Hr.out]
        exact tmV_zero _
      · have Hr : Hid (r = (t, 0)) := Lib.hid (by rw [Hr2.out, if_neg hs, if_neg hd])
        rw [decide_eq_false hd] at Hdp
        clear Hr2 hs hd
        go_enter Tryz.func15, Tryz.ntmps15
        go_wp2_with fail
        go_region_held3 (fun w' => w'.cell? ⟨w.heap.size + 1 + 1, 0, none⟩ = some (.slice V nv cv) ∧ w'.cell? ⟨w.heap.size + 1 + 1, 1, none⟩ = some (.slice L nv cl) ∧ w'.cell? ⟨w.heap.size, 4, none⟩ = some (.slice (some ⟨b, o, none⟩) 1 ca) ∧ w'.cell? ⟨b, o, none⟩ = some (.int .i64 p.op) ∧ w'.cell? ⟨b, o + 1, none⟩ = some (.string p.name) ∧ w'.cell? ⟨b, o + 2, none⟩ = some (.int .i64 p.sort) ∧
            w'.cell? ⟨b, o + 3, none⟩ = some (.string p.n) ∧ w'.cell? ⟨b, o + 4, none⟩ = some (.slice p.A p.la p.ca) ∧ w'.cell? ⟨b, o + 5, none⟩ = some (.slice p.V p.lv p.cv) ∧ w'.cell? ⟨b, o + 6, none⟩ = some (.slice p.P p.lp p.cp))
          (first
            | (with_reducible exact HT.out.drew.all)
            | (with_reducible exact HT5.out.all))
          ((go_at_call 33; (with_reducible refine Calls.mono (Hsz.out _ HD3.out) ?_); rintro e w5 ⟨rfl, hb5⟩
            have H5 : Hid (Below w.heap.size w w5) := Lib.hid (HB.out.drew.trans (hb5.mono HB.out.drew.size))
            have HT5 := Lib.hid (HT.out.drew.below hb5)
            have HZ5 : Hid (w5.heap[w.heap.size + 1]? = some (.cells zeroP.arr 26 (0, 0))) := Lib.hid (below_keeps hb5 HZ.out)
            clear hb5))
        go_wp2_with fail
        go_region_held3 (fun w' => w'.cell? ⟨w.heap.size + 1 + 1, 0, none⟩ = some (.slice V nv cv) ∧ w'.cell? ⟨w.heap.size + 1 + 1, 1, none⟩ = some (.slice L nv cl) ∧ w'.cell? ⟨w.heap.size, 4, none⟩ = some (.slice (some ⟨b, o, none⟩) 1 ca) ∧ w'.cell? ⟨b, o, none⟩ = some (.int .i64 p.op) ∧ w'.cell? ⟨b, o + 1, none⟩ = some (.string p.name) ∧ w'.cell? ⟨b, o + 2, none⟩ = some (.int .i64 p.sort) ∧
            w'.cell? ⟨b, o + 3, none⟩ = some (.string p.n) ∧ w'.cell? ⟨b, o + 4, none⟩ = some (.slice p.A p.la p.ca) ∧ w'.cell? ⟨b, o + 5, none⟩ = some (.slice p.V p.lv p.cv) ∧ w'.cell? ⟨b, o + 6, none⟩ = some (.slice p.P p.lp p.cp))
          (first
            | (with_reducible exact HT5.out.drew.all)
            | (with_reducible exact HT6.out.all))
          ((go_at_call 34; (with_reducible refine Calls.mono (Hdp.out _ (Hb.out.trans (H5.out.mono Hb.out.size)).drew) ?_); rintro e w6 ⟨rfl, hb6⟩
            have H6 : Hid (Below w.heap.size w w6) := Lib.hid (H5.out.drew.trans (hb6.mono H5.out.drew.size))
            have HT6 := Lib.hid (HT5.out.drew.below hb6)
            have HZ6 : Hid (w6.heap[w.heap.size + 1]? = some (.cells zeroP.arr 26 (0, 0))) := Lib.hid (below_keeps hb6 HZ5.out)
            clear hb6))
        go_wp2_with fail
        go_region_held3 (fun w' => w'.cell? ⟨w.heap.size + 1 + 1, 0, none⟩ = some (.slice V nv cv) ∧ w'.cell? ⟨w.heap.size + 1 + 1, 1, none⟩ = some (.slice L nv cl) ∧ w'.cell? ⟨w.heap.size, 4, none⟩ = some (.slice (some ⟨b, o, none⟩) 1 ca) ∧ w'.cell? ⟨b, o, none⟩ = some (.int .i64 p.op) ∧ w'.cell? ⟨b, o + 1, none⟩ = some (.string p.name) ∧ w'.cell? ⟨b, o + 2, none⟩ = some (.int .i64 p.sort) ∧
            w'.cell? ⟨b, o + 3, none⟩ = some (.string p.n) ∧ w'.cell? ⟨b, o + 4, none⟩ = some (.slice p.A p.la p.ca) ∧ w'.cell? ⟨b, o + 5, none⟩ = some (.slice p.V p.lv p.cv) ∧ w'.cell? ⟨b, o + 6, none⟩ = some (.slice p.P p.lp p.cp))
          (first
            | (with_reducible exact HT6.out.drew.all)
            | (with_reducible exact HT7.out.all)
            | (with_reducible exact HS7))
          ((go_at_call 35; (with_reducible refine Calls.mono (Hput.out _ (Hb.out.trans (H6.out.mono Hb.out.size)).drew) ?_); rintro e w7 ⟨⟨op7, nm7, so7, n7, A7, la7, ca7, V7, lv7, cv7, P7, lp7, cp7⟩, rfl, ht7, hb7⟩
            unfold Parts.arr
            dsimp only
            have H7 : Hid (Below w.heap.size w w7) := Lib.hid (H6.out.drew.trans (hb7.mono H6.out.drew.size))
            have HT7 := Lib.hid (HT6.out.drew.below hb7)
            have HZ7 : Hid (w7.heap[w.heap.size + 1]? = some (.cells zeroP.arr 26 (0, 0))) := Lib.hid (below_keeps hb7 HZ6.out)
            have Ht7 := Lib.hid ht7
            obtain ⟨z0, z1, z2, z3, z4, z5, z6⟩ := box_cells HZ7.out
            have z7 : ∀ i, w7.frozen? ⟨w.heap.size + 1, i, none⟩ = false := (fun i => by simp [World.frozen?, HZ7.out])
            have HS7 := (HT7.out.setT Hbl.out ⟨op7, nm7, so7, n7, A7, la7, ca7, V7, lv7, cv7, P7, lp7, cp7⟩).all
            unfold setT at HS7
            dsimp only at HS7
            clear hb7 ht7))
        go_wp2_with fail
        refine bodyPost_ret (results_two rfl _ _ (w.heap.size + 1) 26 (Parts.arr ⟨op7, nm7, so7, n7, A7, la7, ca7, V7, lv7, cv7, P7, lp7, cp7⟩) (0, 0) _ rfl (setT_row (p := ⟨op7, nm7, so7, n7, A7, la7, ca7, V7, lv7, cv7, P7, lp7, cp7⟩) HZ7.out) Tryz.underlying26 rfl size27) rfl ?_
        refine ⟨⟨op7, nm7, so7, n7, A7, la7, ca7, V7, lv7, cv7, P7, lp7, cp7⟩, by rw [Hr.out]; rfl, ?_, setT_below (k := w.heap.size + 1) H7.out (by omega) ⟨op7, nm7, so7, n7, A7, la7, ca7, V7, lv7, cv7, P7, lp7, cp7⟩⟩
        rw [Hr.out]
        exact (Ht7.out.inc (inc_setT (q := fun _ => true) (k := w.heap.size + 1) (pp := ⟨op7, nm7, so7, n7, A7, la7, ca7, V7, lv7, cv7, P7, lp7, cp7⟩) (fun b hb => ⟨rfl, by simp only [decide_eq_true_eq] at hb; have := H6.out.size; have := (Array.getElem?_eq_some_iff.1 HZ6.out).1; show b ≠ w.heap.size + 1; simp at hb; omega⟩))).inc (inc_only _ _)
end Go.Proofs.YtlgbepamnkfpjaaGreatDoor
