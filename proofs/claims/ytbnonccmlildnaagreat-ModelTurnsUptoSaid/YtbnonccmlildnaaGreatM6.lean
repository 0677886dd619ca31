/- num.Parse: which texts are numbers. -/
import Derived.Test.YtbnonccmlildnaaGreatM5
import Derived.Lib.OthersKept
set_option linter.unusedSimpArgs false
set_option linter.unusedVariables false
namespace Go.Proofs.YtbnonccmlildnaaGreat
open Go.RowKit

def digAt (s : ByteArray) (i : Nat) : Bool := match s.data[i]? with | some c => digitB c.toNat | none => false
def digsTo (s : ByteArray) : Nat → Bool
  | 0 => true
  | k + 1 => digsTo s k && digAt s k
theorem digsTo_false {s : ByteArray} {k n : Nat} (hk : k < n) (h : digAt s k = false) : digsTo s n = false := by
  induction n with
  | zero => omega
  | succ n ih =>
    unfold digsTo
    by_cases e : k = n
    · subst e; rw [h, Bool.and_false]
    · rw [ih (by omega), Bool.false_and]
theorem dig_class (s : ByteArray) (pos : Nat) (hp : pos < s.size) : ∃ r wd : Nat, Utf8.decode s pos = (r, wd) ∧ ((digAt s pos = true ∧ wd = 1 ∧ 48 ≤ r ∧ r ≤ 57) ∨ (digAt s pos = false ∧ (r < 48 ∨ 57 < r))) := by
  have hget : s.data[pos]? = some (s[pos]'hp) := Array.getElem?_eq_getElem hp
  have hok : digAt s pos = digitB (s[pos]'hp).toNat := by unfold digAt; rw [hget]
  by_cases ha : (s[pos]'hp).toNat < 128
  · refine ⟨(s[pos]'hp).toNat, 1, decode_ascii s pos hp ha, ?_⟩
    rw [hok]
    generalize (s[pos]'hp).toNat = c at *
    cases h : digitB c with
    | true =>
      refine .inl ⟨rfl, rfl, ?_⟩
      simp [digitB] at h
      omega
    | false =>
      refine .inr ⟨rfl, ?_⟩
      simp [digitB] at h
      omega
  · refine ⟨(Utf8.decode s pos).1, (Utf8.decode s pos).2, rfl, .inr ⟨?_, ?_⟩⟩
    · rw [hok]
      generalize (s[pos]'hp).toNat = c at *
      simp [digitB]
      omega
    · have := (decode_high s pos hp (by omega)).1
      omega
/-- What a parse tells of its text. -/
def ParsedIs (w : World) (b : Bool) (e : Ending) (w' : World) : Prop := ∃ A k c g, e = .returned (.tuple #[.agg #[.slice A k c, .bool g], .bool b]) ∧ Below w.heap.size w w'
theorem results_two {P : Program} {fn : Func} {p u : Tmp} {ty : TypeId} (h : fn.results = #[.cell p ty, .tmp u]) (tmps : Array Value) (w : World) (g : Nat) (t : TypeId) (cs : Array Value) (fr : Nat × Nat) (d : TypeDesc)
    (hp : tmps.getD p undef = .pointer (some ⟨g, 0, none⟩)) (hg : w.heap[g]? = some (.cells cs t fr))
    (hu : P.underlying ty = some d) (hd : (match d with | .struct _ | .array _ _ => true | _ => false) = true) (hi : (P.info? ty).map (·.size) = some cs.size) :
    (results fn tmps).run P w = .ok (.tuple #[.agg cs, tmps.getD u undef]) w := by
  rw [results_cell_tmp h, hp]
  simp [asAddr, run_loadVar_row w g t ty cs fr d hg hu hd hi]

theorem row_facts {w : World} {g : Nat} {a b : Value} {t : TypeId} (h : w.heap[g]? = some (.cells #[a, b] t (0, 0))) : w.frozen? ⟨g, 0, none⟩ = false ∧ w.frozen? ⟨g, 1, none⟩ = false ∧ w.cell? ⟨g, 0, none⟩ = some a ∧ w.cell? ⟨g, 1, none⟩ = some b :=
  ⟨frozen_of_row w g 0 _ t h, frozen_of_row w g 1 _ t h, by rw [cell_of_row w g 0 _ t (0, 0) h]; rfl, by rw [cell_of_row w g 1 _ t (0, 0) h]; rfl⟩

set_option maxRecDepth 100000 in
set_option maxHeartbeats 1000000 in
theorem parse_empty (s : ByteArray) (w : World) (h0 : s.size = 0) : Calls Tryz.prog 33 #[.string s] w (ParsedIs w false) := by
  have he : (s.toList == []) = true := by rw [empty_toList, decide_eq_true h0]
  go_enter Tryz.func33, Tryz.ntmps33
  go_wp2_with fail
  refine bodyPost_ret (results_two rfl _ _ w.heap.size 89 #[.slice none 0 0, .bool false] (0, 0) _ rfl (heap_alloc_new _ _) Tryz.underlying89 rfl size101) rfl ?_
  exact ⟨_, _, _, _, rfl, (Below.refl _ _).alloc (Nat.le_refl _) _⟩
theorem Digs.iterAt {w : World} {base n k : Nat} {v : Value} (h : Digs w base n v) (hk : k < base) (s : ByteArray) (p : Nat) : Digs (w.iterAt k s p) base n v := by
  obtain ⟨xs, h1, h2⟩ := h
  exact ⟨xs, ownsRow_iterAt h1 hk s p, h2⟩

set_option maxRecDepth 100000 in
set_option maxHeartbeats 1000000 in
theorem parse_plain (s : ByteArray) (w : World) (h0 : 0 < s.size) (hs : s.size ≤ 1000000) (h45 : (((s[0]'h0).toNat : Int) == 45) = false) (hz : (((s[0]'h0).toNat : Int) == 48) = false) : Calls Tryz.prog 33 #[.string s] w (ParsedIs w (digsTo s s.size)) := by
  have he : (s.toList == []) = false := by rw [empty_toList, decide_eq_false (by omega)]
  have hb0 : Below (w.heap.size + 1) (w.alloc (.cells #[.slice none 0 0, .bool false] 89)) ((w.alloc (.cells #[.slice none 0 0, .bool false] 89)).iter s 0) := by
    have := below_iter (w.alloc (.cells #[.slice none 0 0, .bool false] 89)) s 0
    rwa [show (w.alloc (.cells #[.slice none 0 0, .bool false] 89)).heap.size = w.heap.size + 1 by simp] at this
  have hi0 : ((w.alloc (.cells #[.slice none 0 0, .bool false] 89)).iter s 0).heap[w.heap.size + 1]? = some (.stringIter s 0) := by
    have := World.iter_heap (w.alloc (.cells #[.slice none 0 0, .bool false] 89)) s 0
    rwa [show (w.alloc (.cells #[.slice none 0 0, .bool false] 89)).heap.size = w.heap.size + 1 by simp] at this
  have Hb0 := Lib.hid hb0
  have Hi0 := Lib.hid hi0
  clear hb0 hi0
  go_enter Tryz.func33, Tryz.ntmps33
  go_wp2_with fail
  go_loopw [6, 7, 8] (fun lv nv dv wr => ∃ (pos n dg : Nat) (m : Int), n ≤ pos ∧ nv = .int .u64 m ∧ dv = .int .i64 dg ∧ dg ≤ 8 ∧ pos ≤ s.size ∧ Hid (Digs wr (w.heap.size + 1 + 1) n lv) ∧ Hid (wr.heap[w.heap.size + 1]? = some (.stringIter s pos)) ∧ Hid (digsTo s pos = true) ∧ Hid (Below (w.heap.size + 1) (w.alloc (.cells #[.slice none 0 0, .bool false] 89)) wr)) (fun _ _ _ wr => s.size - wr.iterPos (w.heap.size + 1))
  case atStart => exact ⟨0, 0, 0, 0, Nat.le_refl _, rfl, rfl, by omega, Nat.zero_le _, Lib.hid (Digs.nil _ _), Hi0, Lib.hid rfl, Hb0⟩
  case round =>
    clear Hb0 Hi0
    obtain ⟨pos, n, dg, m, hn, rfl, rfl, hdg, hpos, Hd, Hk, Hok, Hb⟩ := hrel
    by_cases hp : pos < s.size
    · have hnx : ∀ ty, (Instr.next (.pointer (some ⟨w.heap.size + 1, 0, none⟩)) true ty).run Tryz.prog wr = _ := fun ty => Lib.run_next_any_at wr (w.heap.size + 1) s pos ty Hk.out hp
      obtain ⟨r, wd, hdec, hcls⟩ := dig_class s pos hp
      rw [hdec] at hnx
      simp only at hnx
      clear hdec
      have Hm : Hid (wr.iterPos (w.heap.size + 1) = pos) := Lib.hid (iterPos_of Hk.out)
      have Hd2 := Lib.hid (Hd.out.iterAt (k := w.heap.size + 1) (by omega) s (pos + wd))
      have Hk2 := Lib.hid (Lib.iterAt_heap wr (w.heap.size + 1) s pos (pos + wd) Hk.out)
      have Hb2 := Lib.hid (Lib.below_iterAt Hb.out (Nat.le_refl _) s (pos + wd))
      generalize wr.iterAt (w.heap.size + 1) s (pos + wd) = wv at *
      have Hrow : Hid (wv.heap[w.heap.size]? = some (.cells #[.slice none 0 0, .bool false] 89 (0, 0))) := Lib.hid ((Hb2.out.block w.heap.size (by omega)).trans (heap_alloc_new w _))
      have hf0 : wv.frozen? ⟨w.heap.size, 0, none⟩ = false := frozen_of_row wv w.heap.size 0 _ 89 Hrow.out
      have hf1 : wv.frozen? ⟨w.heap.size, 1, none⟩ = false := frozen_of_row wv w.heap.size 1 _ 89 Hrow.out
      have hc0 : wv.cell? ⟨w.heap.size, 0, none⟩ = some (.slice none 0 0) := by rw [cell_of_row wv w.heap.size 0 _ 89 (0, 0) Hrow.out]; rfl
      have hc1 : wv.cell? ⟨w.heap.size, 1, none⟩ = some (.bool false) := by rw [cell_of_row wv w.heap.size 1 _ 89 (0, 0) Hrow.out]; rfl
      rcases hcls with ⟨h1, rfl, c1, c2⟩ | ⟨h1, hc⟩
      · have H1 := Lib.hid h1
        have Hok2 : Hid (digsTo s (pos + 1) = true) := Lib.hid (by unfold digsTo; rw [Hok.out, h1]; rfl)
        have Hsz : Hid (w.heap.size + 1 + 1 ≤ wv.heap.size) := Lib.hid (Array.getElem?_eq_some_iff.1 Hk2.out).1
        clear h1 H1
        by_cases h8 : dg = 8
        · subst h8
          · skip
            go_wp2_with fail
            go_loop [11, 71] (fun t j => ∃ (x : Int) (i : Nat), t = .int .u64 x ∧ j = .int .i64 i ∧ i ≤ 9) (fun _ j => 9 - (intOf j).toNat)
            case atStart => exact ⟨1, 0, rfl, rfl, by omega⟩
            case round =>
              obtain ⟨x, i, rfl, rfl, hi⟩ := hrel
              by_cases hij : i < 9
              · have hij2 : (i : Int) < 9 := by omega
                go_wp2_with fail
                go_round
                case rel => exact ⟨_, i + 1, rfl, by go_num, by omega⟩
                case measure => simp [intOf]; omega
              · have hij2 : ¬ (i : Int) < 9 := by omega
                go_wp2_with (go_at_call 65; refine (grown_any Hd2.out (by omega) Hsz.out).mono ?_; rintro e w5 ⟨v', n', rfl, hn', hd5, hb5⟩; have Hd5 := Lib.hid hd5; have Hb5 := Lib.hid hb5; clear hd5 hb5)
                go_roundw
                case rel => exact ⟨pos + 1, n', 0, 0, by omega, rfl, rfl, by omega, by omega, Hd5, Lib.hid ((Hb5.out.block _ (by omega)).trans Hk2.out), Hok2, Lib.hid (Hb2.out.trans (Hb5.out.mono (by omega)))⟩
                case measure =>
                  have e1 := Hm.out
                  have e2 := iterPos_of ((Hb5.out.block (w.heap.size + 1) (by omega)).trans Hk2.out)
                  omega
        · have b8 : ((dg : Int) + 1 == 9) = false := by
            rw [beq_eq_false_iff_ne]
            omega
          by_cases hlast : pos + 1 = s.size
          · have bl : ((pos : Int) == (s.size : Int) - 1) = true := by
              rw [beq_iff_eq]
              omega
            clear hlast
            go_wp2_with fail
            go_loop [11, 71] (fun t j => ∃ (x : Int) (i : Nat), t = .int .u64 x ∧ j = .int .i64 i ∧ i ≤ (dg + 1)) (fun _ j => (dg + 1) - (intOf j).toNat)
            case atStart => exact ⟨1, 0, rfl, rfl, by omega⟩
            case round =>
              obtain ⟨x, i, rfl, rfl, hi⟩ := hrel
              by_cases hij : i < (dg + 1)
              · have hij2 : (i : Int) < (dg : Int) + 1 := by omega
                go_wp2_with fail
                go_round
                case rel => exact ⟨_, i + 1, rfl, by go_num, by omega⟩
                case measure => simp [intOf]; omega
              · have hij2 : ¬ (i : Int) < (dg : Int) + 1 := by omega
                go_wp2_with (go_at_call 65; refine (grown_any Hd2.out (by omega) Hsz.out).mono ?_; rintro e w5 ⟨v', n', rfl, hn', hd5, hb5⟩; have Hd5 := Lib.hid hd5; have Hb5 := Lib.hid hb5; clear hd5 hb5)
                go_roundw
                case rel => exact ⟨pos + 1, n', 0, 0, by omega, rfl, rfl, by omega, by omega, Hd5, Lib.hid ((Hb5.out.block _ (by omega)).trans Hk2.out), Hok2, Lib.hid (Hb2.out.trans (Hb5.out.mono (by omega)))⟩
                case measure =>
                  have e1 := Hm.out
                  have e2 := iterPos_of ((Hb5.out.block (w.heap.size + 1) (by omega)).trans Hk2.out)
                  omega
          · have bl : ((pos : Int) == (s.size : Int) - 1) = false := by
              rw [beq_eq_false_iff_ne]
              omega
            go_wp2_with fail
            go_roundw
            case rel => exact ⟨pos + 1, n, dg + 1, _, by omega, rfl, by go_num, by omega, by omega, Hd2, Hk2, Hok2, Hb2⟩
            case measure =>
              have e1 := Hm.out
              have e2 := iterPos_of Hk2.out
              omega
      · have Hr : Hid (digsTo s s.size = false) := Lib.hid (digsTo_false hp h1)
        clear h1
        rcases hc with c1 | c1
        all_goals
          go_wp2_with fail
          refine bodyPost_ret (results_two rfl _ _ w.heap.size 89 #[.slice none 0 0, .bool false] (0, 0) _ rfl (heap_setCell_same _ w.heap.size 1 _ 89 (.bool false) (heap_setCell_same wv w.heap.size 0 _ 89 (.slice none 0 0) Hrow.out)) Tryz.underlying89 rfl size101) rfl ?_
          exact ⟨_, _, _, _, by rw [Hr.out]; rfl, ((((Below.refl _ _).alloc (Nat.le_refl _) _).trans (Hb2.out.mono (by omega))).setCell (Nat.le_refl _) _).setCell (Nat.le_refl _) _⟩
    · have hnx : ∀ ty, (Instr.next (.pointer (some ⟨w.heap.size + 1, 0, none⟩)) true ty).run Tryz.prog wr = _ := fun ty => Lib.run_next_end_at wr (w.heap.size + 1) s pos ty Hk.out hp
      have Hr : Hid (digsTo s s.size = true) := Lib.hid (by have := Hok.out; rwa [show pos = s.size by omega] at this)
      have Hrow : Hid (∀ w5, Below wr.heap.size wr w5 → w5.heap[w.heap.size]? = some (.cells #[.slice none 0 0, .bool false] 89 (0, 0))) := Lib.hid (fun w5 h5 => by
        have h1 := Hb.out.size
        simp at h1
        exact (h5.block w.heap.size (by omega)).trans ((Hb.out.block w.heap.size (by omega)).trans (heap_alloc_new w _)))
      have hwr : w.heap.size + 1 ≤ wr.heap.size := by
        have h1 := Hb.out.size
        simpa using h1
      go_wp2_with (go_at_call 66; refine (made_any Hd.out (by omega)).mono ?_; rintro e w5 ⟨A, k, c, g, rfl, hb5⟩; have Hb5 := Lib.hid hb5; obtain ⟨hf0, hf1, hc0, hc1⟩ := row_facts (Hrow.out w5 hb5); have Hrw := Lib.hid (Hrow.out w5 hb5); clear hb5)
      refine bodyPost_ret (results_two rfl _ _ w.heap.size 89 #[.slice A k c, .bool g] (0, 0) _ rfl (heap_setCell_same _ w.heap.size 1 _ 89 (.bool g) (heap_setCell_same w5 w.heap.size 0 _ 89 (.slice A k c) Hrw.out)) Tryz.underlying89 rfl size101) rfl ?_
      exact ⟨_, _, _, _, by rw [Hr.out]; rfl, (((((Below.refl _ _).alloc (Nat.le_refl _) _).trans (Hb.out.mono (by omega))).trans (Hb5.out.mono (by omega))).setCell (Nat.le_refl _) _).setCell (Nat.le_refl _) _⟩
set_option maxRecDepth 100000 in
set_option maxHeartbeats 1000000 in
theorem parse_zero (s : ByteArray) (w : World) (h0 : 0 < s.size) (hs : s.size ≤ 1000000) (h45 : (((s[0]'h0).toNat : Int) == 45) = false) (hz : (((s[0]'h0).toNat : Int) == 48) = true) (hle : s.size ≤ 1) : Calls Tryz.prog 33 #[.string s] w (ParsedIs w (digsTo s s.size)) := by
  have he : (s.toList == []) = false := by rw [empty_toList, decide_eq_false (by omega)]
  have hb0 : Below (w.heap.size + 1) (w.alloc (.cells #[.slice none 0 0, .bool false] 89)) ((w.alloc (.cells #[.slice none 0 0, .bool false] 89)).iter s 0) := by
    have := below_iter (w.alloc (.cells #[.slice none 0 0, .bool false] 89)) s 0
    rwa [show (w.alloc (.cells #[.slice none 0 0, .bool false] 89)).heap.size = w.heap.size + 1 by simp] at this
  have hi0 : ((w.alloc (.cells #[.slice none 0 0, .bool false] 89)).iter s 0).heap[w.heap.size + 1]? = some (.stringIter s 0) := by
    have := World.iter_heap (w.alloc (.cells #[.slice none 0 0, .bool false] 89)) s 0
    rwa [show (w.alloc (.cells #[.slice none 0 0, .bool false] 89)).heap.size = w.heap.size + 1 by simp] at this
  have Hb0 := Lib.hid hb0
  have Hi0 := Lib.hid hi0
  clear hb0 hi0
  go_enter Tryz.func33, Tryz.ntmps33
  go_wp2_with fail
  go_loopw [6, 7, 8] (fun lv nv dv wr => ∃ (pos n dg : Nat) (m : Int), n ≤ pos ∧ nv = .int .u64 m ∧ dv = .int .i64 dg ∧ dg ≤ 8 ∧ pos ≤ s.size ∧ Hid (Digs wr (w.heap.size + 1 + 1) n lv) ∧ Hid (wr.heap[w.heap.size + 1]? = some (.stringIter s pos)) ∧ Hid (digsTo s pos = true) ∧ Hid (Below (w.heap.size + 1) (w.alloc (.cells #[.slice none 0 0, .bool false] 89)) wr)) (fun _ _ _ wr => s.size - wr.iterPos (w.heap.size + 1))
  case atStart => exact ⟨0, 0, 0, 0, Nat.le_refl _, rfl, rfl, by omega, Nat.zero_le _, Lib.hid (Digs.nil _ _), Hi0, Lib.hid rfl, Hb0⟩
  case round =>
    clear Hb0 Hi0
    obtain ⟨pos, n, dg, m, hn, rfl, rfl, hdg, hpos, Hd, Hk, Hok, Hb⟩ := hrel
    by_cases hp : pos < s.size
    · have hnx : ∀ ty, (Instr.next (.pointer (some ⟨w.heap.size + 1, 0, none⟩)) true ty).run Tryz.prog wr = _ := fun ty => Lib.run_next_any_at wr (w.heap.size + 1) s pos ty Hk.out hp
      obtain ⟨r, wd, hdec, hcls⟩ := dig_class s pos hp
      rw [hdec] at hnx
      simp only at hnx
      clear hdec
      have Hm : Hid (wr.iterPos (w.heap.size + 1) = pos) := Lib.hid (iterPos_of Hk.out)
      have Hd2 := Lib.hid (Hd.out.iterAt (k := w.heap.size + 1) (by omega) s (pos + wd))
      have Hk2 := Lib.hid (Lib.iterAt_heap wr (w.heap.size + 1) s pos (pos + wd) Hk.out)
      have Hb2 := Lib.hid (Lib.below_iterAt Hb.out (Nat.le_refl _) s (pos + wd))
      generalize wr.iterAt (w.heap.size + 1) s (pos + wd) = wv at *
      have Hrow : Hid (wv.heap[w.heap.size]? = some (.cells #[.slice none 0 0, .bool false] 89 (0, 0))) := Lib.hid ((Hb2.out.block w.heap.size (by omega)).trans (heap_alloc_new w _))
      have hf0 : wv.frozen? ⟨w.heap.size, 0, none⟩ = false := frozen_of_row wv w.heap.size 0 _ 89 Hrow.out
      have hf1 : wv.frozen? ⟨w.heap.size, 1, none⟩ = false := frozen_of_row wv w.heap.size 1 _ 89 Hrow.out
      have hc0 : wv.cell? ⟨w.heap.size, 0, none⟩ = some (.slice none 0 0) := by rw [cell_of_row wv w.heap.size 0 _ 89 (0, 0) Hrow.out]; rfl
      have hc1 : wv.cell? ⟨w.heap.size, 1, none⟩ = some (.bool false) := by rw [cell_of_row wv w.heap.size 1 _ 89 (0, 0) Hrow.out]; rfl
      rcases hcls with ⟨h1, rfl, c1, c2⟩ | ⟨h1, hc⟩
      · have H1 := Lib.hid h1
        have Hok2 : Hid (digsTo s (pos + 1) = true) := Lib.hid (by unfold digsTo; rw [Hok.out, h1]; rfl)
        have Hsz : Hid (w.heap.size + 1 + 1 ≤ wv.heap.size) := Lib.hid (Array.getElem?_eq_some_iff.1 Hk2.out).1
        clear h1 H1
        by_cases h8 : dg = 8
        · subst h8
          · skip
            go_wp2_with fail
            go_loop [11, 71] (fun t j => ∃ (x : Int) (i : Nat), t = .int .u64 x ∧ j = .int .i64 i ∧ i ≤ 9) (fun _ j => 9 - (intOf j).toNat)
            case atStart => exact ⟨1, 0, rfl, rfl, by omega⟩
            case round =>
              obtain ⟨x, i, rfl, rfl, hi⟩ := hrel
              by_cases hij : i < 9
              · have hij2 : (i : Int) < 9 := by omega
                go_wp2_with fail
                go_round
                case rel => exact ⟨_, i + 1, rfl, by go_num, by omega⟩
                case measure => simp [intOf]; omega
              · have hij2 : ¬ (i : Int) < 9 := by omega
                go_wp2_with (go_at_call 65; refine (grown_any Hd2.out (by omega) Hsz.out).mono ?_; rintro e w5 ⟨v', n', rfl, hn', hd5, hb5⟩; have Hd5 := Lib.hid hd5; have Hb5 := Lib.hid hb5; clear hd5 hb5)
                go_roundw
                case rel => exact ⟨pos + 1, n', 0, 0, by omega, rfl, rfl, by omega, by omega, Hd5, Lib.hid ((Hb5.out.block _ (by omega)).trans Hk2.out), Hok2, Lib.hid (Hb2.out.trans (Hb5.out.mono (by omega)))⟩
                case measure =>
                  have e1 := Hm.out
                  have e2 := iterPos_of ((Hb5.out.block (w.heap.size + 1) (by omega)).trans Hk2.out)
                  omega
        · have b8 : ((dg : Int) + 1 == 9) = false := by
            rw [beq_eq_false_iff_ne]
            omega
          by_cases hlast : pos + 1 = s.size
          · have bl : ((pos : Int) == (s.size : Int) - 1) = true := by
              rw [beq_iff_eq]
              omega
            clear hlast
            go_wp2_with fail
            go_loop [11, 71] (fun t j => ∃ (x : Int) (i : Nat), t = .int .u64 x ∧ j = .int .i64 i ∧ i ≤ (dg + 1)) (fun _ j => (dg + 1) - (intOf j).toNat)
            case atStart => exact ⟨1, 0, rfl, rfl, by omega⟩
            case round =>
              obtain ⟨x, i, rfl, rfl, hi⟩ := hrel
              by_cases hij : i < (dg + 1)
              · have hij2 : (i : Int) < (dg : Int) + 1 := by omega
                go_wp2_with fail
                go_round
                case rel => exact ⟨_, i + 1, rfl, by go_num, by omega⟩
                case measure => simp [intOf]; omega
              · have hij2 : ¬ (i : Int) < (dg : Int) + 1 := by omega
                go_wp2_with (go_at_call 65; refine (grown_any Hd2.out (by omega) Hsz.out).mono ?_; rintro e w5 ⟨v', n', rfl, hn', hd5, hb5⟩; have Hd5 := Lib.hid hd5; have Hb5 := Lib.hid hb5; clear hd5 hb5)
                go_roundw
                case rel => exact ⟨pos + 1, n', 0, 0, by omega, rfl, rfl, by omega, by omega, Hd5, Lib.hid ((Hb5.out.block _ (by omega)).trans Hk2.out), Hok2, Lib.hid (Hb2.out.trans (Hb5.out.mono (by omega)))⟩
                case measure =>
                  have e1 := Hm.out
                  have e2 := iterPos_of ((Hb5.out.block (w.heap.size + 1) (by omega)).trans Hk2.out)
                  omega
          · exfalso
            omega
      · have Hr : Hid (digsTo s s.size = false) := Lib.hid (digsTo_false hp h1)
        clear h1
        rcases hc with c1 | c1
        all_goals
          go_wp2_with fail
          refine bodyPost_ret (results_two rfl _ _ w.heap.size 89 #[.slice none 0 0, .bool false] (0, 0) _ rfl (heap_setCell_same _ w.heap.size 1 _ 89 (.bool false) (heap_setCell_same wv w.heap.size 0 _ 89 (.slice none 0 0) Hrow.out)) Tryz.underlying89 rfl size101) rfl ?_
          exact ⟨_, _, _, _, by rw [Hr.out]; rfl, ((((Below.refl _ _).alloc (Nat.le_refl _) _).trans (Hb2.out.mono (by omega))).setCell (Nat.le_refl _) _).setCell (Nat.le_refl _) _⟩
    · have hnx : ∀ ty, (Instr.next (.pointer (some ⟨w.heap.size + 1, 0, none⟩)) true ty).run Tryz.prog wr = _ := fun ty => Lib.run_next_end_at wr (w.heap.size + 1) s pos ty Hk.out hp
      have Hr : Hid (digsTo s s.size = true) := Lib.hid (by have := Hok.out; rwa [show pos = s.size by omega] at this)
      have Hrow : Hid (∀ w5, Below wr.heap.size wr w5 → w5.heap[w.heap.size]? = some (.cells #[.slice none 0 0, .bool false] 89 (0, 0))) := Lib.hid (fun w5 h5 => by
        have h1 := Hb.out.size
        simp at h1
        exact (h5.block w.heap.size (by omega)).trans ((Hb.out.block w.heap.size (by omega)).trans (heap_alloc_new w _)))
      have hwr : w.heap.size + 1 ≤ wr.heap.size := by
        have h1 := Hb.out.size
        simpa using h1
      go_wp2_with (go_at_call 66; refine (made_any Hd.out (by omega)).mono ?_; rintro e w5 ⟨A, k, c, g, rfl, hb5⟩; have Hb5 := Lib.hid hb5; obtain ⟨hf0, hf1, hc0, hc1⟩ := row_facts (Hrow.out w5 hb5); have Hrw := Lib.hid (Hrow.out w5 hb5); clear hb5)
      refine bodyPost_ret (results_two rfl _ _ w.heap.size 89 #[.slice A k c, .bool g] (0, 0) _ rfl (heap_setCell_same _ w.heap.size 1 _ 89 (.bool g) (heap_setCell_same w5 w.heap.size 0 _ 89 (.slice A k c) Hrw.out)) Tryz.underlying89 rfl size101) rfl ?_
      exact ⟨_, _, _, _, by rw [Hr.out]; rfl, (((((Below.refl _ _).alloc (Nat.le_refl _) _).trans (Hb.out.mono (by omega))).trans (Hb5.out.mono (by omega))).setCell (Nat.le_refl _) _).setCell (Nat.le_refl _) _⟩
set_option maxRecDepth 100000 in
set_option maxHeartbeats 1000000 in
theorem parse_neg (s txt : ByteArray) (w : World) (h1 : 0 < s.size) (hext : s.extract 1 s.size = txt) (h0 : 0 < txt.size) (hs : txt.size ≤ 1000000) (h45 : (((s[0]'h1).toNat : Int) == 45) = true) (hz : (((txt[0]'h0).toNat : Int) == 48) = false) : Calls Tryz.prog 33 #[.string s] w (ParsedIs w (digsTo txt txt.size)) := by
  have he : (txt.toList == []) = false := by rw [empty_toList, decide_eq_false (by omega)]
  have hb0 : Below (w.heap.size + 1) (w.alloc (.cells #[.slice none 0 0, .bool false] 89)) ((w.alloc (.cells #[.slice none 0 0, .bool false] 89)).iter txt 0) := by
    have := below_iter (w.alloc (.cells #[.slice none 0 0, .bool false] 89)) txt 0
    rwa [show (w.alloc (.cells #[.slice none 0 0, .bool false] 89)).heap.size = w.heap.size + 1 by simp] at this
  have hi0 : ((w.alloc (.cells #[.slice none 0 0, .bool false] 89)).iter txt 0).heap[w.heap.size + 1]? = some (.stringIter txt 0) := by
    have := World.iter_heap (w.alloc (.cells #[.slice none 0 0, .bool false] 89)) txt 0
    rwa [show (w.alloc (.cells #[.slice none 0 0, .bool false] 89)).heap.size = w.heap.size + 1 by simp] at this
  have Hb0 := Lib.hid hb0
  have Hi0 := Lib.hid hi0
  clear hb0 hi0
  go_enter Tryz.func33, Tryz.ntmps33
  go_wp2_with fail
  go_loopw [6, 7, 8] (fun lv nv dv wr => ∃ (pos n dg : Nat) (m : Int), n ≤ pos ∧ nv = .int .u64 m ∧ dv = .int .i64 dg ∧ dg ≤ 8 ∧ pos ≤ txt.size ∧ Hid (Digs wr (w.heap.size + 1 + 1) n lv) ∧ Hid (wr.heap[w.heap.size + 1]? = some (.stringIter txt pos)) ∧ Hid (digsTo txt pos = true) ∧ Hid (Below (w.heap.size + 1) (w.alloc (.cells #[.slice none 0 0, .bool false] 89)) wr)) (fun _ _ _ wr => txt.size - wr.iterPos (w.heap.size + 1))
  case atStart => exact ⟨0, 0, 0, 0, Nat.le_refl _, rfl, rfl, by omega, Nat.zero_le _, Lib.hid (Digs.nil _ _), Hi0, Lib.hid rfl, Hb0⟩
  case round =>
    clear Hb0 Hi0
    obtain ⟨pos, n, dg, m, hn, rfl, rfl, hdg, hpos, Hd, Hk, Hok, Hb⟩ := hrel
    by_cases hp : pos < txt.size
    · have hnx : ∀ ty, (Instr.next (.pointer (some ⟨w.heap.size + 1, 0, none⟩)) true ty).run Tryz.prog wr = _ := fun ty => Lib.run_next_any_at wr (w.heap.size + 1) txt pos ty Hk.out hp
      obtain ⟨r, wd, hdec, hcls⟩ := dig_class txt pos hp
      rw [hdec] at hnx
      simp only at hnx
      clear hdec
      have Hm : Hid (wr.iterPos (w.heap.size + 1) = pos) := Lib.hid (iterPos_of Hk.out)
      have Hd2 := Lib.hid (Hd.out.iterAt (k := w.heap.size + 1) (by omega) txt (pos + wd))
      have Hk2 := Lib.hid (Lib.iterAt_heap wr (w.heap.size + 1) txt pos (pos + wd) Hk.out)
      have Hb2 := Lib.hid (Lib.below_iterAt Hb.out (Nat.le_refl _) txt (pos + wd))
      generalize wr.iterAt (w.heap.size + 1) txt (pos + wd) = wv at *
      have Hrow : Hid (wv.heap[w.heap.size]? = some (.cells #[.slice none 0 0, .bool false] 89 (0, 0))) := Lib.hid ((Hb2.out.block w.heap.size (by omega)).trans (heap_alloc_new w _))
      have hf0 : wv.frozen? ⟨w.heap.size, 0, none⟩ = false := frozen_of_row wv w.heap.size 0 _ 89 Hrow.out
      have hf1 : wv.frozen? ⟨w.heap.size, 1, none⟩ = false := frozen_of_row wv w.heap.size 1 _ 89 Hrow.out
      have hc0 : wv.cell? ⟨w.heap.size, 0, none⟩ = some (.slice none 0 0) := by rw [cell_of_row wv w.heap.size 0 _ 89 (0, 0) Hrow.out]; rfl
      have hc1 : wv.cell? ⟨w.heap.size, 1, none⟩ = some (.bool false) := by rw [cell_of_row wv w.heap.size 1 _ 89 (0, 0) Hrow.out]; rfl
      rcases hcls with ⟨h1, rfl, c1, c2⟩ | ⟨h1, hc⟩
      · have H1 := Lib.hid h1
        have Hok2 : Hid (digsTo txt (pos + 1) = true) := Lib.hid (by unfold digsTo; rw [Hok.out, h1]; rfl)
        have Hsz : Hid (w.heap.size + 1 + 1 ≤ wv.heap.size) := Lib.hid (Array.getElem?_eq_some_iff.1 Hk2.out).1
        clear h1 H1
        by_cases h8 : dg = 8
        · subst h8
          · skip
            go_wp2_with fail
            go_loop [11, 71] (fun t j => ∃ (x : Int) (i : Nat), t = .int .u64 x ∧ j = .int .i64 i ∧ i ≤ 9) (fun _ j => 9 - (intOf j).toNat)
            case atStart => exact ⟨1, 0, rfl, rfl, by omega⟩
            case round =>
              obtain ⟨x, i, rfl, rfl, hi⟩ := hrel
              by_cases hij : i < 9
              · have hij2 : (i : Int) < 9 := by omega
                go_wp2_with fail
                go_round
                case rel => exact ⟨_, i + 1, rfl, by go_num, by omega⟩
                case measure => simp [intOf]; omega
              · have hij2 : ¬ (i : Int) < 9 := by omega
                go_wp2_with (go_at_call 65; refine (grown_any Hd2.out (by omega) Hsz.out).mono ?_; rintro e w5 ⟨v', n', rfl, hn', hd5, hb5⟩; have Hd5 := Lib.hid hd5; have Hb5 := Lib.hid hb5; clear hd5 hb5)
                go_roundw
                case rel => exact ⟨pos + 1, n', 0, 0, by omega, rfl, rfl, by omega, by omega, Hd5, Lib.hid ((Hb5.out.block _ (by omega)).trans Hk2.out), Hok2, Lib.hid (Hb2.out.trans (Hb5.out.mono (by omega)))⟩
                case measure =>
                  have e1 := Hm.out
                  have e2 := iterPos_of ((Hb5.out.block (w.heap.size + 1) (by omega)).trans Hk2.out)
                  omega
        · have b8 : ((dg : Int) + 1 == 9) = false := by
            rw [beq_eq_false_iff_ne]
            omega
          by_cases hlast : pos + 1 = txt.size
          · have bl : ((pos : Int) == (txt.size : Int) - 1) = true := by
              rw [beq_iff_eq]
              omega
            clear hlast
            go_wp2_with fail
            go_loop [11, 71] (fun t j => ∃ (x : Int) (i : Nat), t = .int .u64 x ∧ j = .int .i64 i ∧ i ≤ (dg + 1)) (fun _ j => (dg + 1) - (intOf j).toNat)
            case atStart => exact ⟨1, 0, rfl, rfl, by omega⟩
            case round =>
              obtain ⟨x, i, rfl, rfl, hi⟩ := hrel
              by_cases hij : i < (dg + 1)
              · have hij2 : (i : Int) < (dg : Int) + 1 := by omega
                go_wp2_with fail
                go_round
                case rel => exact ⟨_, i + 1, rfl, by go_num, by omega⟩
                case measure => simp [intOf]; omega
              · have hij2 : ¬ (i : Int) < (dg : Int) + 1 := by omega
                go_wp2_with (go_at_call 65; refine (grown_any Hd2.out (by omega) Hsz.out).mono ?_; rintro e w5 ⟨v', n', rfl, hn', hd5, hb5⟩; have Hd5 := Lib.hid hd5; have Hb5 := Lib.hid hb5; clear hd5 hb5)
                go_roundw
                case rel => exact ⟨pos + 1, n', 0, 0, by omega, rfl, rfl, by omega, by omega, Hd5, Lib.hid ((Hb5.out.block _ (by omega)).trans Hk2.out), Hok2, Lib.hid (Hb2.out.trans (Hb5.out.mono (by omega)))⟩
                case measure =>
                  have e1 := Hm.out
                  have e2 := iterPos_of ((Hb5.out.block (w.heap.size + 1) (by omega)).trans Hk2.out)
                  omega
          · have bl : ((pos : Int) == (txt.size : Int) - 1) = false := by
              rw [beq_eq_false_iff_ne]
              omega
            go_wp2_with fail
            go_roundw
            case rel => exact ⟨pos + 1, n, dg + 1, _, by omega, rfl, by go_num, by omega, by omega, Hd2, Hk2, Hok2, Hb2⟩
            case measure =>
              have e1 := Hm.out
              have e2 := iterPos_of Hk2.out
              omega
      · have Hr : Hid (digsTo txt txt.size = false) := Lib.hid (digsTo_false hp h1)
        clear h1
        rcases hc with c1 | c1
        all_goals
          go_wp2_with fail
          refine bodyPost_ret (results_two rfl _ _ w.heap.size 89 #[.slice none 0 0, .bool false] (0, 0) _ rfl (heap_setCell_same _ w.heap.size 1 _ 89 (.bool false) (heap_setCell_same wv w.heap.size 0 _ 89 (.slice none 0 0) Hrow.out)) Tryz.underlying89 rfl size101) rfl ?_
          exact ⟨_, _, _, _, by rw [Hr.out]; rfl, ((((Below.refl _ _).alloc (Nat.le_refl _) _).trans (Hb2.out.mono (by omega))).setCell (Nat.le_refl _) _).setCell (Nat.le_refl _) _⟩
    · have hnx : ∀ ty, (Instr.next (.pointer (some ⟨w.heap.size + 1, 0, none⟩)) true ty).run Tryz.prog wr = _ := fun ty => Lib.run_next_end_at wr (w.heap.size + 1) txt pos ty Hk.out hp
      have Hr : Hid (digsTo txt txt.size = true) := Lib.hid (by have := Hok.out; rwa [show pos = txt.size by omega] at this)
      have Hrow : Hid (∀ w5, Below wr.heap.size wr w5 → w5.heap[w.heap.size]? = some (.cells #[.slice none 0 0, .bool false] 89 (0, 0))) := Lib.hid (fun w5 h5 => by
        have h1 := Hb.out.size
        simp at h1
        exact (h5.block w.heap.size (by omega)).trans ((Hb.out.block w.heap.size (by omega)).trans (heap_alloc_new w _)))
      have hwr : w.heap.size + 1 ≤ wr.heap.size := by
        have h1 := Hb.out.size
        simpa using h1
      go_wp2_with (go_at_call 66; refine (made_any Hd.out (by omega)).mono ?_; rintro e w5 ⟨A, k, c, g, rfl, hb5⟩; have Hb5 := Lib.hid hb5; obtain ⟨hf0, hf1, hc0, hc1⟩ := row_facts (Hrow.out w5 hb5); have Hrw := Lib.hid (Hrow.out w5 hb5); clear hb5)
      refine bodyPost_ret (results_two rfl _ _ w.heap.size 89 #[.slice A k c, .bool g] (0, 0) _ rfl (heap_setCell_same _ w.heap.size 1 _ 89 (.bool g) (heap_setCell_same w5 w.heap.size 0 _ 89 (.slice A k c) Hrw.out)) Tryz.underlying89 rfl size101) rfl ?_
      exact ⟨_, _, _, _, by rw [Hr.out]; rfl, (((((Below.refl _ _).alloc (Nat.le_refl _) _).trans (Hb.out.mono (by omega))).trans (Hb5.out.mono (by omega))).setCell (Nat.le_refl _) _).setCell (Nat.le_refl _) _⟩

set_option maxRecDepth 100000 in
set_option maxHeartbeats 1000000 in
theorem parse_zeros (s : ByteArray) (w : World) (h0 : 0 < s.size) (h45 : (((s[0]'h0).toNat : Int) == 45) = false) (hz : (((s[0]'h0).toNat : Int) == 48) = true) (h1 : 1 < s.size) : Calls Tryz.prog 33 #[.string s] w (ParsedIs w false) := by
  have he : (s.toList == []) = false := by rw [empty_toList, decide_eq_false (by omega)]
  go_enter Tryz.func33, Tryz.ntmps33
  go_wp2_with fail
  refine bodyPost_ret (results_two rfl _ _ w.heap.size 89 #[.slice none 0 0, .bool false] (0, 0) _ rfl (heap_alloc_new _ _) Tryz.underlying89 rfl size101) rfl ?_
  exact ⟨_, _, _, _, rfl, (Below.refl _ _).alloc (Nat.le_refl _) _⟩
set_option maxRecDepth 100000 in
set_option maxHeartbeats 1000000 in
theorem parse_sign (s txt : ByteArray) (w : World) (h1 : 0 < s.size) (hext : s.extract 1 s.size = txt) (h0 : txt.size = 0) (h45 : (((s[0]'h1).toNat : Int) == 45) = true) : Calls Tryz.prog 33 #[.string s] w (ParsedIs w false) := by
  have he : (txt.toList == []) = true := by rw [empty_toList, decide_eq_true h0]
  clear h0
  go_enter Tryz.func33, Tryz.ntmps33
  go_wp2_with fail
  refine bodyPost_ret (results_two rfl _ _ w.heap.size 89 #[.slice none 0 0, .bool false] (0, 0) _ rfl (heap_alloc_new _ _) Tryz.underlying89 rfl size101) rfl ?_
  exact ⟨_, _, _, _, rfl, (Below.refl _ _).alloc (Nat.le_refl _) _⟩
set_option maxRecDepth 100000 in
set_option maxHeartbeats 1000000 in
theorem parse_sign_zero (s txt : ByteArray) (w : World) (h1 : 0 < s.size) (hext : s.extract 1 s.size = txt) (h0 : 0 < txt.size) (h45 : (((s[0]'h1).toNat : Int) == 45) = true) (hz : (((txt[0]'h0).toNat : Int) == 48) = true) : Calls Tryz.prog 33 #[.string s] w (ParsedIs w false) := by
  have he : (txt.toList == []) = false := by rw [empty_toList, decide_eq_false (by omega)]
  go_enter Tryz.func33, Tryz.ntmps33
  go_wp2_with fail
  all_goals
    refine bodyPost_ret (results_two rfl _ _ w.heap.size 89 #[.slice none 0 0, .bool false] (0, 0) _ rfl (heap_alloc_new _ _) Tryz.underlying89 rfl size101) rfl ?_
    exact ⟨_, _, _, _, rfl, (Below.refl _ _).alloc (Nat.le_refl _) _⟩
end Go.Proofs.YtbnonccmlildnaaGreat

/- num.Parse, whole. -/
namespace Go.Proofs.YtbnonccmlildnaaGreat
open Go.RowKit

/-- Is it a number's text? -/
def rightB (s : ByteArray) : Bool :=
  let neg := s.data[0]? == some 45
  let r := if neg then s.extract 1 s.size else s
  decide (0 < r.size) && !(r.data[0]? == some 48 && (decide (1 < r.size) || neg)) && digsTo r r.size
theorem first_is (s : ByteArray) (h : 0 < s.size) (c : UInt8) : (s.data[0]? == some c) = (((s[0]'h).toNat : Int) == (c.toNat : Int)) := by
  have hget : s.data[0]? = some (s[0]'h) := Array.getElem?_eq_getElem h
  rw [hget, Bool.eq_iff_iff, beq_iff_eq, beq_iff_eq]
  constructor
  · intro e
    rw [Option.some.inj e]
  · intro e
    have : (s[0]'h).toNat = c.toNat := by omega
    rw [UInt8.toNat_inj.1 this]
theorem parse_any (s : ByteArray) (w : World) (hs : s.size ≤ 1000000) : Calls Tryz.prog 33 #[.string s] w (ParsedIs w (rightB s)) := by
  by_cases h0 : 0 < s.size
  · have f45 := first_is s h0 45
    have f48 := first_is s h0 48
    cases hn : (((s[0]'h0).toNat : Int) == 45) with
    | true =>
      have hneg : (s.data[0]? == some 45) = true := f45.trans hn
      by_cases hr : 0 < (s.extract 1 s.size).size
      · have g48 := first_is (s.extract 1 s.size) hr 48
        cases hz : ((((s.extract 1 s.size)[0]'hr).toNat : Int) == 48) with
        | true =>
          have : rightB s = false := by
            unfold rightB
            simp only [hneg, if_true, Bool.or_true, Bool.and_true]
            rw [g48, show (((48 : UInt8).toNat : Nat) : Int) = 48 from rfl, hz]
            simp
          rw [this]
          exact parse_sign_zero s _ w h0 rfl hr hn hz
        | false =>
          have : rightB s = digsTo (s.extract 1 s.size) (s.extract 1 s.size).size := by
            unfold rightB
            simp only [hneg, if_true, Bool.or_true, Bool.and_true]
            rw [g48, show (((48 : UInt8).toNat : Nat) : Int) = 48 from rfl, hz, decide_eq_true hr]
            rfl
          rw [this]
          exact parse_neg s _ w h0 rfl hr (by simp; omega) hn hz
      · have : rightB s = false := by
          unfold rightB
          simp only [hneg, if_true]
          rw [decide_eq_false hr]
          rfl
        rw [this]
        exact parse_sign s _ w h0 rfl (by omega) hn
    | false =>
      have hneg : (s.data[0]? == some 45) = false := f45.trans hn
      cases hz : (((s[0]'h0).toNat : Int) == 48) with
      | false =>
        have : rightB s = digsTo s s.size := by
          unfold rightB
          simp only [hneg, if_false, Bool.false_eq_true, Bool.or_false]
          rw [f48, show (((48 : UInt8).toNat : Nat) : Int) = 48 from rfl, hz, decide_eq_true h0]
          rfl
        rw [this]
        exact parse_plain s w h0 hs hn hz
      | true =>
        by_cases h1 : 1 < s.size
        · have : rightB s = false := by
            unfold rightB
            simp only [hneg, if_false, Bool.false_eq_true, Bool.or_false]
            rw [f48, show (((48 : UInt8).toNat : Nat) : Int) = 48 from rfl, hz, decide_eq_true h1]
            simp
          rw [this]
          exact parse_zeros s w h0 hn hz h1
        · have : rightB s = digsTo s s.size := by
            unfold rightB
            simp only [hneg, if_false, Bool.false_eq_true, Bool.or_false]
            rw [decide_eq_false h1, decide_eq_true h0, Bool.and_false]
            rfl
          rw [this]
          exact parse_zero s w h0 hs hn hz (by omega)
  · have : rightB s = false := by
      have h00 : s.size = 0 := by omega
      have hget : s.data[0]? = none := Array.getElem?_eq_none (by rw [ByteArray.size_data]; omega)
      unfold rightB
      simp [h00]
    rw [this]
    exact parse_empty s w (by omega)
end Go.Proofs.YtbnonccmlildnaaGreat

/- shape: has a term as many operands as its operator asks for? -/
namespace Go.Proofs.YtbnonccmlildnaaGreat
open Go.RowKit

def opOf : Tm → Int
  | .mk op .. => op
def firstNum (l : List Tm) : Bool := match l with | t :: _ => opOf t == 1 | [] => false
def shapeB : Tm → Bool
  | .mk op name _ n l vars pat =>
    if op = 1 then rightB n && ((l.length : Int) == 0)
    else if op = 2 ∨ op = 3 then ((l.length : Int) == 0)
    else if op = 18 then ((l.length : Int) == 0) && nameB name
    else if op = 4 ∨ op = 14 then ((l.length : Int) == 1)
    else if op = 5 ∨ op = 6 ∨ op = 12 then true
    else if op = 17 then nameB name
    else if op = 7 ∨ op = 8 ∨ op = 9 ∨ op = 10 ∨ op = 11 ∨ op = 13 then ((l.length : Int) == 2)
    else if op = 15 then ((l.length : Int) == 2) && firstNum l
    else if op = 16 then ((l.length : Int) == 3)
    else if op = 19 then ((l.length : Int) == 1) && bindsB vars && decide (0 < pat.length)
    else false
set_option maxRecDepth 100000 in
set_option maxHeartbeats 1000000 in
/-- The operators that ask for their number of operands alone. -/
theorem shape_count {t : Tm} {v : Value} {w : World} (h : TmV w t v) (ho : opOf t ∈ [2, 3, 4, 14, 5, 6, 12, 7, 8, 9, 10, 11, 13, 16]) :
    Calls Tryz.prog 61 #[v] w fun e w' => e = .returned (.bool (shapeB t)) ∧ Below w.heap.size w w' := by
  cases h with
  | @mk op name sort n l vars pat A V P ca cv cp f g hbd hl hf hL hv hV hp hg hP =>
    have hlen := hbd.l
    have Hb : Hid (Below w.heap.size w (boxT w ⟨op, name, sort, n, A, l.length, ca, V, vars.length, cv, P, pat.length, cp⟩)) := Lib.hid (below_boxT _ _)
    clear hf hL hP hg hV hbd
    simp only [opOf, List.mem_cons, List.not_mem_nil, or_false] at ho
    rcases ho with rfl | rfl | rfl | rfl | rfl | rfl | rfl | rfl | rfl | rfl | rfl | rfl | rfl | rfl
    all_goals
      go_enter Tryz.func61, Tryz.ntmps61
      go_wp2_with fail
      go_ret
      exact ⟨by simp [shapeB], Hb.out⟩
set_option maxRecDepth 100000 in
set_option maxHeartbeats 1000000 in
theorem shape_app {t : Tm} {v : Value} {w : World} (h : TmV w t v) (ho : opOf t = 17) :
    Calls Tryz.prog 61 #[v] w fun e w' => e = .returned (.bool (shapeB t)) ∧ Below w.heap.size w w' := by
  cases h with
  | @mk op name sort n l vars pat A V P ca cv cp f g hbd hl hf hL hv hV hp hg hP =>
    have hlen := hbd.l
    have hnm := hbd.name
    have Hb : Hid (Below w.heap.size w (boxT w ⟨op, name, sort, n, A, l.length, ca, V, vars.length, cv, P, pat.length, cp⟩)) := Lib.hid (below_boxT _ _)
    have Hc := Lib.hid (named_any name (boxT w ⟨op, name, sort, n, A, l.length, ca, V, vars.length, cv, P, pat.length, cp⟩) hnm)
    clear hf hL hP hg hV hbd
    simp only [opOf] at ho
    subst ho
    go_enter Tryz.func61, Tryz.ntmps61
    go_wp2_with (go_at_call 94; refine Calls.mono Hc.out ?_; rintro e w3 ⟨rfl, hb3⟩; have Hb3 := Lib.hid hb3; clear hb3)
    go_ret
    exact ⟨by simp [shapeB], Hb.out.trans (Hb3.out.mono Hb.out.size)⟩
set_option maxRecDepth 100000 in
set_option maxHeartbeats 1000000 in
theorem shape_var {t : Tm} {v : Value} {w : World} (h : TmV w t v) (ho : opOf t = 18) :
    Calls Tryz.prog 61 #[v] w fun e w' => e = .returned (.bool (shapeB t)) ∧ Below w.heap.size w w' := by
  cases h with
  | @mk op name sort n l vars pat A V P ca cv cp f g hbd hl hf hL hv hV hp hg hP =>
    have hlen := hbd.l
    have hnm := hbd.name
    have Hb : Hid (Below w.heap.size w (boxT w ⟨op, name, sort, n, A, l.length, ca, V, vars.length, cv, P, pat.length, cp⟩)) := Lib.hid (below_boxT _ _)
    have Hc := Lib.hid (named_any name (boxT w ⟨op, name, sort, n, A, l.length, ca, V, vars.length, cv, P, pat.length, cp⟩) hnm)
    clear hf hL hP hg hV hbd
    simp only [opOf] at ho
    subst ho
    cases hz : ((l.length : Int) == 0) with
    | true =>
      have Hr : Hid (shapeB (.mk 18 name sort n l vars pat) = nameB name) := Lib.hid (by simp only [shapeB]; rw [hz]; rfl)
      go_enter Tryz.func61, Tryz.ntmps61
      go_wp2_with (go_at_call 94; refine Calls.mono Hc.out ?_; rintro e w3 ⟨rfl, hb3⟩; have Hb3 := Lib.hid hb3; clear hb3)
      go_ret
      exact ⟨by rw [Hr.out]; rfl, Hb.out.trans (Hb3.out.mono Hb.out.size)⟩
    | false =>
      have Hr : Hid (shapeB (.mk 18 name sort n l vars pat) = false) := Lib.hid (by simp only [shapeB]; rw [hz]; rfl)
      go_enter Tryz.func61, Tryz.ntmps61
      go_wp2_with fail
      go_ret
      exact ⟨by rw [Hr.out]; rfl, Hb.out⟩
end Go.Proofs.YtbnonccmlildnaaGreat

/- shape of a number, of any other operator. -/
namespace Go.Proofs.YtbnonccmlildnaaGreat
open Go.RowKit

set_option maxRecDepth 100000 in
set_option maxHeartbeats 1000000 in
theorem shape_num {t : Tm} {v : Value} {w : World} (h : TmV w t v) (ho : opOf t = 1) (hN : ∀ op name sort n l vars pat, t = .mk op name sort n l vars pat → n.size ≤ 1000000) :
    Calls Tryz.prog 61 #[v] w fun e w' => e = .returned (.bool (shapeB t)) ∧ Below w.heap.size w w' := by
  cases h with
  | @mk op name sort n l vars pat A V P ca cv cp f g hbd hl hf hL hv hV hp hg hP =>
    have hlen := hbd.l
    have hnm := hN _ _ _ _ _ _ _ rfl
    have Hb : Hid (Below w.heap.size w (boxT w ⟨op, name, sort, n, A, l.length, ca, V, vars.length, cv, P, pat.length, cp⟩)) := Lib.hid (below_boxT _ _)
    have Hc := Lib.hid (parse_any n (boxT w ⟨op, name, sort, n, A, l.length, ca, V, vars.length, cv, P, pat.length, cp⟩) hnm)
    clear hf hL hP hg hV hbd hN
    simp only [opOf] at ho
    subst ho
    cases hz : rightB n with
    | true =>
      have Hr : Hid (shapeB (.mk 1 name sort n l vars pat) = ((l.length : Int) == 0)) := Lib.hid (by simp only [shapeB]; rw [hz]; rfl)
      rw [hz] at Hc
      clear hz
      go_enter Tryz.func61, Tryz.ntmps61
      go_wp2_with (go_at_call 33; refine Calls.mono Hc.out ?_; rintro e w3 ⟨B, k, c, b, rfl, hb3⟩; have Hb3 := Lib.hid hb3; clear hb3)
      go_ret
      exact ⟨by rw [Hr.out]; rfl, (Hb.out.trans (Hb3.out.mono Hb.out.size)).alloc (by have := Hb.out.size; have := Hb3.out.size; omega) _⟩
    | false =>
      have Hr : Hid (shapeB (.mk 1 name sort n l vars pat) = false) := Lib.hid (by simp only [shapeB]; rw [hz]; rfl)
      rw [hz] at Hc
      clear hz
      go_enter Tryz.func61, Tryz.ntmps61
      go_wp2_with (go_at_call 33; refine Calls.mono Hc.out ?_; rintro e w3 ⟨B, k, c, b, rfl, hb3⟩; have Hb3 := Lib.hid hb3; clear hb3)
      go_ret
      exact ⟨by rw [Hr.out]; rfl, (Hb.out.trans (Hb3.out.mono Hb.out.size)).alloc (by have := Hb.out.size; have := Hb3.out.size; omega) _⟩
set_option maxRecDepth 100000 in
set_option maxHeartbeats 1000000 in
theorem shape_other {t : Tm} {v : Value} {w : World} (h : TmV w t v) (ho : opOf t < 1 ∨ 19 < opOf t) :
    Calls Tryz.prog 61 #[v] w fun e w' => e = .returned (.bool (shapeB t)) ∧ Below w.heap.size w w' := by
  cases h with
  | @mk op name sort n l vars pat A V P ca cv cp f g hbd hl hf hL hv hV hp hg hP =>
    have hlen := hbd.l
    have Hb : Hid (Below w.heap.size w (boxT w ⟨op, name, sort, n, A, l.length, ca, V, vars.length, cv, P, pat.length, cp⟩)) := Lib.hid (below_boxT _ _)
    clear hf hL hP hg hV hbd
    simp only [opOf] at ho
    have Hr : Hid (shapeB (.mk op name sort n l vars pat) = false) := Lib.hid (by
      simp only [shapeB]
      repeat rw [if_neg (by omega)])
    have b1 : (op == 1) = false := by
      rw [beq_eq_false_iff_ne]
      omega
    have b2 : (op == 2) = false := by
      rw [beq_eq_false_iff_ne]
      omega
    have b3 : (op == 3) = false := by
      rw [beq_eq_false_iff_ne]
      omega
    have b4 : (op == 4) = false := by
      rw [beq_eq_false_iff_ne]
      omega
    have b5 : (op == 5) = false := by
      rw [beq_eq_false_iff_ne]
      omega
    have b6 : (op == 6) = false := by
      rw [beq_eq_false_iff_ne]
      omega
    have b7 : (op == 7) = false := by
      rw [beq_eq_false_iff_ne]
      omega
    have b8 : (op == 8) = false := by
      rw [beq_eq_false_iff_ne]
      omega
    have b9 : (op == 9) = false := by
      rw [beq_eq_false_iff_ne]
      omega
    have b10 : (op == 10) = false := by
      rw [beq_eq_false_iff_ne]
      omega
    have b11 : (op == 11) = false := by
      rw [beq_eq_false_iff_ne]
      omega
    have b12 : (op == 12) = false := by
      rw [beq_eq_false_iff_ne]
      omega
    have b13 : (op == 13) = false := by
      rw [beq_eq_false_iff_ne]
      omega
    have b14 : (op == 14) = false := by
      rw [beq_eq_false_iff_ne]
      omega
    have b15 : (op == 15) = false := by
      rw [beq_eq_false_iff_ne]
      omega
    have b16 : (op == 16) = false := by
      rw [beq_eq_false_iff_ne]
      omega
    have b17 : (op == 17) = false := by
      rw [beq_eq_false_iff_ne]
      omega
    have b18 : (op == 18) = false := by
      rw [beq_eq_false_iff_ne]
      omega
    have b19 : (op == 19) = false := by
      rw [beq_eq_false_iff_ne]
      omega
    clear ho
    go_enter Tryz.func61, Tryz.ntmps61
    go_wp2_with fail
    go_ret
    exact ⟨by rw [Hr.out]; rfl, Hb.out⟩
theorem TmV.op {w : World} {t : Tm} {v : Value} (h : TmV w t v) {p : Parts} (hp : v = .agg p.arr) : p.op = opOf t := by
  cases h with
  | mk f g =>
    simp [Parts.arr] at hp
    exact hp.1.symm
set_option maxRecDepth 100000 in
set_option maxHeartbeats 1000000 in
theorem shape_mul {t : Tm} {v : Value} {w : World} (h : TmV w t v) (ho : opOf t = 15) :
    Calls Tryz.prog 61 #[v] w fun e w' => e = .returned (.bool (shapeB t)) ∧ Below w.heap.size w w' := by
  cases h with
  | @mk op name sort n l vars pat A V P ca cv cp f g hbd hl hf hL hv hV hp hg hP =>
    have hlen := hbd.l
    have Hb : Hid (Below w.heap.size w (boxT w ⟨op, name, sort, n, A, l.length, ca, V, vars.length, cv, P, pat.length, cp⟩)) := Lib.hid (below_boxT _ _)
    simp only [opOf] at ho
    subst ho
    by_cases h2 : l.length = 2
    · obtain ⟨x, y, rfl⟩ : ∃ x y, l = [x, y] := by
        match l, h2 with
        | [x, y], _ => exact ⟨x, y, rfl⟩
      have hv0 := hL 0 x rfl
      obtain ⟨p, hp0⟩ := hv0.parts
      obtain ⟨b, o, rfl, hc0, _⟩ := (hf.below Hb.out).get (j := 0) (by simp) hp0
      rw [hv0.op hp0] at hc0
      simp only [Nat.zero_mul, Nat.add_zero] at hc0
      have Hr : Hid (shapeB (.mk 15 name sort n [x, y] vars pat) = (opOf x == 1)) := Lib.hid (by simp [shapeB, firstNum])
      have hc1 : (w.alloc (.cells #[.int .i64 15, .string name, .int .i64 sort, .string n, .slice (some ⟨b, o, none⟩) 2 ca, .slice V vars.length cv, .slice P pat.length cp] 29)).cell? ⟨b, o, none⟩ = some (.int .i64 (opOf x)) := hc0
      have Hb1 : Hid (Below w.heap.size w (w.alloc (.cells #[.int .i64 15, .string name, .int .i64 sort, .string n, .slice (some ⟨b, o, none⟩) 2 ca, .slice V vars.length cv, .slice P pat.length cp] 29))) := Lib.hid ((Below.refl _ _).alloc (Nat.le_refl _) _)
      clear hf hL hP hg hV hbd hv0 hp0 hc0 h2 hlen Hb
      go_enter Tryz.func61, Tryz.ntmps61
      go_wp2_with fail
      go_ret
      exact ⟨by rw [Hr.out]; rfl, Hb1.out⟩
    · have hb2 : ((l.length : Int) == 2) = false := by
        rw [beq_eq_false_iff_ne]
        omega
      have Hr : Hid (shapeB (.mk 15 name sort n l vars pat) = false) := Lib.hid (by simp only [shapeB]; rw [hb2]; rfl)
      clear hf hL hP hg hV hbd h2
      go_enter Tryz.func61, Tryz.ntmps61
      go_wp2_with fail
      go_ret
      exact ⟨by rw [Hr.out]; rfl, Hb.out⟩
end Go.Proofs.YtbnonccmlildnaaGreat

/- shape of a formula for all. -/
namespace Go.Proofs.YtbnonccmlildnaaGreat
open Go.RowKit
set_option maxRecDepth 100000 in
set_option maxHeartbeats 1000000 in
theorem shape_all {t : Tm} {v : Value} {w : World} (h : TmV w t v) (ho : opOf t = 19) :
    Calls Tryz.prog 61 #[v] w fun e w' => e = .returned (.bool (shapeB t)) ∧ Below w.heap.size w w' := by
  cases h with
  | @mk op name sort n l vars pat A V P ca cv cp f g hbd hl hf hL hv hV hp hg hP =>
    have hlen := hbd.l
    have hplen := hbd.p
    obtain ⟨P0, hP0⟩ : ∃ P0 : Parts, P0 = ⟨op, name, sort, n, A, l.length, ca, V, vars.length, cv, P, pat.length, cp⟩ := ⟨_, rfl⟩
    have Hb : Hid (Below w.heap.size w (boxT w P0)) := Lib.hid (below_boxT _ _)
    have hV' : RowCells w V 2 vars.length (bval vars) := hV
    have Hc := Lib.hid (binds_any hbd.v hv (hV'.below Hb.out) hbd.vs)
    have Hcell : Hid (∀ w3, Below (w.heap.size + 1) (boxT w P0) w3 → w3.cell? ⟨w.heap.size, 6, none⟩ = some (.slice P pat.length cp)) := Lib.hid (fun w3 h3 => boxT_cell h3 6 (by rw [hP0]; rfl))
    have Hsz := Lib.hid (boxT_size w P0)
    clear hf hL hP hg hV hV' hbd
    simp only [opOf] at ho
    subst ho
    subst hP0
    cases h1 : ((l.length : Int) == 1) with
    | false =>
      have Hr : Hid (shapeB (.mk 19 name sort n l vars pat) = false) := Lib.hid (by simp only [shapeB]; rw [h1]; rfl)
      go_enter Tryz.func61, Tryz.ntmps61
      go_wp2_with fail
      go_ret
      exact ⟨by rw [Hr.out]; rfl, Hb.out⟩
    | true =>
      cases h2 : bindsB vars with
      | false =>
        have Hr : Hid (shapeB (.mk 19 name sort n l vars pat) = false) := Lib.hid (by simp only [shapeB]; rw [h1, h2]; rfl)
        rw [h2] at Hc
        clear h2
        go_enter Tryz.func61, Tryz.ntmps61
        go_wp2_with (go_at_call 95; refine Calls.mono Hc.out ?_; rintro e w3 ⟨rfl, hb3⟩; have Hb3 := Lib.hid hb3; clear hb3)
        go_ret
        exact ⟨by rw [Hr.out]; rfl, Hb.out.trans (Hb3.out.mono Hb.out.size)⟩
      | true =>
        have Hr : Hid (shapeB (.mk 19 name sort n l vars pat) = decide (0 < pat.length)) := Lib.hid (by simp only [shapeB]; rw [h1, h2]; rfl)
        rw [h2] at Hc
        clear h2
        go_enter Tryz.func61, Tryz.ntmps61
        go_wp2_with (go_at_call 95; refine Calls.mono Hc.out ?_; rintro e w3 ⟨rfl, hb3⟩; have Hb3 := Lib.hid hb3; have hc6 := Hcell.out w3 (by rw [← Hsz.out]; exact hb3); clear hb3)
        go_ret
        exact ⟨by rw [Hr.out]; rfl, Hb.out.trans (Hb3.out.mono Hb.out.size)⟩
end Go.Proofs.YtbnonccmlildnaaGreat

/- shape, whole. -/
namespace Go.Proofs.YtbnonccmlildnaaGreat
open Go.RowKit
/-- A number's text is no longer than that. -/
def shortN : Tm → Prop
  | .mk _ _ _ n _ _ _ => n.size ≤ 1000000
theorem shape_any {t : Tm} {v : Value} {w : World} (h : TmV w t v) (hN : shortN t) :
    Calls Tryz.prog 61 #[v] w fun e w' => e = .returned (.bool (shapeB t)) ∧ Below w.heap.size w w' := by
  by_cases h1 : opOf t = 1
  · exact shape_num h h1 (fun _ _ _ _ _ _ _ e => by subst e; exact hN)
  · by_cases h17 : opOf t = 17
    · exact shape_app h h17
    · by_cases h18 : opOf t = 18
      · exact shape_var h h18
      · by_cases h15 : opOf t = 15
        · exact shape_mul h h15
        · by_cases h19 : opOf t = 19
          · exact shape_all h h19
          · by_cases hr : opOf t < 1 ∨ 19 < opOf t
            · exact shape_other h hr
            · refine shape_count h ?_
              simp only [List.mem_cons, List.not_mem_nil, or_false]
              omega
end Go.Proofs.YtbnonccmlildnaaGreat
