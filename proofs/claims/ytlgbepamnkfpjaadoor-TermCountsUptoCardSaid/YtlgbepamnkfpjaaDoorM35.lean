/- Text, of any formula for all whose names are not too long together. -/
import Derived.Test.YtlgbepamnkfpjaaDoorM34
import Derived.Test.YtlgbepamnkfpjaaDoorM22
set_option linter.unusedSimpArgs false
set_option linter.unusedVariables false
namespace Go.Proofs.YtlgbepamnkfpjaaDoor
open Go.RowKit Go.Lib

theorem OwnQ.cap {w : World} {b k c : Nat} {e : TypeId} {A : Option Addr} {xs : List Value} (h : OwnQ w b e (.slice A k c) xs) (hk : xs.length = k) : k ≤ c := by
  rcases h with ⟨h1, rfl⟩ | ⟨g, o, cap, cur, h1, _, _, h2, _⟩
  · cases h1; simp
  · cases h1; omega
def JoinVs (vs : Bd) : Prop := ∀ (W : World) (A : Option Addr) (c : Nat), vs.length ≤ c → Cells W A ((varTexts vs).map Value.string) → Calls Tryd.prog 32 #[.slice A vs.length c, .string ⟨#[32]⟩] W (TextIs W (joinB (varTexts vs)))
theorem joinB_join : ∀ l : List ByteArray, joinB l = ⟨(Lib.join (l.map (·.data.toList)) [32]).toArray⟩
  | [] => rfl
  | [s] => by
    simp only [joinB, List.map_cons, List.map_nil, Lib.join_one]
  | s :: t :: l => by
    have ih := joinB_join (t :: l)
    have e : joinB (s :: t :: l) = s ++ (⟨#[32]⟩ ++ joinB (t :: l)) := rfl
    rw [e, ih]
    have h2 : Lib.join ((s :: t :: l).map (·.data.toList)) [32] = s.data.toList ++ ([32] ++ Lib.join ((t :: l).map (·.data.toList)) [32]) := by
      simp [Lib.join, List.intercalate, List.intersperse]
    rw [h2]
    apply ByteArray.ext
    simp [ByteArray.data_append]
theorem join_vs {vs : Bd} {N : Nat} (hN : ∀ x ∈ vs, x.1.size ≤ N) (hl : vs.length * (N + 6) ≤ 140737488355328) : JoinVs vs := by
  intro W A c hc hcells
  have hsz : ∀ s ∈ varTexts vs, s.size + 1 ≤ N + 6 := by
    intro s hs
    obtain ⟨v, hv, rfl⟩ := List.mem_map.1 hs
    have h1 := hN v hv
    have h2 := sortsB_size v.2
    simp only [ByteArray.size_append]
    show v.1.size + 1 + (sortsB v.2).size + 1 ≤ N + 6
    omega
  have hj := joinB_size hsz
  rw [varTexts_length] at hj
  by_cases h0 : vs = []
  · subst h0
    refine (Tryd.strings_Join_none A c ⟨#[32]⟩ W).mono ?_
    rintro e w' ⟨rfl, rfl⟩
    exact ⟨rfl, Below.refl _ _⟩
  · have hpos : 0 < vs.length := List.length_pos_iff.2 h0
    rcases hcells with ⟨_, h1⟩ | ⟨b, o, rfl, h1⟩
    · simp [varTexts] at h1
      exact absurd h1 h0
    · have hb : b < W.heap.size := by
        have hv : ((varTexts vs).map Value.string)[0]? = some (Value.string ((varTexts vs)[0]'(by rw [varTexts_length]; exact hpos))) := by simp [varTexts_length, hpos]
        exact World.block_lt_of_cell? W _ (h1 0 _ hv)
      have hjl : (Lib.join ((varTexts vs).map (·.data.toList)) [32]).length ≤ 140737488355328 := by
        have := hj
        rw [joinB_join] at this
        have e : (ByteArray.mk (Lib.join ((varTexts vs).map (·.data.toList)) [32]).toArray).size = (Lib.join ((varTexts vs).map (·.data.toList)) [32]).length := by simp [ByteArray.size]
        rw [e] at this
        omega
      have h := Tryd.strings_Join b o c (varTexts vs) ⟨#[32]⟩ W (fun j x hx => h1 j _ (by simp [hx])) hb (by rw [varTexts_length]; exact Nat.le_trans (Nat.le_mul_of_pos_right _ (by omega)) hl) (by rw [varTexts_length]; exact hc) hjl
      rw [varTexts_length] at h
      refine h.mono ?_
      rintro e w' ⟨rfl, hb2⟩
      exact ⟨by rw [joinB_join], hb2⟩
set_option maxRecDepth 100000 in
set_option maxHeartbeats 4000000 in
theorem text_all2 {w0 : World} {sort : Int} {name n : ByteArray} {ts pat : List Tm} {vs : Bd} {A V P : Option Addr} {ca cv cp : Nat} (hV : RowCells w0 V 2 vs.length (bval vs)) (hvs : ∀ x ∈ vs, x.1.size ≤ 140737488355328) (hjoin : JoinVs vs) (hvl : vs.length ≤ 10000)
    (hst : (behindB ts).size ≤ 2900000000000000000) (hsp : (behindB pat).size ≤ 2900000000000000000)
    (hjt : ∀ W, Below w0.heap.size w0 W → Calls Tryd.prog 33 #[.slice A ts.length ca] W (TextIs W (trimB (behindB ts) ⟨#[32]⟩)))
    (hjp : ∀ W, Below w0.heap.size w0 W → Calls Tryd.prog 33 #[.slice P pat.length cp] W (TextIs W (trimB (behindB pat) ⟨#[32]⟩))) (w : World) (hb : Below w0.heap.size w0 w) :
    Calls Tryd.prog 17 #[.agg (Parts.arr ⟨19, name, sort, n, A, ts.length, ca, V, vs.length, cv, P, pat.length, cp⟩)] w (TextIs w (textT (.mk 19 name sort n ts vs pat))) := by
  obtain ⟨s, hs2⟩ : ∃ s, s = textT (.mk 19 name sort n ts vs pat) := ⟨_, rfl⟩
  rw [← hs2]
  have Hs : Hid (s = ⟨#[40, 102, 111, 114, 97, 108, 108, 32, 40]⟩ ++ joinB (varTexts vs) ++ ⟨#[41, 32, 40, 112, 97, 116, 116, 101, 114, 110, 32]⟩ ++ trimB (behindB pat) ⟨#[32]⟩ ++ ⟨#[41, 32]⟩ ++ trimB (behindB ts) ⟨#[32]⟩ ++ ⟨#[41]⟩) := Lib.hid (by rw [hs2]; simp [textT])
  have hj := joinB_size (varTexts_size hvs)
  rw [varTexts_length] at hj
  have hts := Nat.le_trans (trimB_size (behindB ts) ⟨#[32]⟩) hst
  have hps := Nat.le_trans (trimB_size (behindB pat) ⟨#[32]⟩) hsp
  have hvt := varTexts_size hvs
  have Hvt := Lib.hid hvt
  have HV := Lib.hid hV
  have Hjoin : Hid (∀ (W : World) (A2 : Option Addr) (c2 : Nat), vs.length ≤ c2 → Cells W A2 ((varTexts vs).map Value.string) → Calls Tryd.prog 32 #[.slice A2 vs.length c2, .string ⟨#[32]⟩] W (TextIs W (joinB (varTexts vs)))) := Lib.hid hjoin
  have Hjt := Lib.hid hjt
  have Hjp := Lib.hid hjp
  have Hb := Lib.hid hb
  have Hvs := Lib.hid hvs
  have HT0 : Hid ((w.alloc (.cells #[.int .i64 19, .string name, .int .i64 sort, .string n, .slice A ts.length ca, .slice V vs.length cv, .slice P pat.length cp] 27)).heap[w.heap.size]? = some (.cells (Parts.arr ⟨19, name, sort, n, A, ts.length, ca, V, vs.length, cv, P, pat.length, cp⟩) 27 (0, 0))) := Lib.hid (heap_alloc_new w _)
  obtain ⟨i9, hi9, hz0, hz1, hz2⟩ := info_parts info9
  clear hs2 hV hvs hjoin hst hsp hjt hjp hb hvt
  simp only [Parts.arr]
  generalize hlt : ts.length = lt at *
  generalize hlp : pat.length = lp at *
  clear hlt hlp
  generalize trimB (behindB ts) ⟨#[32]⟩ = tl at *
  generalize trimB (behindB pat) ⟨#[32]⟩ = tp at *
  go_enter Tryd.func17, Tryd.ntmps17
  go_wp2_with (go_at_call 29; refine (word_any _ _).mono ?_; rintro e w2 ⟨rfl, rfl⟩)
  go_loopw [4, 46] (fun v i wr => ∃ (k c2 : Nat) (A2 : Option Addr), k ≤ vs.length ∧ i = .int .i64 k ∧ v = .slice A2 k c2 ∧ Hid (OwnQ wr (w.heap.size + 1) 9 (.slice A2 k c2) ((varTexts (vs.take k)).map Value.string)) ∧ Hid (Below w.heap.size w wr ∧ w.heap.size + 1 ≤ wr.heap.size) ∧ Hid (wr.heap[w.heap.size]? = some (.cells (Parts.arr ⟨19, name, sort, n, A, lt, ca, V, vs.length, cv, P, lp, cp⟩) 27 (0, 0)))) (fun _ i _ => vs.length - (Go.RowKit.intOf i).toNat)
  case atStart => exact ⟨0, 0, none, Nat.zero_le _, rfl, rfl, Lib.hid (OwnQ.nil _ _ _), Lib.hid ⟨(Below.refl _ _).alloc (Nat.le_refl _) _, by simp⟩, HT0⟩
  case round =>
    obtain ⟨k, c2, A2, hk, rfl, rfl, Hown, Hbr, HT⟩ := hrel
    by_cases hlt : k < vs.length
    · have hwr0 : Below w0.heap.size w0 wr := Hb.out.trans (Hbr.out.1.mono Hb.out.size)
      obtain ⟨b, o, rfl, h0, h1⟩ := (HV.out.below hwr0).bound (List.getElem?_eq_getElem hlt)
      have Hst := Lib.hid (varTexts_take hlt)
      have hx := Hvs.out vs[k] (List.getElem_mem hlt)
      clear hwr0
      generalize vs[k] = v at *
      obtain ⟨x, sx⟩ := v
      dsimp only at h0 h1 Hst hx
      have hss := sortsB_size sx
      have Hsort : Hid (∀ W, Calls Tryd.prog 31 #[.int .i64 sx] W fun e w' => e = .returned (.string (sortsB sx)) ∧ w' = W) := Lib.hid (sorts_any sx)
      generalize sortsB sx = sb at *
      have n1 : ¬ (9223372036854775807 : Nat) < x.size + 1 := by omega
      have n2 : ¬ (9223372036854775807 : Nat) < x.size + 1 + sb.size := by omega
      have HN : Hid (((varTexts (vs.take k)).map Value.string).length = k) := Lib.hid (by simp [varTexts]; omega)
      have HN2 : Hid ((varTexts (vs.take k)).length = k) := Lib.hid (by simp [varTexts]; omega)
      have Hlen : Hid (((varTexts (vs.take k)).map Value.string).length + 1 ≤ maxLen ∧ (((varTexts (vs.take k)).map Value.string).length + 1) * 16 ≤ 140737488355328) := Lib.hid (by rw [HN.out]; simp only [maxLen]; omega)
      go_wp2_with fail
      have Hbase : Hid (w.heap.size + 1 ≤ wr.heap.size) := Lib.hid Hbr.out.2
      have hp0 : (wr.alloc (.cells #[.string x, .int .i64 sx] 33)).cell? ⟨wr.heap.size, 0, none⟩ = some (.string x) := by rw [row_at (heap_alloc_new wr _)]; rfl
      have hp1 : (wr.alloc (.cells #[.string x, .int .i64 sx] 33)).cell? ⟨wr.heap.size, 1, none⟩ = some (.int .i64 sx) := by rw [row_at (heap_alloc_new wr _)]; rfl
      have HrowB : Hid (((wr.alloc (.cells #[.string x, .int .i64 sx] 33)).alloc (.cells #[.string (x ++ ⟨#[32]⟩ ++ sb)] 9)).drew.heap[wr.heap.size]? = some (.cells #[.string x, .int .i64 sx] 33 (0, 0))) := Lib.hid (by show ((wr.alloc (.cells #[.string x, .int .i64 sx] 33)).alloc (.cells #[.string (x ++ ⟨#[32]⟩ ++ sb)] 9)).heap[wr.heap.size]? = _; rw [Below.heap_alloc _ _ _ (by simp)]; exact heap_alloc_new wr _)
      obtain ⟨hq0, hq1⟩ : ((wr.alloc (.cells #[.string x, .int .i64 sx] 33)).alloc (.cells #[.string (x ++ ⟨#[32]⟩ ++ sb)] 9)).drew.cell? ⟨wr.heap.size, 0, none⟩ = some (.string x) ∧ ((wr.alloc (.cells #[.string x, .int .i64 sx] 33)).alloc (.cells #[.string (x ++ ⟨#[32]⟩ ++ sb)] 9)).drew.cell? ⟨wr.heap.size, 1, none⟩ = some (.int .i64 sx) := ⟨by rw [row_at HrowB.out]; rfl, by rw [row_at HrowB.out]; rfl⟩
      have HownB : Hid (OwnQ ((wr.alloc (.cells #[.string x, .int .i64 sx] 33)).alloc (.cells #[.string (x ++ ⟨#[32]⟩ ++ sb)] 9)).drew (w.heap.size + 1) 9 (.slice A2 k c2) ((varTexts (vs.take k)).map Value.string)) := Lib.hid (((Hown.out.alloc _).alloc _).drew)
      go_region_held3 (fun w' => w'.cell? ⟨wr.heap.size, 0, none⟩ = some (.string x) ∧ w'.cell? ⟨wr.heap.size, 1, none⟩ = some (.int .i64 sx))
        (first
          | exact ⟨hp0, hp1⟩
          | (with_reducible exact ⟨hq0, hq1⟩)
          | (with_reducible exact ⟨hr0, hr1⟩))
        (first
          | (go_at_call 31; (with_reducible refine (Hsort.out _).mono ?_); rintro e w5 ⟨rfl, rfl⟩)
          | (refine step_append_q _ (by rfl) _ _ 59 (by rfl) (w.heap.size + 1) 9 i9 (.string ⟨#[]⟩) 16 Tryd.underlying59 hi9 hz0 hz1 hz2 rfl (.slice A2 k c2) ((varTexts (vs.take k)).map Value.string) (by rfl) HownB.out ⟨wr.heap.size + 1, 0, none⟩ 1 (.string (x ++ ⟨#[32]⟩ ++ sb)) (by simp [Act.eval, Act.put]) (by simp) rfl Hlen.out.1 Hlen.out.2 (by have := Hbase.out; simp; omega) ?_
             intro g of cap w3 hq3 hg3 _
             have Hq3 := Lib.hid hq3
             have Hg3 := Lib.hid hg3
             have hr3 := row_kept_q HrowB.out HownB.out hg3 (by decide)
             have hr0 : w3.cell? ⟨wr.heap.size, 0, none⟩ = some (.string x) := (by rw [row_at hr3]; rfl)
             have hr1 : w3.cell? ⟨wr.heap.size, 1, none⟩ = some (.int .i64 sx) := (by rw [row_at hr3]; rfl)
             clear hq3 hg3 hr3))
      all_goals
        go_wp2_with fail
        go_roundw
        case rel =>
          refine ⟨k + 1, cap, some ⟨g, of, none⟩, by omega, by go_num, by rw [HN2.out], Lib.hid ?_, Lib.hid ⟨?_, ?_⟩, Lib.hid ?_⟩
          · have := Hq3.out
            rw [HN.out] at this
            rw [Hst.out, List.map_append]
            exact this
          · exact (((Hbr.out.1.alloc Hbr.out.1.size _).alloc (by have := Hbr.out.1.size; simp; omega) _).drew).grown Hg3.out (by have := Hbr.out.1.size; simp; omega) (fun j hj => by have := (HownB.out.lt j hj).1; omega)
          · have := Hg3.out.size
            have := Hbase.out
            simp at *
            omega
          · exact row_kept_q (W := ((wr.alloc (.cells #[.string x, .int .i64 sx] 33)).alloc (.cells #[.string (x ++ ⟨#[32]⟩ ++ sb)] 9)).drew) (by show ((wr.alloc (.cells #[.string x, .int .i64 sx] 33)).alloc (.cells #[.string (x ++ ⟨#[32]⟩ ++ sb)] 9)).heap[_]? = _; rw [Below.heap_alloc _ _ _ (by have := Hbase.out; simp; omega), Below.heap_alloc _ _ _ (by have := Hbase.out; omega)]; exact HT.out) HownB.out Hg3.out (by decide)
        case measure => simp [Go.RowKit.intOf]; omega
    · have hkl : k = vs.length := by omega
      subst hkl
      have Hcap : Hid (vs.length ≤ c2) := Lib.hid (Hown.out.cap (by simp [varTexts]))
      have Hcells : Hid (Cells wr A2 ((varTexts vs).map Value.string)) := Lib.hid (by
        have := Hown.out
        rw [List.take_length] at this
        obtain ⟨A3, c3, e, _, hc⟩ := this.cells
        simp only [Value.slice.injEq] at e
        obtain ⟨rfl, _, _⟩ := e
        exact hc)
      generalize joinB (varTexts vs) = j at *
      have HcD : Hid (Cells wr.drew A2 ((varTexts vs).map Value.string)) := Lib.hid Hcells.out
      have HTd : Hid (wr.drew.heap[w.heap.size]? = some (.cells (Parts.arr ⟨19, name, sort, n, A, lt, ca, V, vs.length, cv, P, lp, cp⟩) 27 (0, 0))) := Lib.hid HT.out
      have HB0 : Hid (Below w.heap.size w wr.drew) := Lib.hid Hbr.out.1.drew
      obtain ⟨_, _, _, _, x4, _, x6⟩ := box_cells HT.out
      dsimp only at x4 x6
      have n1 : ¬ (9223372036854775807 : Nat) < 9 + j.size := by omega
      have n2 : ¬ (9223372036854775807 : Nat) < 9 + j.size + 11 := by omega
      have n3 : ¬ (9223372036854775807 : Nat) < 9 + j.size + 11 + tp.size := by omega
      have n4 : ¬ (9223372036854775807 : Nat) < 9 + j.size + 11 + tp.size + 2 := by omega
      have n5 : ¬ (9223372036854775807 : Nat) < 9 + j.size + 11 + tp.size + 2 + tl.size := by omega
      have n6 : ¬ (9223372036854775807 : Nat) < 9 + j.size + 11 + tp.size + 2 + tl.size + 1 := by omega
      go_wp2_with fail
      clear Hown Hcells HT hts hps hj HV Hvt Hvs
      go_region_held3 (fun w' => w'.cell? ⟨w.heap.size, 4, none⟩ = some (.slice A lt ca) ∧ w'.cell? ⟨w.heap.size, 6, none⟩ = some (.slice P lp cp))
        (first
          | exact ⟨x4, x6⟩
          | (with_reducible exact ⟨x54, x56⟩)
          | (with_reducible exact ⟨x64, x66⟩)
          | (with_reducible exact ⟨x74, x76⟩))
        (first
          | (go_at_call 32; (with_reducible refine (Hjoin.out _ A2 c2 Hcap.out HcD.out).mono ?_); rintro e w5 ⟨rfl, hb5⟩
             have H5 : Hid (Below w.heap.size w w5) := Lib.hid (HB0.out.trans (hb5.mono HB0.out.size))
             have HT5 := Lib.hid (below_keeps hb5 HTd.out)
             obtain ⟨_, _, _, _, x54, _, x56⟩ := box_cells HT5.out
             dsimp only at x54 x56
             clear hb5)
          | (go_at_call 33; (with_reducible refine (Hjp.out w5 (Hb.out.trans (H5.out.mono Hb.out.size))).mono ?_); rintro e w6 ⟨rfl, hb6⟩
             have H6 : Hid (Below w.heap.size w w6) := Lib.hid (H5.out.trans (hb6.mono H5.out.size))
             have HT6 := Lib.hid (below_keeps hb6 HT5.out)
             obtain ⟨_, _, _, _, x64, _, x66⟩ := box_cells HT6.out
             dsimp only at x64 x66
             clear hb6)
          | (go_at_call 33; (with_reducible refine (Hjt.out w6 (Hb.out.trans (H6.out.mono Hb.out.size))).mono ?_); rintro e w7 ⟨rfl, hb7⟩
             have H7 : Hid (Below w.heap.size w w7) := Lib.hid (H6.out.trans (hb7.mono H6.out.size))
             have HT7 := Lib.hid (below_keeps hb7 HT6.out)
             obtain ⟨_, _, _, _, x74, _, x76⟩ := box_cells HT7.out
             dsimp only at x74 x76
             clear hb7))
      all_goals
        go_wp2_with fail
        go_ret
        exact ⟨by rw [Hs.out]; rfl, H7.out⟩
mutual
def vmax (N : Nat) : Tm → Bool
  | .mk _ _ _ _ l vars pat => vars.all (fun x => decide (x.1.size ≤ N)) && vmaxs N l && vmaxs N pat
def vmaxs (N : Nat) : List Tm → Bool
  | [] => true
  | t :: ts => vmax N t && vmaxs N ts
end
theorem vmaxs_mem {m : Nat} {l : List Tm} {k : Nat} {t : Tm} (h : l[k]? = some t) (hs : vmaxs m l = true) : vmax m t = true := by
  induction l generalizing k with
  | nil => simp at h
  | cons u l ih =>
    simp only [vmaxs, Bool.and_eq_true] at hs
    cases k with
    | zero => simp at h; subst h; exact hs.1
    | succ k => exact ih (k := k) (by simpa using h) hs.2
set_option maxHeartbeats 1000000 in
theorem Text_all {w0 : World} {t : Tm} {v : Value} (h : TmV w0 t v) {N : Nat} (hN : 10000 * (N + 6) ≤ 140737488355328) : vmax N t = true → tw t ≤ 10000 → TextOK w0 t v := by
  induction h with
  | @mk op name sort n ts vs pat A V P ca cv cp f g hbd hl hf hL hv hV hp hg hP ihL ihP =>
    intro hfew htw W hW
    simp only [vmax, Bool.and_eq_true, List.all_eq_true, decide_eq_true_eq] at hfew
    simp only [tw] at htw
    have l1 := length_tws ts
    have l2 := length_tws pat
    have s1 := behindB_size (fun j t ht => textT_size (hL j t ht))
    have s2 := behindB_size (fun j t ht => textT_size (hP j t ht))
    have hA : ∀ W, Below w0.heap.size w0 W → Calls Tryd.prog 34 #[.slice A ts.length ca] W (TextIs W (behindB ts)) := fun W hW => behind_any hf hL (fun j t ht => ihL j t ht (vmaxs_mem ht hfew.1.2) (by have := tws_mem ht; omega)) (by omega) (by omega) W hW
    have hB : ∀ W, Below w0.heap.size w0 W → Calls Tryd.prog 34 #[.slice P pat.length cp] W (TextIs W (behindB pat)) := fun W hW => behind_any hg hP (fun j t ht => ihP j t ht (vmaxs_mem ht hfew.2) (by have := tws_mem ht; omega)) (by omega) (by omega) W hW
    by_cases h0 : op = 1 ∨ op = 2 ∨ op = 3 ∨ op = 18
    · exact text_leaf h0 hbd.n W
    · by_cases h17 : op = 17
      · subst h17
        exact text_app hbd.name (by omega) (by omega) hA W hW
      · by_cases h19 : op = 19
        · subst h19
          exact text_all2 hV (fun x hx => (hbd.vs x hx).1) (join_vs hfew.1.1 (Nat.le_trans (Nat.mul_le_mul_right _ (show vs.length ≤ 10000 by omega)) hN)) (by omega) (by omega) (by omega) (fun W hW => joined_any (hA W hW)) (fun W hW => joined_any (hB W hW)) W hW
        · exact text_op ⟨fun e => h0 (.inl e), fun e => h0 (.inr (.inl e)), fun e => h0 (.inr (.inr (.inl e))), fun e => h0 (.inr (.inr (.inr e))), h17, h19⟩ (by omega) hA W hW
end Go.Proofs.YtlgbepamnkfpjaaDoor

/- What is the same has the same text: plainly. -/
namespace Go.Proofs.YtlgbepamnkfpjaaDoor
open Go.RowKit Go.Lib

mutual
theorem same_text : ∀ (t u : Tm), sameT t u = true → textT t = textT u ∧ tground t = tground u
  | .mk op name sort n l vars pat, .mk op' name' sort' n' l' vars' pat', h => by
    simp only [sameT, Bool.and_eq_true, beq_iff_eq] at h
    obtain ⟨⟨h0, h1⟩, h2⟩ := h
    subst h0
    obtain ⟨b1, b2, b3⟩ := sames_text l l' h1
    refine ⟨?_, by simp only [tground]; rw [b2]⟩
    by_cases c17 : op = 17
    · rw [if_pos c17] at h2
      have := toList_inj (eq_of_beq h2)
      subst c17 this
      simp [textT, b1, b3]
    · rw [if_neg c17] at h2
      by_cases c1 : op = 1
      · rw [if_pos c1] at h2
        have := toList_inj (eq_of_beq h2)
        subst c1 this
        simp [textT]
      · rw [if_neg c1] at h2
        by_cases c18 : op = 18
        · rw [if_pos c18] at h2
          simp only [Bool.and_eq_true, beq_iff_eq] at h2
          have := toList_inj h2.1
          subst c18 this
          simp [textT]
        · rw [if_neg c18] at h2
          by_cases c19 : op = 19
          · rw [if_pos c19] at h2
            simp only [Bool.and_eq_true, decide_eq_true_eq] at h2
            obtain ⟨h3, h4⟩ := h2
            obtain ⟨d1, _, _⟩ := sames_text pat pat' h4
            subst c19 h3
            simp [textT, b1, d1]
          · simp [textT, c17, c1, c18, c19, b1]
theorem sames_text : ∀ (ts us : List Tm), sameTs ts us = true → behindB ts = behindB us ∧ tgrounds ts = tgrounds us ∧ ts.length = us.length
  | [], [], _ => ⟨rfl, rfl, rfl⟩
  | [], _ :: _, h => by simp [sameTs] at h
  | _ :: _, [], h => by simp [sameTs] at h
  | t :: ts, u :: us, h => by
    simp only [sameTs, Bool.and_eq_true] at h
    obtain ⟨a1, a2⟩ := same_text t u h.1
    obtain ⟨b1, b2, b3⟩ := sames_text ts us h.2
    exact ⟨by simp only [behindB]; rw [a1, b1], by simp only [tgrounds]; rw [a2, b2], by simp [b3]⟩
end
end Go.Proofs.YtlgbepamnkfpjaaDoor

/- A drawn region with guards: whatever its order, each value is what it should be. -/
namespace Go.Proofs.YtlgbepamnkfpjaaDoor
open Go.RowKit

theorem yields_bool {ops : Array Oper} {a : Act} {j d : Nat} {b : Bool} (hd : (ops[j]?).bind (·.dst) = some d) (hv : a.tmps.getD d undef = .bool b) : yielded ops a.tmps j = some b := by
  unfold yielded
  rw [hd]
  rw [Array.getD_eq_getD_getElem?] at hv
  cases h : a.tmps[d]? with
  | none =>
    rw [h] at hv
    cases hv
  | some v =>
    rw [h] at hv
    simp only [Option.getD_some] at hv
    subst hv
    rw [Option.bind_some, h]
theorem yields_undef {ops : Array Oper} {a : Act} {j d : Nat} (hd : (ops[j]?).bind (·.dst) = some d) (hv : a.tmps.getD d undef = undef) : yielded ops a.tmps j = none := by
  unfold yielded
  rw [hd]
  rw [Array.getD_eq_getD_getElem?] at hv
  cases h : a.tmps[d]? with
  | none => rw [Option.bind_some, h]
  | some v =>
    rw [h] at hv
    simp only [Option.getD_some] at hv
    subst hv
    rw [Option.bind_some, h]
    rfl
theorem wanted_none {o : Oper} {y : Nat → Option Bool} {X Y : Prop} (hg : o.guard = none) (h : X) : if Region.wanted o y = true then X else Y := by
  simp only [Region.wanted, hg, if_true]
  exact h
theorem wanted_pos {o : Oper} {ops : Array Oper} {a : Act} {j d : Nat} {b : Bool} {X Y : Prop} (hg : o.guard = some (j, b)) (hd : (ops[j]?).bind (·.dst) = some d) (hv : a.tmps.getD d undef = .bool b) (h : X) : if Region.wanted o (yielded ops a.tmps) = true then X else Y := by
  simp only [Region.wanted, hg, yields_bool hd hv, beq_self_eq_true, if_true]
  exact h
theorem wanted_neg {o : Oper} {ops : Array Oper} {a : Act} {j d : Nat} {b : Bool} {X Y : Prop} (hg : o.guard = some (j, b)) (hd : (ops[j]?).bind (·.dst) = some d) (hv : a.tmps.getD d undef = .bool !b) (h : Y) : if Region.wanted o (yielded ops a.tmps) = true then X else Y := by
  have e : (some (!b) == some b) = false := by cases b <;> rfl
  simp only [Region.wanted, hg, yields_bool hd hv, e]
  exact h
theorem wanted_undef {o : Oper} {ops : Array Oper} {a : Act} {j d : Nat} {b : Bool} {X Y : Prop} (hg : o.guard = some (j, b)) (hd : (ops[j]?).bind (·.dst) = some d) (hv : a.tmps.getD d undef = undef) (h : Y) : if Region.wanted o (yielded ops a.tmps) = true then X else Y := by
  have e : ((none : Option Bool) == some b) = false := rfl
  simp only [Region.wanted, hg, yields_undef hd hv, e]
  exact h
/-- .. looked for in the first edges ahead of the rest. -/
def reachG (ops : Array Oper) (rest : List Nat) (m : Nat) : Nat → Nat → Bool
  | 0, _ => false
  | f + 1, i => match ops[i]? with
    | none => false
    | some o => (o.after.any fun e => Region.binds .any e && (e.on == m || rest.contains e.on)) || (o.after.any fun e => Region.binds .any e && reachG ops rest m f e.on)
theorem reachG_spec {ops : Array Oper} {rest : List Nat} {m : Nat} : ∀ (f i : Nat), reachG ops rest m f i = true → reaches ops rest m f i = true := by
  intro f
  induction f with
  | zero => intro i h; simp [reachG] at h
  | succ f ih =>
    intro i h
    unfold reachG at h
    unfold reaches
    cases ho : ops[i]? with
    | none => rw [ho] at h; cases h
    | some o =>
      simp only [ho, Bool.or_eq_true] at h ⊢
      rcases h with h | h
      · obtain ⟨e, he, hb⟩ := Array.any_eq_true'.1 h
        simp only [Bool.and_eq_true, Bool.or_eq_true] at hb
        exact Array.any_eq_true'.2 ⟨e, he, by simp only [Bool.and_eq_true, Bool.or_eq_true]; exact ⟨hb.1, .inl hb.2⟩⟩
      · obtain ⟨e, he, hb⟩ := Array.any_eq_true'.1 h
        simp only [Bool.and_eq_true] at hb
        exact Array.any_eq_true'.2 ⟨e, he, by simp only [Bool.and_eq_true, Bool.or_eq_true]; exact ⟨hb.1, .inr (ih _ hb.2)⟩⟩
def makesOKG (ops : Array Oper) (mk rest : List Nat) (nt : Nat) : Bool :=
  rest.all (fun i => decide (i < ops.size)) && mk.all (fun i => decide (i < ops.size)) &&
  (List.range ops.size).all (fun i => match ops[i]? with
    | none => true
    | some o => o.after.all (fun e => !Region.binds .any e || (decide (e.on < ops.size) && decide (rkOf ops rest e.on < rkOf ops rest i))) &&
      (match o.dst with
        | none => true
        | some d => decide (d < nt) && (List.range ops.size).all (fun j => j == i || (match ops[j]? with
          | some o' => !(o'.dst == some d)
          | none => true)))) &&
  rest.all (fun i => mk.all fun m => reachG ops rest m ops.size i)
structure MakesOKG (ops : Array Oper) (mk rest : List Nat) (nt : Nat) : Prop where
  restLt : ∀ i ∈ rest, i < ops.size
  mkLt : ∀ i ∈ mk, i < ops.size
  back : ∀ (i : Nat) (o : Oper), ops[i]? = some o → ∀ e ∈ o.after, Region.binds .any e = true → e.on < ops.size ∧ rkOf ops rest e.on < rkOf ops rest i
  dstLt : ∀ (i : Nat) (o : Oper) (d : Nat), ops[i]? = some o → o.dst = some d → d < nt
  dstNe : ∀ (i j : Nat) (o o' : Oper) (d : Nat), ops[i]? = some o → ops[j]? = some o' → o.dst = some d → o'.dst = some d → i = j
  block : ∀ i ∈ rest, ∀ m ∈ mk, reaches ops rest m ops.size i = true
theorem makesOK_specG {ops : Array Oper} {mk rest : List Nat} {nt : Nat} (h : makesOKG ops mk rest nt = true) : MakesOKG ops mk rest nt := by
  unfold makesOKG at h
  simp only [Bool.and_eq_true, List.all_eq_true, decide_eq_true_eq, List.mem_range] at h
  obtain ⟨⟨⟨h1, h2⟩, h3⟩, h4⟩ := h
  have lt : ∀ {i : Nat} {o : Oper}, ops[i]? = some o → i < ops.size := fun h => (Array.getElem?_eq_some_iff.1 h).1
  refine ⟨h1, h2, fun i o ho e he hb => ?_, fun i o d ho hd => ?_, fun i j o o' d ho ho' hd hd' => ?_, fun i hi m hm => reachG_spec _ _ (h4 i hi m hm)⟩
  · have := h3 i (lt ho)
    simp only [ho, Bool.and_eq_true] at this
    have := (Array.all_eq_true_iff_forall_mem.1 this.1) e he
    simpa [hb] using this
  · have := h3 i (lt ho)
    simp only [ho, hd, Bool.and_eq_true, decide_eq_true_eq] at this
    exact this.2.1
  · have := h3 i (lt ho)
    simp only [ho, hd, Bool.and_eq_true, decide_eq_true_eq, List.all_eq_true, List.mem_range] at this
    have := this.2.2 j (lt ho')
    simp only [ho', hd', Bool.or_eq_true, beq_iff_eq] at this
    rcases this with h | h
    · exact h.symm
    · simp at h
theorem unlisted_readyG {ops : Array Oper} {mk rest : List Nat} {nt : Nat} (hok : MakesOKG ops mk rest nt) {listed : Array Bool} (hs : listed.size = ops.size) : ∀ (r i : Nat), rkOf ops rest i = r → i < ops.size → listed.getD i true = false → ∃ j, j ∈ Region.ready .any ops listed := by
  intro r
  induction r using Nat.strongRecOn with
  | _ r ih =>
    intro i hri hi h
    by_cases hr : i ∈ Region.ready .any ops listed
    · exact ⟨i, hr⟩
    · have ho : ops[i]? = some ops[i] := Array.getElem?_eq_getElem hi
      have hex : ∃ e ∈ ops[i].after, Region.binds .any e = true ∧ ¬ listed.getD e.on false = true := by
        refine Classical.byContradiction fun hn => hr (mem_ready.2 ⟨h, _, ho, fun e he hb => ?_⟩)
        exact Classical.byContradiction fun h2 => hn ⟨e, he, hb, h2⟩
      obtain ⟨e, he, hb, hl⟩ := hex
      obtain ⟨hlt, hrk⟩ := hok.back i _ ho e he hb
      refine ih _ (by omega) e.on rfl hlt ?_
      have h1 : e.on < listed.size := by omega
      rw [getD_in h1] at hl ⊢
      simpa using hl
theorem Makes.stepG {ops : Array Oper} {J : World → Prop} {R : World → World → Prop} {spec : Nat → World → Value → Prop} {mk rest : List Nat} {nt : Nat} {a0 : Act} (hok : MakesOKG ops mk rest nt) (hnt : a0.tmps.size = nt) (hkeep : ∀ i w w' v, spec i w v → R w w' → spec i w' v)
    {listed : Array Bool} {a : Act} {w : World} (h : Makes ops J spec rest a0 listed a w) {i : Nat} {o : Oper} (ho : ops[i]? = some o) (hi : i ∉ rest) {v : Value} {w' : World} (hed : ∀ e ∈ o.after, Region.binds .any e = true → listed.getD e.on false = true) (hv : spec i w' v) (hb : R w w') (hJ : J w') :
    Makes ops J spec rest a0 (listed.setIfInBounds i true) (a.put o.dst v) w' := by
  have hlt : i < ops.size := (Array.getElem?_eq_some_iff.1 ho).1
  have hself : (listed.setIfInBounds i true).getD i false = true := by
    rw [Array.getD_eq_getD_getElem?, Array.getElem?_setIfInBounds_self_of_lt (by rw [h.size]; exact hlt)]
    rfl
  refine ⟨by simpa using h.size, hJ, ?_, ?_, fun t ht => ?_, fun j o' d' hj ho' hd' => ?_, fun j hj => ?_, fun j o' hj ho' e he hb2 => ?_⟩
  · cases o.dst <;> exact h.defers
  · cases o.dst with
    | none => exact h.tmps
    | some d => simpa [Act.put] using h.tmps
  · have hne := ht i o hself ho
    have hold := h.frame t fun j o' hj ho' => ht j o' (getD_set_true hj) ho'
    cases hd : o.dst with
    | none => exact hold
    | some d =>
      rw [hd] at hne
      rw [← hold]
      exact Array.getElem?_setIfInBounds_ne (fun e => hne (by rw [e]))
  · by_cases hji : j = i
    · subst hji
      rw [ho] at ho'
      cases ho'
      rw [hd']
      have : (a.put (some d') v).tmps.getD d' undef = v := by
        show (a.tmps.setIfInBounds d' v).getD d' undef = v
        rw [Array.getD_eq_getD_getElem?, Array.getElem?_setIfInBounds_self_of_lt (by rw [h.tmps, hnt]; exact hok.dstLt _ _ _ ho hd')]
        rfl
      rw [this]
      exact hv
    · rw [getD_set_ne false (Ne.symm hji)] at hj
      have hh := hkeep _ _ _ _ (h.held j o' d' hj ho' hd') hb
      cases hd : o.dst with
      | none => exact hh
      | some d =>
        have hne : d ≠ d' := fun e => hji (hok.dstNe j i o' o d' ho' ho hd' (by rw [hd, e]))
        have : (a.put (some d) v).tmps.getD d' undef = a.tmps.getD d' undef := by
          show (a.tmps.setIfInBounds d v).getD d' undef = _
          rw [Array.getD_eq_getD_getElem?, Array.getD_eq_getD_getElem?, Array.getElem?_setIfInBounds_ne hne]
        rw [this]
        exact hh
  · rw [getD_set_ne true (fun e => hi (by rw [e]; exact hj))]
    exact h.rest j hj
  · by_cases hji : j = i
    · subst hji
      rw [ho] at ho'
      cases ho'
      exact getD_set_true (hed e he hb2)
    · rw [getD_set_ne false (Ne.symm hji)] at hj
      exact getD_set_true (h.closed j o' hj ho' e he hb2)
theorem wpAny_makesG {P : Program} {ops : Array Oper} {Q : Exit → Act → World → Prop} {J : World → Prop} {R : World → World → Prop} {spec : Nat → World → Value → Prop} {mk rest : List Nat} {nt : Nat} {a0 : Act} (hok : MakesOKG ops mk rest nt) (hnt : a0.tmps.size = nt) (hkeep : ∀ i w w' v, spec i w v → R w w' → spec i w' v)
    (hstep : ∀ (i : Nat) (o : Oper), ops[i]? = some o → i ∉ rest → ∀ (a : Act) (w : World), J w → (∀ (t : Nat), noDst ops t = true → a.tmps.getD t undef = a0.tmps.getD t undef) →
      (∀ e ∈ o.after, Region.binds .any e = true → ∀ (o' : Oper) (d : Nat), ops[e.on]? = some o' → o'.dst = some d → spec e.on w (a.tmps.getD d undef)) →
      ∀ K : Act → World → Prop, (∀ v w', spec i w' v → R w w' → J w' → K (a.put o.dst v) w') → if Region.wanted o (yielded ops a.tmps) = true then Oper.wp P o a w K Q else K (a.put o.dst undef) w)
    (hend : ∀ (fuel : Nat) (listed : Array Bool) (a : Act) (w : World), listed.toList.countP (fun b => !b) ≤ fuel → Makes ops J spec rest a0 listed a w → (∀ m ∈ mk, listed.getD m false = true) → wpAny P .any ops Q fuel listed a w) :
    ∀ (fuel : Nat) (listed : Array Bool) (a : Act) (w : World), listed.toList.countP (fun b => !b) ≤ fuel → Makes ops J spec rest a0 listed a w → wpAny P .any ops Q fuel listed a w := by
  intro fuel
  induction fuel with
  | zero =>
    intro listed a w hc hm
    refine hend _ _ _ _ hc hm fun m hmk => ?_
    have h1 : m < listed.size := by rw [hm.size]; exact hok.mkLt m hmk
    rw [getD_in h1]
    have h0 : listed.toList.countP (fun b => !b) = 0 := by omega
    have := List.countP_eq_zero.1 h0 listed[m] (by simp)
    simpa using this
  | succ fuel ih =>
    intro listed a w hc hm
    by_cases hall : ∀ m ∈ mk, listed.getD m false = true
    · exact hend _ _ _ _ hc hm hall
    · have hex : ∃ m ∈ mk, ¬ listed.getD m false = true := Classical.byContradiction fun hn => hall fun m hmk => Classical.byContradiction fun h2 => hn ⟨m, hmk, h2⟩
      obtain ⟨m, hmk, hml⟩ := hex
      have hmlt : m < listed.size := by rw [hm.size]; exact hok.mkLt m hmk
      refine ⟨fun hr => ?_, fun i hi => ?_⟩
      · obtain ⟨j, hj⟩ := unlisted_readyG hok hm.size _ m rfl (hok.mkLt m hmk) (by rw [getD_in hmlt] at hml ⊢; simpa using hml)
        rw [hr] at hj
        cases hj
      · obtain ⟨hun, o, ho, hed⟩ := mem_ready.1 hi
        have hnr : i ∉ rest := fun hr => by
          rcases reaches_listed hm.closed _ i o ho hed (hok.block i hr m hmk) with h | ⟨r, hrr, h1⟩
          · exact hml h
          · have h2 := getD_both (hm.rest _ hrr)
            rw [h1] at h2
            cases h2
        unfold wpOp
        rw [ho]
        have side1 : ∀ (t : Nat), noDst ops t = true → a.tmps.getD t undef = a0.tmps.getD t undef := fun t ht => by
          rw [Array.getD_eq_getD_getElem?, Array.getD_eq_getD_getElem?, hm.frame t fun j o' _ ho' => noDst_spec ht j o' ho']
        have side2 : (listed.setIfInBounds i true).toList.countP (fun b => !b) ≤ fuel := by
          have hlt : i < listed.size := by rw [hm.size]; exact (Array.getElem?_eq_some_iff.1 ho).1
          rw [getD_in hlt] at hun
          have := unlisted_set listed.toList i (by simp [hlt, hun])
          rw [Array.toList_setIfInBounds]
          omega
        have hs := hstep i o ho hnr a w hm.inv side1 (fun e he hb o' d ho' hd => hm.held e.on o' d (hed e he hb) ho' hd) _ fun v w' hv hbw hJ => ih _ _ _ side2 (hm.stepG hok hnt hkeep ho hnr hed hv hbw hJ)
        by_cases hw : Region.wanted o (yielded ops a.tmps) = true
        · simp only [hw, if_true] at hs ⊢
          exact .inl hs
        · simp only [hw] at hs ⊢
          exact hs
theorem wp_region_makesJG {P : Program} {ops : Array Oper} {Q : Exit → Act → World → Prop} {spec : Nat → World → Value → Prop} (mk rest : List Nat) (J : World → Prop) (R : World → World → Prop) {id : Nat} {a : Act} {w : World} (hm : P.follows .mixedOrders = true) (hk : makesOKG ops mk rest a.tmps.size = true) (hkeep : ∀ i w w' v, spec i w v → R w w' → spec i w' v) (h0 : J w.drew)
    (hstep : ∀ (i : Nat) (o : Oper), ops[i]? = some o → i ∉ rest → ∀ (a' : Act) (w' : World), J w' → (∀ (t : Nat), noDst ops t = true → a'.tmps.getD t undef = a.tmps.getD t undef) →
      (∀ e ∈ o.after, Region.binds .any e = true → ∀ (o' : Oper) (d : Nat), ops[e.on]? = some o' → o'.dst = some d → spec e.on w' (a'.tmps.getD d undef)) →
      ∀ K : Act → World → Prop, (∀ v w'', spec i w'' v → R w' w'' → J w'' → K (a'.put o.dst v) w'') → if Region.wanted o (yielded ops a'.tmps) = true then Oper.wp P o a' w' K Q else K (a'.put o.dst undef) w')
    (hend : ∀ (fuel : Nat) (listed : Array Bool) (a' : Act) (w' : World), listed.toList.countP (fun b => !b) ≤ fuel → Makes ops J spec rest a listed a' w' → (∀ m ∈ mk, listed.getD m false = true) → wpAny P .any ops Q fuel listed a' w') : (Code.region id ops true).wp P Q a w := by
  have hok := makesOK_specG hk
  refine wp_region_any hm (wpAny_makesG hok rfl hkeep hstep hend _ _ _ _ (by simp [List.countP_replicate]) ⟨by simp, h0, rfl, rfl, fun _ _ => rfl, fun i o d hi ho _ => ?_, fun i hi => ?_, fun j o hj ho => ?_⟩)
  · have hlt : i < ops.size := (Array.getElem?_eq_some_iff.1 ho).1
    rw [getD_in (by simpa using hlt)] at hi
    simp at hi
  · rw [getD_in (by simpa using hok.restLt i hi)]
    simp
  · have hlt : j < ops.size := (Array.getElem?_eq_some_iff.1 ho).1
    rw [getD_in (by simpa using hlt)] at hj
    simp at hj
end Go.Proofs.YtlgbepamnkfpjaaDoor
