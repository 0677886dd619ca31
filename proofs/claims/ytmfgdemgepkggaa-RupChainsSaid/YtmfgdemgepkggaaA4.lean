/- The solver's state in memory; what 'take' does. -/
import Derived.Test.YtmfgdemgepkggaaA3
namespace Go.Proofs.Ytmfgdemgepkggaa
open Go.RowKit Go.Maps Go.ChangeMaps

theorem law3 : Keyed Try.prog 3 := int_keyed Try.underlying3
theorem zero3 (w : World) : (zeroValue 3).run Try.prog w = .ok (.int .i64 0) w := by kernel_rfl
theorem info3 : (Try.prog.info? 3).map (fun i => (i.zero, i.size, i.bytes)) = some (some (.int .i64 0), 1, 8) := by kernel_rfl
theorem info23 : (Try.prog.info? 23).map (fun i => (i.zero, i.size, i.bytes)) = some (some (.slice none 0 0), 1, 24) := by kernel_rfl

def truthF (ts : List Int) : Lit → Option Value
  | .int .i64 x => if hasI ts x = true then some (.int .i64 1) else none
  | _ => none
theorem upd_truthF (ts : List Int) (x : Int) : upd (truthF ts) (.int .i64 x) (.int .i64 1) = truthF (ts ++ [x]) := by
  funext l
  unfold upd
  by_cases h : l = .int .i64 x
  · subst h
    simp [truthF, hasI]
  · rw [if_neg h]
    cases l with
    | int k y =>
      cases k <;> simp [truthF]
      have : ¬ y = x := fun e => h (by rw [e])
      simp [hasI, this]
    | _ => rfl
def i64 (x : Int) : Prop := -9223372036854775808 ≤ x ∧ x ≤ 9223372036854775807
theorem i64_wf {x : Int} (h : i64 x) : (Lit.int .i64 x).wf = true := WalkArith.wf_i64 h

/-- The state: its own block; the map of what is true; the queue. -/
structure StAt (w : World) (B p atb tb : Nat) (lv nv : Value) (ts next : List Int) : Prop where
  blk : w.heap[p]? = some (.cells #[lv, .map (some atb), .map (some tb), nv] 47 (0, 0))
  tr : MapV Try.prog 3 w tb ts.length (truthF ts)
  nx : OwnQ w B 3 nv (next.map (Value.int .i64))
  hp : B ≤ p
  ht : B ≤ tb
  ne : atb ≠ tb

/-- What 'take' leaves, where it takes. -/
def Took (w : World) (B p atb tb : Nat) (lv nv : Value) (ts next : List Int) (x : Int) (w' : World) : Prop :=
  ∃ nv', StAt w' B p atb tb lv nv' (ts ++ [x]) (next ++ [x]) ∧ (nv'.ownBlock = nv.ownBlock ∨ ∃ g, nv'.ownBlock = some g ∧ w.heap.size ≤ g) ∧
    w.heap.size ≤ w'.heap.size ∧ w'.os = w.os ∧ w'.tape = w.tape ∧ w'.output = w.output ∧ ∀ k, k < w.heap.size → k ≠ p → k ≠ tb → some k ≠ nv.ownBlock → w'.heap[k]? = w.heap[k]?

section
variable {w : World} {B p atb tb : Nat} {lv nv : Value} {ts next : List Int}
theorem StAt.cellAt (h : StAt w B p atb tb lv nv ts next) (i : Nat) : w.cell? ⟨p, i, none⟩ = #[lv, .map (some atb), .map (some tb), nv][i]? := cell_of_row w p i _ 47 (0, 0) h.blk

theorem StAt.pne (h : StAt w B p atb tb lv nv ts next) : p ≠ tb := by
  rintro rfl
  obtain ⟨es, clock, hm⟩ := h.tr.block
  rw [h.blk] at hm
  cases hm
theorem StAt.plt (h : StAt w B p atb tb lv nv ts next) : p < w.heap.size := (Array.getElem?_eq_some_iff.1 h.blk).1
theorem StAt.pnv (h : StAt w B p atb tb lv nv ts next) : nv.ownBlock ≠ some p := by
  intro e
  obtain ⟨cur, hc⟩ := h.nx.typed p e
  rw [h.blk] at hc
  simp at hc
theorem StAt.tnv (h : StAt w B p atb tb lv nv ts next) : nv.ownBlock ≠ some tb := by
  intro e
  obtain ⟨cur, hc⟩ := h.nx.typed tb e
  obtain ⟨es, clock, hm⟩ := h.tr.block
  rw [hc] at hm
  cases hm
/-- The walk of 'take' put together. -/
theorem StAt.took (h : StAt w B p atb tb lv nv ts next) (x : Int) {w1 w2 : World} {nv' : Value} {o : Obj}
    (hm1 : MapV Try.prog 3 w1 tb (ts.length + 1) (upd (truthF ts) (.int .i64 x) (.int .i64 1))) (hg1 : w.grownBy w1 (some tb))
    (hq2 : OwnQ w2 B 3 nv' (next.map (Value.int .i64) ++ [.int .i64 x])) (hg2 : (w1.alloc o).grownBy w2 nv.ownBlock) (hat0 : ∃ g, nv'.ownBlock = some g ∧ (nv.ownBlock = some g ∨ g = (w1.alloc o).heap.size)) :
    Took w B p atb tb lv nv ts next x (w2.setCell ⟨p, 3, none⟩ nv') := by
  have hat : nv'.ownBlock = nv.ownBlock ∨ nv'.ownBlock = some (w1.alloc o).heap.size := by
    obtain ⟨g, e, hat0⟩ := hat0
    rcases hat0 with hat0 | hat0
    · exact .inl (e.trans hat0.symm)
    · exact .inr (by rw [e, hat0])
  have e1 : w1.heap[p]? = w.heap[p]? := hg1.block p h.plt (by simpa using h.pne)
  have e2 : w2.heap[p]? = w.heap[p]? := by
    rw [hg2.block p (by have := hg1.size; have := h.plt; simp; omega) h.pnv.symm, Below.heap_alloc _ _ _ (by have := hg1.size; have := h.plt; omega), e1]
  have hsz : w.heap.size ≤ w1.heap.size := hg1.size
  have hsz2 : w1.heap.size + 1 ≤ w2.heap.size := by have := hg2.size; simpa using this
  have hnv' : nv'.ownBlock ≠ some p := by
    intro e
    rcases hat with hat | hat
    · exact h.pnv (hat ▸ e)
    · rw [e] at hat
      have := h.plt
      simp at hat
      omega
  have tlt : tb < w.heap.size := h.tr.lt
  have ht2 : w2.heap[tb]? = w1.heap[tb]? := by
    rw [hg2.block tb (by simp; omega) h.tnv.symm, Below.heap_alloc _ _ _ (by omega)]
  have hset : ∀ k, k ≠ p → (w2.setCell ⟨p, 3, none⟩ nv').heap[k]? = w2.heap[k]? := fun k hk => Below.heap_setCell _ _ _ _ hk
  refine ⟨nv', ⟨?_, ?_, ?_, h.hp, h.ht, h.ne⟩, ?_, ?_, ?_, ?_, ?_, ?_⟩
  · simp [World.setCell, Array.getElem?_modify, e2, h.blk]
  · rw [← upd_truthF]
    refine (MapV.same hm1 ?_).mono (by simp)
    rw [hset _ (Ne.symm h.pne), ht2]
  · rw [List.map_append]
    exact hq2.same (fun g hg => hset g (fun e => hnv' (e ▸ hg)))
  · rcases hat with hat | hat
    · exact .inl hat
    · exact .inr ⟨_, hat, by simp; omega⟩
  · simp [World.setCell]; omega
  · exact hg2.os.trans hg1.os
  · exact hg2.tape.trans hg1.tape
  · exact hg2.output.trans hg1.output
  · intro k hk hkp hkt hkn
    rw [hset k hkp, hg2.block k (by simp; omega) hkn, Below.heap_alloc _ _ _ (by omega), hg1.block k hk (by simpa using hkt)]

set_option maxHeartbeats 1000000 in
theorem take_no (h : StAt w B p atb tb lv nv ts next) (x : Int) (hx : i64 x) (hx' : i64 (-x)) (hT : hasI ts (-x) = true) :
    Calls Try.prog 21 #[.pointer (some ⟨p, 0, none⟩), .int .i64 x] w fun e w' => e = .returned (.bool false) ∧ w = w' := by
  have c2 : w.cell? ⟨p, 2, none⟩ = some (.map (some tb)) := h.cellAt 2
  have hk : keyOf Try.prog 3 (.int .i64 (-x)) = some (.int .i64 (-x)) := keyOf_int_mk Try.underlying3 (i64_wf hx')
  obtain ⟨l1, l2⟩ := hx
  obtain ⟨l3, l4⟩ := hx'
  have HT := Lib.hid hT
  clear hT
  have Hh := Lib.hid h
  clear h
  go_enter Try.func21, Try.ntmps21
  go_wp2_with (first
    | (at_lookup; refine wpList_lookup_mapv _ rfl _ _ 45 rfl 3 3 law3 Try.underlying45 _ (zero3 _) tb _ _ rfl Hh.out.tr _ _ rfl hk (.int .i64 1) (by simp [truthF, HT.out]) ?_))
  go_ret
  exact ⟨rfl, rfl⟩

set_option maxHeartbeats 1000000 in
theorem take_there (h : StAt w B p atb tb lv nv ts next) (x : Int) (hx : i64 x) (hx' : i64 (-x)) (hT : hasI ts (-x) = false) (hT' : hasI ts x = true) :
    Calls Try.prog 21 #[.pointer (some ⟨p, 0, none⟩), .int .i64 x] w fun e w' => e = .returned (.bool true) ∧ w = w' := by
  have c2 : w.cell? ⟨p, 2, none⟩ = some (.map (some tb)) := h.cellAt 2
  have hk : keyOf Try.prog 3 (.int .i64 (-x)) = some (.int .i64 (-x)) := keyOf_int_mk Try.underlying3 (i64_wf hx')
  have hk2 : keyOf Try.prog 3 (.int .i64 x) = some (.int .i64 x) := keyOf_int_mk Try.underlying3 (i64_wf hx)
  obtain ⟨l1, l2⟩ := hx
  obtain ⟨l3, l4⟩ := hx'
  have HT := Lib.hid hT
  have HT' := Lib.hid hT'
  clear hT hT'
  have Hh := Lib.hid h
  clear h
  go_enter Try.func21, Try.ntmps21
  go_wp2_with (first
    | (at_lookup; refine wpList_lookup_mapv _ rfl _ _ 45 rfl 3 3 law3 Try.underlying45 _ (zero3 _) tb _ _ rfl Hh.out.tr _ _ rfl hk (.int .i64 0) (by simp [truthF, HT.out]) ?_)
    | (at_lookup; refine wpList_lookup_mapv _ rfl _ _ 45 rfl 3 3 law3 Try.underlying45 _ (zero3 _) tb _ _ rfl Hh.out.tr _ _ rfl hk2 (.int .i64 1) (by simp [truthF, HT'.out]) ?_))
  go_ret
  exact ⟨rfl, rfl⟩

set_option maxHeartbeats 1000000 in
theorem take_new (h : StAt w B p atb tb lv nv ts next) (x : Int) (hx : i64 x) (hx' : i64 (-x)) (hT : hasI ts (-x) = false) (hT' : hasI ts x = false) (hl : ts.length < 1000000) (hn : next.length < 1000000) (hB : B ≤ w.heap.size) :
    Calls Try.prog 21 #[.pointer (some ⟨p, 0, none⟩), .int .i64 x] w fun e w' => e = .returned (.bool true) ∧ Took w B p atb tb lv nv ts next x w' := by
  have c2 : w.cell? ⟨p, 2, none⟩ = some (.map (some tb)) := h.cellAt 2
  have hk : keyOf Try.prog 3 (.int .i64 (-x)) = some (.int .i64 (-x)) := keyOf_int_mk Try.underlying3 (i64_wf hx')
  have hk2 : keyOf Try.prog 3 (.int .i64 x) = some (.int .i64 x) := keyOf_int_mk Try.underlying3 (i64_wf hx)
  obtain ⟨l1, l2⟩ := hx
  obtain ⟨l3, l4⟩ := hx'
  have HT := Lib.hid hT
  have HT' := Lib.hid hT'
  clear hT hT'
  have Hh := Lib.hid h
  clear h
  obtain ⟨i3, hi, hz0, hz1, hz2⟩ := info_parts info3
  go_enter Try.func21, Try.ntmps21
  go_wp2_with (first
    | (at_lookup; refine wpList_lookup_mapv _ rfl _ _ 45 rfl 3 3 law3 Try.underlying45 _ (zero3 _) tb _ _ rfl Hh.out.tr _ _ rfl hk (.int .i64 0) (by simp [truthF, HT.out]) ?_)
    | (at_lookup; refine wpList_lookup_mapv _ rfl _ _ 45 rfl 3 3 law3 Try.underlying45 _ (zero3 _) tb _ _ rfl Hh.out.tr _ _ rfl hk2 (.int .i64 0) (by simp [truthF, HT'.out]) ?_)
    | (at_mapUpdate; refine wpList_update_mapv _ rfl _ _ _ 45 rfl 3 3 law3 Try.underlying45 tb _ _ rfl Hh.out.tr (by simp [maxLen]; omega) _ (.int .i64 1) _ rfl rfl hk2 ?_; intro w1 hm1 hg1; have Hm1 := Lib.hid hm1; clear hm1
       have c31 : w1.cell? ⟨p, 3, none⟩ = some nv := (World.cell?_of_block (w := w) (hg1.block p Hh.out.plt (by simpa using Hh.out.pne))).trans (Hh.out.cellAt 3)
       have Hq1 : Hid (OwnQ (w1.alloc (.cells #[.int .i64 x] 3)) B 3 nv (next.map (Value.int .i64))) := Lib.hid (Hh.out.nx.same (fun g hg => by rw [Below.heap_alloc _ _ _ (by have := (Hh.out.nx.lt g hg).2; have := hg1.size; omega), hg1.block g (Hh.out.nx.lt g hg).2 (by rintro e; cases e; exact Hh.out.tnv hg)]))
       have Hs1 : Hid (w.heap.size ≤ w1.heap.size) := Lib.hid hg1.size
       have Hg1 := Lib.hid hg1; clear hg1)
    | (at_builtin; refine wpList_append_q _ rfl _ _ 23 rfl B 3 i3 (.int .i64 0) 8 Try.underlying23 hi hz0 hz1 hz2 rfl nv _ rfl Hq1.out ⟨w1.heap.size, 0, none⟩ 1 (.int .i64 x) rfl (by simp) rfl (by simp [maxLen]; omega) (by simp; omega) (by have := Hs1.out; simp; omega) ?_; intro g o c w2 hq2 hg2 hat
       have Hq2 := Lib.hid hq2; have Hat := Lib.hid hat; clear hq2 hat
       have c32 : w2.cell? ⟨p, 3, none⟩ = some nv := (World.cell?_of_block (w := w1.alloc (.cells #[.int .i64 x] 3)) (hg2.block p (by have := Hh.out.plt; have := Hs1.out; simp; omega) Hh.out.pnv.symm)).trans ((World.cell?_of_block (w := w1) (Below.heap_alloc _ _ p (by have := Hh.out.plt; have := Hs1.out; omega))).trans c31)
       have f32 : w2.frozen? ⟨p, 3, none⟩ = false := by
         have e2 : w2.heap[p]? = w.heap[p]? := by
           rw [hg2.block p (by have := Hh.out.plt; have := Hs1.out; simp; omega) Hh.out.pnv.symm, Below.heap_alloc _ _ _ (by have := Hh.out.plt; have := Hs1.out; omega), Hg1.out.block p Hh.out.plt (by simpa using Hh.out.pne)]
         simp [World.frozen?, e2, Hh.out.blk]
       have Hg2 := Lib.hid hg2; clear hg2))
  go_ret
  exact ⟨rfl, Hh.out.took x Hm1.out Hg1.out (by simpa using Hq2.out) Hg2.out ⟨_, rfl, Hat.out⟩⟩
end
end Go.Proofs.Ytmfgdemgepkggaa
