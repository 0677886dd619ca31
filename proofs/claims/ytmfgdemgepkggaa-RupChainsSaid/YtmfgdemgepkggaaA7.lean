/- The walk of 'Follows'. -/
import Derived.Test.YtmfgdemgepkggaaA6
import Derived.Deep.RegionHeld3
namespace Go.Proofs.Ytmfgdemgepkggaa
open Go.RowKit Go.Maps Go.ChangeMaps

theorem Init.length {c ts : List Int} {k : Nat} (h : Init c k ts) : ts.length ≤ c.length := by
  have := length_le_of_nodup_sub ts (c.map fun x => -x) h.nodup (fun t ht => by
    obtain ⟨x, hx, rfl⟩ := h.sound t ht
    exact List.mem_map.2 ⟨x, hx, rfl⟩)
  simpa using this
theorem good_flat (l : List (List Int)) : (good l).flatten.length ≤ l.flatten.length := by
  induction l with
  | nil => simp [good]
  | cons d l ih =>
    by_cases h : none0 d = true
    · have : good (d :: l) = good l := by simp [good, h]
      rw [this, List.flatten_cons, List.length_append]
      omega
    · have : good (d :: l) = d :: good l := by simp [good, h]
      rw [this, List.flatten_cons, List.flatten_cons, List.length_append, List.length_append]
      omega
theorem uni_length (l : List (List Int)) (c : List Int) : (uni l c).length ≤ c.length + l.flatten.length := by
  have := good_flat l
  simp only [uni, List.length_append, List.length_map]
  omega
/-- An element of a list that is owned: where it lies. -/
theorem OwnQ.get {w : World} {B : Nat} {e : TypeId} {A : Option Addr} {n cc : Nat} {xs : List Value} (h : OwnQ w B e (.slice A n cc) xs) {i : Nat} (hi : i < xs.length) :
    ∃ b o, A = some ⟨b, o, none⟩ ∧ w.cell? ⟨b, o + i, none⟩ = some xs[i] := by
  rcases h with ⟨_, h⟩ | ⟨g, o, cap, cur, hv, hb, hh, h1, h2, h3, h4⟩
  · subst h; simp at hi
  · simp only [Value.slice.injEq] at hv
    exact ⟨g, o, hv.1, by rw [cell_of_row w g (o + i) cur e (0, 0) hh]; exact h4 i _ (by simp [hi])⟩
theorem OwnQ.shape {w : World} {B : Nat} {e : TypeId} {v : Value} {xs : List Value} (h : OwnQ w B e v xs) : ∃ A cc, v = .slice A xs.length cc ∧ xs.length ≤ cc := by
  obtain ⟨A, cc, h1, h2, _⟩ := h.cells
  exact ⟨A, cc, h1, h2⟩
section
variable {w : World} {B p atb tb : Nat} {lv nv : Value} {ts next : List Int}
theorem look_fine (A : Option Addr) (ca : Nat) (c : List Int) (h : StAt w B p atb tb lv nv ts next) (hc : IntsAt w A ca c) (hi : ∀ x ∈ c, i64 x ∧ i64 (-x)) (hlen : c.length < 1000000) (hl : ts.length < 1000000) (hn : next.length < 1000000) (hB : B ≤ w.heap.size) (hs : scan ts c none = none) :
    Calls Try.prog 22 #[.pointer (some ⟨p, 0, none⟩), .slice A c.length ca] w fun e w' => e = .returned (.bool true) ∧ w = w' :=
  (look_any A ca c h hc hi hlen hl hn hB).mono fun e w' hr => by
    rcases hr with ⟨_, h1, h2⟩ | ⟨h1, _⟩ | ⟨y, h1, _⟩
    · exact ⟨h1, h2⟩
    · rw [hs] at h1; cases h1
    · rw [hs] at h1; cases h1
theorem look_conf (A : Option Addr) (ca : Nat) (c : List Int) (h : StAt w B p atb tb lv nv ts next) (hc : IntsAt w A ca c) (hi : ∀ x ∈ c, i64 x ∧ i64 (-x)) (hlen : c.length < 1000000) (hl : ts.length < 1000000) (hn : next.length < 1000000) (hB : B ≤ w.heap.size) (hs : scan ts c none = some none) :
    Calls Try.prog 22 #[.pointer (some ⟨p, 0, none⟩), .slice A c.length ca] w fun e w' => e = .returned (.bool false) ∧ w = w' :=
  (look_any A ca c h hc hi hlen hl hn hB).mono fun e w' hr => by
    rcases hr with ⟨h1, _⟩ | ⟨_, h1, h2⟩ | ⟨y, h1, _⟩
    · rw [hs] at h1; cases h1
    · exact ⟨h1, h2⟩
    · rw [hs] at h1; cases h1
theorem look_took (A : Option Addr) (ca : Nat) (c : List Int) (h : StAt w B p atb tb lv nv ts next) (hc : IntsAt w A ca c) (hi : ∀ x ∈ c, i64 x ∧ i64 (-x)) (hlen : c.length < 1000000) (hl : ts.length < 1000000) (hn : next.length < 1000000) (hB : B ≤ w.heap.size) {y : Int} (hs : scan ts c none = some (some y)) :
    Calls Try.prog 22 #[.pointer (some ⟨p, 0, none⟩), .slice A c.length ca] w fun e w' => e = .returned (.bool true) ∧ Took w B p atb tb lv nv ts next y w' :=
  (look_any A ca c h hc hi hlen hl hn hB).mono fun e w' hr => by
    rcases hr with ⟨h1, _⟩ | ⟨h1, _⟩ | ⟨y', h1, h2, h3⟩
    · rw [hs] at h1; cases h1
    · rw [hs] at h1; cases h1
    · rw [hs] at h1
      cases h1
      exact ⟨h2, h3⟩
end
theorem OwnQ.form {w : World} {B : Nat} {e : TypeId} {v : Value} {x : Value} {xs : List Value} (h : OwnQ w B e v (x :: xs)) : ∃ g o cap, v = .slice (some ⟨g, o, none⟩) (xs.length + 1) cap ∧ xs.length + 1 ≤ cap := by
  rcases h with ⟨_, h⟩ | ⟨g, o, cap, cur, hv, hb, hh, h1, r⟩
  · cases h
  · exact ⟨g, o, cap, hv, h1⟩
theorem run_slice_tail (a : Addr) (n cap : Nat) (a' : Addr) (ha : a' = if cap = 1 then a else a.add 1) (w : World) :
    (Instr.slice 23 (.slice (some a) (n + 1) cap) (some (.int .i64 1)) none none).run Try.prog w = .ok (.slice (some a') n (cap - 1)) w := by
  obtain ⟨i3, hi3, hy0, hy1, hy2⟩ := info_parts info3
  subst ha
  have hb : (1 : Int) ≤ n + 1 := by omega
  by_cases hc : cap = 1
  · subst hc
    simp [Instr.slice, run_underlying Try.underlying23, Instr.sliceBounds, Instr.sliceBound, sizeOf, typeInfo, hi3, asIntOf, hb]
  · simp [Instr.slice, run_underlying Try.underlying23, Instr.sliceBounds, Instr.sliceBound, sizeOf, typeInfo, hi3, hy1, hc, asIntOf, hb]
/-- The first one of the queue is taken. -/
theorem Full.pop {w0 w : World} {p atb tb n gq oq cap : Nat} {lv : Value} {ts next : List Int} {x : Int} {vs : List Value} {gd : List (List Int)} {f : Lit → Option Value} {g : Int → List Nat}
    (h : Full w0 w p atb tb lv (.slice (some ⟨gq, oq, none⟩) (next.length + 1) cap) ts (x :: next) vs gd n f g) {nv' : Value}
    (hnv : nv' = .slice (some (if cap = 1 then ⟨gq, oq, none⟩ else ⟨gq, oq + 1, none⟩)) next.length (cap - 1)) :
    Full w0 (w.setCell ⟨p, 3, none⟩ nv') p atb tb lv nv' ts next vs gd n f g := by
  have hset : ∀ k, k ≠ p → (w.setCell ⟨p, 3, none⟩ nv').heap[k]? = w.heap[k]? := fun k hk => Below.heap_setCell _ _ _ _ hk
  have hob : nv'.ownBlock = some gq := by rw [hnv]; split <;> rfl
  have hgp : gq ≠ p := by
    rintro rfl
    exact h.st.pnv rfl
  have hq : OwnQ w w0.heap.size 3 nv' (next.map (Value.int .i64)) := by
    have := OwnQ.tail (x := .int .i64 x) (xs := next.map (Value.int .i64)) h.st.nx
    rw [hnv]
    simpa using this
  refine ⟨⟨?_, h.st.tr.same (hset tb h.st.pne.symm), hq.same (fun b hb => hset b (fun e => hgp (by rw [hob] at hb; cases hb; exact e))), h.st.hp, h.st.ht, h.st.ne⟩, h.lq.same (fun b hb => hset b (fun e => h.plv (e ▸ hb))), h.len, h.rows, ?_, ?_, h.ha⟩
  · simp [World.setCell, Array.getElem?_modify, h.st.blk]
  · refine h.at_.same (hset atb h.pat.symm) (fun k cur hc _ => hset k (fun e => ?_)) (.inl hob)
    subst e
    rw [h.st.blk] at hc
    simp at hc
  · exact h.below.setCell h.st.hp _

/-- What 'Follows' answers. -/
def Answered (w0 : World) (l : List (List Int)) (c : List Int) (e : Ending) (w' : World) : Prop :=
  ∃ b : Bool, e = .returned (.bool b) ∧ (b = true ↔ none0 c = false ∧ Confl l c) ∧ Below w0.heap.size w0 w'

def Rel1 (w0 : World) (c : List Int) (v : Value) (wr : World) : Prop :=
  ∃ (k : Nat) (ts : List Int) (nv : Value), k ≤ c.length ∧ v = .int .i64 k ∧ Init c k ts ∧ Full w0 wr (w0.heap.size + 1 + 1) w0.heap.size (w0.heap.size + 1) (.slice none 0 0) nv ts ts [] [] 0 (fun _ => none) (fun _ => [])

/-- The rows of places tell of all clauses that are laid. -/
structure AtOK (gd : List (List Int)) (g : Int → List Nat) : Prop where
  all : ∀ (i : Nat) (d : List Int), gd[i]? = some d → ∀ y ∈ d, i ∈ g (-y)
  lt : ∀ x i, i ∈ g x → i < gd.length
/-- .. and of the first j literals of one more. -/
structure AtPart (gd : List (List Int)) (d : List Int) (j : Nat) (g : Int → List Nat) : Prop where
  all : ∀ (i : Nat) (d : List Int), gd[i]? = some d → ∀ y ∈ d, i ∈ g (-y)
  part : ∀ y ∈ d.take j, gd.length ∈ g (-y)
  lt : ∀ x i, i ∈ g x → i < gd.length + 1
theorem AtOK.part {gd : List (List Int)} {g : Int → List Nat} (h : AtOK gd g) (d : List Int) : AtPart gd d 0 g := ⟨h.all, by simp, fun x i hi => Nat.lt_succ_of_lt (h.lt x i hi)⟩
theorem AtPart.more {gd : List (List Int)} {d : List Int} {j : Nat} {g : Int → List Nat} (h : AtPart gd d j g) (hj : j < d.length) : AtPart gd d (j + 1) (addIdx g (-d[j]) gd.length) := by
  have sub : ∀ x i, i ∈ g x → i ∈ addIdx g (-d[j]) gd.length x := by
    intro x i hi
    unfold addIdx
    split
    · simp [hi]
    · exact hi
  refine ⟨fun i d' hd y hy => sub _ _ (h.all i d' hd y hy), fun y hy => ?_, fun x i hi => ?_⟩
  · rw [List.take_succ_eq_append_getElem hj] at hy
    simp only [List.mem_append, List.mem_singleton] at hy
    rcases hy with hy | rfl
    · exact sub _ _ (h.part y hy)
    · simp [addIdx]
  · unfold addIdx at hi
    split at hi
    · simp at hi
      rcases hi with hi | hi
      · exact h.lt x i hi
      · omega
    · exact h.lt x i hi
theorem AtPart.ok {gd : List (List Int)} {d : List Int} {j : Nat} {g : Int → List Nat} (h : AtPart gd d j g) (hj : d.length ≤ j) : AtOK (gd ++ [d]) g := by
  refine ⟨fun i d' hd y hy => ?_, fun x i hi => by simpa using h.lt x i hi⟩
  rw [List.getElem?_append] at hd
  split at hd
  · exact h.all i d' hd y hy
  · rename_i hge
    have h0 : i - gd.length = 0 := by
      rcases Nat.eq_zero_or_pos (i - gd.length) with h | h
      · exact h
      · rw [List.getElem?_eq_none (by simp; omega)] at hd
        cases hd
    rw [h0] at hd
    simp at hd
    subst hd
    have : i = gd.length := by omega
    subst this
    exact h.part y (by rw [List.take_of_length_le hj]; exact hy)

theorem zero23 (w : World) : (zeroValue 23).run Try.prog w = .ok (.slice none 0 0) w := by kernel_rfl
def Rel2 (w0 : World) (l : List (List Int)) (ts : List Int) (nv : Value) (v : Value) (wr : World) : Prop :=
  ∃ (k : Nat) (lv : Value) (vs : List Value) (n : Nat) (f : Lit → Option Value) (g : Int → List Nat), k ≤ l.length ∧ v = .int .i64 k ∧ n ≤ (l.take k).flatten.length ∧ AtOK (good (l.take k)) g ∧
    Full w0 wr (w0.heap.size + 1 + 1) w0.heap.size (w0.heap.size + 1) lv nv ts ts vs (good (l.take k)) n f g
def Rel3 (w0 : World) (gd : List (List Int)) (d : List Int) (n0 : Nat) (ts : List Int) (lv nv : Value) (vs : List Value) (v : Value) (wr : World) : Prop :=
  ∃ (j : Nat) (n : Nat) (f : Lit → Option Value) (g : Int → List Nat), j ≤ d.length ∧ v = .int .i64 j ∧ n ≤ n0 + j ∧ AtPart gd d j g ∧
    Full w0 wr (w0.heap.size + 1 + 1) w0.heap.size (w0.heap.size + 1) lv nv ts ts vs (gd ++ [d]) n f g
/-- All that has been told, while clauses are looked at one by one. -/
def Rel4 (w0 : World) (l : List (List Int)) (c : List Int) (lv : Value) (vs : List Value) (n : Nat) (f : Lit → Option Value) (g : Int → List Nat) (v : Value) (wr : World) : Prop :=
  ∃ (i : Nat) (ts next : List Int) (nv : Value), i ≤ (good l).length ∧ v = .int .i64 i ∧ Inv l c ts next (fun d => d ∈ (good l).drop i) ∧
    Full w0 wr (w0.heap.size + 1 + 1) w0.heap.size (w0.heap.size + 1) lv nv ts next vs (good l) n f g
def Rel5 (w0 : World) (l : List (List Int)) (c : List Int) (lv : Value) (vs : List Value) (n : Nat) (f : Lit → Option Value) (g : Int → List Nat) (gk : Nat) (wr : World) : Prop :=
  ∃ (ts next : List Int) (nv : Value), (uni l c).length + next.length ≤ gk + ts.length ∧ Inv l c ts next (fun _ => False) ∧
    Full w0 wr (w0.heap.size + 1 + 1) w0.heap.size (w0.heap.size + 1) lv nv ts next vs (good l) n f g
def Rel6 (w0 : World) (l : List (List Int)) (c : List Int) (lv : Value) (vs : List Value) (n : Nat) (f : Lit → Option Value) (g : Int → List Nat) (x : Int) (gk : Nat) (v : Value) (wr : World) : Prop :=
  ∃ (j : Nat) (ts next : List Int) (nv : Value), j ≤ (g x).length ∧ v = .int .i64 j ∧ (uni l c).length + next.length + 1 ≤ gk + ts.length ∧ Inv l c ts next (fun d => ∃ i, i ∈ (g x).drop j ∧ (good l)[i]? = some d) ∧
    Full w0 wr (w0.heap.size + 1 + 1) w0.heap.size (w0.heap.size + 1) lv nv ts next vs (good l) n f g
theorem good_append (a b : List (List Int)) : good (a ++ b) = good a ++ good b := List.filter_append ..
theorem good_succ_none {l : List (List Int)} {k : Nat} (hk : k < l.length) (h : none0 l[k] = true) : good (l.take (k + 1)) = good (l.take k) := by
  rw [List.take_succ_eq_append_getElem hk, good_append]
  have : good [l[k]] = [] := by simp [good, h]
  rw [this, List.append_nil]
theorem good_succ {l : List (List Int)} {k : Nat} (hk : k < l.length) (h : none0 l[k] = false) : good (l.take (k + 1)) = good (l.take k) ++ [l[k]] := by
  rw [List.take_succ_eq_append_getElem hk, good_append]
  have : good [l[k]] = [l[k]] := by simp [good, h]
  rw [this]
theorem good_step {l : List (List Int)} {k : Nat} (hk : k < l.length) : good (l.take (k + 1)) = if none0 l[k] = true then good (l.take k) else good (l.take k) ++ [l[k]] := by
  split
  · rename_i h; exact good_succ_none hk h
  · rename_i h; exact good_succ hk (by simpa using h)
theorem flat_succ {l : List (List Int)} {k : Nat} (hk : k < l.length) : (l.take (k + 1)).flatten.length = (l.take k).flatten.length + l[k].length := by
  rw [List.take_succ_eq_append_getElem hk, List.flatten_append, List.length_append]
  simp
theorem flat_le {l : List (List Int)} {k : Nat} (hk : k < l.length) : (l.take k).flatten.length + l[k].length ≤ l.flatten.length := by
  rw [← flat_succ hk]
  have : l.flatten = (l.take (k + 1)).flatten ++ (l.drop (k + 1)).flatten := by rw [← List.flatten_append, List.take_append_drop]
  rw [this]
  simp
theorem good_length (l : List (List Int)) : (good l).length ≤ l.length := List.length_filter_le _ _

theorem Full.start (w0 : World) (cs : Array Value) (hcs : cs = #[.slice none 0 0, .map (some w0.heap.size), .map (some (w0.heap.size + 1)), .slice none 0 0]) :
    Full w0 (((w0.alloc (.map #[] 0)).alloc (.map #[] 0)).alloc (.cells cs 47)) (w0.heap.size + 1 + 1) w0.heap.size (w0.heap.size + 1) (.slice none 0 0) (.slice none 0 0) [] [] [] [] 0 (fun _ => none) (fun _ => []) := by
  subst hcs
  have h1 := MapV.made (P := Try.prog) (k := 3) w0
  have h2 := MapV.made (P := Try.prog) (k := 3) (w0.alloc (.map #[] 0))
  refine ⟨⟨?_, ?_, OwnQ.nil _ _ _, by omega, by omega, by omega⟩, OwnQ.nil _ _ _, rfl, by simp, ?_, ?_, Nat.le_refl _⟩
  · have := heap_alloc_new ((w0.alloc (.map #[] 0)).alloc (.map #[] 0)) (.cells #[.slice none 0 0, .map (some w0.heap.size), .map (some (w0.heap.size + 1)), .slice none 0 0] 47)
    simpa using this
  · have h3 : truthF [] = fun _ => none := by funext x; cases x <;> simp [truthF, hasI]; rename_i k _; cases k <;> rfl
    rw [h3]
    refine MapV.same (by simpa using h2) (Below.heap_alloc _ _ _ (by simp))
  · refine ⟨MapV.same h1 ?_, fun x _ => OwnQ.nil _ _ _, by simp, by simp, by simp⟩
    rw [Below.heap_alloc _ _ _ (by simp; omega), Below.heap_alloc _ _ _ (by simp)]
  · exact (((Below.refl _ _).alloc (Nat.le_refl _) _).alloc (by simp) _).alloc (by simp; omega) _

set_option maxRecDepth 100000 in
set_option maxHeartbeats 8000000 in
theorem follows_any (A : Option Addr) (ca : Nat) (l : List (List Int)) (B : Option Addr) (cb : Nat) (c : List Int) (w0 : World) (hl : RowsAt w0 A ca l) (hc : IntsAt w0 B cb c)
    (hi : ∀ d ∈ l, ∀ x ∈ d, i64 x) (hic : ∀ x ∈ c, i64 x) (hlen : l.length < 100000) (hsum : l.flatten.length < 100000) (hclen : c.length < 100000) (hn : none0 c = false) :
    Calls Try.prog 13 #[.slice A l.length ca, .slice B c.length cb] w0 (Answered w0 l c) := by
  have hmm := @run_makeMap Try.prog
  have Hl := Lib.hid hl
  have Hc := Lib.hid hc
  have Hi := Lib.hid hi
  have Hic := Lib.hid hic
  have Hn := Lib.hid hn
  clear hl hc hi hic hn
  have hclen' : c.length ≤ 9223372036854775807 := by omega
  go_enter Try.func13, Try.ntmps13
  go_wp2_with fail
  go_step3
  go_wp2_with (first | (go_at_call 20; refine (none_any B cb c _ Hc.out hclen').mono ?_; rintro e w' ⟨rfl, rfl⟩; rw [Hn.out]))
  go_loopw [25] (fun v wr => Rel1 w0 c v wr) (fun v _ => c.length - (intOf v).toNat)
  case atStart => exact ⟨0, [], _, Nat.zero_le _, rfl, Init.start c, Full.start w0 _ rfl⟩
  case round =>
    obtain ⟨k, ts, nv, hk, rfl, hin, hf⟩ := hrel
    have Hin := Lib.hid hin
    have Hf := Lib.hid hf
    clear hin hf
    by_cases hlt : k < c.length
    · obtain ⟨b, off, rfl, hcell⟩ := (Hc.out.below Hf.out.below).get hlt
      have Hx : Hid (i64 c[k] ∧ i64 (-c[k]) ∧ c[k] ≠ 0) := Lib.hid (by
        have h1 := Hic.out c[k] (List.getElem_mem hlt)
        have h2 := Hn.out
        simp [none0, hasI] at h2
        have h3 : c[k] ≠ 0 := fun e => h2.1 (e ▸ List.getElem_mem hlt)
        have h4 : c[k] ≠ -9223372036854775808 := fun e => h2.2 (e ▸ List.getElem_mem hlt)
        exact ⟨h1, by unfold i64 at h1 ⊢; omega, h3⟩)
      have Hlt := Lib.hid hlt
      have Hts : Hid (ts.length ≤ c.length) := Lib.hid Hin.out.length
      obtain ⟨l1, l2⟩ := Hx.out.1
      obtain ⟨l3, l4⟩ := Hx.out.2.1
      cases hT : hasI ts c[k] with
      | true =>
        have HT : Hid (hasI ts (-(-c[k])) = true) := Lib.hid (by rw [Int.neg_neg]; exact hT)
        have Hcf : Hid (Confl l c) := Lib.hid (Hin.out.conf l hlt (hasI_iff.1 hT))
        clear hT
        go_wp2_with (go_at_call 21; refine (take_no Hf.out.st (-c[k]) Hx.out.2.1 (by rw [Int.neg_neg]; exact Hx.out.1) HT.out).mono ?_; rintro e w' ⟨rfl, rfl⟩)
        rw [Exit.noGoto_ret]
        go_ret
        exact ⟨true, rfl, by simp [Hn.out, Hcf.out], Hf.out.below⟩
      | false =>
        have HT : Hid (hasI ts (-(-c[k])) = false) := Lib.hid (by rw [Int.neg_neg]; exact hT)
        have HT0 := Lib.hid hT
        clear hT
        cases hT' : hasI ts (-c[k]) with
        | true =>
          have HT' := Lib.hid hT'
          clear hT'
          go_wp2_with (go_at_call 21; refine (take_there Hf.out.st (-c[k]) Hx.out.2.1 (by rw [Int.neg_neg]; exact Hx.out.1) HT.out HT'.out).mono ?_; rintro e w' ⟨rfl, rfl⟩)
          go_roundw
          case rel => exact ⟨k + 1, ts, nv, by omega, by go_num, Hin.out.there hlt (hasI_iff.1 HT'.out), Hf.out⟩
          case measure => simp [intOf]; omega
        | false =>
          have HT' := Lib.hid hT'
          clear hT'
          go_wp2_with (go_at_call 21; refine (take_new Hf.out.st (-c[k]) Hx.out.2.1 (by rw [Int.neg_neg]; exact Hx.out.1) HT.out HT'.out (by have := Hts.out; omega) (by have := Hts.out; omega) Hf.out.size).mono ?_; rintro e w' ⟨rfl, ht⟩; have Ht := Lib.hid ht; clear ht)
          go_roundw
          case rel =>
            obtain ⟨nv', hf'⟩ := Hf.out.took Ht.out
            exact ⟨k + 1, _, nv', by omega, by go_num, Hin.out.more hlt Hx.out.2.2 (hasI_false.1 HT'.out) (hasI_false.1 HT0.out), hf'⟩
          case measure => simp [intOf]; omega
    · have Hinv : Hid (Inv l c ts ts (fun d => d ∈ good l)) := Lib.hid (Hin.out.inv l (by omega))
      clear hmm
      go_wp2_with fail
      go_loopw [37] (fun v wr => Rel2 w0 l ts nv v wr) (fun v _ => l.length - (intOf v).toNat)
      case atStart => exact ⟨0, _, [], 0, _, _, Nat.zero_le _, rfl, by simp, ⟨by simp [good], by simp⟩, Hf.out⟩
      case round =>
        clear Hf
        obtain ⟨k2, lv, vs, n, fm, g, hk2, rfl, hn2, hok, hf⟩ := hrel
        have Hok := Lib.hid hok
        have Hf := Lib.hid hf
        clear hok hf
        by_cases hlt2 : k2 < l.length
        · obtain ⟨b, off, B2, cb2, rfl, hcell0, hrow0⟩ := Hl.out.get hlt2
          have hcell := cell_of_below Hf.out.below (Nat.le_refl _) hcell0
          have Hrow0 := Lib.hid hrow0
          have Hrow := Lib.hid (hrow0.below Hf.out.below)
          clear hrow0 hcell0
          have Hlt2 := Lib.hid hlt2
          have Hd : Hid (good (l.take (k2 + 1)) = (if none0 l[k2] = true then good (l.take k2) else good (l.take k2) ++ [l[k2]]) ∧ (l.take (k2 + 1)).flatten.length = (l.take k2).flatten.length + l[k2].length ∧ (l.take k2).flatten.length + l[k2].length ≤ l.flatten.length ∧ ∀ x ∈ l[k2], i64 x) :=
            Lib.hid ⟨good_step hlt2, flat_succ hlt2, flat_le hlt2, Hi.out _ (List.getElem_mem hlt2)⟩
          generalize l[k2] = d at *
          have hdl : d.length ≤ 9223372036854775807 := by have := Hd.out.2.2.1; omega
          cases hno : none0 d with
          | true =>
            have Hno := Lib.hid hno
            clear hno
            go_wp2_with (go_at_call 20; refine (none_any B2 cb2 _ _ Hrow.out hdl).mono ?_; rintro e w' ⟨rfl, rfl⟩; rw [Hno.out])
            have Hd' := Lib.hid (Hd.out.1.trans (if_pos Hno.out))
            go_roundw
            case rel => exact ⟨k2 + 1, lv, vs, n, fm, g, by omega, by go_num, by rw [Hd.out.2.1]; omega, by rw [Hd'.out]; exact Hok.out, by rw [Hd'.out]; exact Hf.out⟩
            case measure => simp [intOf]; omega
          | false =>
            have Hno := Lib.hid hno
            clear hno
            have Hd' := Lib.hid (Hd.out.1.trans (if_neg (by rw [Hno.out]; simp)))
            have c0 : wr.cell? ⟨w0.heap.size + 1 + 1, 0, none⟩ = some lv := Hf.out.st.cellAt 0
            have Hq1 : Hid (OwnQ (wr.alloc (.cells #[.slice B2 d.length cb2] 23)) w0.heap.size 23 lv vs) := Lib.hid (Hf.out.lq.same (fun b hb => Below.heap_alloc _ _ _ (Hf.out.lq.lt b hb).2))
            have hvl : vs.length ≤ 100000 := by
              have h1 := Hf.out.len
              have h2 := good_length (l.take k2)
              have h3 := List.length_take_le k2 l
              omega
            obtain ⟨i23, hi23, hz0, hz1, hz2⟩ := info_parts info23
            have hplt := Hf.out.st.plt
            have hplv := Hf.out.plv
            have Hplv := Lib.hid hplv
            clear hplv
            go_wp2_with (first
              | (go_at_call 20; refine (none_any B2 cb2 _ _ Hrow.out hdl).mono ?_; rintro e w' ⟨rfl, rfl⟩; rw [Hno.out])
              | (at_builtin; refine wpList_append_q _ rfl _ _ 22 rfl w0.heap.size 23 i23 (.slice none 0 0) 24 Try.underlying22 hi23 hz0 hz1 hz2 rfl lv _ rfl Hq1.out ⟨wr.heap.size, 0, none⟩ 1 (.slice B2 d.length cb2) rfl (by simp) rfl (by simp [maxLen]; omega) (by omega) (by have := Hf.out.size; simp; omega) ?_; intro g2 o2 c2 w2 hq2 hg2 hat
                 have Hq2 := Lib.hid hq2; have Hat := Lib.hid hat; clear hq2 hat
                 have e2 : w2.heap[w0.heap.size + 1 + 1]? = wr.heap[w0.heap.size + 1 + 1]? := by
                   rw [hg2.block _ (by simp; omega) Hplv.out.symm, Below.heap_alloc _ _ _ hplt]
                 have c02 : w2.cell? ⟨w0.heap.size + 1 + 1, 0, none⟩ = some lv := (World.cell?_of_block (w := wr) e2).trans c0
                 have f02 : w2.frozen? ⟨w0.heap.size + 1 + 1, 0, none⟩ = false := by simp [World.frozen?, e2, Hf.out.st.blk]
                 have Hg2 := Lib.hid hg2; clear hg2 e2))
            have Hf2 := Lib.hid (Hf.out.push (d := d) ⟨_, _, rfl, Hrow0.out⟩ (World.grownBy_alloc _ _ _) Hq2.out Hg2.out ⟨_, rfl, by simpa using Hat.out⟩)
            clear Hq1 Hq2 Hg2 Hat c0 c02 f02
            go_loopw [55] (fun v wq => Rel3 w0 (good (l.take k2)) d n ts (.slice (some ⟨g2, o2, none⟩) (vs.length + 1) c2) nv (vs ++ [.slice B2 d.length cb2]) v wq) (fun v _ => d.length - (intOf v).toNat)
            case atStart => exact ⟨0, n, fm, g, Nat.zero_le _, rfl, Nat.le_refl _, Hok.out.part d, Hf2.out⟩
            case round =>
              clear Hf2 Hf
              obtain ⟨j, n3, f, g3, hj, rfl, hn3, hpart, hf3⟩ := hrel
              have Hpart := Lib.hid hpart
              have Hf3 := Lib.hid hf3
              clear hpart hf3
              by_cases hlt3 : j < d.length
              · obtain ⟨b3, off3, rfl, hcell3⟩ := (Hrow0.out.below Hf3.out.below).get hlt3
                have Hlt3 := Lib.hid hlt3
                have Hx : Hid (i64 d[j] ∧ i64 (-d[j])) := Lib.hid (by
                  have h1 := Hd.out.2.2.2 d[j] (List.getElem_mem hlt3)
                  have h2 := Hno.out
                  simp [none0, hasI] at h2
                  have h4 : d[j] ≠ -9223372036854775808 := fun e => h2.2 (e ▸ List.getElem_mem hlt3)
                  exact ⟨h1, by unfold i64 at h1 ⊢; omega⟩)
                have Hmore := Lib.hid (Hpart.out.more hlt3)
                have Hs := Lib.hid (Hx.out.1)
                obtain ⟨l1, l2⟩ := Hx.out.1
                obtain ⟨l3, l4⟩ := Hx.out.2
                generalize d[j] = x at *
                have hkey := keyI (-x) Hx.out.2
                obtain ⟨hf1, hf2, hf3, hf4, hf5⟩ := Hf3.out.at_
                obtain ⟨v, hv⟩ : ∃ v, (f (.int .i64 (-x))).getD (.slice none 0 0) = v := ⟨_, rfl⟩
                have Hv := Lib.hid hv
                have hvq := hv ▸ hf2 (-x) Hx.out.2
                have Hvq := Lib.hid hvq
                have Hf1 := Lib.hid hf1
                have Hf2 := Lib.hid hf2
                have Hf3' := Lib.hid hf3
                have Hf4 := Lib.hid hf4
                have Hf5 := Lib.hid hf5
                clear hv hvq hf1 hf2 hf3 hf4 hf5
                have c0 : wr.cell? ⟨w0.heap.size + 1 + 1, 0, none⟩ = some (.slice (some ⟨g2, o2, none⟩) (vs.length + 1) c2) := Hf3.out.st.cellAt 0
                have c1 : wr.cell? ⟨w0.heap.size + 1 + 1, 1, none⟩ = some (.map (some w0.heap.size)) := Hf3.out.st.cellAt 1
                have hplt := Hf3.out.st.plt
                have Hpv : Hid (some (w0.heap.size + 1 + 1) ≠ v.ownBlock) := Lib.hid (by
                  intro e
                  obtain ⟨cur, hc⟩ := Hvq.out.typed _ e.symm
                  rw [Hf3.out.st.blk] at hc
                  simp at hc)
                go_wp2_with fail
                have Hw1 : Hid (IntKind.i64.wrap ((vs.length + 1 : Nat) - 1 : Int) = (vs.length : Int)) := Lib.hid (by rw [show ((vs.length + 1 : Nat) - 1 : Int) = (vs.length : Int) by omega]; exact IntWalk.i64_in _ (by omega))
                have Hkw : Hid (keyOf Try.prog 3 (.int .i64 (IntKind.i64.wrap (-x))) = some (.int .i64 (-x))) := Lib.hid (by rw [show IntKind.i64.wrap (-x) = -x from IntWalk.i64_in _ ⟨l3, l4⟩]; exact hkey)
                have hL1 : (Instr.lookup 44 (.map (some w0.heap.size)) (.int .i64 (IntKind.i64.wrap (-x))) false).run Try.prog wr.drew = .ok v wr.drew := by
                  rw [← Hv.out]; exact MapV.lookup (MapV.same (w' := wr.drew) Hf1.out rfl) law3 Try.underlying44 (zero23 _) Hkw.out
                have hL2 : ∀ o, (Instr.lookup 44 (.map (some w0.heap.size)) (.int .i64 (IntKind.i64.wrap (-x))) false).run Try.prog (wr.alloc o).drew = .ok v (wr.alloc o).drew := by
                  intro o; rw [← Hv.out]; exact MapV.lookup (MapV.same (w' := (wr.alloc o).drew) Hf1.out (Below.heap_alloc wr _ _ Hf1.out.lt)) law3 Try.underlying44 (zero23 _) Hkw.out
                have Hatlt := Lib.hid Hf3.out.atlt
                have Hav : Hid (some w0.heap.size ≠ v.ownBlock) := Lib.hid (by
                  intro e
                  obtain ⟨cur, hc⟩ := Hvq.out.typed _ e.symm
                  obtain ⟨es, ck, hc'⟩ := Hf1.out.block
                  rw [hc] at hc'
                  cases hc')
                have Hlen : Hid ((nums (g3 (-x))).length + 1 ≤ maxLen ∧ ((nums (g3 (-x))).length + 1) * 8 ≤ 140737488355328 ∧ w0.heap.size ≤ wr.heap.size + 1 ∧ n3 < maxLen) := Lib.hid (by
                  have h1 := Hf5.out (-x)
                  have h2 : (nums (g3 (-x))).length = (g3 (-x)).length := by simp [nums]
                  have h3 := Hd.out.2.2.1
                  have h4 := Hf3.out.size
                  have h5 := Hlt3.out
                  rw [h2]
                  simp only [maxLen]
                  omega)
                obtain ⟨i3, hi3, hy0, hy1, hy2⟩ := info_parts info3
                go_region_held3 (fun w' => w'.cell? ⟨w0.heap.size + 1 + 1, 0, none⟩ = some (.slice (some ⟨g2, o2, none⟩) (vs.length + 1) c2) ∧ w'.cell? ⟨w0.heap.size + 1 + 1, 1, none⟩ = some (.map (some w0.heap.size)))
                  (first
                    | exact ⟨c0, c1⟩
                    | exact ⟨(World.cell?_of_block (w := wr.drew) (Below.heap_alloc wr.drew _ (w0.heap.size + 1 + 1) hplt)).trans c0, (World.cell?_of_block (w := wr.drew) (Below.heap_alloc wr.drew _ (w0.heap.size + 1 + 1) hplt)).trans c1⟩
                    | exact ⟨c05, c15⟩
                    | exact ⟨c06, c16⟩)
                  (first
                    | (refine step_append_q _ (by rfl) _ _ 23 (by rfl) w0.heap.size 3 i3 (.int .i64 0) 8 Try.underlying23 hi3 hy0 hy1 hy2 rfl v (nums (g3 (-x))) (by rfl) (Hvq.out.same (fun b hb => Below.heap_alloc _ _ _ (Hvq.out.lt b hb).2)) ⟨wr.heap.size, 0, none⟩ 1 (.int .i64 vs.length) (by rfl) (by simp; exact IntWalk.i64_in _ (by omega)) rfl Hlen.out.1 Hlen.out.2.1 (by simp; exact Hlen.out.2.2.1) ?_
                       intro g5 o5 c5 w5 hq5 hg5 hat5
                       have e5 : w5.heap[w0.heap.size + 1 + 1]? = wr.heap[w0.heap.size + 1 + 1]? := (hg5.block _ (by simp; omega) Hpv.out).trans (Below.heap_alloc wr.drew _ _ hplt)
                       have c05 : w5.cell? ⟨w0.heap.size + 1 + 1, 0, none⟩ = some (.slice (some ⟨g2, o2, none⟩) (vs.length + 1) c2) := (World.cell?_of_block (w := wr) e5).trans c0
                       have c15 : w5.cell? ⟨w0.heap.size + 1 + 1, 1, none⟩ = some (.map (some w0.heap.size)) := (World.cell?_of_block (w := wr) e5).trans c1
                       have Hat5 := Lib.hid hat5
                       have Hq5 := Lib.hid hq5
                       have e5a : w5.heap[w0.heap.size]? = wr.heap[w0.heap.size]? := (hg5.block _ (by have := Hatlt.out; simp; omega) Hav.out).trans (Below.heap_alloc wr.drew _ _ Hatlt.out)
                       obtain ⟨w6, hrun6, hm6, hg6⟩ := (Hf1.out.same e5a).update law3 Try.underlying44 Hlen.out.2.2.2 (val := .slice (some ⟨g5, o5, none⟩) ((nums (g3 (-x))).length + 1) c5) Hkw.out
                       have e6 : w6.heap[w0.heap.size + 1 + 1]? = wr.heap[w0.heap.size + 1 + 1]? := (hg6.block _ (by have := hg5.size; simp at this; omega) (by simp only [ne_eq, Option.some.injEq]; omega)).trans e5
                       have c06 : w6.cell? ⟨w0.heap.size + 1 + 1, 0, none⟩ = some (.slice (some ⟨g2, o2, none⟩) (vs.length + 1) c2) := (World.cell?_of_block (w := wr) e6).trans c0
                       have c16 : w6.cell? ⟨w0.heap.size + 1 + 1, 1, none⟩ = some (.map (some w0.heap.size)) := (World.cell?_of_block (w := wr) e6).trans c1
                       have Hm6 := Lib.hid hm6
                       have Hg6 := Lib.hid hg6
                       have Hg5 := Lib.hid hg5
                       clear hat5 hq5 e5 e5a e6 hm6 hg6 hg5))
                all_goals
                  have Hnew := Lib.hid (Hf3.out.addIdx Hx.out.2 Hv.out (show wr.grownBy (wr.alloc _).drew none from ⟨rfl, rfl, rfl, by simp, fun k hk _ => Below.heap_alloc wr _ k hk⟩) Hq5.out Hg5.out ⟨_, rfl, Hat5.out⟩ Hm6.out Hg6.out)
                  clear hL1 hL2 c0 c1 c05 c15 c06 c16 hrun6
                  go_wp2_with fail
                  go_roundw
                  case rel =>
                    have hl := Hf3.out.len
                    simp only [List.length_append, List.length_cons, List.length_nil] at hl
                    have hl' : vs.length = (good (l.take k2)).length := by omega
                    exact ⟨j + 1, n3 + 1, _, _, by omega, by go_num, by omega, by rw [← hl'] at Hmore; exact Hmore.out, Hnew.out⟩
                  case measure => simp [intOf]; omega
              · have Hok2 := Lib.hid (Hpart.out.ok (by omega))
                go_wp2_with fail
                go_roundw
                case rel => exact ⟨k2 + 1, _, _, n3, f, g3, by omega, by go_num, by rw [Hd.out.2.1]; omega, by rw [Hd'.out]; exact Hok2.out, by rw [Hd'.out]; exact Hf3.out⟩
                case measure => simp [intOf]; omega
        · have hk3 : k2 = l.length := by omega
          have Hok' : Hid (AtOK (good l) g) := Lib.hid (by have := Hok.out; rwa [hk3, List.take_length] at this)
          have Hf' : Hid (Full w0 wr (w0.heap.size + 1 + 1) w0.heap.size (w0.heap.size + 1) lv nv ts ts vs (good l) n fm g) := Lib.hid (by have := Hf.out; rwa [hk3, List.take_length] at this)
          have Hnn : Hid (n < 100000) := Lib.hid (by rw [hk3, List.take_length] at hn2; omega)
          clear Hok Hf hk3
          obtain ⟨L, cc, rfl, hcc⟩ := Hf'.out.lq.shape
          have c0 : wr.cell? ⟨w0.heap.size + 1 + 1, 0, none⟩ = some (.slice L vs.length cc) := Hf'.out.st.cellAt 0
          have hvlen := Hf'.out.len
          have Hvlen := Lib.hid hvlen
          have hgl : Hid ((good l).length < 100000) := Lib.hid (by have := good_length l; omega)
          have hvs : vs.length ≤ 9223372036854775807 := by have := hgl.out; omega
          clear hvlen
          go_wp2_with fail
          go_loopw [87] (fun v wr => Rel4 w0 l c (.slice L vs.length cc) vs n fm g v wr) (fun v _ => vs.length - (intOf v).toNat)
          case atStart => exact ⟨0, ts, ts, nv, Nat.zero_le _, rfl, by simpa using Hinv.out, Hf'.out⟩
          case round =>
            clear Hf' c0 Hinv
            obtain ⟨i, ts, next, nv, hi4, rfl, hinv, hf⟩ := hrel
            have Hinv := Lib.hid hinv
            have Hf := Lib.hid hf
            clear hinv hf
            by_cases hlt4 : i < vs.length
            · obtain ⟨b, off, rfl, hcell⟩ := Hf.out.lq.get hlt4
              have hig : i < (good l).length := by have := Hvlen.out; omega
              obtain ⟨D, cd, hvd, hrow⟩ := Hf.out.rows i vs[i] (good l)[i] (by simp [hlt4]) (by simp [hig])
              rw [hvd] at hcell
              have Hd : Hid ((good l)[i] ∈ good l ∧ (∀ d', d' ∈ (good l).drop i → d' = (good l)[i] ∨ d' ∈ (good l).drop (i + 1))) := Lib.hid ⟨List.getElem_mem hig, fun d' hd' => by
                rw [List.drop_eq_getElem_cons hig] at hd'
                exact List.mem_cons.1 hd'⟩
              clear hvd
              generalize (good l)[i] = d at *
              have Hrow := Lib.hid (hrow.below Hf.out.below)
              clear hrow
              have Hdi : Hid (∀ x ∈ d, i64 x ∧ i64 (-x)) := Lib.hid (fun x hx => by
                have h1 := Hi.out d (mem_good.1 Hd.out.1).1 x hx
                have h2 := (mem_good.1 Hd.out.1).2
                simp [none0, hasI] at h2
                have h4 : x ≠ -9223372036854775808 := fun e => h2.2 (e ▸ hx)
                exact ⟨h1, by unfold i64 at h1 ⊢; omega⟩)
              have hdl : d.length < 1000000 := by
                have := (List.sublist_flatten_of_mem (mem_good.1 Hd.out.1).1).length_le
                omega
              have hts : ts.length < 1000000 := by have := Hinv.out.length; have := uni_length l c; omega
              have hnx : next.length < 1000000 := by have := Hinv.out.next_length; omega
              cases hs : scan ts d none with
              | none =>
                have Hs := Lib.hid hs
                clear hs
                go_wp2_with (go_at_call 22; refine (look_fine D cd d Hf.out.st Hrow.out Hdi.out hdl hts hnx Hf.out.size Hs.out).mono ?_; rintro e w' ⟨rfl, rfl⟩)
                go_roundw
                case rel => exact ⟨i + 1, ts, next, nv, by omega, by go_num, Hinv.out.fine Hs.out Hd.out.2, Hf.out⟩
                case measure => simp [intOf]; omega
              | some o =>
                cases o with
                | none =>
                  have Hs := Lib.hid hs
                  clear hs
                  go_wp2_with (go_at_call 22; refine (look_conf D cd d Hf.out.st Hrow.out Hdi.out hdl hts hnx Hf.out.size Hs.out).mono ?_; rintro e w' ⟨rfl, rfl⟩)
                  rw [Exit.noGoto_ret]
                  go_ret
                  exact ⟨true, rfl, by simp [Hn.out, Hinv.out.conf Hd.out.1 Hs.out], Hf.out.below⟩
                | some y =>
                  have Hs := Lib.hid hs
                  clear hs
                  go_wp2_with (go_at_call 22; refine (look_took D cd d Hf.out.st Hrow.out Hdi.out hdl hts hnx Hf.out.size Hs.out).mono ?_; rintro e w' ⟨rfl, ht⟩; have Ht := Lib.hid ht; clear ht)
                  go_roundw
                  case rel =>
                    obtain ⟨nv', hf'⟩ := Hf.out.took Ht.out
                    exact ⟨i + 1, _, _, nv', by omega, by go_num, Hinv.out.unit Hd.out.1 Hs.out Hd.out.2, hf'⟩
                  case measure => simp [intOf]; omega
            · have Hinv5 : Hid (Inv l c ts next (fun _ => False)) := Lib.hid (Hinv.out.weaken (fun d hd => by
                rw [List.drop_eq_nil_of_le (by have := Hvlen.out; omega)] at hd
                simp at hd))
              clear Hinv
              go_wp2_with fail
              go_step3
              go_wp2_with fail
              go_loopg [] (uni l c).length (fun gk wr => Rel5 w0 l c (.slice L vs.length cc) vs n fm g gk wr)
              case atStart => exact ⟨ts, next, nv, by have := Hinv5.out.next_length; omega, Hinv5.out, Hf.out⟩
              case round =>
                clear Hf Hinv5
                obtain ⟨ts, next, nv, hgk, hinv, hf⟩ := hrel
                have Hinv := Lib.hid hinv
                have Hf := Lib.hid hf
                clear hinv hf
                cases next with
                | nil =>
                  obtain ⟨q, qc, rfl, hqc⟩ := Hf.out.st.nx.shape
                  have c3 : wr.cell? ⟨w0.heap.size + 1 + 1, 3, none⟩ = some (.slice q 0 qc) := Hf.out.st.cellAt 3
                  go_wp2_with fail
                  rw [Exit.noGoto_ret]
                  go_ret
                  exact ⟨false, rfl, by simp [Hinv.out.done], Hf.out.below⟩
                | cons x next =>
                  obtain ⟨gq, oq, cap, hnv, hcap⟩ := Hf.out.st.nx.form
                  simp only [List.length_map] at hnv hcap
                  subst hnv
                  have c3 : wr.cell? ⟨w0.heap.size + 1 + 1, 3, none⟩ = some (.slice (some ⟨gq, oq, none⟩) (next.length + 1) cap) := Hf.out.st.cellAt 3
                  have f3 : wr.frozen? ⟨w0.heap.size + 1 + 1, 3, none⟩ = false := by simp [World.frozen?, Hf.out.st.blk]
                  have cq : wr.cell? ⟨gq, oq, none⟩ = some (.int .i64 x) := by
                    obtain ⟨b, o, e, hc⟩ := Hf.out.st.nx.get (i := 0) (by simp)
                    simp only [Option.some.injEq, Addr.mk.injEq, and_true] at e
                    obtain ⟨rfl, rfl⟩ := e
                    simpa using hc
                  have Hu : Hid (∀ d ∈ good l, ∀ y ∈ d, i64 y ∧ i64 (-y)) := Lib.hid (fun d hd y hy => by
                    have h1 := Hi.out d (mem_good.1 hd).1 y hy
                    have h2 := (mem_good.1 hd).2
                    simp [none0, hasI] at h2
                    have h4 : y ≠ -9223372036854775808 := fun e => h2.2 (e ▸ hy)
                    exact ⟨h1, by unfold i64 at h1 ⊢; omega⟩)
                  have Hx : Hid (i64 x) := Lib.hid (by
                    have hxt : x ∈ ts := by
                      obtain ⟨past, e⟩ := Hinv.out.suffix
                      rw [e]
                      simp
                    have := Hinv.out.sub x hxt
                    simp only [uni, List.mem_append, List.mem_map, List.mem_flatten] at this
                    rcases this with ⟨y, hy, rfl⟩ | ⟨d, hd, hy⟩
                    · have h1 := Hic.out y hy
                      have h2 := Hn.out
                      simp [none0, hasI] at h2
                      have h4 : y ≠ -9223372036854775808 := fun e => h2.2 (e ▸ hy)
                      unfold i64 at h1 ⊢
                      omega
                    · exact (Hu.out d hd x hy).1)
                  have hts : ts.length < 1000000 := by have := Hinv.out.length; have := uni_length l c; omega
                  have hnx : next.length + 1 ≤ ts.length := by have := Hinv.out.next_length; simpa using this
                  have hsl := run_slice_tail ⟨gq, oq, none⟩ next.length cap _ rfl
                  obtain ⟨a', ha'⟩ : ∃ a' : Addr, a' = (if cap = 1 then (⟨gq, oq, none⟩ : Addr) else (⟨gq, oq, none⟩ : Addr).add 1) := ⟨_, rfl⟩
                  rw [← ha'] at hsl
                  have c1 : wr.cell? ⟨w0.heap.size + 1 + 1, 1, none⟩ = some (.map (some w0.heap.size)) := Hf.out.st.cellAt 1
                  have Hp : Hid (Full w0 (wr.setCell ⟨w0.heap.size + 1 + 1, 3, none⟩ (.slice (some a') next.length (cap - 1))) (w0.heap.size + 1 + 1) w0.heap.size (w0.heap.size + 1) (.slice L vs.length cc) (.slice (some a') next.length (cap - 1)) ts next vs (good l) n fm g) :=
                    Lib.hid (Hf.out.pop (by rw [ha']; congr 2))
                  obtain ⟨V, vc, hv, hvc⟩ := (Hp.out.at_.2.1 x Hx.out).shape
                  have hnl : (nums (g x)).length = (g x).length := by simp [nums]
                  rw [hnl] at hv hvc
                  have Hv := Lib.hid hv
                  have hgl : (g x).length ≤ 9223372036854775807 := by
                    have := (Hp.out.at_.2.2.2.2 x)
                    have h2 := Hnn.out
                    omega
                  have hkey := keyI x Hx.out
                  have Hgk := Lib.hid hgk
                  have Hinv6 : Hid (Inv l c ts next (fun d => ∃ i, i ∈ g x ∧ (good l)[i]? = some d)) := Lib.hid (Hinv.out.pop (fun d hd ⟨y, hy, e⟩ => by
                    obtain ⟨i, hi, e'⟩ := List.getElem_of_mem hd
                    exact ⟨i, by rw [← e]; exact Hok'.out.all i d (by simp [hi, e']) y hy, by simp [hi, e']⟩))
                  clear hv ha' hgk hnl Hinv
                  go_wp2_with (first
                    | (at_lookup; refine wpList_lookup_mapv _ rfl _ _ 44 rfl 3 23 law3 Try.underlying44 _ (zero23 _) w0.heap.size n fm rfl Hp.out.at_.1 _ _ rfl hkey (.slice V (g x).length vc) Hv.out ?_))
                  go_loopw [123] (fun v wr => Rel6 w0 l c (.slice L vs.length cc) vs n fm g x gk v wr) (fun v _ => (g x).length - (intOf v).toNat)
                  case atStart => exact ⟨0, ts, next, _, Nat.zero_le _, rfl, by have := Hgk.out; simp only [List.length_cons] at this; omega, by simpa using Hinv6.out, Hp.out⟩
                  case round =>
                    clear Hp Hf c1 c3 f3 cq Hinv6 hts hnx hsl
                    obtain ⟨j, ts, next, nv, hj, rfl, hgk, hinv, hf⟩ := hrel
                    have Hinv := Lib.hid hinv
                    have Hf := Lib.hid hf
                    have Hgk := Lib.hid hgk
                    clear hinv hf hgk
                    by_cases hlt6 : j < (g x).length
                    · have hq := Hf.out.at_.2.1 x Hx.out
                      rw [Hv.out] at hq
                      obtain ⟨bi, oi, rfl, hcell⟩ := hq.get (i := j) (by simp [nums]; exact hlt6)
                      have hni : (nums (g x))[j]'(by simp [nums]; exact hlt6) = .int .i64 ((g x)[j] : Nat) := by simp [nums]
                      rw [hni] at hcell
                      have hil : (g x)[j] < (good l).length := Hok'.out.lt x _ (List.getElem_mem hlt6)
                      have Hdr : Hid ((g x).drop j = (g x)[j] :: (g x).drop (j + 1)) := Lib.hid (List.drop_eq_getElem_cons hlt6)
                      clear hq hni
                      generalize (g x)[j] = i at *
                      have hiv : i < vs.length := by have := Hvlen.out; omega
                      have c0 : wr.cell? ⟨w0.heap.size + 1 + 1, 0, none⟩ = some (.slice L vs.length cc) := Hf.out.st.cellAt 0
                      obtain ⟨b, off, rfl, hcell2⟩ := Hf.out.lq.get hiv
                      obtain ⟨D, cd, hvd, hrow⟩ := Hf.out.rows i vs[i] (good l)[i] (by simp [hiv]) (by simp [hil])
                      rw [hvd] at hcell2
                      have Hd : Hid ((good l)[i] ∈ good l ∧ (∀ d', (∃ i', i' ∈ (g x).drop j ∧ (good l)[i']? = some d') → d' = (good l)[i] ∨ (∃ i', i' ∈ (g x).drop (j + 1) ∧ (good l)[i']? = some d'))) := Lib.hid ⟨List.getElem_mem hil, fun d' ⟨i', hi', hd'⟩ => by
                        rw [Hdr.out] at hi'
                        rcases List.mem_cons.1 hi' with rfl | hi'
                        · left
                          rw [List.getElem?_eq_getElem hil] at hd'
                          exact (Option.some.inj hd').symm
                        · exact .inr ⟨i', hi', hd'⟩⟩
                      clear hvd
                      generalize (good l)[i] = d at *
                      have Hrow := Lib.hid (hrow.below Hf.out.below)
                      clear hrow
                      have Hdi : Hid (∀ x ∈ d, i64 x ∧ i64 (-x)) := Lib.hid (Hu.out d Hd.out.1)
                      have hdl : d.length < 1000000 := by
                        have := (List.sublist_flatten_of_mem (mem_good.1 Hd.out.1).1).length_le
                        omega
                      have hts : ts.length < 1000000 := by have := Hinv.out.length; have := uni_length l c; omega
                      have hnx : next.length < 1000000 := by have := Hinv.out.next_length; omega
                      have hi0 : (0 : Int) ≤ (i : Int) := Int.natCast_nonneg _
                      have hi1 : (i : Int) < (vs.length : Int) := by omega
                      cases hs : scan ts d none with
                      | none =>
                        have Hs := Lib.hid hs
                        clear hs
                        go_wp2_with (go_at_call 22; refine (look_fine D cd d Hf.out.st Hrow.out Hdi.out hdl hts hnx Hf.out.size Hs.out).mono ?_; rintro e w' ⟨rfl, rfl⟩)
                        go_roundw
                        case rel => exact ⟨j + 1, ts, next, nv, by omega, by go_num, Hgk.out, Hinv.out.fine Hs.out Hd.out.2, Hf.out⟩
                        case measure => simp [intOf]; omega
                      | some o =>
                        cases o with
                        | none =>
                          have Hs := Lib.hid hs
                          clear hs
                          go_wp2_with (go_at_call 22; refine (look_conf D cd d Hf.out.st Hrow.out Hdi.out hdl hts hnx Hf.out.size Hs.out).mono ?_; rintro e w' ⟨rfl, rfl⟩)
                          rw [Exit.noGoto_ret]
                          go_ret
                          exact ⟨true, rfl, by simp [Hn.out, Hinv.out.conf Hd.out.1 Hs.out], Hf.out.below⟩
                        | some y =>
                          have Hs := Lib.hid hs
                          clear hs
                          go_wp2_with (go_at_call 22; refine (look_took D cd d Hf.out.st Hrow.out Hdi.out hdl hts hnx Hf.out.size Hs.out).mono ?_; rintro e w' ⟨rfl, ht⟩; have Ht := Lib.hid ht; clear ht)
                          go_roundw
                          case rel =>
                            obtain ⟨nv', hf'⟩ := Hf.out.took Ht.out
                            exact ⟨j + 1, _, _, nv', by omega, by go_num, by have := Hgk.out; simp; omega, Hinv.out.unit Hd.out.1 Hs.out Hd.out.2, hf'⟩
                          case measure => simp [intOf]; omega
                    · have Hinv7 : Hid (Inv l c ts next (fun _ => False)) := Lib.hid (Hinv.out.weaken (fun d hd => by
                        obtain ⟨i, hi, _⟩ := hd
                        rw [List.drop_eq_nil_of_le (by omega)] at hi
                        simp at hi))
                      go_wp2_with fail
                      go_roundg (gk - 1)
                      case measure =>
                        have := Hgk.out
                        have := Hinv.out.length
                        omega
                      case rel =>
                        exact ⟨ts, next, nv, by have := Hgk.out; omega, Hinv7.out, Hf.out⟩
end Go.Proofs.Ytmfgdemgepkggaa
