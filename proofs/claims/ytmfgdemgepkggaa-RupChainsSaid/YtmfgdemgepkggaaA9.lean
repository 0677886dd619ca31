/- The walk of the reference's 'Follows'. -/
import Derived.Test.YtmfgdemgepkggaaA8
namespace Go.Proofs.Ytmfgdemgepkggaa
open Go.RowKit Go.Maps Go.ChangeMaps

theorem scan_snoc (ts : List Int) (x : Int) : ∀ (c : List Int) (o : Option Int), scan ts (c ++ [x]) o = match scan ts c o with | none => none | some o' => scan ts [x] o' := by
  intro c
  induction c with
  | nil => intro o; simp [scan]
  | cons y c ih =>
    intro o
    simp only [List.cons_append, scan]
    split
    · rfl
    · split
      · split
        · rfl
        · exact ih _
      · exact ih _
theorem posF_more_pos (ts : List Int) {y : Int} (hy : 0 < y) : upd (posF ts) (.int .i64 y) (.bool true) = posF (ts ++ [y]) := by
  funext l
  unfold upd
  by_cases h : l = .int .i64 y
  · subst h
    simp [posF, hasI, hy]
  · rw [if_neg h]
    cases l with
    | int k z =>
      cases k <;> simp [posF]
      have : ¬ z = y := fun e => h (by rw [e])
      simp [hasI, this]
    | _ => rfl
theorem negF_more_pos (ts : List Int) {y : Int} (hy : 0 < y) : negF (ts ++ [y]) = negF ts := by
  funext l
  cases l with
  | int k z =>
    cases k <;> simp [negF]
    by_cases hz : 0 < z
    · have : ¬ -z = y := by omega
      simp [hasI, this]
    · simp [hz]
  | _ => rfl
theorem negF_more_neg (ts : List Int) {y : Int} (hy : y < 0) : upd (negF ts) (.int .i64 (-y)) (.bool true) = negF (ts ++ [y]) := by
  funext l
  unfold upd
  by_cases h : l = .int .i64 (-y)
  · subst h
    simp [negF, hasI, hy]
  · rw [if_neg h]
    cases l with
    | int k z =>
      cases k <;> simp [negF]
      have : ¬ -z = y := fun e => h (by rw [← e, Int.neg_neg])
      simp [hasI, this]
    | _ => rfl
theorem posF_more_neg (ts : List Int) {y : Int} (hy : y < 0) : posF (ts ++ [y]) = posF ts := by
  funext l
  cases l with
  | int k z =>
    cases k <;> simp [posF]
    by_cases hz : 0 < z
    · have : ¬ z = y := by omega
      simp [hasI, this]
    · simp [hz]
  | _ => rfl
theorem posF_again {ts : List Int} {y : Int} (h : y ∈ ts) : posF (ts ++ [y]) = posF ts := by
  funext l
  cases l with
  | int k z =>
    cases k <;> simp [posF]
    by_cases e : z = y
    · subst e; simp [hasI, h]
    · simp [hasI, e]
  | _ => rfl
theorem negF_again {ts : List Int} {y : Int} (h : y ∈ ts) : negF (ts ++ [y]) = negF ts := by
  funext l
  cases l with
  | int k z =>
    cases k <;> simp [negF]
    by_cases e : -z = y
    · subst e; simp [hasI, h]
    · simp [hasI, e]
  | _ => rfl
theorem RefAt.drop {w : World} {a b n : Nat} {ts : List Int} {y : Int} (h : RefAt w a b n (ts ++ [y])) (hy : y ∈ ts) : RefAt w a b n ts :=
  ⟨by have := h.pos; rwa [posF_again hy] at this, by have := h.neg; rwa [negF_again hy] at this, h.ne⟩
theorem RefAt.setPos {w w' : World} {a b n : Nat} {ts : List Int} {y : Int} (h : RefAt w a b n ts) (hy : 0 < y) (hm : MapV Try.prog 3 w' a (n + 1) (upd (posF ts) (.int .i64 y) (.bool true))) (hg : w.grownBy w' (some a)) : RefAt w' a b (n + 1) (ts ++ [y]) :=
  ⟨by rwa [← posF_more_pos ts hy], by rw [negF_more_pos ts hy]; exact (h.neg.same (hg.block b h.neg.lt (by simpa using h.ne.symm))).mono (by omega), h.ne⟩
theorem RefAt.setNeg {w w' : World} {a b n : Nat} {ts : List Int} {y : Int} (h : RefAt w a b n ts) (hy : y < 0) (hm : MapV Try.prog 3 w' b (n + 1) (upd (negF ts) (.int .i64 (-y)) (.bool true))) (hg : w.grownBy w' (some b)) : RefAt w' a b (n + 1) (ts ++ [y]) :=
  ⟨by rw [posF_more_neg ts hy]; exact (h.pos.same (hg.block a h.pos.lt (by simpa using h.ne))).mono (by omega), by rwa [← negF_more_neg ts hy], h.ne⟩
theorem RefAt.start (w0 : World) : RefAt ((w0.alloc (.map #[] 0)).alloc (.map #[] 0)) w0.heap.size (w0.heap.size + 1) 0 [] := by
  have h1 := MapV.made (P := Try.prog) (k := 3) w0
  have h2 := MapV.made (P := Try.prog) (k := 3) (w0.alloc (.map #[] 0))
  refine ⟨?_, ?_, by omega⟩
  · have : posF [] = fun _ => none := by funext x; cases x <;> simp [posF, hasI]; rename_i k _; cases k <;> rfl
    rw [this]
    exact MapV.same h1 (Below.heap_alloc _ _ _ (by simp))
  · have : negF [] = fun _ => none := by funext x; cases x <;> simp [negF, hasI]; rename_i k _; cases k <;> rfl
    rw [this]
    simpa using h2

/-- What a pass over the clauses keeps: what was told is right; where nothing has been told in it, all that was looked at is fine. -/
structure Pass (l : List (List Int)) (c ts : List Int) : Prop where
  told : Told l c ts
  sub : ∀ t ∈ ts, t ∈ uni l c
  first : ∀ x ∈ c, -x ∈ ts
theorem Pass.length {l : List (List Int)} {c ts : List Int} (h : Pass l c ts) : ts.length ≤ (uni l c).length := length_le_of_nodup_sub _ _ h.told.nodup h.sub
theorem Pass.unit {l : List (List Int)} {c ts : List Int} (h : Pass l c ts) {d : List Int} {x : Int} (hd : d ∈ good l) (hs : scan ts d none = some (some x)) : Pass l c (ts ++ [x]) := by
  obtain ⟨h1, h2, h3, h4⟩ := unit_of_scan hs
  refine ⟨h.told.unit (mem_good.1 hd).1 (mem_good.1 hd).2 hs, fun t ht => ?_, fun y hy => by simp [h.first y hy]⟩
  simp only [List.mem_append, List.mem_singleton] at ht
  rcases ht with ht | rfl
  · exact h.sub t ht
  · simp only [uni, List.mem_append, List.mem_flatten]
    exact .inr ⟨d, hd, h1⟩
theorem Init.pass (l : List (List Int)) {c ts : List Int} {k : Nat} (h : Init c k ts) (hk : c.length ≤ k) : Pass l c ts := by
  have := h.inv l hk
  exact ⟨this.told, this.sub, this.first⟩

def bnat (b : Bool) : Nat := if b = true then 1 else 0
/-- What the loop over a clause's literals has seen. -/
def RS (ts pre : List Int) (s : Bool) (o : Int) : Prop := (s = true → scan ts pre none = none) ∧ (s = false → ∃ r, scan ts pre none = some r ∧ o = r.getD 0)
theorem RS.sat {ts pre : List Int} {s : Bool} {o : Int} {x : Int} (_ : RS ts pre s o) (hT : hasI ts x = true) : RS ts (pre ++ [x]) true o := by
  refine ⟨fun _ => ?_, by simp⟩
  rw [scan_snoc]
  split
  · rfl
  · exact scan_true hT
theorem RS.neg {ts pre : List Int} {s : Bool} {o : Int} {x : Int} (h : RS ts pre s o) (hT : hasI ts x = false) (hT' : hasI ts (-x) = true) : RS ts (pre ++ [x]) s o := by
  refine ⟨fun hs => ?_, fun hs => ?_⟩
  · rw [scan_snoc, h.1 hs]
  · obtain ⟨r, h1, h2⟩ := h.2 hs
    exact ⟨r, by rw [scan_snoc, h1]; exact scan_false hT hT', h2⟩
theorem RS.fresh {ts pre : List Int} {s : Bool} {x : Int} (h : RS ts pre s 0) (hp : ∀ y ∈ pre, y ≠ 0) (hT : hasI ts x = false) (hT' : hasI ts (-x) = false) : RS ts (pre ++ [x]) s x := by
  refine ⟨fun hs => ?_, fun hs => ?_⟩
  · rw [scan_snoc, h.1 hs]
  · obtain ⟨r, h1, h2⟩ := h.2 hs
    cases r with
    | none => exact ⟨some x, by rw [scan_snoc, h1]; exact scan_one hT hT', rfl⟩
    | some y => exact absurd h2.symm (hp y (unit_of_scan h1).1)
theorem RS.same {ts pre : List Int} {s : Bool} {x : Int} (h : RS ts pre s x) (h0 : x ≠ 0) (hT : hasI ts x = false) : RS ts (pre ++ [x]) s x := by
  refine ⟨fun hs => ?_, fun hs => ?_⟩
  · rw [scan_snoc, h.1 hs]
  · obtain ⟨r, h1, h2⟩ := h.2 hs
    cases r with
    | none => exact absurd h2 h0
    | some y =>
      simp at h2
      subst h2
      exact ⟨some x, by rw [scan_snoc, h1]; exact scan_same hT, rfl⟩
theorem RS.two {ts pre : List Int} {s : Bool} {o x : Int} (h : RS ts pre s o) (h0 : o ≠ 0) (hne : o ≠ x) (hT : hasI ts x = false) (hT' : hasI ts (-x) = false) : RS ts (pre ++ [x]) true x := by
  refine ⟨fun _ => ?_, by simp⟩
  rw [scan_snoc]
  cases s with
  | true => rw [h.1 rfl]
  | false =>
    obtain ⟨r, h1, h2⟩ := h.2 rfl
    rw [h1]
    cases r with
    | none => exact absurd h2 h0
    | some y =>
      simp at h2
      subst h2
      exact scan_two hT hT' hne

def RefW (w0 w : World) (n : Nat) (ts : List Int) : Prop := RefAt w w0.heap.size (w0.heap.size + 1) n ts ∧ Below w0.heap.size w0 w
/-- The loop over the clause. -/
def RRel1 (w0 : World) (c : List Int) (v : Value) (wr : World) : Prop :=
  ∃ (k : Nat) (ts : List Int), k ≤ c.length ∧ v = .int .i64 k ∧ Init c k ts ∧ RefW w0 wr k ts
/-- The loop till nothing changes. -/
def RRel2 (w0 : World) (l : List (List Int)) (c : List Int) (gk : Nat) (v : Value) (wr : World) : Prop :=
  ∃ (b : Bool) (ts : List Int) (n : Nat), v = .bool b ∧ (uni l c).length + bnat b ≤ gk + ts.length ∧ n ≤ c.length + ts.length ∧ Pass l c ts ∧ RefW w0 wr n ts ∧
    (b = false → ∀ d ∈ l, none0 d = false → Fine ts d)
/-- The loop over the clauses. -/
def RRel3 (w0 : World) (l : List (List Int)) (c : List Int) (N : Nat) (va vi : Value) (wr : World) : Prop :=
  ∃ (b : Bool) (k : Nat) (ts : List Int) (n : Nat), va = .bool b ∧ k ≤ l.length ∧ vi = .int .i64 k ∧ N + bnat b ≤ ts.length ∧ n ≤ c.length + ts.length ∧ Pass l c ts ∧ RefW w0 wr n ts ∧
    (b = false → ∀ d ∈ l.take k, none0 d = false → Fine ts d)
/-- The loop over a clause's literals. -/
def RRel4 (ts d : List Int) (vo vs vk : Value) : Prop :=
  ∃ (j : Nat) (s : Bool) (o : Int), j ≤ d.length ∧ vk = .int .i64 j ∧ vs = .bool s ∧ vo = .int .i64 o ∧ RS ts (d.take j) s o

theorem RefW.set {w0 w : World} {n : Nat} {ts : List Int} (h : RefW w0 w n ts) : RefAt w w0.heap.size (w0.heap.size + 1) n ts := h.1

set_option maxRecDepth 100000 in
set_option maxHeartbeats 8000000 in
theorem ref_follows_any (A : Option Addr) (ca : Nat) (l : List (List Int)) (B : Option Addr) (cb : Nat) (c : List Int) (w0 : World) (hl : RowsAt w0 A ca l) (hc : IntsAt w0 B cb c)
    (hi : ∀ d ∈ l, ∀ x ∈ d, i64 x) (hic : ∀ x ∈ c, i64 x) (hlen : l.length < 100000) (hsum : l.flatten.length < 100000) (hclen : c.length < 100000) :
    Calls Try.prog 12 #[.slice A l.length ca, .slice B c.length cb] w0 (Answered w0 l c) := by
  have hmm := @run_makeMap Try.prog
  have Hl := Lib.hid hl
  have Hc := Lib.hid hc
  have Hi := Lib.hid hi
  have Hic := Lib.hid hic
  clear hl hc hi hic
  go_enter Try.func12, Try.ntmps12
  go_wp2_with fail
  go_loop [5] (fun i => ∃ k : Nat, k ≤ c.length ∧ i = .int .i64 k ∧ ∀ j (h : j < c.length), j < k → c[j] ≠ 0 ∧ c[j] ≠ -9223372036854775808) (fun i => c.length - (intOf i).toNat)
  case atStart => exact ⟨0, Nat.zero_le _, rfl, by simp⟩
  case round =>
    obtain ⟨k, hk, rfl, hno⟩ := hrel
    have Hno := Lib.hid hno
    clear hno
    by_cases hlt : k < c.length
    · obtain ⟨b, o, rfl, hcell⟩ := Hc.out.get hlt
      have Hin : Hid (c[k] ∈ c) := Lib.hid (List.getElem_mem hlt)
      have Hx : Hid (∀ j (h : j < c.length), j < k + 1 → c[k] ≠ 0 → c[k] ≠ -9223372036854775808 → c[j] ≠ 0 ∧ c[j] ≠ -9223372036854775808) := Lib.hid (fun j h hj h1 h2 => by
        by_cases e : j = k
        · subst e; exact ⟨h1, h2⟩
        · exact Hno.out j h (by omega))
      generalize c[k] = x at *
      by_cases h0 : x = 0
      · have he : (x == 0) = true := by simpa using h0
        have Hn : Hid (none0 c = true) := Lib.hid (by simp [none0, hasI, ← h0, Hin.out])
        clear h0
        go_wp2_with fail
        go_ret
        exact ⟨false, rfl, by simp [Hn.out], Below.refl _ _⟩
      · have he : (x == 0) = false := by simpa using h0
        by_cases h1 : x = -9223372036854775808
        · have he1 : (x == -9223372036854775808) = true := by simpa using h1
          have Hn : Hid (none0 c = true) := Lib.hid (by simp [none0, hasI, ← h1, Hin.out])
          clear h1 h0
          go_wp2_with fail
          go_ret
          exact ⟨false, rfl, by simp [Hn.out], Below.refl _ _⟩
        · have he1 : (x == -9223372036854775808) = false := by simpa using h1
          have H0 := Lib.hid h0
          have H1 := Lib.hid h1
          clear h0 h1
          go_wp2_with fail
          go_round
          case rel => exact ⟨k + 1, by omega, by go_num, fun j h hj => Hx.out j h hj H0.out H1.out⟩
          case measure => simp [intOf]; omega
    · have Hn : Hid (none0 c = false) := Lib.hid (by
        rw [none0, Bool.or_eq_false_iff, hasI_false, hasI_false]
        constructor
        · intro hm
          obtain ⟨j, hj, e⟩ := List.getElem_of_mem hm
          exact (Hno.out j hj (by omega)).1 e
        · intro hm
          obtain ⟨j, hj, e⟩ := List.getElem_of_mem hm
          exact (Hno.out j hj (by omega)).2 e)
      clear Hno
      go_wp2_with fail
      go_loopw [8] (fun v wr => RRel1 w0 c v wr) (fun v _ => c.length - (intOf v).toNat)
      case atStart => exact ⟨0, [], Nat.zero_le _, rfl, Init.start c, RefAt.start w0, ((Below.refl _ _).alloc (Nat.le_refl _) _).alloc (by simp) _⟩
      case round =>
        obtain ⟨k2, ts, hk2, rfl, hin, hw, hbel⟩ := hrel
        have Hin := Lib.hid hin
        have Hw := Lib.hid hw
        have Hbel := Lib.hid hbel
        clear hin hw hbel hmm
        by_cases hlt2 : k2 < c.length
        · obtain ⟨b, o, rfl, hcell⟩ := (Hc.out.below Hbel.out).get hlt2
          have Hx : Hid (i64 c[k2] ∧ i64 (-c[k2]) ∧ c[k2] ≠ 0) := Lib.hid (by
            have h1 := Hic.out c[k2] (List.getElem_mem hlt2)
            have h2 := Hn.out
            simp [none0, hasI] at h2
            have h3 : c[k2] ≠ 0 := fun e => h2.1 (e ▸ List.getElem_mem hlt2)
            have h4 : c[k2] ≠ -9223372036854775808 := fun e => h2.2 (e ▸ List.getElem_mem hlt2)
            exact ⟨h1, by unfold i64 at h1 ⊢; omega, h3⟩)
          have Hcf : Hid (hasI ts c[k2] = true → Confl l c) := Lib.hid (fun h => Hin.out.conf l hlt2 (hasI_iff.1 h))
          have Hmore : Hid (hasI ts c[k2] = false → ∀ w', RefAt w' w0.heap.size (w0.heap.size + 1) (k2 + 1) (ts ++ [-c[k2]]) → ∃ ts', Init c (k2 + 1) ts' ∧ RefAt w' w0.heap.size (w0.heap.size + 1) (k2 + 1) ts') := Lib.hid (fun h w' hr => by
            by_cases e : -c[k2] ∈ ts
            · exact ⟨ts, Hin.out.there hlt2 e, hr.drop e⟩
            · exact ⟨_, Hin.out.more hlt2 Hx.out.2.2 e (hasI_false.1 h), hr⟩)
          generalize c[k2] = x at *
          obtain ⟨l1, l2⟩ := Hx.out.1
          obtain ⟨l3, l4⟩ := Hx.out.2.1
          have hk1 := keyI x Hx.out.1
          have hk2' := keyI (-x) Hx.out.2.1
          cases hT : hasI ts x with
          | true =>
            have Hwo : Hid (worthI ts x = 1) := Lib.hid (by simp [worthI, hT])
            have Hcf' := Lib.hid (Hcf.out hT)
            clear hT
            go_wp2_with (go_at_call 18; refine (worth_any Hw.out x Hx.out.1 Hx.out.2.1 Hx.out.2.2).mono ?_; rintro e w' ⟨rfl, rfl⟩; rw [Hwo.out])
            go_ret
            exact ⟨true, rfl, by simp [Hn.out, Hcf'.out], Hbel.out⟩
          | false =>
            have HT := Lib.hid hT
            have Hwo : Hid (worthI ts x ≠ 1) := Lib.hid (by unfold worthI; rw [if_neg (by rw [hT]; simp)]; split <;> omega)
            clear hT
            obtain ⟨q, hq⟩ : ∃ q, worthI ts x = q := ⟨_, rfl⟩
            have Hq := Lib.hid hq
            have hq1 : (q == 1) = false := by rw [← hq]; simpa using Hwo.out
            clear hq
            by_cases hpos : 0 < x
            · have hd1 : decide (x > 0) = true := by simpa using hpos
              go_wp2_with (first
                | (go_at_call 18; refine (worth_any Hw.out x Hx.out.1 Hx.out.2.1 Hx.out.2.2).mono ?_; rintro e w' ⟨rfl, rfl⟩; rw [Hq.out])
                | (at_mapUpdate; refine wpList_update_mapv _ rfl _ _ _ 40 rfl 3 4 law3 Try.underlying40 (w0.heap.size + 1) _ _ rfl Hw.out.neg (by simp [maxLen]; omega) _ (.bool true) _ rfl rfl hk1 ?_; intro w1 hm1 hg1; have Hm1 := Lib.hid hm1; have Hg1 := Lib.hid hg1; clear hm1 hg1))
              go_roundw
              case rel =>
                obtain ⟨ts', h1, h2⟩ := Hmore.out HT.out w1 (Hw.out.setNeg (y := -x) (by omega) (by rw [Int.neg_neg]; exact Hm1.out) Hg1.out)
                exact ⟨k2 + 1, ts', by omega, by go_num, h1, h2, Hbel.out.grown Hg1.out Hbel.out.size (fun k hk => by cases hk; omega)⟩
              case measure => simp [intOf]; omega
            · have hd1 : decide (x > 0) = false := by simpa using hpos
              have Hneg : Hid (x < 0) := Lib.hid (by have := Hx.out.2.2; omega)
              go_wp2_with (first
                | (go_at_call 18; refine (worth_any Hw.out x Hx.out.1 Hx.out.2.1 Hx.out.2.2).mono ?_; rintro e w' ⟨rfl, rfl⟩; rw [Hq.out])
                | (at_mapUpdate; refine wpList_update_mapv _ rfl _ _ _ 40 rfl 3 4 law3 Try.underlying40 w0.heap.size _ _ rfl Hw.out.pos (by simp [maxLen]; omega) _ (.bool true) _ rfl rfl hk2' ?_; intro w1 hm1 hg1; have Hm1 := Lib.hid hm1; have Hg1 := Lib.hid hg1; clear hm1 hg1))
              go_roundw
              case rel =>
                obtain ⟨ts', h1, h2⟩ := Hmore.out HT.out w1 (Hw.out.setPos (y := -x) (by have := Hneg.out; omega) Hm1.out Hg1.out)
                exact ⟨k2 + 1, ts', by omega, by go_num, h1, h2, Hbel.out.grown Hg1.out Hbel.out.size (fun k hk => by cases hk; omega)⟩
              case measure => simp [intOf]; omega
        · have Hpass := Lib.hid (Hin.out.pass l (by omega))
          clear Hin
          go_wp2_with fail
          go_loopg [9] ((uni l c).length + 1) (fun gk v wr => RRel2 w0 l c gk v wr)
          case atStart => exact ⟨true, ts, k2, rfl, by have : bnat true = 1 := rfl; omega, by omega, Hpass.out, ⟨Hw.out, Hbel.out⟩, by simp⟩
          case round =>
            clear Hw Hbel Hpass
            obtain ⟨bb, ts, n, rfl, hgk, hnn, hpass, ⟨hw, hbel⟩, hfine⟩ := hrel
            have Hpass := Lib.hid hpass
            have Hw := Lib.hid hw
            have Hbel := Lib.hid hbel
            have Hgk := Lib.hid hgk
            have Hnn := Lib.hid hnn
            have Hfine := Lib.hid hfine
            clear hpass hw hbel hgk hnn hfine
            cases bb with
            | false =>
              have Hno : Hid (¬ Confl l c) := Lib.hid (Hpass.out.told.fine Hpass.out.first (Hfine.out rfl))
              go_wp2_with fail
              go_ret
              exact ⟨false, rfl, by simp [Hno.out], Hbel.out⟩
            | true =>
              clear Hfine
              go_wp2_with fail
              go_loopw [9, 10] (fun va vi wr => RRel3 w0 l c ts.length va vi wr) (fun _ v _ => l.length - (intOf v).toNat)
              case atStart => exact ⟨false, 0, ts, n, rfl, Nat.zero_le _, rfl, by have : bnat false = 0 := rfl; omega, Hnn.out, Hpass.out, ⟨Hw.out, Hbel.out⟩, by simp⟩
              case round =>
                obtain ⟨N, hN⟩ : ∃ N, N = ts.length := ⟨_, rfl⟩
                rw [← hN] at hrel Hgk ⊢
                clear Hw Hbel Hpass Hnn hN
                obtain ⟨b3, k3, ts, n, rfl, hk3, rfl, hN3, hn3, hpass, ⟨hw, hbel⟩, hfine⟩ := hrel
                have Hpass := Lib.hid hpass
                have Hw := Lib.hid hw
                have Hbel := Lib.hid hbel
                have HN := Lib.hid hN3
                have Hnn := Lib.hid hn3
                have Hfine := Lib.hid hfine
                clear hpass hw hbel hN3 hn3 hfine
                by_cases hlt3 : k3 < l.length
                · obtain ⟨b, off, B2, cb2, rfl, hcell, hrow⟩ := (Hl.out.below Hbel.out).get hlt3
                  have Hrow := Lib.hid hrow
                  have hdl : l[k3].length < 100000 := by
                    have := (List.sublist_flatten_of_mem (List.getElem_mem hlt3)).length_le
                    omega
                  have Hd : Hid (l[k3] ∈ l ∧ (∀ ts', (∀ d ∈ l.take k3, none0 d = false → Fine ts' d) → (none0 l[k3] = false → Fine ts' l[k3]) → ∀ d ∈ l.take (k3 + 1), none0 d = false → Fine ts' d)) := Lib.hid ⟨List.getElem_mem hlt3, fun ts' h1 h2 d hd hn => by
                    rw [List.take_succ_eq_append_getElem hlt3] at hd
                    simp only [List.mem_append, List.mem_singleton] at hd
                    rcases hd with hd | rfl
                    · exact h1 d hd hn
                    · exact h2 hn⟩
                  clear hrow
                  generalize l[k3] = d at *
                  have hdl' : d.length ≤ 9223372036854775807 := by omega
                  cases hno : none0 d with
                  | true =>
                    have Hno := Lib.hid hno
                    clear hno
                    go_wp2_with (go_at_call 19; refine (whole_any B2 cb2 d _ Hrow.out hdl').mono ?_; rintro e w' ⟨rfl, rfl⟩; rw [Hno.out])
                    go_roundw
                    case rel => exact ⟨b3, k3 + 1, ts, n, rfl, by omega, by go_num, HN.out, Hnn.out, Hpass.out, ⟨Hw.out, Hbel.out⟩, fun h => Hd.out.2 ts (Hfine.out h) (fun h' => by rw [Hno.out] at h'; cases h')⟩
                    case measure => simp [intOf]; omega
                  | false =>
                    have Hno := Lib.hid hno
                    clear hno
                    have Hdi : Hid (∀ x ∈ d, i64 x ∧ i64 (-x) ∧ x ≠ 0) := Lib.hid (fun x hx => by
                      have h1 := Hi.out d Hd.out.1 x hx
                      have h2 := Hno.out
                      simp [none0, hasI] at h2
                      have h3 : x ≠ 0 := fun e => h2.1 (e ▸ hx)
                      have h4 : x ≠ -9223372036854775808 := fun e => h2.2 (e ▸ hx)
                      exact ⟨h1, by unfold i64 at h1 ⊢; omega, h3⟩)
                    go_wp2_with (go_at_call 19; refine (whole_any B2 cb2 d _ Hrow.out hdl').mono ?_; rintro e w' ⟨rfl, rfl⟩; rw [Hno.out])
                    go_loop [11, 12, 13] (fun vo vs vk => RRel4 ts d vo vs vk) (fun _ _ v => d.length - (intOf v).toNat)
                    case atStart => exact ⟨0, false, 0, Nat.zero_le _, rfl, rfl, rfl, by simp, fun _ => ⟨none, rfl, rfl⟩⟩
                    case round =>
                      obtain ⟨j, s, o, hj, rfl, rfl, rfl, hrs⟩ := hrel
                      have Hrs := Lib.hid hrs
                      clear hrs
                      by_cases hlt4 : j < d.length
                      · obtain ⟨b', off', rfl, hcell2⟩ := Hrow.out.get hlt4
                        have Hx : Hid ((i64 d[j] ∧ i64 (-d[j]) ∧ d[j] ≠ 0) ∧ d.take (j + 1) = d.take j ++ [d[j]] ∧ ∀ y ∈ d.take j, y ≠ 0) := Lib.hid ⟨Hdi.out _ (List.getElem_mem hlt4), List.take_succ_eq_append_getElem hlt4, fun y hy => (Hdi.out y (List.mem_of_mem_take hy)).2.2⟩
                        generalize d[j] = x at *
                        cases hT : hasI ts x with
                        | true =>
                          have HT := Lib.hid hT
                          have Hwo : Hid (worthI ts x = 1) := Lib.hid (by simp [worthI, hT])
                          clear hT
                          go_wp2_with (go_at_call 18; refine (worth_any Hw.out x Hx.out.1.1 Hx.out.1.2.1 Hx.out.1.2.2).mono ?_; rintro e w' ⟨rfl, rfl⟩; rw [Hwo.out])
                          go_round
                          case rel => exact ⟨j + 1, true, o, by omega, by go_num, rfl, rfl, by rw [Hx.out.2.1]; exact Hrs.out.sat HT.out⟩
                          case measure => simp [intOf]; omega
                        | false =>
                          have HT := Lib.hid hT
                          cases hT' : hasI ts (-x) with
                          | true =>
                            have HT' := Lib.hid hT'
                            have Hwo : Hid (worthI ts x = -1) := Lib.hid (by simp [worthI, hT, hT'])
                            clear hT hT'
                            go_wp2_with (go_at_call 18; refine (worth_any Hw.out x Hx.out.1.1 Hx.out.1.2.1 Hx.out.1.2.2).mono ?_; rintro e w' ⟨rfl, rfl⟩; rw [Hwo.out])
                            go_round
                            case rel => exact ⟨j + 1, s, o, by omega, by go_num, rfl, rfl, by rw [Hx.out.2.1]; exact Hrs.out.neg HT.out HT'.out⟩
                            case measure => simp [intOf]; omega
                          | false =>
                            have HT' := Lib.hid hT'
                            have Hwo : Hid (worthI ts x = 0) := Lib.hid (by simp [worthI, hT, hT'])
                            clear hT hT'
                            by_cases ho : o = 0
                            · subst ho
                              go_wp2_with (go_at_call 18; refine (worth_any Hw.out x Hx.out.1.1 Hx.out.1.2.1 Hx.out.1.2.2).mono ?_; rintro e w' ⟨rfl, rfl⟩; rw [Hwo.out])
                              go_round
                              case rel => exact ⟨j + 1, s, x, by omega, by go_num, rfl, rfl, by rw [Hx.out.2.1]; exact Hrs.out.fresh Hx.out.2.2 HT.out HT'.out⟩
                              case measure => simp [intOf]; omega
                            · have ho1 : (o != 0) = true := by simpa using ho
                              have Ho := Lib.hid ho
                              clear ho
                              by_cases hox : o = x
                              · subst hox
                                go_wp2_with (go_at_call 18; refine (worth_any Hw.out o Hx.out.1.1 Hx.out.1.2.1 Hx.out.1.2.2).mono ?_; rintro e w' ⟨rfl, rfl⟩; rw [Hwo.out])
                                go_round
                                case rel => exact ⟨j + 1, s, o, by omega, by go_num, rfl, rfl, by rw [Hx.out.2.1]; exact Hrs.out.same Ho.out HT.out⟩
                                case measure => simp [intOf]; omega
                              · have ho2 : (o != x) = true := by simpa using hox
                                have Hox := Lib.hid hox
                                clear hox
                                go_wp2_with (go_at_call 18; refine (worth_any Hw.out x Hx.out.1.1 Hx.out.1.2.1 Hx.out.1.2.2).mono ?_; rintro e w' ⟨rfl, rfl⟩; rw [Hwo.out])
                                go_round
                                case rel => exact ⟨j + 1, true, x, by omega, by go_num, rfl, rfl, by rw [Hx.out.2.1]; exact Hrs.out.two Ho.out Hox.out HT.out HT'.out⟩
                                case measure => simp [intOf]; omega
                      · have Hrs' : Hid (RS ts d s o) := Lib.hid (by have := Hrs.out; rwa [List.take_of_length_le (by omega)] at this)
                        have Hd3 : Hid (d ∈ good l) := Lib.hid (mem_good.2 ⟨Hd.out.1, Hno.out⟩)
                        cases s with
                        | true =>
                          go_wp2_with fail
                          go_roundw
                          case rel => exact ⟨b3, k3 + 1, ts, n, rfl, by omega, by go_num, HN.out, Hnn.out, Hpass.out, ⟨Hw.out, Hbel.out⟩, fun h => Hd.out.2 ts (Hfine.out h) (fun _ => fine_of_scan (Hrs'.out.1 rfl))⟩
                          case measure => simp [intOf]; omega
                        | false =>
                          obtain ⟨r, hr, ho⟩ := Hrs'.out.2 rfl
                          cases r with
                          | none =>
                            have Hcf := Lib.hid (Hpass.out.told.conf Hd.out.1 Hno.out hr)
                            simp at ho
                            subst ho
                            clear hr
                            go_wp2_with fail
                            go_ret
                            exact ⟨true, rfl, by simp [Hn.out, Hcf.out], Hbel.out⟩
                          | some y =>
                            simp at ho
                            subst ho
                            have Hr := Lib.hid hr
                            clear hr
                            have Hy : Hid (i64 o ∧ i64 (-o) ∧ o ≠ 0) := Lib.hid (Hdi.out o (unit_of_scan Hr.out).1)
                            obtain ⟨l1, l2⟩ := Hy.out.1
                            obtain ⟨l3, l4⟩ := Hy.out.2.1
                            have hk1 := keyI o Hy.out.1
                            have hk2' := keyI (-o) Hy.out.2.1
                            have ho0 : (o == 0) = false := by simpa using Hy.out.2.2
                            have hnlt : n < 1000000 := by
                              have := Hnn.out
                              have := Hpass.out.length
                              have := uni_length l c
                              omega
                            have Hpu := Lib.hid (Hpass.out.unit Hd3.out Hr.out)
                            by_cases hpos : 0 < o
                            · have hd1 : decide (o > 0) = true := by simpa using hpos
                              go_wp2_with (first
                                | (at_mapUpdate; refine wpList_update_mapv _ rfl _ _ _ 40 rfl 3 4 law3 Try.underlying40 w0.heap.size _ _ rfl Hw.out.pos (by simp [maxLen]; omega) _ (.bool true) _ rfl rfl hk1 ?_; intro w1 hm1 hg1; have Hm1 := Lib.hid hm1; have Hg1 := Lib.hid hg1; clear hm1 hg1))
                              go_roundw
                              case rel =>
                                refine ⟨true, k3 + 1, ts ++ [o], n + 1, rfl, by omega, by go_num, ?_, ?_, Hpu.out, ⟨Hw.out.setPos hpos Hm1.out Hg1.out, Hbel.out.grown Hg1.out Hbel.out.size (fun k hk => by cases hk; omega)⟩, by simp⟩
                                · have := HN.out; have : bnat true = 1 := rfl; simp; omega
                                · have := Hnn.out; simp; omega
                              case measure => simp [intOf]; omega
                            · have hd1 : decide (o > 0) = false := by simpa using hpos
                              have Hneg : Hid (o < 0) := Lib.hid (by have := Hy.out.2.2; omega)
                              go_wp2_with (first
                                | (at_mapUpdate; refine wpList_update_mapv _ rfl _ _ _ 40 rfl 3 4 law3 Try.underlying40 (w0.heap.size + 1) _ _ rfl Hw.out.neg (by simp [maxLen]; omega) _ (.bool true) _ rfl rfl hk2' ?_; intro w1 hm1 hg1; have Hm1 := Lib.hid hm1; have Hg1 := Lib.hid hg1; clear hm1 hg1))
                              go_roundw
                              case rel =>
                                refine ⟨true, k3 + 1, ts ++ [o], n + 1, rfl, by omega, by go_num, ?_, ?_, Hpu.out, ⟨Hw.out.setNeg Hneg.out Hm1.out Hg1.out, Hbel.out.grown Hg1.out Hbel.out.size (fun k hk => by cases hk; omega)⟩, by simp⟩
                                · have := HN.out; have : bnat true = 1 := rfl; simp; omega
                                · have := Hnn.out; simp; omega
                              case measure => simp [intOf]; omega
                · go_wp2_with fail
                  go_roundg (gk - 1)
                  case measure =>
                    have := Hgk.out
                    have := Hpass.out.length
                    have := HN.out
                    have : bnat true = 1 := rfl
                    omega
                  case rel => exact ⟨b3, ts, n, rfl, by have := Hgk.out; have := HN.out; have : bnat true = 1 := rfl; omega, Hnn.out, Hpass.out, ⟨Hw.out, Hbel.out⟩, fun h => by have := Hfine.out h; rwa [List.take_of_length_le (by omega)] at this⟩
end Go.Proofs.Ytmfgdemgepkggaa
