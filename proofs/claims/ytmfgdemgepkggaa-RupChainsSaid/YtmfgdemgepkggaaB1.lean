/- Propagation, plainly: what follows from clauses; what a run of it keeps true. -/
import Derived.Test.YtmfgdemgepkggaaA5
namespace Go.Proofs.Ytmfgdemgepkggaa

theorem hasI_iff {ts : List Int} {x : Int} : hasI ts x = true ↔ x ∈ ts := by simp [hasI]
theorem hasI_false {ts : List Int} {x : Int} : hasI ts x = false ↔ x ∉ ts := by rw [← Bool.not_eq_true, hasI_iff]

/-- What is told by propagation. -/
inductive Der (l : List (List Int)) (c : List Int) : Int → Prop
  | neg {x : Int} (h : x ∈ c) : Der l c (-x)
  | unit {d : List Int} {x : Int} (hd : d ∈ l) (hn : none0 d = false) (hx : x ∈ d) (h : ∀ y ∈ d, y ≠ x → Der l c (-y)) : Der l c x
/-- It comes to nothing that can be. -/
def Confl (l : List (List Int)) (c : List Int) : Prop := (∃ x, Der l c x ∧ Der l c (-x)) ∨ ∃ d ∈ l, none0 d = false ∧ ∀ y ∈ d, Der l c (-y)

theorem scan_cases (ts : List Int) : ∀ (c : List Int) (o : Option Int),
    (scan ts c o = none → (∃ y ∈ c, hasI ts y = true) ∨ (∃ y ∈ c, hasI ts y = false ∧ hasI ts (-y) = false ∧ ∃ z, z ≠ y ∧ ((o = some z) ∨ (z ∈ c ∧ hasI ts z = false ∧ hasI ts (-z) = false)))) ∧
    (∀ r, scan ts c o = some r → (∀ y ∈ c, hasI ts y = false) ∧ (∀ y ∈ c, r ≠ some y → hasI ts (-y) = true) ∧ (r = none → o = none) ∧ (∀ y, r = some y → o = some y ∨ (o = none ∧ y ∈ c ∧ hasI ts (-y) = false)) ∧ (∀ y, o = some y → r = some y)) := by
  intro c
  induction c with
  | nil => intro o; simp [scan]
  | cons x c ih =>
    intro o
    cases h1 : hasI ts x with
    | true =>
      rw [scan_true h1]
      exact ⟨fun _ => .inl ⟨x, by simp, h1⟩, by simp⟩
    | false =>
      cases h2 : hasI ts (-x) with
      | true =>
        rw [scan_false h1 h2]
        obtain ⟨i1, i2⟩ := ih o
        refine ⟨fun h => ?_, fun r h => ?_⟩
        · rcases i1 h with ⟨y, hy, h⟩ | ⟨y, hy, ha, hb, z, hz, h⟩
          · exact .inl ⟨y, by simp [hy], h⟩
          · refine .inr ⟨y, by simp [hy], ha, hb, z, hz, ?_⟩
            rcases h with h | ⟨h, h'⟩
            · exact .inl h
            · exact .inr ⟨by simp [h], h'⟩
        · obtain ⟨j1, j2, j3, j4, j5⟩ := i2 r h
          refine ⟨fun y hy => ?_, fun y hy hr => ?_, j3, fun y hy => ?_, j5⟩
          · rcases List.mem_cons.1 hy with rfl | hy
            · exact h1
            · exact j1 y hy
          · rcases List.mem_cons.1 hy with rfl | hy
            · exact h2
            · exact j2 y hy hr
          · rcases j4 y hy with h | ⟨h, h', h''⟩
            · exact .inl h
            · exact .inr ⟨h, by simp [h'], h''⟩
      | false =>
        cases o with
        | none =>
          rw [scan_one h1 h2]
          obtain ⟨i1, i2⟩ := ih (some x)
          refine ⟨fun h => ?_, fun r h => ?_⟩
          · rcases i1 h with ⟨y, hy, h⟩ | ⟨y, hy, ha, hb, z, hz, h⟩
            · exact .inl ⟨y, by simp [hy], h⟩
            · refine .inr ⟨y, by simp [hy], ha, hb, z, hz, ?_⟩
              rcases h with h | ⟨h, h'⟩
              · cases h
                exact .inr ⟨by simp, h1, h2⟩
              · exact .inr ⟨by simp [h], h'⟩
          · obtain ⟨j1, j2, j3, j4, j5⟩ := i2 r h
            have hr := j5 x rfl
            subst hr
            refine ⟨fun y hy => ?_, fun y hy hr => ?_, by simp, fun y hy => ?_, by simp⟩
            · rcases List.mem_cons.1 hy with rfl | hy
              · exact h1
              · exact j1 y hy
            · rcases List.mem_cons.1 hy with rfl | hy
              · exact absurd rfl hr
              · exact j2 y hy hr
            · cases hy
              exact .inr ⟨rfl, by simp, h2⟩
        | some y0 =>
          by_cases e : y0 = x
          · subst e
            rw [scan_same h1]
            obtain ⟨i1, i2⟩ := ih (some y0)
            refine ⟨fun h => ?_, fun r h => ?_⟩
            · rcases i1 h with ⟨y, hy, h⟩ | ⟨y, hy, ha, hb, z, hz, h⟩
              · exact .inl ⟨y, by simp [hy], h⟩
              · refine .inr ⟨y, by simp [hy], ha, hb, z, hz, ?_⟩
                rcases h with h | ⟨h, h'⟩
                · exact .inl h
                · exact .inr ⟨by simp [h], h'⟩
            · obtain ⟨j1, j2, j3, j4, j5⟩ := i2 r h
              have hr := j5 y0 rfl
              subst hr
              refine ⟨fun y hy => ?_, fun y hy hr => ?_, by simp, fun y hy => .inl hy, by simp⟩
              · rcases List.mem_cons.1 hy with rfl | hy
                · exact h1
                · exact j1 y hy
              · rcases List.mem_cons.1 hy with rfl | hy
                · exact absurd rfl hr
                · exact j2 y hy hr
          · rw [scan_two h1 h2 e]
            exact ⟨fun _ => .inr ⟨x, by simp, h1, h2, y0, e, .inl rfl⟩, by simp⟩

/-- Nothing is told by a clause: it is true, or two of it are open. -/
def Fine (ts c : List Int) : Prop := (∃ y ∈ c, y ∈ ts) ∨ ∃ y ∈ c, ∃ z ∈ c, z ≠ y ∧ y ∉ ts ∧ -y ∉ ts ∧ z ∉ ts ∧ -z ∉ ts
theorem fine_of_scan {ts c : List Int} (h : scan ts c none = none) : Fine ts c := by
  rcases (scan_cases ts c none).1 h with ⟨y, hy, h⟩ | ⟨y, hy, ha, hb, z, hz, h⟩
  · exact .inl ⟨y, hy, hasI_iff.1 h⟩
  · rcases h with h | ⟨h1, h2, h3⟩
    · cases h
    · exact .inr ⟨y, hy, z, h1, hz, hasI_false.1 ha, hasI_false.1 hb, hasI_false.1 h2, hasI_false.1 h3⟩
theorem false_of_scan {ts c : List Int} (h : scan ts c none = some none) : ∀ y ∈ c, -y ∈ ts := by
  intro y hy
  exact hasI_iff.1 (((scan_cases ts c none).2 none h).2.1 y hy (by simp))
theorem unit_of_scan {ts c : List Int} {x : Int} (h : scan ts c none = some (some x)) : x ∈ c ∧ x ∉ ts ∧ -x ∉ ts ∧ ∀ y ∈ c, y ≠ x → -y ∈ ts := by
  obtain ⟨j1, j2, _, j4, _⟩ := (scan_cases ts c none).2 _ h
  rcases j4 x rfl with h | ⟨_, hx, hf⟩
  · cases h
  · exact ⟨hx, hasI_false.1 (j1 x hx), hasI_false.1 hf, fun y hy hne => hasI_iff.1 (j2 y hy (fun e => hne (by cases e; rfl)))⟩
/-- One more thing is told. -/
theorem Fine.more {ts c : List Int} {z : Int} (h : Fine ts c) : Fine (ts ++ [z]) c ∨ ∃ y ∈ c, -y = z := by
  by_cases hz : ∃ y ∈ c, -y = z
  · exact .inr hz
  · refine .inl ?_
    rcases h with ⟨y, hy, h⟩ | ⟨y, hy, x, hx, hne, a1, a2, a3, a4⟩
    · exact .inl ⟨y, hy, by simp [h]⟩
    · by_cases e : y = z
      · exact .inl ⟨y, hy, by simp [e]⟩
      · by_cases e' : x = z
        · exact .inl ⟨x, hx, by simp [e']⟩
        · refine .inr ⟨y, hy, x, hx, hne, by simp [a1, e], ?_, by simp [a3, e'], ?_⟩
          · simp only [List.mem_append, List.mem_singleton, not_or]
            exact ⟨a2, fun h => hz ⟨y, hy, h⟩⟩
          · simp only [List.mem_append, List.mem_singleton, not_or]
            exact ⟨a4, fun h => hz ⟨x, hx, h⟩⟩

/-- What holds of what is told so far. -/
structure Told (l : List (List Int)) (c ts : List Int) : Prop where
  sound : ∀ t ∈ ts, Der l c t
  cons : ∀ t ∈ ts, -t ∉ ts
  nodup : ts.Nodup
theorem Told.more {l : List (List Int)} {c ts : List Int} {x : Int} (h : Told l c ts) (hx : Der l c x) (h1 : x ∉ ts) (h2 : -x ∉ ts) (h0 : x ≠ 0) : Told l c (ts ++ [x]) := by
  refine ⟨fun t ht => ?_, fun t ht => ?_, ?_⟩
  · simp only [List.mem_append, List.mem_singleton] at ht
    rcases ht with ht | rfl
    · exact h.sound t ht
    · exact hx
  · simp only [List.mem_append, List.mem_singleton] at ht ⊢
    rintro (hc | hc)
    · rcases ht with ht | rfl
      · exact h.cons t ht hc
      · exact h2 hc
    · rcases ht with ht | rfl
      · have : t = -x := by omega
        subst this
        exact h2 ht
      · omega
  · rw [List.nodup_append]
    refine ⟨h.nodup, by simp, fun a ha b hb => ?_⟩
    simp at hb
    subst hb
    exact fun e => h1 (e ▸ ha)
/-- At the end: all clauses are fine: it can be. -/
theorem Told.fine {l : List (List Int)} {c ts : List Int} (h : Told l c ts) (hc : ∀ x ∈ c, -x ∈ ts) (hf : ∀ d ∈ l, none0 d = false → Fine ts d) : ¬ Confl l c := by
  have key : ∀ x, Der l c x → x ∈ ts := by
    intro x hx
    induction hx with
    | neg hx => exact hc _ hx
    | @unit d x hd hn hx hall ih =>
      rcases hf d hd hn with ⟨y, hy, hyt⟩ | ⟨y, hy, z, hz, hne, a1, a2, a3, a4⟩
      · by_cases e : y = x
        · exact e ▸ hyt
        · exact absurd (ih y hy e) (h.cons y hyt)
      · by_cases e : y = x
        · exact absurd (ih z hz (fun e' => hne (e'.trans e.symm))) a4
        · exact absurd (ih y hy e) a2
  rintro (⟨x, h1, h2⟩ | ⟨d, hd, hn, hall⟩)
  · exact h.cons x (key x h1) (key _ h2)
  · rcases hf d hd hn with ⟨y, hy, hyt⟩ | ⟨y, hy, z, hz, hne, a1, a2, a3, a4⟩
    · exact h.cons y hyt (key _ (hall y hy))
    · exact a2 (key _ (hall y hy))
theorem Told.conf {l : List (List Int)} {c ts : List Int} (h : Told l c ts) {d : List Int} (hd : d ∈ l) (hn : none0 d = false) (hs : scan ts d none = some none) : Confl l c :=
  .inr ⟨d, hd, hn, fun y hy => h.sound _ (false_of_scan hs y hy)⟩
theorem Told.unit {l : List (List Int)} {c ts : List Int} {x : Int} (h : Told l c ts) {d : List Int} (hd : d ∈ l) (hn : none0 d = false) (hs : scan ts d none = some (some x)) : Told l c (ts ++ [x]) := by
  obtain ⟨h1, h2, h3, h4⟩ := unit_of_scan hs
  refine h.more (.unit hd hn h1 (fun y hy hne => h.sound _ (h4 y hy hne))) h2 h3 ?_
  rintro rfl
  simp [none0, hasI] at hn
  exact hn.1 h1

/-- The clauses that count. -/
def good (l : List (List Int)) : List (List Int) := l.filter fun d => !none0 d
theorem mem_good {l : List (List Int)} {d : List Int} : d ∈ good l ↔ d ∈ l ∧ none0 d = false := by simp [good]
/-- All that may ever be told. -/
def uni (l : List (List Int)) (c : List Int) : List Int := c.map (fun x => -x) ++ (good l).flatten
theorem length_le_of_nodup_sub : ∀ (a b : List Int), a.Nodup → (∀ x ∈ a, x ∈ b) → a.length ≤ b.length := by
  intro a
  induction a with
  | nil => intro b _ _; simp
  | cons x a ih =>
    intro b hn hs
    rw [List.nodup_cons] at hn
    have h1 := ih (b.erase x) hn.2 (fun y hy => by
      have hne : y ≠ x := fun e => hn.1 (e ▸ hy)
      rw [List.mem_erase_of_ne hne]
      exact hs y (by simp [hy]))
    have hx : x ∈ b := hs x (by simp)
    rw [List.length_erase_of_mem hx] at h1
    have : 0 < b.length := List.length_pos_of_mem hx
    simp only [List.length_cons]
    omega

/-- What a run keeps true: rest tells which clauses are still to be looked at. -/
structure Inv (l : List (List Int)) (c ts next : List Int) (rest : List Int → Prop) : Prop where
  told : Told l c ts
  sub : ∀ t ∈ ts, t ∈ uni l c
  first : ∀ x ∈ c, -x ∈ ts
  suffix : ∃ past, ts = past ++ next
  owes : ∀ d ∈ good l, Fine ts d ∨ (∃ y ∈ d, -y ∈ next) ∨ rest d
section
variable {l : List (List Int)} {c ts next : List Int} {rest rest' : List Int → Prop}
theorem Inv.length (h : Inv l c ts next rest) : ts.length ≤ (uni l c).length := length_le_of_nodup_sub _ _ h.told.nodup h.sub
theorem Inv.next_length (h : Inv l c ts next rest) : next.length ≤ ts.length := by
  obtain ⟨past, e⟩ := h.suffix
  rw [e]
  simp
theorem Inv.fine (h : Inv l c ts next rest) {d : List Int} (hs : scan ts d none = none) (hr : ∀ d', rest d' → d' = d ∨ rest' d') : Inv l c ts next rest' := by
  refine ⟨h.told, h.sub, h.first, h.suffix, fun d' hd' => ?_⟩
  rcases h.owes d' hd' with h1 | h1 | h1
  · exact .inl h1
  · exact .inr (.inl h1)
  · rcases hr d' h1 with rfl | h2
    · exact .inl (fine_of_scan hs)
    · exact .inr (.inr h2)
theorem Inv.unit (h : Inv l c ts next rest) {d : List Int} {x : Int} (hd : d ∈ good l) (hs : scan ts d none = some (some x)) (hr : ∀ d', rest d' → d' = d ∨ rest' d') : Inv l c (ts ++ [x]) (next ++ [x]) rest' := by
  obtain ⟨h1, h2, h3, h4⟩ := unit_of_scan hs
  obtain ⟨past, e⟩ := h.suffix
  refine ⟨h.told.unit (mem_good.1 hd).1 (mem_good.1 hd).2 hs, fun t ht => ?_, fun y hy => by simp [h.first y hy], ⟨past, by rw [e, List.append_assoc]⟩, fun d' hd' => ?_⟩
  · simp only [List.mem_append, List.mem_singleton] at ht
    rcases ht with ht | rfl
    · exact h.sub t ht
    · simp only [uni, List.mem_append, List.mem_flatten]
      exact .inr ⟨d, hd, h1⟩
  · rcases h.owes d' hd' with h5 | ⟨y, hy, h5⟩ | h5
    · rcases h5.more (z := x) with h6 | ⟨y, hy, h6⟩
      · exact .inl h6
      · exact .inr (.inl ⟨y, hy, by simp [h6]⟩)
    · exact .inr (.inl ⟨y, hy, by simp [h5]⟩)
    · rcases hr d' h5 with rfl | h6
      · exact .inl (.inl ⟨x, h1, by simp⟩)
      · exact .inr (.inr h6)
theorem Inv.conf (h : Inv l c ts next rest) {d : List Int} (hd : d ∈ good l) (hs : scan ts d none = some none) : Confl l c := h.told.conf (mem_good.1 hd).1 (mem_good.1 hd).2 hs
theorem Inv.pop {x : Int} (h : Inv l c ts (x :: next) fun _ => False) (hr : ∀ d ∈ good l, (∃ y ∈ d, -y = x) → rest d) : Inv l c ts next rest := by
  obtain ⟨past, e⟩ := h.suffix
  refine ⟨h.told, h.sub, h.first, ⟨past ++ [x], by rw [e, List.append_assoc]; rfl⟩, fun d hd => ?_⟩
  rcases h.owes d hd with h1 | ⟨y, hy, h1⟩ | h1
  · exact .inl h1
  · rcases List.mem_cons.1 h1 with h2 | h2
    · exact .inr (.inr (hr d hd ⟨y, hy, h2⟩))
    · exact .inr (.inl ⟨y, hy, h2⟩)
  · exact h1.elim
theorem Inv.weaken (h : Inv l c ts next rest) (hr : ∀ d, rest d → rest' d) : Inv l c ts next rest' :=
  ⟨h.told, h.sub, h.first, h.suffix, fun d hd => (h.owes d hd).imp id (Or.imp id (hr d))⟩
theorem Inv.done (h : Inv l c ts [] fun _ => False) : ¬ Confl l c :=
  h.told.fine h.first (fun d hd hn => by
    rcases h.owes d (mem_good.2 ⟨hd, hn⟩) with h1 | ⟨y, _, h1⟩ | h1
    · exact h1
    · simp at h1
    · exact h1.elim)
end

/-- The beginning: what stands in the clause, taken as false, one by one. -/
structure Init (c : List Int) (k : Nat) (ts : List Int) : Prop where
  sound : ∀ t ∈ ts, ∃ x ∈ c, t = -x
  first : ∀ x ∈ c.take k, -x ∈ ts
  cons : ∀ t ∈ ts, -t ∉ ts
  nodup : ts.Nodup
theorem Init.start (c : List Int) : Init c 0 [] := ⟨by simp, by simp, by simp, by simp⟩
section
variable {c ts : List Int} {k : Nat}
theorem Init.there (h : Init c k ts) (hk : k < c.length) (ht : -c[k] ∈ ts) : Init c (k + 1) ts := by
  refine ⟨h.sound, fun x hx => ?_, h.cons, h.nodup⟩
  rw [List.take_succ_eq_append_getElem hk] at hx
  simp only [List.mem_append, List.mem_singleton] at hx
  rcases hx with hx | rfl
  · exact h.first x hx
  · exact ht
theorem Init.more (h : Init c k ts) (hk : k < c.length) (h0 : c[k] ≠ 0) (h1 : -c[k] ∉ ts) (h2 : c[k] ∉ ts) : Init c (k + 1) (ts ++ [-c[k]]) := by
  refine ⟨fun t ht => ?_, fun x hx => ?_, fun t ht => ?_, ?_⟩
  · simp only [List.mem_append, List.mem_singleton] at ht
    rcases ht with ht | rfl
    · exact h.sound t ht
    · exact ⟨c[k], List.getElem_mem hk, rfl⟩
  · rw [List.take_succ_eq_append_getElem hk] at hx
    simp only [List.mem_append, List.mem_singleton] at hx ⊢
    rcases hx with hx | rfl
    · exact .inl (h.first x hx)
    · exact .inr rfl
  · simp only [List.mem_append, List.mem_singleton] at ht ⊢
    rintro (hc | hc)
    · rcases ht with ht | rfl
      · exact h.cons t ht hc
      · rw [Int.neg_neg] at hc; exact h2 hc
    · rcases ht with ht | rfl
      · have : t = c[k] := by omega
        subst this
        exact h2 ht
      · omega
  · rw [List.nodup_append]
    refine ⟨h.nodup, by simp, fun a ha b hb => ?_⟩
    simp at hb
    subst hb
    exact fun e => h1 (e ▸ ha)
theorem Init.conf (l : List (List Int)) (h : Init c k ts) (hk : k < c.length) (ht : c[k] ∈ ts) : Confl l c := by
  obtain ⟨x, hx, e⟩ := h.sound _ ht
  exact .inl ⟨-x, .neg hx, by rw [← e]; exact .neg (List.getElem_mem hk)⟩
theorem Init.inv (l : List (List Int)) (h : Init c k ts) (hk : c.length ≤ k) : Inv l c ts ts (fun d => d ∈ good l) := by
  refine ⟨⟨fun t ht => ?_, h.cons, h.nodup⟩, fun t ht => ?_, fun x hx => h.first x (by rw [List.take_of_length_le hk]; exact hx), ⟨[], rfl⟩, fun d hd => .inr (.inr hd)⟩
  · obtain ⟨x, hx, rfl⟩ := h.sound t ht
    exact .neg hx
  · obtain ⟨x, hx, rfl⟩ := h.sound t ht
    simp only [uni, List.mem_append, List.mem_map]
    exact .inl ⟨x, hx, rfl⟩
end
end Go.Proofs.Ytmfgdemgepkggaa
