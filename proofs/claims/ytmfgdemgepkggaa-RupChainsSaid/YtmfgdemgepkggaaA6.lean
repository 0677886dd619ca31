/- The whole state of a run in memory, and what each step leaves of it. -/
import Derived.Test.YtmfgdemgepkggaaB1
namespace Go.Proofs.Ytmfgdemgepkggaa
open Go.RowKit Go.Maps Go.ChangeMaps

def nums (l : List Nat) : List Value := l.map fun (i : Nat) => Value.int .i64 (i : Int)
/-- The map from numbers to rows of places; nb: a block that none of the rows is. -/
def AtRel (w : World) (B atb n : Nat) (f : Lit → Option Value) (g : Int → List Nat) (nb : Option Nat) : Prop :=
  MapV Try.prog 3 w atb n f ∧ (∀ x, i64 x → OwnQ w B 3 ((f (.int .i64 x)).getD (.slice none 0 0)) (nums (g x))) ∧
    (∀ x y v u, i64 x → i64 y → x ≠ y → f (.int .i64 x) = some v → f (.int .i64 y) = some u → v.ownBlock = none ∨ v.ownBlock ≠ u.ownBlock) ∧
    (∀ x v, i64 x → f (.int .i64 x) = some v → v.ownBlock = none ∨ v.ownBlock ≠ nb) ∧ ∀ x, (g x).length ≤ n

structure Full (w0 w : World) (p atb tb : Nat) (lv nv : Value) (ts next : List Int) (vs : List Value) (gd : List (List Int)) (n : Nat) (f : Lit → Option Value) (g : Int → List Nat) : Prop where
  st : StAt w w0.heap.size p atb tb lv nv ts next
  lq : OwnQ w w0.heap.size 23 lv vs
  len : vs.length = gd.length
  rows : ∀ (i : Nat) (v : Value) (d : List Int), vs[i]? = some v → gd[i]? = some d → Ints w0 v d
  at_ : AtRel w w0.heap.size atb n f g nv.ownBlock
  below : Below w0.heap.size w0 w
  ha : w0.heap.size ≤ atb

section
variable {w0 w : World} {p atb tb n : Nat} {lv nv : Value} {ts next : List Int} {vs : List Value} {gd : List (List Int)} {f : Lit → Option Value} {g : Int → List Nat}

theorem AtRel.block {B : Nat} {nb : Option Nat} (h : AtRel w B atb n f g nb) : ∃ es clock, w.heap[atb]? = some (.map es clock) := by
  obtain ⟨h, _⟩ := h
  exact h.block
/-- The rows' map stays, where its own blocks stay. -/
theorem AtRel.same {w' : World} {B : Nat} {nb nb' : Option Nat} (h : AtRel w B atb n f g nb) (hat : w'.heap[atb]? = w.heap[atb]?) (hs : ∀ k cur, w.heap[k]? = some (.cells cur 3 (0, 0)) → some k ≠ nb → w'.heap[k]? = w.heap[k]?)
    (hnb : nb' = nb ∨ ∃ b, nb' = some b ∧ w.heap.size ≤ b) : AtRel w' B atb n f g nb' := by
  obtain ⟨h1, h2, h3, h4, h5⟩ := h
  refine ⟨?_, fun x hx => ?_, h3, fun x v hx hv => ?_, h5⟩
  · exact h1.same hat
  · refine (h2 x hx).same (fun b hb => ?_)
    obtain ⟨cur', hc'⟩ := (h2 x hx).typed b hb
    refine hs b cur' hc' ?_
    cases hf : f (.int .i64 x) with
    | none => rw [hf] at hb; simp [Value.ownBlock] at hb
    | some v =>
      rw [hf] at hb
      simp at hb
      rcases h4 x v hx hf with h | h
      · rw [h] at hb; cases hb
      · rw [hb] at h; exact h
  · rcases hnb with rfl | ⟨b, rfl, hb⟩
    · exact h4 x v hx hv
    · cases hvb : v.ownBlock with
      | none => exact .inl rfl
      | some b' =>
        refine .inr (fun e => ?_)
        have := h2 x hx
        rw [hv] at this
        have := (this.lt b' hvb).2
        cases e
        omega

/-- 'take' took something. -/
theorem Full.took (h : Full w0 w p atb tb lv nv ts next vs gd n f g) {x : Int} {w' : World} (ht : Took w w0.heap.size p atb tb lv nv ts next x w') :
    ∃ nv', Full w0 w' p atb tb lv nv' (ts ++ [x]) (next ++ [x]) vs gd n f g := by
  obtain ⟨nv', h1, h2, h3, h4, h5, h6, h7⟩ := ht
  obtain ⟨es, clock, ha⟩ := h.at_.block
  obtain ⟨es', clock', htb⟩ := h.st.tr.block
  have hw : w0.heap.size ≤ w.heap.size := h.below.size
  refine ⟨nv', h1, ?_, h.len, h.rows, ?_, ?_, h.ha⟩
  · refine h.lq.same (fun b hb => h7 b (h.lq.lt b hb).2 ?_ ?_ ?_)
    · rintro rfl
      obtain ⟨cur, hc⟩ := h.lq.typed _ hb
      rw [h.st.blk] at hc
      simp at hc
    · rintro rfl
      obtain ⟨cur, hc⟩ := h.lq.typed _ hb
      rw [htb] at hc
      cases hc
    · intro e
      obtain ⟨cur, hc⟩ := h.lq.typed _ hb
      obtain ⟨cur', hc'⟩ := h.st.nx.typed b e.symm
      rw [hc] at hc'
      simp at hc'
  · refine h.at_.same (h7 atb (Array.getElem?_eq_some_iff.1 ha).1 ?_ h.st.ne ?_) (fun k cur hc hk => h7 k (Array.getElem?_eq_some_iff.1 hc).1 ?_ ?_ hk) ?_
    · rintro rfl
      rw [h.st.blk] at ha
      cases ha
    · intro e
      obtain ⟨cur, hc'⟩ := h.st.nx.typed atb e.symm
      rw [ha] at hc'
      cases hc'
    · rintro rfl
      rw [h.st.blk] at hc
      simp at hc
    · rintro rfl
      rw [htb] at hc
      cases hc
    · rcases h2 with h2 | ⟨b, h2, h2'⟩
      · exact .inl h2
      · exact .inr ⟨b, h2, h2'⟩
  · refine h.below.trans ⟨h4, h5, h6, h3, fun k hk => h7 k (by omega) ?_ ?_ ?_⟩
    · have := h.st.hp; omega
    · have := h.st.ht; omega
    · intro e
      have := (h.st.nx.lt k e.symm).1
      omega

theorem Full.atlt (h : Full w0 w p atb tb lv nv ts next vs gd n f g) : atb < w.heap.size := by
  obtain ⟨es, clock, ha⟩ := h.at_.block
  exact (Array.getElem?_eq_some_iff.1 ha).1
theorem Full.pat (h : Full w0 w p atb tb lv nv ts next vs gd n f g) : p ≠ atb := by
  obtain ⟨es, clock, ha⟩ := h.at_.block
  rintro rfl
  rw [h.st.blk] at ha
  cases ha
theorem Full.plv (h : Full w0 w p atb tb lv nv ts next vs gd n f g) : lv.ownBlock ≠ some p := by
  intro e
  obtain ⟨cur, hc⟩ := h.lq.typed p e
  rw [h.st.blk] at hc
  simp at hc
theorem Full.tlv (h : Full w0 w p atb tb lv nv ts next vs gd n f g) : lv.ownBlock ≠ some tb := by
  intro e
  obtain ⟨cur, hc⟩ := h.lq.typed tb e
  obtain ⟨es, clock, hm⟩ := h.st.tr.block
  rw [hc] at hm
  cases hm
theorem Full.alv (h : Full w0 w p atb tb lv nv ts next vs gd n f g) : lv.ownBlock ≠ some atb := by
  intro e
  obtain ⟨cur, hc⟩ := h.lq.typed atb e
  obtain ⟨es, clock, hm⟩ := h.at_.block
  rw [hc] at hm
  cases hm
theorem Full.nlv (h : Full w0 w p atb tb lv nv ts next vs gd n f g) {b : Nat} (hb : nv.ownBlock = some b) : lv.ownBlock ≠ some b := by
  intro e
  obtain ⟨cur, hc⟩ := h.lq.typed b e
  obtain ⟨cur', hc'⟩ := h.st.nx.typed b hb
  rw [hc] at hc'
  simp at hc'
theorem Full.size (h : Full w0 w p atb tb lv nv ts next vs gd n f g) : w0.heap.size ≤ w.heap.size := h.below.size

/-- A clause is laid to the others. -/
theorem Full.push (h : Full w0 w p atb tb lv nv ts next vs gd n f g) {dv : Value} {d : List Int} (hd : Ints w0 dv d) {wa w2 : World} {lv' : Value}
    (hga : w.grownBy wa none) (hq2 : OwnQ w2 w0.heap.size 23 lv' (vs ++ [dv])) (hg2 : wa.grownBy w2 lv.ownBlock) (hat : ∃ b, lv'.ownBlock = some b ∧ (lv.ownBlock = some b ∨ b = wa.heap.size)) :
    Full w0 (w2.setCell ⟨p, 0, none⟩ lv') p atb tb lv' nv ts next (vs ++ [dv]) (gd ++ [d]) n f g := by
  have hs1 := hga.size
  have hs2 := hg2.size
  have key : ∀ k, k < w.heap.size → some k ≠ lv.ownBlock → w2.heap[k]? = w.heap[k]? := fun k hk hne => (hg2.block k (by omega) hne).trans (hga.block k hk (by simp))
  have hset : ∀ k, k ≠ p → (w2.setCell ⟨p, 0, none⟩ lv').heap[k]? = w2.heap[k]? := fun k hk => Below.heap_setCell _ _ _ _ hk
  have key2 : ∀ k, k < w.heap.size → some k ≠ lv.ownBlock → k ≠ p → (w2.setCell ⟨p, 0, none⟩ lv').heap[k]? = w.heap[k]? := fun k hk hne hp => (hset k hp).trans (key k hk hne)
  have hlv' : lv'.ownBlock ≠ some p := by
    intro e
    obtain ⟨b, e1, e2⟩ := hat
    rw [e] at e1
    cases e1
    rcases e2 with e2 | e2
    · exact h.plv e2
    · have := h.st.plt; omega
  have e2 := key p h.st.plt h.plv.symm
  refine ⟨⟨?_, ?_, ?_, h.st.hp, h.st.ht, h.st.ne⟩, ?_, by simp [h.len], fun i v d' hv hd' => ?_, ?_, ?_, h.ha⟩
  · simp [World.setCell, Array.getElem?_modify, e2, h.st.blk]
  · exact h.st.tr.same (key2 tb h.st.tr.lt h.tlv.symm h.st.pne.symm)
  · exact h.st.nx.same (fun b hb => key2 b (h.st.nx.lt b hb).2 (h.nlv hb).symm (fun e => h.st.pnv (e ▸ hb)))
  · exact hq2.same (fun b hb => hset b (fun e => hlv' (e ▸ hb)))
  · rw [List.getElem?_append] at hv hd'
    have hl := h.len
    split at hv
    · rename_i hlt
      rw [if_pos (by omega)] at hd'
      exact h.rows i v d' hv hd'
    · rename_i hge
      rw [if_neg (by omega)] at hd'
      have hi : i - vs.length = 0 := by
        rcases Nat.eq_zero_or_pos (i - vs.length) with h | h
        · exact h
        · rw [List.getElem?_eq_none (by simp; omega)] at hv
          cases hv
      rw [hi] at hv
      rw [← hl, hi] at hd'
      simp at hv hd'
      subst hv hd'
      exact hd
  · refine h.at_.same (key2 atb h.atlt h.alv.symm h.pat.symm) (fun k cur hc _ => key2 k (Array.getElem?_eq_some_iff.1 hc).1 ?_ ?_) (.inl rfl)
    · intro e
      obtain ⟨cur', hc'⟩ := h.lq.typed k e.symm
      rw [hc] at hc'
      simp at hc'
    · rintro rfl
      rw [h.st.blk] at hc
      simp at hc
  · have hsz := h.size
    refine h.below.trans ⟨(hg2.os.trans hga.os), hg2.tape.trans hga.tape, hg2.output.trans hga.output, by simp [World.setCell]; omega, fun k hk => key2 k (by omega) ?_ ?_⟩
    · intro e
      have := (h.lq.lt k e.symm).1
      omega
    · have := h.st.hp; omega

def addIdx (g : Int → List Nat) (x : Int) (i : Nat) : Int → List Nat := fun y => if y = x then g y ++ [i] else g y

/-- A place is laid to a number's row. -/
theorem Full.addIdx (h : Full w0 w p atb tb lv nv ts next vs gd n f g) {x : Int} (hx : i64 x) {i : Nat} {v v' : Value}
    (hv : (f (.int .i64 x)).getD (.slice none 0 0) = v) {wa w2 w3 : World}
    (hga : w.grownBy wa none) (hq2 : OwnQ w2 w0.heap.size 3 v' (nums (g x) ++ [.int .i64 i])) (hg2 : wa.grownBy w2 v.ownBlock) (hat : ∃ b, v'.ownBlock = some b ∧ (v.ownBlock = some b ∨ b = wa.heap.size))
    (hm3 : MapV Try.prog 3 w3 atb (n + 1) (upd f (.int .i64 x) v')) (hg3 : w2.grownBy w3 (some atb)) :
    Full w0 w3 p atb tb lv nv ts next vs gd (n + 1) (upd f (.int .i64 x) v') (Ytmfgdemgepkggaa.addIdx g x i) := by
  obtain ⟨hf, hf2, hf3, hf4, hf5⟩ := h.at_
  have hs1 := hga.size
  have hs2 := hg2.size
  have hs3 := hg3.size
  have hsz := h.size
  have hvq : OwnQ w w0.heap.size 3 v (nums (g x)) := hv ▸ hf2 x hx
  have key : ∀ k, k < w.heap.size → some k ≠ v.ownBlock → k ≠ atb → w3.heap[k]? = w.heap[k]? := fun k hk hne ha =>
    (hg3.block k (by omega) (by simpa using ha)).trans ((hg2.block k (by omega) hne).trans (hga.block k hk (by simp)))
  have typ : ∀ k cur e, w.heap[k]? = some (.cells cur e (0, 0)) → e ≠ 3 → some k ≠ v.ownBlock := by
    intro k cur e hc he e1
    obtain ⟨cur', hc'⟩ := hvq.typed k e1.symm
    rw [hc] at hc'
    simp at hc'
    exact he hc'.2
  obtain ⟨es, clock, ha⟩ := h.at_.block
  obtain ⟨es', clock', ht⟩ := h.st.tr.block
  have hva : v.ownBlock ≠ some atb := by
    intro e
    obtain ⟨cur', hc'⟩ := hvq.typed _ e
    rw [ha] at hc'
    cases hc'
  have hvt : v.ownBlock ≠ some tb := by
    intro e
    obtain ⟨cur', hc'⟩ := hvq.typed _ e
    rw [ht] at hc'
    cases hc'
  have hv'a : v'.ownBlock ≠ some atb := by
    intro e
    obtain ⟨b, e1, e2⟩ := hat
    rw [e] at e1
    cases e1
    rcases e2 with e2 | e2
    · exact hva e2
    · have := h.atlt; omega
  have hvn : ∀ b, nv.ownBlock = some b → some b ≠ v.ownBlock := by
    intro b hb e
    cases hfx : f (.int .i64 x) with
    | none => rw [hfx] at hv; simp at hv; subst hv; simp [Value.ownBlock] at e
    | some u =>
      rw [hfx] at hv
      simp at hv
      subst hv
      rcases hf4 x u hx hfx with h1 | h1
      · rw [h1] at e; cases e
      · exact h1 (e.symm.trans hb.symm)
  refine ⟨⟨?_, ?_, ?_, h.st.hp, h.st.ht, h.st.ne⟩, ?_, h.len, h.rows, ?_, ?_, h.ha⟩
  · rw [key p h.st.plt (typ p _ 47 h.st.blk (by decide)) h.pat]
    exact h.st.blk
  · exact h.st.tr.same (key tb h.st.tr.lt hvt.symm h.st.ne.symm)
  · refine h.st.nx.same (fun b hb => key b (h.st.nx.lt b hb).2 (hvn b hb) ?_)
    rintro rfl
    obtain ⟨cur', hc'⟩ := h.st.nx.typed _ hb
    rw [ha] at hc'
    cases hc'
  · refine h.lq.same (fun b hb => key b (h.lq.lt b hb).2 ?_ (fun e => h.alv (e ▸ hb)))
    obtain ⟨cur', hc'⟩ := h.lq.typed b hb
    exact typ b _ 23 hc' (by decide)
  · refine ⟨hm3, fun y hy => ?_, fun y z u u' hy hz hne hu hu' => ?_, fun y u hy hu => ?_, fun y => ?_⟩
    · unfold upd Ytmfgdemgepkggaa.addIdx
      by_cases e : y = x
      · subst e
        simp only [if_pos, Option.getD_some]
        refine (hq2.same (fun b hb => hg3.block b (hq2.lt b hb).2 (fun e => hv'a (e ▸ hb)))) |> fun h => ?_
        simpa [nums] using h
      · rw [if_neg e, if_neg (by simpa using e)]
        refine (hf2 y hy).same (fun b hb => key b ((hf2 y hy).lt b hb).2 ?_ ?_)
        · cases hfy : f (.int .i64 y) with
          | none => rw [hfy] at hb; simp [Value.ownBlock] at hb
          | some u =>
            rw [hfy] at hb
            simp at hb
            cases hfx : f (.int .i64 x) with
            | none => rw [hfx] at hv; simp at hv; subst hv; simp [Value.ownBlock]
            | some u' =>
              rw [hfx] at hv
              simp at hv
              subst hv
              rcases hf3 y x u u' hy hx e hfy hfx with h1 | h1
              · rw [h1] at hb; cases hb
              · rw [hb] at h1; exact h1
        · rintro rfl
          obtain ⟨cur', hc'⟩ := (hf2 y hy).typed _ hb
          rw [ha] at hc'
          cases hc'
    · have own : ∀ y u, i64 y → y ≠ x → upd f (.int .i64 x) v' (.int .i64 y) = some u → f (.int .i64 y) = some u := by
        intro y u _ e hu
        unfold upd at hu
        rwa [if_neg (by simpa using e)] at hu
      have far : ∀ y u, i64 y → y ≠ x → f (.int .i64 y) = some u → u.ownBlock = none ∨ u.ownBlock ≠ v'.ownBlock := by
        intro y u hy e hu
        cases hub : u.ownBlock with
        | none => exact .inl rfl
        | some b =>
          refine .inr (fun e1 => ?_)
          obtain ⟨b', e2, e3⟩ := hat
          rw [e2] at e1
          cases e1
          rcases e3 with e3 | e3
          · cases hfx : f (.int .i64 x) with
            | none => rw [hfx] at hv; simp at hv; subst hv; simp [Value.ownBlock] at e3
            | some u' =>
              rw [hfx] at hv
              simp at hv
              subst hv
              rcases hf3 y x u u' hy hx e hu hfx with h1 | h1
              · rw [h1] at hub; cases hub
              · exact h1 (hub.trans e3.symm)
          · have := hf2 y hy
            rw [hu] at this
            have := (this.lt b hub).2
            omega
      by_cases e : y = x
      · subst e
        have hz' := own z u' hz (fun e => hne e.symm) hu'
        have : u = v' := by simpa [upd] using hu.symm
        subst this
        rcases far z u' hz (fun e => hne e.symm) hz' with h1 | h1
        · refine .inr (fun e => ?_)
          rw [h1] at e
          obtain ⟨b', e2, _⟩ := hat
          rw [e2] at e
          cases e
        · exact .inr (Ne.symm h1)
      · by_cases e' : z = x
        · subst e'
          have : u' = v' := by simpa [upd] using hu'.symm
          subst this
          exact far y u hy e (own y u hy e hu)
        · exact hf3 y z u u' hy hz hne (own y u hy e hu) (own z u' hz e' hu')
    · by_cases e : y = x
      · subst e
        have : u = v' := by simpa [upd] using hu.symm
        subst this
        refine .inr (fun e => ?_)
        obtain ⟨b', e2, e3⟩ := hat
        rw [e2] at e
        rcases e3 with e3 | e3
        · exact hvn b' e.symm e3.symm
        · have := (h.st.nx.lt b' e.symm).2
          omega
      · refine hf4 y u hy ?_
        unfold upd at hu
        rwa [if_neg (by simpa using e)] at hu
    · unfold Ytmfgdemgepkggaa.addIdx
      have := hf5 y
      split
      · simp; omega
      · omega
  · refine h.below.trans ⟨(hg3.os.trans (hg2.os.trans hga.os)), hg3.tape.trans (hg2.tape.trans hga.tape), hg3.output.trans (hg2.output.trans hga.output), by omega, fun k hk => key k (by omega) ?_ ?_⟩
    · intro e
      have := (hvq.lt k e.symm).1
      omega
    · have := h.ha; omega
end
end Go.Proofs.Ytmfgdemgepkggaa
