/- A drawn region that makes memory: whatever its order, each value is what it should be. -/
import Derived.Test.YtlgbepamnkfpjaaGreatDoorM1
import Derived.Orders
import Derived.Lib.Hide
set_option linter.unusedSimpArgs false
set_option linter.unusedVariables false
set_option linter.unusedVariables false
set_option linter.unusedSimpArgs false
namespace Go.Proofs.YtlgbepamnkfpjaaGreatDoor
open Go.RowKit

theorem unlisted_set : ∀ (l : List Bool) (i : Nat), l[i]? = some false → (l.set i true).countP (fun b => !b) + 1 = l.countP (fun b => !b) := by
  intro l
  induction l with
  | nil => intro i h; simp at h
  | cons b l ih =>
    intro i h
    cases i with
    | zero =>
      simp at h
      subst h
      simp
    | succ i =>
      have := ih i (by simpa using h)
      cases b <;> simp [List.countP_cons] <;> omega

def reaches (ops : Array Oper) (rest : List Nat) (m : Nat) : Nat → Nat → Bool
  | 0, _ => false
  | f + 1, i => match ops[i]? with
    | none => false
    | some o => o.after.any fun e => Region.binds .any e && (e.on == m || rest.contains e.on || reaches ops rest m f e.on)
theorem reaches_listed {ops : Array Oper} {rest : List Nat} {m : Nat} {listed : Array Bool} (hc : ∀ (j : Nat) (o : Oper), listed.getD j false = true → ops[j]? = some o → ∀ e ∈ o.after, Region.binds .any e = true → listed.getD e.on false = true) :
    ∀ (f i : Nat) (o : Oper), ops[i]? = some o → (∀ e ∈ o.after, Region.binds .any e = true → listed.getD e.on false = true) → reaches ops rest m f i = true → listed.getD m false = true ∨ ∃ r ∈ rest, listed.getD r false = true := by
  intro f
  induction f with
  | zero => intro i o _ _ h; simp [reaches] at h
  | succ f ih =>
    intro i o ho hl h
    simp only [reaches, ho] at h
    obtain ⟨e, he, hb⟩ := Array.any_eq_true'.1 h
    simp only [Bool.and_eq_true, Bool.or_eq_true, beq_iff_eq, List.contains_iff_mem] at hb
    obtain ⟨hb, (h1 | h1) | h1⟩ := hb
    · exact .inl (h1 ▸ hl e he hb)
    · exact .inr ⟨e.on, h1, hl e he hb⟩
    · cases ho2 : ops[e.on]? with
      | none =>
        cases f with
        | zero => simp [reaches] at h1
        | succ f => simp [reaches, ho2] at h1
      | some o2 => exact ih e.on o2 ho2 (fun e2 he2 hb2 => hc e.on o2 (hl e he hb) ho2 e2 he2 hb2) h1
def rkOf (ops : Array Oper) (rest : List Nat) (i : Nat) : Nat := if rest.contains i then ops.size + i else i
def makesOK (ops : Array Oper) (mk rest : List Nat) (nt : Nat) : Bool :=
  rest.all (fun i => decide (i < ops.size)) && mk.all (fun i => decide (i < ops.size)) &&
  (List.range ops.size).all (fun i => match ops[i]? with
    | none => true
    | some o => o.after.all (fun e => !Region.binds .any e || (decide (e.on < ops.size) && decide (rkOf ops rest e.on < rkOf ops rest i))) && (rest.contains i || o.guard.isNone) &&
      (match o.dst with
        | none => true
        | some d => decide (d < nt) && (List.range ops.size).all (fun j => j == i || (match ops[j]? with
          | some o' => !(o'.dst == some d)
          | none => true)))) &&
  rest.all (fun i => mk.all fun m => reaches ops rest m ops.size i)
structure MakesOK (ops : Array Oper) (mk rest : List Nat) (nt : Nat) : Prop where
  restLt : ∀ i ∈ rest, i < ops.size
  mkLt : ∀ i ∈ mk, i < ops.size
  back : ∀ (i : Nat) (o : Oper), ops[i]? = some o → ∀ e ∈ o.after, Region.binds .any e = true → e.on < ops.size ∧ rkOf ops rest e.on < rkOf ops rest i
  guard : ∀ (i : Nat) (o : Oper), ops[i]? = some o → i ∉ rest → o.guard = none
  dstLt : ∀ (i : Nat) (o : Oper) (d : Nat), ops[i]? = some o → o.dst = some d → d < nt
  dstNe : ∀ (i j : Nat) (o o' : Oper) (d : Nat), ops[i]? = some o → ops[j]? = some o' → o.dst = some d → o'.dst = some d → i = j
  block : ∀ i ∈ rest, ∀ m ∈ mk, reaches ops rest m ops.size i = true
theorem makesOK_spec {ops : Array Oper} {mk rest : List Nat} {nt : Nat} (h : makesOK ops mk rest nt = true) : MakesOK ops mk rest nt := by
  unfold makesOK at h
  simp only [Bool.and_eq_true, List.all_eq_true, decide_eq_true_eq, List.mem_range] at h
  obtain ⟨⟨⟨h1, h2⟩, h3⟩, h4⟩ := h
  have lt : ∀ {i : Nat} {o : Oper}, ops[i]? = some o → i < ops.size := fun h => (Array.getElem?_eq_some_iff.1 h).1
  refine ⟨h1, h2, fun i o ho e he hb => ?_, fun i o ho hi => ?_, fun i o d ho hd => ?_, fun i j o o' d ho ho' hd hd' => ?_, fun i hi m hm => h4 i hi m hm⟩
  · have := h3 i (lt ho)
    simp only [ho, Bool.and_eq_true] at this
    have := (Array.all_eq_true_iff_forall_mem.1 this.1.1) e he
    simpa [hb] using this
  · have := h3 i (lt ho)
    simp only [ho, Bool.and_eq_true] at this
    have := this.1.2
    simpa [hi] using this
  · have := h3 i (lt ho)
    simp only [ho, hd, Bool.and_eq_true, decide_eq_true_eq] at this
    exact this.2.1
  · have := h3 i (lt ho)
    simp only [ho, hd, Bool.and_eq_true, decide_eq_true_eq, List.all_eq_true, List.mem_range] at this
    have := this.2.2 j (lt ho')
    simp only [ho', hd', Bool.or_eq_true, beq_iff_eq] at this
    rcases this with h | h
    · exact h.symm
    · simp at h
def noDst (ops : Array Oper) (t : Nat) : Bool := (List.range ops.size).all fun j => match ops[j]? with
  | some o => !(o.dst == some t)
  | none => true
theorem noDst_spec {ops : Array Oper} {t : Nat} (h : noDst ops t = true) (j : Nat) (o : Oper) (ho : ops[j]? = some o) : o.dst ≠ some t := by
  unfold noDst at h
  simp only [List.all_eq_true, List.mem_range] at h
  have := h j (Array.getElem?_eq_some_iff.1 ho).1
  simp only [ho] at this
  intro e
  rw [e] at this
  simp at this
structure Makes (ops : Array Oper) (J : World → Prop) (spec : Nat → World → Value → Prop) (rest : List Nat) (a0 : Act) (listed : Array Bool) (a : Act) (w : World) : Prop where
  size : listed.size = ops.size
  inv : J w
  defers : a.defers = a0.defers
  tmps : a.tmps.size = a0.tmps.size
  frame : ∀ t, (∀ i o, listed.getD i false = true → ops[i]? = some o → o.dst ≠ some t) → a.tmps[t]? = a0.tmps[t]?
  held : ∀ i o d, listed.getD i false = true → ops[i]? = some o → o.dst = some d → spec i w (a.tmps.getD d undef)
  rest : ∀ i ∈ rest, listed.getD i true = false
  closed : ∀ (j : Nat) (o : Oper), listed.getD j false = true → ops[j]? = some o → ∀ e ∈ o.after, Region.binds .any e = true → listed.getD e.on false = true
theorem getD_both {l : Array Bool} {i : Nat} (h : l.getD i true = false) : l.getD i false = false := by
  rcases Nat.lt_or_ge i l.size with h' | h'
  · simp [h'] at h ⊢; exact h
  · simp [h']
theorem getD_in {l : Array Bool} {i : Nat} (hi : i < l.size) (b : Bool) : l.getD i b = l[i] := by simp [hi]
theorem unlisted_ready {ops : Array Oper} {mk rest : List Nat} {nt : Nat} (hok : MakesOK ops mk rest nt) {listed : Array Bool} (hs : listed.size = ops.size) : ∀ (r i : Nat), rkOf ops rest i = r → i < ops.size → listed.getD i true = false → ∃ j, j ∈ Region.ready .any ops listed := by
  intro r
  induction r using Nat.strongRecOn with
  | _ r ih =>
    intro i hri hi h
    by_cases hr : i ∈ Region.ready .any ops listed
    · exact ⟨i, hr⟩
    · have ho : ops[i]? = some ops[i] := Array.getElem?_eq_getElem hi
      have hex : ∃ e ∈ ops[i].after, Region.binds .any e = true ∧ ¬ listed.getD e.on false = true := by
        refine Classical.byContradiction fun hn => hr (mem_ready.2 ⟨h, _, ho, fun e he hb => ?_⟩)
        exact Classical.byContradiction fun h2 => hn ⟨e, he, hb, h2⟩
      obtain ⟨e, he, hb, hl⟩ := hex
      obtain ⟨hlt, hrk⟩ := hok.back i _ ho e he hb
      refine ih _ (by omega) e.on rfl hlt ?_
      have h1 : e.on < listed.size := by omega
      rw [getD_in h1] at hl ⊢
      simpa using hl
theorem Makes.step {ops : Array Oper} {J : World → Prop} {R : World → World → Prop} {spec : Nat → World → Value → Prop} {mk rest : List Nat} {nt : Nat} {a0 : Act} (hok : MakesOK ops mk rest nt) (hnt : a0.tmps.size = nt) (hkeep : ∀ i w w' v, spec i w v → R w w' → spec i w' v)
    {listed : Array Bool} {a : Act} {w : World} (h : Makes ops J spec rest a0 listed a w) {i : Nat} {o : Oper} (ho : ops[i]? = some o) (hi : i ∉ rest) {v : Value} {w' : World} (hed : ∀ e ∈ o.after, Region.binds .any e = true → listed.getD e.on false = true) (hv : spec i w' v) (hb : R w w') (hJ : J w') :
    Makes ops J spec rest a0 (listed.setIfInBounds i true) (a.put o.dst v) w' := by
  have hlt : i < ops.size := (Array.getElem?_eq_some_iff.1 ho).1
  have hself : (listed.setIfInBounds i true).getD i false = true := by
    rw [Array.getD_eq_getD_getElem?, Array.getElem?_setIfInBounds_self_of_lt (by rw [h.size]; exact hlt)]
    rfl
  refine ⟨by simpa using h.size, hJ, ?_, ?_, fun t ht => ?_, fun j o' d' hj ho' hd' => ?_, fun j hj => ?_, fun j o' hj ho' e he hb2 => ?_⟩
  · cases o.dst <;> exact h.defers
  · cases o.dst with
    | none => exact h.tmps
    | some d => simpa [Act.put] using h.tmps
  · have hne := ht i o hself ho
    have hold := h.frame t fun j o' hj ho' => ht j o' (getD_set_true hj) ho'
    cases hd : o.dst with
    | none => exact hold
    | some d =>
      rw [hd] at hne
      rw [← hold]
      exact Array.getElem?_setIfInBounds_ne (fun e => hne (by rw [e]))
  · by_cases hji : j = i
    · subst hji
      rw [ho] at ho'
      cases ho'
      rw [hd']
      have : (a.put (some d') v).tmps.getD d' undef = v := by
        show (a.tmps.setIfInBounds d' v).getD d' undef = v
        rw [Array.getD_eq_getD_getElem?, Array.getElem?_setIfInBounds_self_of_lt (by rw [h.tmps, hnt]; exact hok.dstLt _ _ _ ho hd')]
        rfl
      rw [this]
      exact hv
    · rw [getD_set_ne false (Ne.symm hji)] at hj
      have hh := hkeep _ _ _ _ (h.held j o' d' hj ho' hd') hb
      cases hd : o.dst with
      | none => exact hh
      | some d =>
        have hne : d ≠ d' := fun e => hji (hok.dstNe j i o' o d' ho' ho hd' (by rw [hd, e]))
        have : (a.put (some d) v).tmps.getD d' undef = a.tmps.getD d' undef := by
          show (a.tmps.setIfInBounds d v).getD d' undef = _
          rw [Array.getD_eq_getD_getElem?, Array.getD_eq_getD_getElem?, Array.getElem?_setIfInBounds_ne hne]
        rw [this]
        exact hh
  · rw [getD_set_ne true (fun e => hi (by rw [e]; exact hj))]
    exact h.rest j hj
  · by_cases hji : j = i
    · subst hji
      rw [ho] at ho'
      cases ho'
      exact getD_set_true (hed e he hb2)
    · rw [getD_set_ne false (Ne.symm hji)] at hj
      exact getD_set_true (h.closed j o' hj ho' e he hb2)
/-- Whatever the order: each operation that isn't held back makes what it should, and all of those that count are there when what is held back begins. -/
theorem wpAny_makes {P : Program} {ops : Array Oper} {Q : Exit → Act → World → Prop} {J : World → Prop} {R : World → World → Prop} {spec : Nat → World → Value → Prop} {mk rest : List Nat} {nt : Nat} {a0 : Act} (hok : MakesOK ops mk rest nt) (hnt : a0.tmps.size = nt) (hkeep : ∀ i w w' v, spec i w v → R w w' → spec i w' v)
    (hstep : ∀ (i : Nat) (o : Oper), ops[i]? = some o → i ∉ rest → ∀ (a : Act) (w : World), J w → (∀ (t : Nat), noDst ops t = true → a.tmps.getD t undef = a0.tmps.getD t undef) →
      (∀ e ∈ o.after, Region.binds .any e = true → ∀ (o' : Oper) (d : Nat), ops[e.on]? = some o' → o'.dst = some d → spec e.on w (a.tmps.getD d undef)) →
      ∀ K : Act → World → Prop, (∀ v w', spec i w' v → R w w' → J w' → K (a.put o.dst v) w') → Oper.wp P o a w K Q)
    (hend : ∀ (fuel : Nat) (listed : Array Bool) (a : Act) (w : World), listed.toList.countP (fun b => !b) ≤ fuel → Makes ops J spec rest a0 listed a w → (∀ m ∈ mk, listed.getD m false = true) → wpAny P .any ops Q fuel listed a w) :
    ∀ (fuel : Nat) (listed : Array Bool) (a : Act) (w : World), listed.toList.countP (fun b => !b) ≤ fuel → Makes ops J spec rest a0 listed a w → wpAny P .any ops Q fuel listed a w := by
  intro fuel
  induction fuel with
  | zero =>
    intro listed a w hc hm
    refine hend _ _ _ _ hc hm fun m hmk => ?_
    have h1 : m < listed.size := by rw [hm.size]; exact hok.mkLt m hmk
    rw [getD_in h1]
    have h0 : listed.toList.countP (fun b => !b) = 0 := by omega
    have := List.countP_eq_zero.1 h0 listed[m] (by simp)
    simpa using this
  | succ fuel ih =>
    intro listed a w hc hm
    by_cases hall : ∀ m ∈ mk, listed.getD m false = true
    · exact hend _ _ _ _ hc hm hall
    · have hex : ∃ m ∈ mk, ¬ listed.getD m false = true := Classical.byContradiction fun hn => hall fun m hmk => Classical.byContradiction fun h2 => hn ⟨m, hmk, h2⟩
      obtain ⟨m, hmk, hml⟩ := hex
      have hmlt : m < listed.size := by rw [hm.size]; exact hok.mkLt m hmk
      refine ⟨fun hr => ?_, fun i hi => ?_⟩
      · obtain ⟨j, hj⟩ := unlisted_ready hok hm.size _ m rfl (hok.mkLt m hmk) (by rw [getD_in hmlt] at hml ⊢; simpa using hml)
        rw [hr] at hj
        cases hj
      · obtain ⟨hun, o, ho, hed⟩ := mem_ready.1 hi
        have hnr : i ∉ rest := fun hr => by
          rcases reaches_listed hm.closed _ i o ho hed (hok.block i hr m hmk) with h | ⟨r, hrr, h1⟩
          · exact hml h
          · have h2 := getD_both (hm.rest _ hrr)
            rw [h1] at h2
            cases h2
        unfold wpOp
        rw [ho]
        simp only [Region.wanted, hok.guard i o ho hnr, if_true]
        refine .inl (hstep i o ho hnr a w hm.inv (fun t ht => ?_) (fun e he hb o' d ho' hd => hm.held e.on o' d (hed e he hb) ho' hd) _ fun v w' hv hbw hJ => ih _ _ _ ?_ (hm.step hok hnt hkeep ho hnr hed hv hbw hJ))
        · rw [Array.getD_eq_getD_getElem?, Array.getD_eq_getD_getElem?, hm.frame t fun j o' _ ho' => noDst_spec ht j o' ho']
        · have hlt : i < listed.size := by rw [hm.size]; exact (Array.getElem?_eq_some_iff.1 ho).1
          rw [getD_in hlt] at hun
          have := unlisted_set listed.toList i (by simp [hlt, hun])
          rw [Array.toList_setIfInBounds]
          omega
theorem wp_region_makesJ {P : Program} {ops : Array Oper} {Q : Exit → Act → World → Prop} {spec : Nat → World → Value → Prop} (mk rest : List Nat) (J : World → Prop) (R : World → World → Prop) {id : Nat} {a : Act} {w : World} (hm : P.follows .mixedOrders = true) (hk : makesOK ops mk rest a.tmps.size = true) (hkeep : ∀ i w w' v, spec i w v → R w w' → spec i w' v) (h0 : J w.drew)
    (hstep : ∀ (i : Nat) (o : Oper), ops[i]? = some o → i ∉ rest → ∀ (a' : Act) (w' : World), J w' → (∀ (t : Nat), noDst ops t = true → a'.tmps.getD t undef = a.tmps.getD t undef) →
      (∀ e ∈ o.after, Region.binds .any e = true → ∀ (o' : Oper) (d : Nat), ops[e.on]? = some o' → o'.dst = some d → spec e.on w' (a'.tmps.getD d undef)) →
      ∀ K : Act → World → Prop, (∀ v w'', spec i w'' v → R w' w'' → J w'' → K (a'.put o.dst v) w'') → Oper.wp P o a' w' K Q)
    (hend : ∀ (fuel : Nat) (listed : Array Bool) (a' : Act) (w' : World), listed.toList.countP (fun b => !b) ≤ fuel → Makes ops J spec rest a listed a' w' → (∀ m ∈ mk, listed.getD m false = true) → wpAny P .any ops Q fuel listed a' w') : (Code.region id ops true).wp P Q a w := by
  have hok := makesOK_spec hk
  refine wp_region_any hm (wpAny_makes hok rfl hkeep hstep hend _ _ _ _ (by simp [List.countP_replicate]) ⟨by simp, h0, rfl, rfl, fun _ _ => rfl, fun i o d hi ho _ => ?_, fun i hi => ?_, fun j o hj ho => ?_⟩)
  · have hlt : i < ops.size := (Array.getElem?_eq_some_iff.1 ho).1
    rw [getD_in (by simpa using hlt)] at hi
    simp at hi
  · rw [getD_in (by simpa using hok.restLt i hi)]
    simp
  · have hlt : j < ops.size := (Array.getElem?_eq_some_iff.1 ho).1
    rw [getD_in (by simpa using hlt)] at hj
    simp at hj
/-- .. where nothing that was there is written. -/
theorem wp_region_makes {P : Program} {ops : Array Oper} {Q : Exit → Act → World → Prop} {spec : Nat → World → Value → Prop} (mk rest : List Nat) {id : Nat} {a : Act} {w : World} (hm : P.follows .mixedOrders = true) (hk : makesOK ops mk rest a.tmps.size = true) (hkeep : ∀ i w w' v, spec i w v → Below w.heap.size w w' → spec i w' v)
    (hstep : ∀ (i : Nat) (o : Oper), ops[i]? = some o → i ∉ rest → ∀ (a' : Act) (w' : World), Below w.drew.heap.size w.drew w' → (∀ (t : Nat), noDst ops t = true → a'.tmps.getD t undef = a.tmps.getD t undef) →
      (∀ e ∈ o.after, Region.binds .any e = true → ∀ (o' : Oper) (d : Nat), ops[e.on]? = some o' → o'.dst = some d → spec e.on w' (a'.tmps.getD d undef)) →
      ∀ K : Act → World → Prop, (∀ v w'', spec i w'' v → Below w'.heap.size w' w'' → K (a'.put o.dst v) w'') → Oper.wp P o a' w' K Q)
    (hend : ∀ (fuel : Nat) (listed : Array Bool) (a' : Act) (w' : World), listed.toList.countP (fun b => !b) ≤ fuel → Makes ops (fun w' => Below w.drew.heap.size w.drew w') spec rest a listed a' w' → (∀ m ∈ mk, listed.getD m false = true) → wpAny P .any ops Q fuel listed a' w') : (Code.region id ops true).wp P Q a w :=
  wp_region_makesJ mk rest (fun w' => Below w.drew.heap.size w.drew w') (fun w w' => Below w.heap.size w w') hm hk hkeep (Below.refl _ _) (fun i o ho hi a' w' hJ hfr hd K hK => hstep i o ho hi a' w' hJ hfr hd K fun v w'' hv hb => hK v w'' hv hb (hJ.trans (hb.mono hJ.size))) hend
/-- The slots, written out. -/
def setAll (T : Array Value) (g : Nat → Value) : List Nat → Array Value
  | [] => T
  | d :: ds => setAll (T.setIfInBounds d (g d)) g ds
theorem setAll_at (g : Nat → Value) : ∀ (ds : List Nat) (T : Array Value) (t : Nat), (setAll T g ds)[t]? = if t ∈ ds ∧ t < T.size then some (g t) else T[t]?
  | [], T, t => by simp [setAll]
  | d :: ds, T, t => by
    rw [setAll, setAll_at g ds]
    by_cases e : t = d
    · subst e
      by_cases hl : t < T.size
      · by_cases hm : t ∈ ds <;> simp [hl, hm]
      · simp [hl]
    · by_cases hm : t ∈ ds
      · simp [hm, e, Array.getElem?_setIfInBounds_ne (Ne.symm e)]
      · simp [hm, e, Array.getElem?_setIfInBounds_ne (Ne.symm e)]
def makerDsts (ops : Array Oper) (rest : List Nat) : List Nat := (List.range ops.size).filterMap fun i => if rest.contains i then none else (ops[i]?).bind (·.dst)
theorem Makes.act {ops : Array Oper} {J : World → Prop} {spec : Nat → World → Value → Prop} {rest : List Nat} {a0 : Act} {listed : Array Bool} {a : Act} {w : World} (h : Makes ops J spec rest a0 listed a w) {ds : List Nat} (hds : makerDsts ops rest = ds) :
    ∃ g : Nat → Value, a = ⟨setAll a0.tmps g ds, a0.defers⟩ ∧ ∀ i o d, listed.getD i false = true → ops[i]? = some o → o.dst = some d → spec i w (g d) := by
  refine ⟨fun d => a.tmps.getD d undef, ?_, h.held⟩
  obtain ⟨tm, df⟩ := a
  have hd := h.defers
  have hs := h.tmps
  simp only at hd hs
  subst hd
  congr 1
  refine Array.ext_getElem? fun t => ?_
  rw [setAll_at]
  by_cases ht : t ∈ ds
  · by_cases hl : t < a0.tmps.size
    · rw [if_pos ⟨ht, hl⟩, Array.getElem?_eq_getElem (by rw [hs]; exact hl), Array.getD_eq_getD_getElem?, Array.getElem?_eq_getElem (by rw [hs]; exact hl)]
      rfl
    · rw [if_neg (fun h => hl h.2), Array.getElem?_eq_none (by omega), Array.getElem?_eq_none (by omega)]
  · rw [if_neg (fun h => ht h.1)]
    refine h.frame t fun i o hi ho hd => ht ?_
    rw [← hds]
    refine List.mem_filterMap.2 ⟨i, List.mem_range.2 (Array.getElem?_eq_some_iff.1 ho).1, ?_⟩
    have hnr : ¬ i ∈ rest := fun hr => by
      have := getD_both (h.rest i hr)
      rw [hi] at this
      cases this
    simp [hnr, ho, hd]
theorem listed_all (l : Array Bool) : l = ((List.range l.size).map fun i => l.getD i false).toArray := by
  refine Array.ext_getElem? fun i => ?_
  by_cases hi : i < l.size
  · simp [hi]
  · simp [hi]
end Go.Proofs.YtlgbepamnkfpjaaGreatDoor
