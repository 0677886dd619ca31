/- A drawn region that makes memory: whatever its order, each value is what it should be. -/
import Derived.Test.YtbnonccmlildnaaGreatM1
import Derived.Orders
import Derived.Lib.Hide
import Derived.Test.YtbnonccmlildnaaGreatM15
set_option linter.unusedSimpArgs false
set_option linter.unusedVariables false
namespace Go.Proofs.YtbnonccmlildnaaGreat
open Go.RowKit

theorem unlisted_set : ∀ (l : List Bool) (i : Nat), l[i]? = some false → (l.set i true).countP (fun b => !b) + 1 = l.countP (fun b => !b) := by
  intro l
  induction l with
  | nil => intro i h; simp at h
  | cons b l ih =>
    intro i h
    cases i with
    | zero =>
      simp at h
      subst h
      simp
    | succ i =>
      have := ih i (by simpa using h)
      cases b <;> simp [List.countP_cons] <;> omega

def reaches (ops : Array Oper) (rest : List Nat) (m : Nat) : Nat → Nat → Bool
  | 0, _ => false
  | f + 1, i => match ops[i]? with
    | none => false
    | some o => o.after.any fun e => Region.binds .any e && (e.on == m || rest.contains e.on || reaches ops rest m f e.on)
theorem reaches_listed {ops : Array Oper} {rest : List Nat} {m : Nat} {listed : Array Bool} (hc : ∀ (j : Nat) (o : Oper), listed.getD j false = true → ops[j]? = some o → ∀ e ∈ o.after, Region.binds .any e = true → listed.getD e.on false = true) :
    ∀ (f i : Nat) (o : Oper), ops[i]? = some o → (∀ e ∈ o.after, Region.binds .any e = true → listed.getD e.on false = true) → reaches ops rest m f i = true → listed.getD m false = true ∨ ∃ r ∈ rest, listed.getD r false = true := by
  intro f
  induction f with
  | zero => intro i o _ _ h; simp [reaches] at h
  | succ f ih =>
    intro i o ho hl h
    simp only [reaches, ho] at h
    obtain ⟨e, he, hb⟩ := Array.any_eq_true'.1 h
    simp only [Bool.and_eq_true, Bool.or_eq_true, beq_iff_eq, List.contains_iff_mem] at hb
    obtain ⟨hb, (h1 | h1) | h1⟩ := hb
    · exact .inl (h1 ▸ hl e he hb)
    · exact .inr ⟨e.on, h1, hl e he hb⟩
    · cases ho2 : ops[e.on]? with
      | none =>
        cases f with
        | zero => simp [reaches] at h1
        | succ f => simp [reaches, ho2] at h1
      | some o2 => exact ih e.on o2 ho2 (fun e2 he2 hb2 => hc e.on o2 (hl e he hb) ho2 e2 he2 hb2) h1
def rkOf (ops : Array Oper) (rest : List Nat) (i : Nat) : Nat := if rest.contains i then ops.size + i else i
def makesOK (ops : Array Oper) (mk rest : List Nat) (nt : Nat) : Bool :=
  rest.all (fun i => decide (i < ops.size)) && mk.all (fun i => decide (i < ops.size)) &&
  (List.range ops.size).all (fun i => match ops[i]? with
    | none => true
    | some o => o.after.all (fun e => !Region.binds .any e || (decide (e.on < ops.size) && decide (rkOf ops rest e.on < rkOf ops rest i))) && (rest.contains i || o.guard.isNone) &&
      (match o.dst with
        | none => true
        | some d => decide (d < nt) && (List.range ops.size).all (fun j => j == i || (match ops[j]? with
          | some o' => !(o'.dst == some d)
          | none => true)))) &&
  rest.all (fun i => mk.all fun m => reaches ops rest m ops.size i)
structure MakesOK (ops : Array Oper) (mk rest : List Nat) (nt : Nat) : Prop where
  restLt : ∀ i ∈ rest, i < ops.size
  mkLt : ∀ i ∈ mk, i < ops.size
  back : ∀ (i : Nat) (o : Oper), ops[i]? = some o → ∀ e ∈ o.after, Region.binds .any e = true → e.on < ops.size ∧ rkOf ops rest e.on < rkOf ops rest i
  guard : ∀ (i : Nat) (o : Oper), ops[i]? = some o → i ∉ rest → o.guard = none
  dstLt : ∀ (i : Nat) (o : Oper) (d : Nat), ops[i]? = some o → o.dst = some d → d < nt
  dstNe : ∀ (i j : Nat) (o o' : Oper) (d : Nat), ops[i]? = some o → ops[j]? = some o' → o.dst = some d → o'.dst = some d → i = j
  block : ∀ i ∈ rest, ∀ m ∈ mk, reaches ops rest m ops.size i = true
theorem makesOK_spec {ops : Array Oper} {mk rest : List Nat} {nt : Nat} (h : makesOK ops mk rest nt = true) : MakesOK ops mk rest nt := by
  unfold makesOK at h
  simp only [Bool.and_eq_true, List.all_eq_true, decide_eq_true_eq, List.mem_range] at h
  obtain ⟨⟨⟨h1, h2⟩, h3⟩, h4⟩ := h
  have lt : ∀ {i : Nat} {o : Oper}, ops[i]? = some o → i < ops.size := fun h => (Array.getElem?_eq_some_iff.1 h).1
  refine ⟨h1, h2, fun i o ho e he hb => ?_, fun i o ho hi => ?_, fun i o d ho hd => ?_, fun i j o o' d ho ho' hd hd' => ?_, fun i hi m hm => h4 i hi m hm⟩
  · have := h3 i (lt ho)
    simp only [ho, Bool.and_eq_true] at this
    have := (Array.all_eq_true_iff_forall_mem.1 this.1.1) e he
    simpa [hb] using this
  · have := h3 i (lt ho)
    simp only [ho, Bool.and_eq_true] at this
    have := this.1.2
    simpa [hi] using this
  · have := h3 i (lt ho)
    simp only [ho, hd, Bool.and_eq_true, decide_eq_true_eq] at this
    exact this.2.1
  · have := h3 i (lt ho)
    simp only [ho, hd, Bool.and_eq_true, decide_eq_true_eq, List.all_eq_true, List.mem_range] at this
    have := this.2.2 j (lt ho')
    simp only [ho', hd', Bool.or_eq_true, beq_iff_eq] at this
    rcases this with h | h
    · exact h.symm
    · simp at h
def noDst (ops : Array Oper) (t : Nat) : Bool := (List.range ops.size).all fun j => match ops[j]? with
  | some o => !(o.dst == some t)
  | none => true
theorem noDst_spec {ops : Array Oper} {t : Nat} (h : noDst ops t = true) (j : Nat) (o : Oper) (ho : ops[j]? = some o) : o.dst ≠ some t := by
  unfold noDst at h
  simp only [List.all_eq_true, List.mem_range] at h
  have := h j (Array.getElem?_eq_some_iff.1 ho).1
  simp only [ho] at this
  intro e
  rw [e] at this
  simp at this
structure Makes (ops : Array Oper) (J : World → Prop) (spec : Nat → World → Value → Prop) (rest : List Nat) (a0 : Act) (listed : Array Bool) (a : Act) (w : World) : Prop where
  size : listed.size = ops.size
  inv : J w
  defers : a.defers = a0.defers
  tmps : a.tmps.size = a0.tmps.size
  frame : ∀ t, (∀ i o, listed.getD i false = true → ops[i]? = some o → o.dst ≠ some t) → a.tmps[t]? = a0.tmps[t]?
  held : ∀ i o d, listed.getD i false = true → ops[i]? = some o → o.dst = some d → spec i w (a.tmps.getD d undef)
  rest : ∀ i ∈ rest, listed.getD i true = false
  closed : ∀ (j : Nat) (o : Oper), listed.getD j false = true → ops[j]? = some o → ∀ e ∈ o.after, Region.binds .any e = true → listed.getD e.on false = true
theorem getD_both {l : Array Bool} {i : Nat} (h : l.getD i true = false) : l.getD i false = false := by
  rcases Nat.lt_or_ge i l.size with h' | h'
  · simp [h'] at h ⊢; exact h
  · simp [h']
theorem getD_in {l : Array Bool} {i : Nat} (hi : i < l.size) (b : Bool) : l.getD i b = l[i] := by simp [hi]
theorem unlisted_ready {ops : Array Oper} {mk rest : List Nat} {nt : Nat} (hok : MakesOK ops mk rest nt) {listed : Array Bool} (hs : listed.size = ops.size) : ∀ (r i : Nat), rkOf ops rest i = r → i < ops.size → listed.getD i true = false → ∃ j, j ∈ Region.ready .any ops listed := by
  intro r
  induction r using Nat.strongRecOn with
  | _ r ih =>
    intro i hri hi h
    by_cases hr : i ∈ Region.ready .any ops listed
    · exact ⟨i, hr⟩
    · have ho : ops[i]? = some ops[i] := Array.getElem?_eq_getElem hi
      have hex : ∃ e ∈ ops[i].after, Region.binds .any e = true ∧ ¬ listed.getD e.on false = true := by
        refine Classical.byContradiction fun hn => hr (mem_ready.2 ⟨h, _, ho, fun e he hb => ?_⟩)
        exact Classical.byContradiction fun h2 => hn ⟨e, he, hb, h2⟩
      obtain ⟨e, he, hb, hl⟩ := hex
      obtain ⟨hlt, hrk⟩ := hok.back i _ ho e he hb
      refine ih _ (by omega) e.on rfl hlt ?_
      have h1 : e.on < listed.size := by omega
      rw [getD_in h1] at hl ⊢
      simpa using hl
theorem Makes.step {ops : Array Oper} {J : World → Prop} {R : World → World → Prop} {spec : Nat → World → Value → Prop} {mk rest : List Nat} {nt : Nat} {a0 : Act} (hok : MakesOK ops mk rest nt) (hnt : a0.tmps.size = nt) (hkeep : ∀ i w w' v, spec i w v → R w w' → spec i w' v)
    {listed : Array Bool} {a : Act} {w : World} (h : Makes ops J spec rest a0 listed a w) {i : Nat} {o : Oper} (ho : ops[i]? = some o) (hi : i ∉ rest) {v : Value} {w' : World} (hed : ∀ e ∈ o.after, Region.binds .any e = true → listed.getD e.on false = true) (hv : spec i w' v) (hb : R w w') (hJ : J w') :
    Makes ops J spec rest a0 (listed.setIfInBounds i true) (a.put o.dst v) w' := by
  have hlt : i < ops.size := (Array.getElem?_eq_some_iff.1 ho).1
  have hself : (listed.setIfInBounds i true).getD i false = true := by
    rw [Array.getD_eq_getD_getElem?, Array.getElem?_setIfInBounds_self_of_lt (by rw [h.size]; exact hlt)]
    rfl
  refine ⟨by simpa using h.size, hJ, ?_, ?_, fun t ht => ?_, fun j o' d' hj ho' hd' => ?_, fun j hj => ?_, fun j o' hj ho' e he hb2 => ?_⟩
  · cases o.dst <;> exact h.defers
  · cases o.dst with
    | none => exact h.tmps
    | some d => simpa [Act.put] using h.tmps
  · have hne := ht i o hself ho
    have hold := h.frame t fun j o' hj ho' => ht j o' (getD_set_true hj) ho'
    cases hd : o.dst with
    | none => exact hold
    | some d =>
      rw [hd] at hne
      rw [← hold]
      exact Array.getElem?_setIfInBounds_ne (fun e => hne (by rw [e]))
  · by_cases hji : j = i
    · subst hji
      rw [ho] at ho'
      cases ho'
      rw [hd']
      have : (a.put (some d') v).tmps.getD d' undef = v := by
        show (a.tmps.setIfInBounds d' v).getD d' undef = v
        rw [Array.getD_eq_getD_getElem?, Array.getElem?_setIfInBounds_self_of_lt (by rw [h.tmps, hnt]; exact hok.dstLt _ _ _ ho hd')]
        rfl
      rw [this]
      exact hv
    · rw [getD_set_ne false (Ne.symm hji)] at hj
      have hh := hkeep _ _ _ _ (h.held j o' d' hj ho' hd') hb
      cases hd : o.dst with
      | none => exact hh
      | some d =>
        have hne : d ≠ d' := fun e => hji (hok.dstNe j i o' o d' ho' ho hd' (by rw [hd, e]))
        have : (a.put (some d) v).tmps.getD d' undef = a.tmps.getD d' undef := by
          show (a.tmps.setIfInBounds d v).getD d' undef = _
          rw [Array.getD_eq_getD_getElem?, Array.getD_eq_getD_getElem?, Array.getElem?_setIfInBounds_ne hne]
        rw [this]
        exact hh
  · rw [getD_set_ne true (fun e => hi (by rw [e]; exact hj))]
    exact h.rest j hj
  · by_cases hji : j = i
    · subst hji
      rw [ho] at ho'
      cases ho'
      exact getD_set_true (hed e he hb2)
    · rw [getD_set_ne false (Ne.symm hji)] at hj
      exact getD_set_true (h.closed j o' hj ho' e he hb2)
/-- Whatever the order: each operation that isn't held back makes what it should, and all of those that count are there when what is held back begins. -/
theorem wpAny_makes {P : Program} {ops : Array Oper} {Q : Exit → Act → World → Prop} {J : World → Prop} {R : World → World → Prop} {spec : Nat → World → Value → Prop} {mk rest : List Nat} {nt : Nat} {a0 : Act} (hok : MakesOK ops mk rest nt) (hnt : a0.tmps.size = nt) (hkeep : ∀ i w w' v, spec i w v → R w w' → spec i w' v)
    (hstep : ∀ (i : Nat) (o : Oper), ops[i]? = some o → i ∉ rest → ∀ (a : Act) (w : World), J w → (∀ (t : Nat), noDst ops t = true → a.tmps.getD t undef = a0.tmps.getD t undef) →
      (∀ e ∈ o.after, Region.binds .any e = true → ∀ (o' : Oper) (d : Nat), ops[e.on]? = some o' → o'.dst = some d → spec e.on w (a.tmps.getD d undef)) →
      ∀ K : Act → World → Prop, (∀ v w', spec i w' v → R w w' → J w' → K (a.put o.dst v) w') → Oper.wp P o a w K Q)
    (hend : ∀ (fuel : Nat) (listed : Array Bool) (a : Act) (w : World), listed.toList.countP (fun b => !b) ≤ fuel → Makes ops J spec rest a0 listed a w → (∀ m ∈ mk, listed.getD m false = true) → wpAny P .any ops Q fuel listed a w) :
    ∀ (fuel : Nat) (listed : Array Bool) (a : Act) (w : World), listed.toList.countP (fun b => !b) ≤ fuel → Makes ops J spec rest a0 listed a w → wpAny P .any ops Q fuel listed a w := by
  intro fuel
  induction fuel with
  | zero =>
    intro listed a w hc hm
    refine hend _ _ _ _ hc hm fun m hmk => ?_
    have h1 : m < listed.size := by rw [hm.size]; exact hok.mkLt m hmk
    rw [getD_in h1]
    have h0 : listed.toList.countP (fun b => !b) = 0 := by omega
    have := List.countP_eq_zero.1 h0 listed[m] (by simp)
    simpa using this
  | succ fuel ih =>
    intro listed a w hc hm
    by_cases hall : ∀ m ∈ mk, listed.getD m false = true
    · exact hend _ _ _ _ hc hm hall
    · have hex : ∃ m ∈ mk, ¬ listed.getD m false = true := Classical.byContradiction fun hn => hall fun m hmk => Classical.byContradiction fun h2 => hn ⟨m, hmk, h2⟩
      obtain ⟨m, hmk, hml⟩ := hex
      have hmlt : m < listed.size := by rw [hm.size]; exact hok.mkLt m hmk
      refine ⟨fun hr => ?_, fun i hi => ?_⟩
      · obtain ⟨j, hj⟩ := unlisted_ready hok hm.size _ m rfl (hok.mkLt m hmk) (by rw [getD_in hmlt] at hml ⊢; simpa using hml)
        rw [hr] at hj
        cases hj
      · obtain ⟨hun, o, ho, hed⟩ := mem_ready.1 hi
        have hnr : i ∉ rest := fun hr => by
          rcases reaches_listed hm.closed _ i o ho hed (hok.block i hr m hmk) with h | ⟨r, hrr, h1⟩
          · exact hml h
          · have h2 := getD_both (hm.rest _ hrr)
            rw [h1] at h2
            cases h2
        unfold wpOp
        rw [ho]
        simp only [Region.wanted, hok.guard i o ho hnr, if_true]
        refine .inl (hstep i o ho hnr a w hm.inv (fun t ht => ?_) (fun e he hb o' d ho' hd => hm.held e.on o' d (hed e he hb) ho' hd) _ fun v w' hv hbw hJ => ih _ _ _ ?_ (hm.step hok hnt hkeep ho hnr hed hv hbw hJ))
        · rw [Array.getD_eq_getD_getElem?, Array.getD_eq_getD_getElem?, hm.frame t fun j o' _ ho' => noDst_spec ht j o' ho']
        · have hlt : i < listed.size := by rw [hm.size]; exact (Array.getElem?_eq_some_iff.1 ho).1
          rw [getD_in hlt] at hun
          have := unlisted_set listed.toList i (by simp [hlt, hun])
          rw [Array.toList_setIfInBounds]
          omega
theorem wp_region_makesJ {P : Program} {ops : Array Oper} {Q : Exit → Act → World → Prop} {spec : Nat → World → Value → Prop} (mk rest : List Nat) (J : World → Prop) (R : World → World → Prop) {id : Nat} {a : Act} {w : World} (hm : P.follows .mixedOrders = true) (hk : makesOK ops mk rest a.tmps.size = true) (hkeep : ∀ i w w' v, spec i w v → R w w' → spec i w' v) (h0 : J w.drew)
    (hstep : ∀ (i : Nat) (o : Oper), ops[i]? = some o → i ∉ rest → ∀ (a' : Act) (w' : World), J w' → (∀ (t : Nat), noDst ops t = true → a'.tmps.getD t undef = a.tmps.getD t undef) →
      (∀ e ∈ o.after, Region.binds .any e = true → ∀ (o' : Oper) (d : Nat), ops[e.on]? = some o' → o'.dst = some d → spec e.on w' (a'.tmps.getD d undef)) →
      ∀ K : Act → World → Prop, (∀ v w'', spec i w'' v → R w' w'' → J w'' → K (a'.put o.dst v) w'') → Oper.wp P o a' w' K Q)
    (hend : ∀ (fuel : Nat) (listed : Array Bool) (a' : Act) (w' : World), listed.toList.countP (fun b => !b) ≤ fuel → Makes ops J spec rest a listed a' w' → (∀ m ∈ mk, listed.getD m false = true) → wpAny P .any ops Q fuel listed a' w') : (Code.region id ops true).wp P Q a w := by
  have hok := makesOK_spec hk
  refine wp_region_any hm (wpAny_makes hok rfl hkeep hstep hend _ _ _ _ (by simp [List.countP_replicate]) ⟨by simp, h0, rfl, rfl, fun _ _ => rfl, fun i o d hi ho _ => ?_, fun i hi => ?_, fun j o hj ho => ?_⟩)
  · have hlt : i < ops.size := (Array.getElem?_eq_some_iff.1 ho).1
    rw [getD_in (by simpa using hlt)] at hi
    simp at hi
  · rw [getD_in (by simpa using hok.restLt i hi)]
    simp
  · have hlt : j < ops.size := (Array.getElem?_eq_some_iff.1 ho).1
    rw [getD_in (by simpa using hlt)] at hj
    simp at hj
/-- .. where nothing that was there is written. -/
theorem wp_region_makes {P : Program} {ops : Array Oper} {Q : Exit → Act → World → Prop} {spec : Nat → World → Value → Prop} (mk rest : List Nat) {id : Nat} {a : Act} {w : World} (hm : P.follows .mixedOrders = true) (hk : makesOK ops mk rest a.tmps.size = true) (hkeep : ∀ i w w' v, spec i w v → Below w.heap.size w w' → spec i w' v)
    (hstep : ∀ (i : Nat) (o : Oper), ops[i]? = some o → i ∉ rest → ∀ (a' : Act) (w' : World), Below w.drew.heap.size w.drew w' → (∀ (t : Nat), noDst ops t = true → a'.tmps.getD t undef = a.tmps.getD t undef) →
      (∀ e ∈ o.after, Region.binds .any e = true → ∀ (o' : Oper) (d : Nat), ops[e.on]? = some o' → o'.dst = some d → spec e.on w' (a'.tmps.getD d undef)) →
      ∀ K : Act → World → Prop, (∀ v w'', spec i w'' v → Below w'.heap.size w' w'' → K (a'.put o.dst v) w'') → Oper.wp P o a' w' K Q)
    (hend : ∀ (fuel : Nat) (listed : Array Bool) (a' : Act) (w' : World), listed.toList.countP (fun b => !b) ≤ fuel → Makes ops (fun w' => Below w.drew.heap.size w.drew w') spec rest a listed a' w' → (∀ m ∈ mk, listed.getD m false = true) → wpAny P .any ops Q fuel listed a' w') : (Code.region id ops true).wp P Q a w :=
  wp_region_makesJ mk rest (fun w' => Below w.drew.heap.size w.drew w') (fun w w' => Below w.heap.size w w') hm hk hkeep (Below.refl _ _) (fun i o ho hi a' w' hJ hfr hd K hK => hstep i o ho hi a' w' hJ hfr hd K fun v w'' hv hb => hK v w'' hv hb (hJ.trans (hb.mono hJ.size))) hend
/-- The slots, written out. -/
def setAll (T : Array Value) (g : Nat → Value) : List Nat → Array Value
  | [] => T
  | d :: ds => setAll (T.setIfInBounds d (g d)) g ds
theorem setAll_at (g : Nat → Value) : ∀ (ds : List Nat) (T : Array Value) (t : Nat), (setAll T g ds)[t]? = if t ∈ ds ∧ t < T.size then some (g t) else T[t]?
  | [], T, t => by simp [setAll]
  | d :: ds, T, t => by
    rw [setAll, setAll_at g ds]
    by_cases e : t = d
    · subst e
      by_cases hl : t < T.size
      · by_cases hm : t ∈ ds <;> simp [hl, hm]
      · simp [hl]
    · by_cases hm : t ∈ ds
      · simp [hm, e, Array.getElem?_setIfInBounds_ne (Ne.symm e)]
      · simp [hm, e, Array.getElem?_setIfInBounds_ne (Ne.symm e)]
def makerDsts (ops : Array Oper) (rest : List Nat) : List Nat := (List.range ops.size).filterMap fun i => if rest.contains i then none else (ops[i]?).bind (·.dst)
theorem Makes.act {ops : Array Oper} {J : World → Prop} {spec : Nat → World → Value → Prop} {rest : List Nat} {a0 : Act} {listed : Array Bool} {a : Act} {w : World} (h : Makes ops J spec rest a0 listed a w) {ds : List Nat} (hds : makerDsts ops rest = ds) :
    ∃ g : Nat → Value, a = ⟨setAll a0.tmps g ds, a0.defers⟩ ∧ ∀ i o d, listed.getD i false = true → ops[i]? = some o → o.dst = some d → spec i w (g d) := by
  refine ⟨fun d => a.tmps.getD d undef, ?_, h.held⟩
  obtain ⟨tm, df⟩ := a
  have hd := h.defers
  have hs := h.tmps
  simp only at hd hs
  subst hd
  congr 1
  refine Array.ext_getElem? fun t => ?_
  rw [setAll_at]
  by_cases ht : t ∈ ds
  · by_cases hl : t < a0.tmps.size
    · rw [if_pos ⟨ht, hl⟩, Array.getElem?_eq_getElem (by rw [hs]; exact hl), Array.getD_eq_getD_getElem?, Array.getElem?_eq_getElem (by rw [hs]; exact hl)]
      rfl
    · rw [if_neg (fun h => hl h.2), Array.getElem?_eq_none (by omega), Array.getElem?_eq_none (by omega)]
  · rw [if_neg (fun h => ht h.1)]
    refine h.frame t fun i o hi ho hd => ht ?_
    rw [← hds]
    refine List.mem_filterMap.2 ⟨i, List.mem_range.2 (Array.getElem?_eq_some_iff.1 ho).1, ?_⟩
    have hnr : ¬ i ∈ rest := fun hr => by
      have := getD_both (h.rest i hr)
      rw [hi] at this
      cases this
    simp [hnr, ho, hd]
theorem listed_all (l : Array Bool) : l = ((List.range l.size).map fun i => l.getD i false).toArray := by
  refine Array.ext_getElem? fun i => ?_
  by_cases hi : i < l.size
  · simp [hi]
  · simp [hi]
end Go.Proofs.YtbnonccmlildnaaGreat

/- Add. -/
namespace Go.Proofs.YtbnonccmlildnaaGreat
open Go.RowKit Go.Lib

theorem plusC_sum {ds es : List Nat} (hd : okD 4294967296 ds) (he : okD 4294967296 es) : dval 4294967296 (plusC 4294967296 ds es 0 (max ds.length es.length + 1)) = dval 4294967296 ds + dval 4294967296 es := by
  rw [plusC_val (by omega) _ _ _ _ (by omega) (by omega), Nat.add_zero]
  have h1 := dval_lt (B := 4294967296) (by omega) hd
  have h2 := dval_lt (B := 4294967296) (by omega) he
  have h3 : (4294967296 : Nat) ^ ds.length ≤ 4294967296 ^ max ds.length es.length := Nat.pow_le_pow_right (by omega) (by omega)
  have h4 : (4294967296 : Nat) ^ es.length ≤ 4294967296 ^ max ds.length es.length := Nat.pow_le_pow_right (by omega) (by omega)
  rw [Nat.pow_succ]
  omega
/-- The values of a sum's region. -/
def addSpec (p q : Nat) (v1 v2 : Value) (b : Bool) (L : List Nat) (z : Int) : Nat → World → Value → Prop
  | 0, _, v => v = .pointer (some ⟨p, 0, none⟩)
  | 1, _, v => v = v1
  | 2, _, v => v = .pointer (some ⟨q, 0, none⟩)
  | 3, _, v => v = v2
  | 4, w, v => ∃ A c, v = .slice A L.length c ∧ L.length ≤ c ∧ DigAt w A L
  | 5, _, v => v = .pointer (some ⟨p, 1, none⟩)
  | 6, _, v => v = .bool b
  | 7, w, v => NumAt w v z
  | _, _, _ => True
theorem addSpec_keep (p q : Nat) (v1 v2 : Value) (b : Bool) (L : List Nat) (z : Int) (i : Nat) (w w' : World) (v : Value) (h : addSpec p q v1 v2 b L z i w v) (hb : Below w.heap.size w w') : addSpec p q v1 v2 b L z i w' v :=
  match i, h with
  | 0, h => h
  | 1, h => h
  | 2, h => h
  | 3, h => h
  | 4, ⟨A, c, e, hc, hd⟩ => ⟨A, c, e, hc, hd.mono (Nat.le_refl _) hb⟩
  | 5, h => h
  | 6, h => h
  | 7, h => NumAt.mono h (Nat.le_refl _) hb
  | n + 8, _ => trivial
theorem three_rows (w : World) (o1 o2 o3 : Obj) : (((w.alloc o1).alloc o2).alloc o3).heap[w.heap.size]? = some o1 ∧ (((w.alloc o1).alloc o2).alloc o3).heap[w.heap.size + 1]? = some o2 ∧ (((w.alloc o1).alloc o2).alloc o3).heap[w.heap.size + 1 + 1]? = some o3 ∧ (((w.alloc o1).alloc o2).alloc o3).heap.size = w.heap.size + 3 := by
  have s1 : (w.alloc o1).heap.size = w.heap.size + 1 := by simp
  have s2 : ((w.alloc o1).alloc o2).heap.size = w.heap.size + 1 + 1 := by simp
  have h1 := heap_alloc_new w o1
  have h2 := heap_alloc_new (w.alloc o1) o2
  have h3 := heap_alloc_new ((w.alloc o1).alloc o2) o3
  rw [s1] at h2
  rw [s2] at h3
  refine ⟨?_, ?_, h3, by simp⟩
  · exact (heap_alloc_old ((w.alloc o1).alloc o2) o3 (show w.heap.size < ((w.alloc o1).alloc o2).heap.size by omega)).trans ((heap_alloc_old (w.alloc o1) o2 (show w.heap.size < (w.alloc o1).heap.size by omega)).trans h1)
  · exact (heap_alloc_old ((w.alloc o1).alloc o2) o3 (show w.heap.size + 1 < ((w.alloc o1).alloc o2).heap.size by omega)).trans h2
theorem num_cells {w : World} {g : Nat} {x y : Value} (h : w.heap[g]? = some (.cells #[x, y] 89 (0, 0))) : w.cell? ⟨g, 0, none⟩ = some x ∧ w.cell? ⟨g, 1, none⟩ = some y :=
  ⟨by rw [cell_of_row w g 0 _ 89 (0, 0) h]; rfl, by rw [cell_of_row w g 1 _ 89 (0, 0) h]; rfl⟩

set_option maxRecDepth 100000 in
set_option maxHeartbeats 2000000 in
theorem add_same {w : World} {A B : Option Addr} {n m c c' : Nat} {b : Bool} {L : List Nat} {z : Int}
    (hrow : ∀ w', Below w.heap.size w w' → Calls Tryz.prog 100 #[.slice A n c, .slice B m c'] w' fun e w'' => ∃ v, e = .returned v ∧ DigL w'' w'.heap.size L v ∧ Below w'.heap.size w' w'')
    (hmade : ∀ w' A5 c5, DigAt w' A5 L → L.length ≤ c5 → Calls Tryz.prog 66 #[.slice A5 L.length c5, .bool b] w' fun e w'' => ∃ v, e = .returned v ∧ NumAt w'' v z ∧ Below w'.heap.size w' w'') :
    Calls Tryz.prog 67 #[.agg #[.slice A n c, .bool b], .agg #[.slice B m c', .bool b]] w fun e w' => ∃ v, e = .returned v ∧ NumAt w' v z ∧ Below w.heap.size w w' := by
  have Hrow := Lib.hid hrow
  have Hmade := Lib.hid hmade
  clear hrow hmade
  have hw0 : Below w.heap.size w (((w.alloc (.cells #[.slice A n c, .bool b] 89)).alloc (.cells #[.slice B m c', .bool b] 89)).alloc (.cells #[.slice none 0 0, .bool false] 89)) := (((Below.refl _ _).alloc (Nat.le_refl _) _).alloc (by simp) _).alloc (by simp; omega) _
  obtain ⟨hr0, hr1, hr2, hsz⟩ := three_rows w (.cells #[.slice A n c, .bool b] 89 (0, 0)) (.cells #[.slice B m c', .bool b] 89 (0, 0)) (.cells #[.slice none 0 0, .bool false] 89 (0, 0))
  have Hw0 := Lib.hid hw0
  have Hr0 := Lib.hid hr0
  have Hr1 := Lib.hid hr1
  have Hr2 := Lib.hid hr2
  have Hsz := Lib.hid hsz
  clear hw0 hr0 hr1 hr2 hsz
  go_enter Tryz.func67, Tryz.ntmps67
  go_wp2_with fail
  generalize ((w.alloc (.cells #[.slice A n c, .bool b] 89)).alloc (.cells #[.slice B m c', .bool b] 89)).alloc (.cells #[.slice none 0 0, .bool false] 89) = w0 at *

  refine wp_region_makes [0, 1, 2, 3, 4, 5, 6, 7] [8] (by kernel_rfl) (by kernel_rfl) (addSpec_keep w.heap.size (w.heap.size + 1) (.slice A n c) (.slice B m c') b L z) ?_ ?_
  · generalize Exit.then _ _ = Q2
    intro i o ho hi3 a' w' hb hfr hd K hK
    have hbd3 : Below w0.heap.size w0 w' := (Below.refl w0.heap.size w0).drew.trans hb
    obtain ⟨y0, y1⟩ := num_cells ((hbd3.block _ (by have := Hsz.out; omega)).trans Hr0.out)
    obtain ⟨z0, z1⟩ := num_cells ((hbd3.block _ (by have := Hsz.out; omega)).trans Hr1.out)
    have hv2 : a'.tmps.getD 2 undef = .pointer (some ⟨w.heap.size, 0, none⟩) := hfr 2 (by kernel_rfl)
    have hv3 : a'.tmps.getD 3 undef = .pointer (some ⟨w.heap.size + 1, 0, none⟩) := hfr 3 (by kernel_rfl)
    have Hww : Hid (Below w.heap.size w w') := Lib.hid (Hw0.out.trans (hbd3.mono (by have := Hsz.out; omega)))
    rw [Array.getD_eq_getD_getElem?] at hv2 hv3
    have HK := Lib.hid hK
    clear hb hK hfr hbd3
    match i, ho with
    | 0, ho => cases ho; clear hd; go_simp; exact HK.out _ _ rfl (Below.refl _ _)
    | 1, ho =>
      cases ho
      have e := hd ⟨0, .data⟩ (by simp) rfl _ _ rfl rfl
      simp only [addSpec, Array.getD_eq_getD_getElem?] at e
      clear hd
      go_simp
      exact HK.out _ _ rfl (Below.refl _ _)
    | 2, ho => cases ho; clear hd; go_simp; exact HK.out _ _ rfl (Below.refl _ _)
    | 3, ho =>
      cases ho
      have e := hd ⟨2, .data⟩ (by simp) rfl _ _ rfl rfl
      simp only [addSpec, Array.getD_eq_getD_getElem?] at e
      clear hd
      go_simp
      exact HK.out _ _ rfl (Below.refl _ _)
    | 4, ho =>
      cases ho
      have e1 := hd ⟨1, .data⟩ (by simp) rfl _ _ rfl rfl
      have e2 := hd ⟨3, .data⟩ (by simp) rfl _ _ rfl rfl
      simp only [addSpec, Array.getD_eq_getD_getElem?] at e1 e2
      clear hd
      go_simp
      refine (Hrow.out w' Hww.out).mono ?_
      rintro e w9 ⟨v, rfl, hd9, hb9⟩
      obtain ⟨A5, c5, rfl⟩ := hd9.slice
      exact HK.out _ _ ⟨A5, c5, rfl, hd9.at.2.1, hd9.at.2.2⟩ hb9
    | 5, ho => cases ho; clear hd; go_simp; exact HK.out _ _ rfl (Below.refl _ _)
    | 6, ho =>
      cases ho
      have e := hd ⟨5, .data⟩ (by simp) rfl _ _ rfl rfl
      simp only [addSpec, Array.getD_eq_getD_getElem?] at e
      clear hd
      go_simp
      exact HK.out _ _ rfl (Below.refl _ _)
    | 7, ho =>
      cases ho
      obtain ⟨A5, c5, e1, hc5, hd5⟩ := hd ⟨4, .data⟩ (by simp) rfl _ _ rfl rfl
      have e2 := hd ⟨6, .data⟩ (by simp) rfl _ _ rfl rfl
      simp only [addSpec, Array.getD_eq_getD_getElem?] at e1 e2
      have Hmk := Lib.hid (Hmade.out w' A5 c5 hd5 hc5)
      clear hd hd5 hc5
      go_simp
      refine Hmk.out.mono ?_
      rintro e w9 ⟨v, rfl, hz9, hb9⟩
      exact HK.out _ _ hz9 hb9
    | 8, ho => exact absurd (by simp) hi3
    | n + 9, ho => simp at ho
  · intro fuel listed a' w8 hc hm hall
    obtain ⟨gg, ha, hh⟩ := hm.act (ds := [11, 12, 13, 14, 15, 16, 17, 18]) (by kernel_rfl)
    have hl : listed = #[true, true, true, true, true, true, true, true, false] := by
      have hs : listed.size = 9 := hm.size
      have n8 := getD_both (hm.rest 8 (by simp))
      rw [listed_all listed, hs]
      simp only [List.range, List.range.loop, List.map, n8, hall 0 (by simp), hall 1 (by simp), hall 2 (by simp), hall 3 (by simp), hall 4 (by simp), hall 5 (by simp), hall 6 (by simp), hall 7 (by simp)]
    have hz8 : NumAt w8 (gg 18) z := hh 7 _ _ (hall 7 (by simp)) rfl rfl
    have hbd8 : Below w0.heap.size w0 w8 := (Below.refl w0.heap.size w0).drew.trans hm.inv
    have Hrow8 : Hid (w8.heap[w.heap.size + 1 + 1]? = some (.cells #[.slice none 0 0, .bool false] 89 (0, 0))) := Lib.hid ((hbd8.block _ (by have := Hsz.out; omega)).trans Hr2.out)
    have HB8 : Hid (Below w.heap.size w w8) := Lib.hid (Hw0.out.trans (hbd8.mono (by have := Hsz.out; omega)))
    subst hl
    clear hm hall hh hbd8
    subst ha
    simp only [setAll]
    obtain ⟨f, rfl⟩ : ∃ f, fuel = f + 1 := ⟨fuel - 1, by simp at hc; omega⟩
    have HZ8 := Lib.hid hz8
    obtain ⟨A5, c5, ds5, e5, _⟩ := hz8
    rw [e5] at HZ8 ⊢
    generalize ds5.length = n5 at *
    generalize decide (z < 0) = b5 at *
    clear e5 hc
    obtain ⟨hf0, hf1, hc0, hc1⟩ := row_facts Hrow8.out
    generalize gg 11 = g11, gg 12 = g12, gg 13 = g13, gg 14 = g14, gg 15 = g15, gg 16 = g16, gg 17 = g17
    simp only [List.setIfInBounds_toArray, List.set_cons_zero, List.set_cons_succ]
    refine wpAny_ready (rs := [8]) (by kernel_rfl) (by simp) ?_
    refine AllReady.cons rfl (fun K3 hK3 => ?_) AllReady.nil
    go_simp
    refine hK3 _ _ (wpAny_done (by kernel_rfl) ?_ _)
    go_wp2_with fail
    exact num_ret rfl Hrow8.out HZ8.out HB8.out (by omega) rfl rfl

set_option maxRecDepth 100000 in
set_option maxHeartbeats 2000000 in
theorem add_more {w : World} {A B : Option Addr} {n m c c' : Nat} {b : Bool} {L : List Nat} {z : Int}
    (hrow : ∀ w', Below w.heap.size w w' → Calls Tryz.prog 102 #[.slice A n c, .slice B m c'] w' fun e w'' => ∃ v, e = .returned v ∧ DigL w'' w'.heap.size L v ∧ Below w'.heap.size w' w'')
    (hmade : ∀ w' A5 c5, DigAt w' A5 L → L.length ≤ c5 → Calls Tryz.prog 66 #[.slice A5 L.length c5, .bool b] w' fun e w'' => ∃ v, e = .returned v ∧ NumAt w'' v z ∧ Below w'.heap.size w' w'')
    {q : Int} (hcmp : ∀ w', Below w.heap.size w w' → Calls Tryz.prog 101 #[.slice A n c, .slice B m c'] w' fun e w'' => e = .returned (.int .i64 q) ∧ Below w'.heap.size w' w'') (hq : 0 ≤ q) :
    Calls Tryz.prog 67 #[.agg #[.slice A n c, .bool b], .agg #[.slice B m c', .bool (!b)]] w fun e w' => ∃ v, e = .returned v ∧ NumAt w' v z ∧ Below w.heap.size w w' := by
  have Hcmp := Lib.hid hcmp
  clear hcmp
  have Hrow := Lib.hid hrow
  have Hmade := Lib.hid hmade
  clear hrow hmade
  have hw0 : Below w.heap.size w (((w.alloc (.cells #[.slice A n c, .bool b] 89)).alloc (.cells #[.slice B m c', .bool (!b)] 89)).alloc (.cells #[.slice none 0 0, .bool false] 89)) := (((Below.refl _ _).alloc (Nat.le_refl _) _).alloc (by simp) _).alloc (by simp; omega) _
  obtain ⟨hr0, hr1, hr2, hsz⟩ := three_rows w (.cells #[.slice A n c, .bool b] 89 (0, 0)) (.cells #[.slice B m c', .bool (!b)] 89 (0, 0)) (.cells #[.slice none 0 0, .bool false] 89 (0, 0))
  have Hw0 := Lib.hid hw0
  have Hr0 := Lib.hid hr0
  have Hr1 := Lib.hid hr1
  have Hr2 := Lib.hid hr2
  have Hsz := Lib.hid hsz
  clear hw0 hr0 hr1 hr2 hsz
  go_enter Tryz.func67, Tryz.ntmps67
  go_wp2_with (go_at_call 101; (with_reducible refine (Hcmp.out _ Hw0.out).mono ?_); rintro e w0 ⟨rfl, hb9⟩; have Hb9 := Lib.hid hb9; clear hb9)
  have Hw0 := Lib.hid (Hw0.out.trans (Hb9.out.mono (by have := Hsz.out; omega)))
  have Hr0 := Lib.hid ((Hb9.out.block _ (by have := Hsz.out; omega)).trans Hr0.out)
  have Hr1 := Lib.hid ((Hb9.out.block _ (by have := Hsz.out; omega)).trans Hr1.out)
  have Hr2 := Lib.hid ((Hb9.out.block _ (by have := Hsz.out; omega)).trans Hr2.out)
  have Hsz := Lib.hid (show w.heap.size + 3 ≤ w0.heap.size by have h1 := Hb9.out.size; have h2 := Hsz.out; omega)
  clear Hb9

  refine wp_region_makes [0, 1, 2, 3, 4, 5, 6, 7] [8] (by kernel_rfl) (by kernel_rfl) (addSpec_keep w.heap.size (w.heap.size + 1) (.slice A n c) (.slice B m c') b L z) ?_ ?_
  · generalize Exit.then _ _ = Q2
    intro i o ho hi3 a' w' hb hfr hd K hK
    have hbd3 : Below w0.heap.size w0 w' := (Below.refl w0.heap.size w0).drew.trans hb
    obtain ⟨y0, y1⟩ := num_cells ((hbd3.block _ (by have := Hsz.out; omega)).trans Hr0.out)
    obtain ⟨z0, z1⟩ := num_cells ((hbd3.block _ (by have := Hsz.out; omega)).trans Hr1.out)
    have hv2 : a'.tmps.getD 2 undef = .pointer (some ⟨w.heap.size, 0, none⟩) := hfr 2 (by kernel_rfl)
    have hv3 : a'.tmps.getD 3 undef = .pointer (some ⟨w.heap.size + 1, 0, none⟩) := hfr 3 (by kernel_rfl)
    have Hww : Hid (Below w.heap.size w w') := Lib.hid (Hw0.out.trans (hbd3.mono (by have := Hsz.out; omega)))
    rw [Array.getD_eq_getD_getElem?] at hv2 hv3
    have HK := Lib.hid hK
    clear hb hK hfr hbd3
    match i, ho with
    | 0, ho => cases ho; clear hd; go_simp; exact HK.out _ _ rfl (Below.refl _ _)
    | 1, ho =>
      cases ho
      have e := hd ⟨0, .data⟩ (by simp) rfl _ _ rfl rfl
      simp only [addSpec, Array.getD_eq_getD_getElem?] at e
      clear hd
      go_simp
      exact HK.out _ _ rfl (Below.refl _ _)
    | 2, ho => cases ho; clear hd; go_simp; exact HK.out _ _ rfl (Below.refl _ _)
    | 3, ho =>
      cases ho
      have e := hd ⟨2, .data⟩ (by simp) rfl _ _ rfl rfl
      simp only [addSpec, Array.getD_eq_getD_getElem?] at e
      clear hd
      go_simp
      exact HK.out _ _ rfl (Below.refl _ _)
    | 4, ho =>
      cases ho
      have e1 := hd ⟨1, .data⟩ (by simp) rfl _ _ rfl rfl
      have e2 := hd ⟨3, .data⟩ (by simp) rfl _ _ rfl rfl
      simp only [addSpec, Array.getD_eq_getD_getElem?] at e1 e2
      clear hd
      go_simp
      refine (Hrow.out w' Hww.out).mono ?_
      rintro e w9 ⟨v, rfl, hd9, hb9⟩
      obtain ⟨A5, c5, rfl⟩ := hd9.slice
      exact HK.out _ _ ⟨A5, c5, rfl, hd9.at.2.1, hd9.at.2.2⟩ hb9
    | 5, ho => cases ho; clear hd; go_simp; exact HK.out _ _ rfl (Below.refl _ _)
    | 6, ho =>
      cases ho
      have e := hd ⟨5, .data⟩ (by simp) rfl _ _ rfl rfl
      simp only [addSpec, Array.getD_eq_getD_getElem?] at e
      clear hd
      go_simp
      exact HK.out _ _ rfl (Below.refl _ _)
    | 7, ho =>
      cases ho
      obtain ⟨A5, c5, e1, hc5, hd5⟩ := hd ⟨4, .data⟩ (by simp) rfl _ _ rfl rfl
      have e2 := hd ⟨6, .data⟩ (by simp) rfl _ _ rfl rfl
      simp only [addSpec, Array.getD_eq_getD_getElem?] at e1 e2
      have Hmk := Lib.hid (Hmade.out w' A5 c5 hd5 hc5)
      clear hd hd5 hc5
      go_simp
      refine Hmk.out.mono ?_
      rintro e w9 ⟨v, rfl, hz9, hb9⟩
      exact HK.out _ _ hz9 hb9
    | 8, ho => exact absurd (by simp) hi3
    | n + 9, ho => simp at ho
  · intro fuel listed a' w8 hc hm hall
    obtain ⟨gg, ha, hh⟩ := hm.act (ds := [26, 27, 28, 29, 30, 31, 32, 33]) (by kernel_rfl)
    have hl : listed = #[true, true, true, true, true, true, true, true, false] := by
      have hs : listed.size = 9 := hm.size
      have n8 := getD_both (hm.rest 8 (by simp))
      rw [listed_all listed, hs]
      simp only [List.range, List.range.loop, List.map, n8, hall 0 (by simp), hall 1 (by simp), hall 2 (by simp), hall 3 (by simp), hall 4 (by simp), hall 5 (by simp), hall 6 (by simp), hall 7 (by simp)]
    have hz8 : NumAt w8 (gg 33) z := hh 7 _ _ (hall 7 (by simp)) rfl rfl
    have hbd8 : Below w0.heap.size w0 w8 := (Below.refl w0.heap.size w0).drew.trans hm.inv
    have Hrow8 : Hid (w8.heap[w.heap.size + 1 + 1]? = some (.cells #[.slice none 0 0, .bool false] 89 (0, 0))) := Lib.hid ((hbd8.block _ (by have := Hsz.out; omega)).trans Hr2.out)
    have HB8 : Hid (Below w.heap.size w w8) := Lib.hid (Hw0.out.trans (hbd8.mono (by have := Hsz.out; omega)))
    subst hl
    clear hm hall hh hbd8
    subst ha
    simp only [setAll]
    obtain ⟨f, rfl⟩ : ∃ f, fuel = f + 1 := ⟨fuel - 1, by simp at hc; omega⟩
    have HZ8 := Lib.hid hz8
    obtain ⟨A5, c5, ds5, e5, _⟩ := hz8
    rw [e5] at HZ8 ⊢
    generalize ds5.length = n5 at *
    generalize decide (z < 0) = b5 at *
    clear e5 hc
    obtain ⟨hf0, hf1, hc0, hc1⟩ := row_facts Hrow8.out
    generalize gg 26 = g26, gg 27 = g27, gg 28 = g28, gg 29 = g29, gg 30 = g30, gg 31 = g31, gg 32 = g32
    simp only [List.setIfInBounds_toArray, List.set_cons_zero, List.set_cons_succ]
    refine wpAny_ready (rs := [8]) (by kernel_rfl) (by simp) ?_
    refine AllReady.cons rfl (fun K3 hK3 => ?_) AllReady.nil
    go_simp
    refine hK3 _ _ (wpAny_done (by kernel_rfl) ?_ _)
    go_wp2_with fail
    exact num_ret rfl Hrow8.out HZ8.out HB8.out (by omega) rfl rfl

set_option maxRecDepth 100000 in
set_option maxHeartbeats 2000000 in
theorem add_less {w : World} {A B : Option Addr} {n m c c' : Nat} {b : Bool} {L : List Nat} {z : Int}
    (hrow : ∀ w', Below w.heap.size w w' → Calls Tryz.prog 102 #[.slice B m c', .slice A n c] w' fun e w'' => ∃ v, e = .returned v ∧ DigL w'' w'.heap.size L v ∧ Below w'.heap.size w' w'')
    (hmade : ∀ w' A5 c5, DigAt w' A5 L → L.length ≤ c5 → Calls Tryz.prog 66 #[.slice A5 L.length c5, .bool (!b)] w' fun e w'' => ∃ v, e = .returned v ∧ NumAt w'' v z ∧ Below w'.heap.size w' w'')
    {q : Int} (hcmp : ∀ w', Below w.heap.size w w' → Calls Tryz.prog 101 #[.slice A n c, .slice B m c'] w' fun e w'' => e = .returned (.int .i64 q) ∧ Below w'.heap.size w' w'') (hq : ¬ 0 ≤ q) :
    Calls Tryz.prog 67 #[.agg #[.slice A n c, .bool b], .agg #[.slice B m c', .bool (!b)]] w fun e w' => ∃ v, e = .returned v ∧ NumAt w' v z ∧ Below w.heap.size w w' := by
  have Hcmp := Lib.hid hcmp
  clear hcmp
  have Hrow := Lib.hid hrow
  have Hmade := Lib.hid hmade
  clear hrow hmade
  have hw0 : Below w.heap.size w (((w.alloc (.cells #[.slice A n c, .bool b] 89)).alloc (.cells #[.slice B m c', .bool (!b)] 89)).alloc (.cells #[.slice none 0 0, .bool false] 89)) := (((Below.refl _ _).alloc (Nat.le_refl _) _).alloc (by simp) _).alloc (by simp; omega) _
  obtain ⟨hr0, hr1, hr2, hsz⟩ := three_rows w (.cells #[.slice A n c, .bool b] 89 (0, 0)) (.cells #[.slice B m c', .bool (!b)] 89 (0, 0)) (.cells #[.slice none 0 0, .bool false] 89 (0, 0))
  have Hw0 := Lib.hid hw0
  have Hr0 := Lib.hid hr0
  have Hr1 := Lib.hid hr1
  have Hr2 := Lib.hid hr2
  have Hsz := Lib.hid hsz
  clear hw0 hr0 hr1 hr2 hsz
  go_enter Tryz.func67, Tryz.ntmps67
  go_wp2_with (go_at_call 101; (with_reducible refine (Hcmp.out _ Hw0.out).mono ?_); rintro e w0 ⟨rfl, hb9⟩; have Hb9 := Lib.hid hb9; clear hb9)
  have Hw0 := Lib.hid (Hw0.out.trans (Hb9.out.mono (by have := Hsz.out; omega)))
  have Hr0 := Lib.hid ((Hb9.out.block _ (by have := Hsz.out; omega)).trans Hr0.out)
  have Hr1 := Lib.hid ((Hb9.out.block _ (by have := Hsz.out; omega)).trans Hr1.out)
  have Hr2 := Lib.hid ((Hb9.out.block _ (by have := Hsz.out; omega)).trans Hr2.out)
  have Hsz := Lib.hid (show w.heap.size + 3 ≤ w0.heap.size by have h1 := Hb9.out.size; have h2 := Hsz.out; omega)
  clear Hb9

  refine wp_region_makes [0, 1, 2, 3, 4, 5, 6, 7] [8] (by kernel_rfl) (by kernel_rfl) (addSpec_keep (w.heap.size + 1) w.heap.size (.slice B m c') (.slice A n c) (!b) L z) ?_ ?_
  · generalize Exit.then _ _ = Q2
    intro i o ho hi3 a' w' hb hfr hd K hK
    have hbd3 : Below w0.heap.size w0 w' := (Below.refl w0.heap.size w0).drew.trans hb
    obtain ⟨y0, y1⟩ := num_cells ((hbd3.block _ (by have := Hsz.out; omega)).trans Hr0.out)
    obtain ⟨z0, z1⟩ := num_cells ((hbd3.block _ (by have := Hsz.out; omega)).trans Hr1.out)
    have hv2 : a'.tmps.getD 2 undef = .pointer (some ⟨w.heap.size, 0, none⟩) := hfr 2 (by kernel_rfl)
    have hv3 : a'.tmps.getD 3 undef = .pointer (some ⟨w.heap.size + 1, 0, none⟩) := hfr 3 (by kernel_rfl)
    have Hww : Hid (Below w.heap.size w w') := Lib.hid (Hw0.out.trans (hbd3.mono (by have := Hsz.out; omega)))
    rw [Array.getD_eq_getD_getElem?] at hv2 hv3
    have HK := Lib.hid hK
    clear hb hK hfr hbd3
    match i, ho with
    | 0, ho => cases ho; clear hd; go_simp; exact HK.out _ _ rfl (Below.refl _ _)
    | 1, ho =>
      cases ho
      have e := hd ⟨0, .data⟩ (by simp) rfl _ _ rfl rfl
      simp only [addSpec, Array.getD_eq_getD_getElem?] at e
      clear hd
      go_simp
      exact HK.out _ _ rfl (Below.refl _ _)
    | 2, ho => cases ho; clear hd; go_simp; exact HK.out _ _ rfl (Below.refl _ _)
    | 3, ho =>
      cases ho
      have e := hd ⟨2, .data⟩ (by simp) rfl _ _ rfl rfl
      simp only [addSpec, Array.getD_eq_getD_getElem?] at e
      clear hd
      go_simp
      exact HK.out _ _ rfl (Below.refl _ _)
    | 4, ho =>
      cases ho
      have e1 := hd ⟨1, .data⟩ (by simp) rfl _ _ rfl rfl
      have e2 := hd ⟨3, .data⟩ (by simp) rfl _ _ rfl rfl
      simp only [addSpec, Array.getD_eq_getD_getElem?] at e1 e2
      clear hd
      go_simp
      refine (Hrow.out w' Hww.out).mono ?_
      rintro e w9 ⟨v, rfl, hd9, hb9⟩
      obtain ⟨A5, c5, rfl⟩ := hd9.slice
      exact HK.out _ _ ⟨A5, c5, rfl, hd9.at.2.1, hd9.at.2.2⟩ hb9
    | 5, ho => cases ho; clear hd; go_simp; exact HK.out _ _ rfl (Below.refl _ _)
    | 6, ho =>
      cases ho
      have e := hd ⟨5, .data⟩ (by simp) rfl _ _ rfl rfl
      simp only [addSpec, Array.getD_eq_getD_getElem?] at e
      clear hd
      go_simp
      exact HK.out _ _ rfl (Below.refl _ _)
    | 7, ho =>
      cases ho
      obtain ⟨A5, c5, e1, hc5, hd5⟩ := hd ⟨4, .data⟩ (by simp) rfl _ _ rfl rfl
      have e2 := hd ⟨6, .data⟩ (by simp) rfl _ _ rfl rfl
      simp only [addSpec, Array.getD_eq_getD_getElem?] at e1 e2
      have Hmk := Lib.hid (Hmade.out w' A5 c5 hd5 hc5)
      clear hd hd5 hc5
      go_simp
      refine Hmk.out.mono ?_
      rintro e w9 ⟨v, rfl, hz9, hb9⟩
      exact HK.out _ _ hz9 hb9
    | 8, ho => exact absurd (by simp) hi3
    | n + 9, ho => simp at ho
  · intro fuel listed a' w8 hc hm hall
    obtain ⟨gg, ha, hh⟩ := hm.act (ds := [34, 35, 36, 37, 38, 39, 40, 41]) (by kernel_rfl)
    have hl : listed = #[true, true, true, true, true, true, true, true, false] := by
      have hs : listed.size = 9 := hm.size
      have n8 := getD_both (hm.rest 8 (by simp))
      rw [listed_all listed, hs]
      simp only [List.range, List.range.loop, List.map, n8, hall 0 (by simp), hall 1 (by simp), hall 2 (by simp), hall 3 (by simp), hall 4 (by simp), hall 5 (by simp), hall 6 (by simp), hall 7 (by simp)]
    have hz8 : NumAt w8 (gg 41) z := hh 7 _ _ (hall 7 (by simp)) rfl rfl
    have hbd8 : Below w0.heap.size w0 w8 := (Below.refl w0.heap.size w0).drew.trans hm.inv
    have Hrow8 : Hid (w8.heap[w.heap.size + 1 + 1]? = some (.cells #[.slice none 0 0, .bool false] 89 (0, 0))) := Lib.hid ((hbd8.block _ (by have := Hsz.out; omega)).trans Hr2.out)
    have HB8 : Hid (Below w.heap.size w w8) := Lib.hid (Hw0.out.trans (hbd8.mono (by have := Hsz.out; omega)))
    subst hl
    clear hm hall hh hbd8
    subst ha
    simp only [setAll]
    obtain ⟨f, rfl⟩ : ∃ f, fuel = f + 1 := ⟨fuel - 1, by simp at hc; omega⟩
    have HZ8 := Lib.hid hz8
    obtain ⟨A5, c5, ds5, e5, _⟩ := hz8
    rw [e5] at HZ8 ⊢
    generalize ds5.length = n5 at *
    generalize decide (z < 0) = b5 at *
    clear e5 hc
    obtain ⟨hf0, hf1, hc0, hc1⟩ := row_facts Hrow8.out
    generalize gg 34 = g34, gg 35 = g35, gg 36 = g36, gg 37 = g37, gg 38 = g38, gg 39 = g39, gg 40 = g40
    simp only [List.setIfInBounds_toArray, List.set_cons_zero, List.set_cons_succ]
    refine wpAny_ready (rs := [8]) (by kernel_rfl) (by simp) ?_
    refine AllReady.cons rfl (fun K3 hK3 => ?_) AllReady.nil
    go_simp
    refine hK3 _ _ (wpAny_done (by kernel_rfl) ?_ _)
    go_wp2_with fail
    exact num_ret rfl Hrow8.out HZ8.out HB8.out (by omega) rfl rfl
end Go.Proofs.YtbnonccmlildnaaGreat

/- Add, Sub, Cmp, whole. -/
namespace Go.Proofs.YtbnonccmlildnaaGreat
open Go.RowKit Go.Lib

theorem minusC_length (B : Nat) : ∀ (a b : List Nat) (c : Nat), (minusC B a b c).length = a.length
  | [], _, _ => rfl
  | x :: a, b, c => by simp [minusC, minusC_length B a]
theorem minusC_diff {ds es : List Nat} (hd : okD 4294967296 ds) (he : okD 4294967296 es) (ce : canon es) (h : dval 4294967296 es ≤ dval 4294967296 ds) : dval 4294967296 (minusC 4294967296 ds es 0) = dval 4294967296 ds - dval 4294967296 es := by
  have hl : es.length ≤ ds.length := by
    by_cases e : ds.length < es.length
    · have := dval_lt_len (B := 4294967296) (by omega) hd ce e
      omega
    · omega
  rw [minusC_val (by omega) _ _ _ hd he hl (by omega) (by omega), Nat.add_zero]
theorem add_ex {w : World} {v u : Value} {z y : Int} {k : Nat} (h : NumAt w v z) (hu : NumAt w u y) (hz : z.natAbs < 4294967296 ^ k) (hy : y.natAbs < 4294967296 ^ k) (hk : k ≤ 10000000000000) :
    Calls Tryz.prog 67 #[v, u] w fun e w' => ∃ v, e = .returned v ∧ NumAt w' v (z + y) ∧ Below w.heap.size w w' := by
  obtain ⟨A, c, ds, rfl, hc, hd, h1, h2, h3⟩ := h
  obtain ⟨B, c', es, rfl, hc', he, g1, g2, g3⟩ := hu
  have hl := len_of h2 h3 hz
  have hl' := len_of g2 g3 hy
  by_cases hs : decide (z < 0) = decide (y < 0)
  · rw [← hs]
    refine add_same (L := plusC 4294967296 ds es 0 (max ds.length es.length + 1)) (fun w' hb => plus_ex (hd.mono (Nat.le_refl _) hb) (he.mono (Nat.le_refl _) hb) h1 g1 rfl rfl (by omega) (by omega)) fun w' A5 c5 hA hL => ?_
    have := made_ex (neg := decide (z < 0)) hA (plusC_ok (by omega) _ _ _ _) rfl hL (by rw [plusC_length]; omega)
    rw [plusC_sum h1 g1, h3, g3] at this
    rwa [show signed (decide (z < 0)) (z.natAbs + y.natAbs) = z + y by
      rw [decide_eq_decide] at hs
      by_cases e : z < 0
      · have := hs.1 e; simp [signed, e]; omega
      · have : ¬ y < 0 := fun h => e (hs.2 h); simp [signed, e]; omega] at this
  · have hny : decide (y < 0) = !decide (z < 0) := by
      revert hs
      cases decide (z < 0) <;> cases decide (y < 0) <;> simp
    rw [hny]
    have hcmp : ∀ w', Below w.heap.size w w' → Calls Tryz.prog 101 #[.slice A ds.length c, .slice B es.length c'] w' fun e w'' => e = .returned (.int .i64 (cmpN z.natAbs y.natAbs)) ∧ Below w'.heap.size w' w'' := fun w' hb => by
      have := compare_ex (ca := c) (cb := c') (hd.mono (Nat.le_refl _) hb) (he.mono (Nat.le_refl _) hb) h1 g1 h2 g2 rfl rfl (by omega) (by omega)
      rwa [h3, g3] at this
    by_cases hq : y.natAbs ≤ z.natAbs
    · refine add_more (L := minusC 4294967296 ds es 0) (fun w' hb => minus_ex (hd.mono (Nat.le_refl _) hb) (he.mono (Nat.le_refl _) hb) h1 g1 rfl rfl (by omega) (by omega)) (fun w' A5 c5 hA hL => ?_) hcmp ?_
      · have := made_ex (neg := decide (z < 0)) hA (minusC_ok _ _ _ h1 g1 (by omega) (by omega)) rfl hL (by rw [minusC_length]; omega)
        rw [minusC_diff h1 g1 g2 (by omega), h3, g3] at this
        rwa [show signed (decide (z < 0)) (z.natAbs - y.natAbs) = z + y by
          by_cases e : z < 0
          · have : ¬ y < 0 := by simpa [e] using hny
            simp [signed, e]; omega
          · have : y < 0 := by simpa [e] using hny
            simp [signed, e]; omega] at this
      · unfold cmpN
        rw [if_neg (by omega)]
        split <;> omega
    · refine add_less (L := minusC 4294967296 es ds 0) (fun w' hb => minus_ex (he.mono (Nat.le_refl _) hb) (hd.mono (Nat.le_refl _) hb) g1 h1 rfl rfl (by omega) (by omega)) (fun w' A5 c5 hA hL => ?_) hcmp ?_
      · have := made_ex (neg := !decide (z < 0)) hA (minusC_ok _ _ _ g1 h1 (by omega) (by omega)) rfl hL (by rw [minusC_length]; omega)
        rw [minusC_diff g1 h1 h2 (by omega), h3, g3] at this
        rwa [show signed (!decide (z < 0)) (y.natAbs - z.natAbs) = z + y by
          by_cases e : z < 0
          · have : ¬ y < 0 := by simpa [e] using hny
            simp [signed, e]; omega
          · have : y < 0 := by simpa [e] using hny
            simp [signed, e]; omega] at this
      · unfold cmpN
        rw [if_pos (by omega)]
        omega

def subSpec (va vb : Value) (z y : Int) : Nat → World → Value → Prop
  | 0, _, v => v = va
  | 1, _, v => v = vb
  | 2, w, v => NumAt w v (-y)
  | 3, w, v => NumAt w v (z + -y)
  | _, _, _ => True
theorem subSpec_keep (va vb : Value) (z y : Int) (i : Nat) (w w' : World) (v : Value) (h : subSpec va vb z y i w v) (hb : Below w.heap.size w w') : subSpec va vb z y i w' v :=
  match i, h with
  | 0, h => h
  | 1, h => h
  | 2, h => NumAt.mono h (Nat.le_refl _) hb
  | 3, h => NumAt.mono h (Nat.le_refl _) hb
  | n + 4, _ => trivial
set_option maxRecDepth 100000 in
set_option maxHeartbeats 1000000 in
theorem sub_ex {w : World} {v u : Value} {z y : Int} {k : Nat} (h : NumAt w v z) (hu : NumAt w u y) (hz : z.natAbs < 4294967296 ^ k) (hy : y.natAbs < 4294967296 ^ k) (hk : k ≤ 10000000000000) :
    Calls Tryz.prog 36 #[v, u] w fun e w' => ∃ v, e = .returned v ∧ NumAt w' v (z - y) ∧ Below w.heap.size w w' := by
  have hneg : ∀ w', Below w.heap.size w w' → Calls Tryz.prog 37 #[u] w' fun e w'' => ∃ v, e = .returned v ∧ NumAt w'' v (-y) ∧ Below w'.heap.size w' w'' := fun w' hb => neg_ex (hu.mono (Nat.le_refl _) hb) hy hk
  have hadd : ∀ w' x, Below w.heap.size w w' → NumAt w' x (-y) → Calls Tryz.prog 67 #[v, x] w' fun e w'' => ∃ v, e = .returned v ∧ NumAt w'' v (z + -y) ∧ Below w'.heap.size w' w'' := fun w' x hb hx => add_ex (h.mono (Nat.le_refl _) hb) hx hz (by rw [Int.natAbs_neg]; exact hy) hk
  rw [show z - y = z + -y by omega]
  obtain ⟨A, c, ds, rfl, hr⟩ := id h
  obtain ⟨B, c', es, rfl, hr'⟩ := id hu
  have HN := Lib.hid hneg
  have HA := Lib.hid hadd
  clear h hu hr hr' hz hy hneg hadd
  generalize ds.length = n at *
  generalize es.length = m at *
  generalize decide (z < 0) = b at *
  generalize decide (y < 0) = b' at *
  have hw0 : Below w.heap.size w (((w.alloc (.cells #[.slice A n c, .bool b] 89)).alloc (.cells #[.slice B m c', .bool b'] 89)).alloc (.cells #[.slice none 0 0, .bool false] 89)) := (((Below.refl _ _).alloc (Nat.le_refl _) _).alloc (by simp) _).alloc (by simp; omega) _
  obtain ⟨hr0, hr1, hr2, hsz⟩ := three_rows w (.cells #[.slice A n c, .bool b] 89 (0, 0)) (.cells #[.slice B m c', .bool b'] 89 (0, 0)) (.cells #[.slice none 0 0, .bool false] 89 (0, 0))
  have Hw0 := Lib.hid hw0
  have Hr0 := Lib.hid hr0
  have Hr1 := Lib.hid hr1
  have Hr2 := Lib.hid hr2
  have Hsz := Lib.hid hsz
  clear hw0 hr0 hr1 hr2 hsz
  go_enter Tryz.func36, Tryz.ntmps36
  go_wp2_with fail
  generalize ((w.alloc (.cells #[.slice A n c, .bool b] 89)).alloc (.cells #[.slice B m c', .bool b'] 89)).alloc (.cells #[.slice none 0 0, .bool false] 89) = w0 at *
  refine wp_region_makes [0, 1, 2, 3] [4] (by kernel_rfl) (by kernel_rfl) (subSpec_keep (.agg #[.slice A n c, .bool b]) (.agg #[.slice B m c', .bool b']) z y) ?_ ?_
  · generalize Exit.then _ _ = Q2
    intro i o ho hi3 a' w' hb hfr hd K hK
    have hbd3 : Below w0.heap.size w0 w' := (Below.refl w0.heap.size w0).drew.trans hb
    obtain ⟨y0, y1⟩ := num_cells ((hbd3.block _ (by have := Hsz.out; omega)).trans Hr0.out)
    obtain ⟨z0, z1⟩ := num_cells ((hbd3.block _ (by have := Hsz.out; omega)).trans Hr1.out)
    have hv2 : a'.tmps.getD 2 undef = .pointer (some ⟨w.heap.size, 0, none⟩) := hfr 2 (by kernel_rfl)
    have hv3 : a'.tmps.getD 3 undef = .pointer (some ⟨w.heap.size + 1, 0, none⟩) := hfr 3 (by kernel_rfl)
    have Hww : Hid (Below w.heap.size w w') := Lib.hid (Hw0.out.trans (hbd3.mono (by have := Hsz.out; omega)))
    rw [Array.getD_eq_getD_getElem?] at hv2 hv3
    have HK := Lib.hid hK
    clear hb hK hfr hbd3
    match i, ho with
    | 0, ho => cases ho; clear hd; go_simp; exact HK.out _ _ rfl (Below.refl _ _)
    | 1, ho => cases ho; clear hd; go_simp; exact HK.out _ _ rfl (Below.refl _ _)
    | 2, ho =>
      cases ho
      have e := hd ⟨1, .data⟩ (by simp) rfl _ _ rfl rfl
      simp only [subSpec, Array.getD_eq_getD_getElem?] at e
      clear hd
      go_simp
      refine (HN.out w' Hww.out).mono ?_
      rintro e w9 ⟨v, rfl, hz9, hb9⟩
      exact HK.out _ _ hz9 hb9
    | 3, ho =>
      cases ho
      have e1 := hd ⟨0, .data⟩ (by simp) rfl _ _ rfl rfl
      have e2 := hd ⟨2, .data⟩ (by simp) rfl _ _ rfl rfl
      simp only [subSpec, Array.getD_eq_getD_getElem?] at e1 e2
      have Hmk := Lib.hid (HA.out w' _ Hww.out e2)
      clear hd e2
      go_simp
      refine Hmk.out.mono ?_
      rintro e w9 ⟨v, rfl, hz9, hb9⟩
      exact HK.out _ _ hz9 hb9
    | 4, ho => exact absurd (by simp) hi3
    | n + 5, ho => simp at ho
  · intro fuel listed a' w8 hc hm hall
    obtain ⟨gg, ha, hh⟩ := hm.act (ds := [5, 6, 7, 8]) (by kernel_rfl)
    have hl : listed = #[true, true, true, true, false] := by
      have hs : listed.size = 5 := hm.size
      have n4 := getD_both (hm.rest 4 (by simp))
      rw [listed_all listed, hs]
      simp only [List.range, List.range.loop, List.map, n4, hall 0 (by simp), hall 1 (by simp), hall 2 (by simp), hall 3 (by simp)]
    have hz8 : NumAt w8 (gg 8) (z + -y) := hh 3 _ _ (hall 3 (by simp)) rfl rfl
    have hbd8 : Below w0.heap.size w0 w8 := (Below.refl w0.heap.size w0).drew.trans hm.inv
    have Hrow8 : Hid (w8.heap[w.heap.size + 1 + 1]? = some (.cells #[.slice none 0 0, .bool false] 89 (0, 0))) := Lib.hid ((hbd8.block _ (by have := Hsz.out; omega)).trans Hr2.out)
    have HB8 : Hid (Below w.heap.size w w8) := Lib.hid (Hw0.out.trans (hbd8.mono (by have := Hsz.out; omega)))
    subst hl
    clear hm hall hh hbd8
    subst ha
    simp only [setAll]
    obtain ⟨f, rfl⟩ : ∃ f, fuel = f + 1 := ⟨fuel - 1, by simp at hc; omega⟩
    have HZ8 := Lib.hid hz8
    obtain ⟨A5, c5, ds5, e5, _⟩ := hz8
    rw [e5] at HZ8 ⊢
    generalize ds5.length = n5 at *
    generalize decide (z + -y < 0) = b5 at *
    clear e5 hc
    obtain ⟨hf0, hf1, hc0, hc1⟩ := row_facts Hrow8.out
    generalize gg 5 = g5, gg 6 = g6, gg 7 = g7
    simp only [List.setIfInBounds_toArray, List.set_cons_zero, List.set_cons_succ]
    refine wpAny_ready (rs := [4]) (by kernel_rfl) (by simp) ?_
    refine AllReady.cons rfl (fun K3 hK3 => ?_) AllReady.nil
    go_simp
    refine hK3 _ _ (wpAny_done (by kernel_rfl) ?_ _)
    go_wp2_with fail
    exact num_ret rfl Hrow8.out HZ8.out HB8.out (by omega) rfl rfl

def boolI (b : Bool) : Int := if b = true then 1 else 0
theorem cmpZ {z y : Int} : (if decide (z < 0) = decide (y < 0) then (if z < 0 then cmpN y.natAbs z.natAbs else cmpN z.natAbs y.natAbs) else 1 - 2 * boolI (decide (z < 0))) = if z < y then -1 else if y < z then 1 else 0 := by
  unfold cmpN boolI
  by_cases h1 : z < 0 <;> by_cases h2 : y < 0 <;> simp [h1, h2] <;> split <;> (try split) <;> (try split) <;> omega
end Go.Proofs.YtbnonccmlildnaaGreat

/- Cmp. -/
namespace Go.Proofs.YtbnonccmlildnaaGreat
open Go.RowKit Go.Lib

/-- How two whole numbers compare. -/
def cmpI (z y : Int) : Int := if z < y then -1 else if y < z then 1 else 0
theorem truth_ex {w : World} (b : Bool) : Calls Tryz.prog 105 #[.bool b] w fun e w' => e = .returned (.int .i64 (boolI b)) ∧ w' = w := by
  cases b with
  | true => go_enter Tryz.func105, Tryz.ntmps105; go_wp2_with fail; go_ret; exact ⟨rfl, rfl⟩
  | false => go_enter Tryz.func105, Tryz.ntmps105; go_wp2_with fail; go_ret; exact ⟨rfl, rfl⟩
set_option maxRecDepth 100000 in
set_option maxHeartbeats 1000000 in
theorem cmp_diff {w : World} {A B : Option Addr} {n m c c' : Nat} (b : Bool) :
    Calls Tryz.prog 76 #[.agg #[.slice A n c, .bool b], .agg #[.slice B m c', .bool (!b)]] w fun e w' => e = .returned (.int .i64 (1 - 2 * boolI b)) ∧ Below w.heap.size w w' := by
  have hw0 : ∀ o1 o2, Below w.heap.size w ((w.alloc o1).alloc o2) := fun o1 o2 => ((Below.refl _ _).alloc (Nat.le_refl _) _).alloc (by simp) _
  have Hw0 := Lib.hid hw0
  clear hw0
  cases b with
  | true =>
    go_enter Tryz.func76, Tryz.ntmps76
    go_wp2_with (go_at_call 105; refine (truth_ex _).mono ?_; rintro e w9 ⟨rfl, rfl⟩)
    go_ret
    refine ⟨?_, Hw0.out _ _⟩
    show Ending.returned (.int .i64 (wrap64 (1 - wrap64 (2 * boolI true)))) = _
    rw [show wrap64 (1 - wrap64 (2 * boolI true)) = 1 - 2 * boolI true by simp [boolI, wrap64]]
  | false =>
    go_enter Tryz.func76, Tryz.ntmps76
    go_wp2_with (go_at_call 105; refine (truth_ex _).mono ?_; rintro e w9 ⟨rfl, rfl⟩)
    go_ret
    refine ⟨?_, Hw0.out _ _⟩
    show Ending.returned (.int .i64 (wrap64 (1 - wrap64 (2 * boolI false)))) = _
    rw [show wrap64 (1 - wrap64 (2 * boolI false)) = 1 - 2 * boolI false by simp [boolI, wrap64]]
set_option maxRecDepth 100000 in
set_option maxHeartbeats 1000000 in
theorem cmp_neg {w : World} {A B : Option Addr} {n m c c' : Nat} {q : Int} (hcmp : ∀ w', Below w.heap.size w w' → Calls Tryz.prog 101 #[.slice B m c', .slice A n c] w' fun e w'' => e = .returned (.int .i64 q) ∧ Below w'.heap.size w' w'') :
    Calls Tryz.prog 76 #[.agg #[.slice A n c, .bool true], .agg #[.slice B m c', .bool true]] w fun e w' => e = .returned (.int .i64 q) ∧ Below w.heap.size w w' := by
  have hw0 : Below w.heap.size w ((w.alloc (.cells #[.slice A n c, .bool true] 89)).alloc (.cells #[.slice B m c', .bool true] 89)) := ((Below.refl _ _).alloc (Nat.le_refl _) _).alloc (by simp) _
  have Hw0 := Lib.hid hw0
  have Hcmp := Lib.hid hcmp
  clear hw0 hcmp
  go_enter Tryz.func76, Tryz.ntmps76
  go_wp2_with (go_at_call 101; (with_reducible refine (Hcmp.out _ Hw0.out).mono ?_); rintro e w9 ⟨rfl, hb9⟩; have Hb9 := Lib.hid hb9; clear hb9)
  go_ret
  exact ⟨rfl, Hw0.out.trans (Hb9.out.mono (by simp; omega))⟩
set_option maxRecDepth 100000 in
set_option maxHeartbeats 1000000 in
theorem cmp_pos {w : World} {A B : Option Addr} {n m c c' : Nat} {q : Int} (hcmp : ∀ w', Below w.heap.size w w' → Calls Tryz.prog 101 #[.slice A n c, .slice B m c'] w' fun e w'' => e = .returned (.int .i64 q) ∧ Below w'.heap.size w' w'') :
    Calls Tryz.prog 76 #[.agg #[.slice A n c, .bool false], .agg #[.slice B m c', .bool false]] w fun e w' => e = .returned (.int .i64 q) ∧ Below w.heap.size w w' := by
  have hw0 : Below w.heap.size w ((w.alloc (.cells #[.slice A n c, .bool false] 89)).alloc (.cells #[.slice B m c', .bool false] 89)) := ((Below.refl _ _).alloc (Nat.le_refl _) _).alloc (by simp) _
  have Hw0 := Lib.hid hw0
  have Hcmp := Lib.hid hcmp
  clear hw0 hcmp
  go_enter Tryz.func76, Tryz.ntmps76
  go_wp2_with (go_at_call 101; (with_reducible refine (Hcmp.out _ Hw0.out).mono ?_); rintro e w9 ⟨rfl, hb9⟩; have Hb9 := Lib.hid hb9; clear hb9)
  go_ret
  exact ⟨rfl, Hw0.out.trans (Hb9.out.mono (by simp; omega))⟩
theorem Cmp_ex {w : World} {v u : Value} {z y : Int} {k : Nat} (h : NumAt w v z) (hu : NumAt w u y) (hz : z.natAbs < 4294967296 ^ k) (hy : y.natAbs < 4294967296 ^ k) (hk : k ≤ 10000000000000) :
    Calls Tryz.prog 76 #[v, u] w fun e w' => e = .returned (.int .i64 (cmpI z y)) ∧ Below w.heap.size w w' := by
  obtain ⟨A, c, ds, rfl, hc, hd, h1, h2, h3⟩ := h
  obtain ⟨B, c', es, rfl, hc', he, g1, g2, g3⟩ := hu
  have hl := len_of h2 h3 hz
  have hl' := len_of g2 g3 hy
  rw [show cmpI z y = _ from cmpZ.symm]
  by_cases hs : decide (z < 0) = decide (y < 0)
  · rw [if_pos hs, ← hs]
    by_cases hn : z < 0
    · rw [if_pos hn, decide_eq_true hn]
      refine cmp_neg fun w' hb => ?_
      have := compare_ex (ca := c') (cb := c) (he.mono (Nat.le_refl _) hb) (hd.mono (Nat.le_refl _) hb) g1 h1 g2 h2 rfl rfl (by omega) (by omega)
      rwa [h3, g3] at this
    · rw [if_neg hn, decide_eq_false hn]
      refine cmp_pos fun w' hb => ?_
      have := compare_ex (ca := c) (cb := c') (hd.mono (Nat.le_refl _) hb) (he.mono (Nat.le_refl _) hb) h1 g1 h2 g2 rfl rfl (by omega) (by omega)
      rwa [h3, g3] at this
  · rw [if_neg hs]
    have hny : decide (y < 0) = !decide (z < 0) := by
      revert hs
      cases decide (z < 0) <;> cases decide (y < 0) <;> simp
    rw [hny]
    exact cmp_diff _
end Go.Proofs.YtbnonccmlildnaaGreat
