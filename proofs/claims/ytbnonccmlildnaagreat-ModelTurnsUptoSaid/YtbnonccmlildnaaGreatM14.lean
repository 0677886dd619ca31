/- What a term is worth in a structure, plainly. -/
import Derived.Test.YtbnonccmlildnaaGreatM12
import Derived.Test.YtbnonccmlildnaaGreatM13
import Derived.Lib.ItoaNum
set_option linter.unusedSimpArgs false
set_option linter.unusedVariables false
namespace Go.Proofs.YtbnonccmlildnaaGreat
open Go.RowKit Go.Lib

inductive Vl
  | num (z : Int)
  | tr (b : Bool)
  | ob (k : Nat)
structure Tb where
  name : ByteArray
  rows : List (List ByteArray × ByteArray)
  els : ByteArray
abbrev Env := List (ByteArray × Vl)
def trueB : ByteArray := ⟨#[116, 114, 117, 101]⟩
def falseB : ByteArray := ⟨#[102, 97, 108, 115, 101]⟩
/-- A value's text. -/
def textV (τ : Nat → List UInt8) : Vl → ByteArray
  | .num z => ⟨(itoa z).toArray⟩
  | .tr b => if b then trueB else falseB
  | .ob k => ⟨((35 : UInt8) :: τ k).toArray⟩
def readV (s : ByteArray) (sort : Int) (objs : Nat) : Option Vl :=
  if sort = 1 then (if rightB s = true then some (.num (valB s)) else none)
  else if sort = 2 then (if s.toList = trueB.toList then some (.tr true) else if s.toList = falseB.toList then some (.tr false) else none)
  else if (s.data[0]? == some 35 && rightB (s.extract 1 s.size)) = true ∧ 0 ≤ valB (s.extract 1 s.size) ∧ valB (s.extract 1 s.size) < objs then some (.ob (valB (s.extract 1 s.size)).toNat) else none
def asInt : Vl → Int
  | .num z => z
  | _ => 0
def asBool : Vl → Bool
  | .tr b => b
  | _ => false
/-- The first row that fits, else what is told of all others. -/
def rowOf : List (List ByteArray × ByteArray) → List ByteArray → ByteArray → ByteArray
  | [], _, e => e
  | (a, o) :: rs, args, e => if a.map (·.toList) = args.map (·.toList) then o else rowOf rs args e
def tableOf (tbs : List Tb) (name : ByteArray) : Option Tb := tbs.find? fun x => x.name.toList == name.toList
def outOf (sig : List Fn) (name : ByteArray) : Int := match foundFn sig name with | some f => f.out | none => 0
def appV (τ : Nat → List UInt8) (sig : List Fn) (tbs : List Tb) (objs : Nat) (name : ByteArray) (vs : List Vl) : Except Int Vl :=
  match tableOf tbs name with
  | none => .error 40
  | some tb => match readV (rowOf tb.rows (vs.map (textV τ)) tb.els) (outOf sig name) objs with
    | none => .error 40
    | some v => .ok v
def lookE (env : Env) (name : ByteArray) : Vl := match env.reverse.find? (fun v => v.1.toList == name.toList) with | some v => v.2 | none => .tr false
/-- A connective, an operator, of values. -/
def combV (τ : Nat → List UInt8) (op : Int) (n : ByteArray) (vs : List Vl) : Vl :=
  if op = 1 then .num (valB n)
  else if op = 2 then .tr true
  else if op = 3 then .tr false
  else if op = 4 then .tr (!asBool (vs.getD 0 (.tr false)))
  else if op = 5 then .tr (vs.all asBool)
  else if op = 6 then .tr (vs.any asBool)
  else if op = 7 then .tr (!asBool (vs.getD 0 (.tr false)) || asBool (vs.getD 1 (.tr false)))
  else if op = 8 then .tr (asBool (vs.getD 0 (.tr false)) == asBool (vs.getD 1 (.tr false)))
  else if op = 9 then .tr ((textV τ (vs.getD 0 (.tr false))).toList == (textV τ (vs.getD 1 (.tr false))).toList)
  else if op = 10 then .tr (decide (asInt (vs.getD 0 (.tr false)) ≤ asInt (vs.getD 1 (.tr false))))
  else if op = 11 then .tr (decide (asInt (vs.getD 0 (.tr false)) < asInt (vs.getD 1 (.tr false))))
  else if op = 12 then .num (vs.foldl (fun a v => a + asInt v) 0)
  else if op = 13 then .num (asInt (vs.getD 0 (.tr false)) - asInt (vs.getD 1 (.tr false)))
  else if op = 14 then .num (-asInt (vs.getD 0 (.tr false)))
  else if op = 15 then .num (asInt (vs.getD 0 (.tr false)) * asInt (vs.getD 1 (.tr false)))
  else if op = 16 then (if asBool (vs.getD 0 (.tr false)) then vs.getD 1 (.tr false) else vs.getD 2 (.tr false))
  else .tr false
/-- With all objects from k on, n of them; all are asked, up to the first error. -/
def allObs (f : Nat → Except Int Bool) : Nat → Nat → Except Int Bool
  | _, 0 => .ok true
  | k, n + 1 => match f k with
    | .error e => .error e
    | .ok b => match allObs f (k + 1) n with
      | .error e => .error e
      | .ok c => .ok (b && c)
def allVars (objs : Nat) (f : Env → Except Int Bool) : List ByteArray → Env → Except Int Bool
  | [], env => f env
  | x :: xs, env => allObs (fun k => allVars objs f xs (env ++ [(x, .ob k)])) 0 objs
def boolOf : Except Int Vl → Except Int Bool
  | .error e => .error e
  | .ok v => .ok (asBool v)
def trOf : Except Int Bool → Except Int Vl
  | .error e => .error e
  | .ok b => .ok (.tr b)
def bindL : Except Int (List Vl) → (List Vl → Except Int Vl) → Except Int Vl
  | .error e, _ => .error e
  | .ok vs, f => f vs
def consV : Except Int Vl → Except Int (List Vl) → Except Int (List Vl)
  | .error e, _ => .error e
  | .ok _, .error e => .error e
  | .ok v, .ok vs => .ok (v :: vs)
mutual
def evalT (τ : Nat → List UInt8) (sig : List Fn) (tbs : List Tb) (objs : Nat) : Tm → Env → Except Int Vl
  | .mk op name sort n l vars pat, env =>
    if op = 19 then trOf (allVars objs (fun e => boolOf (evalHd τ sig tbs objs l e)) (vars.map (·.1)) env)
    else bindL (evals τ sig tbs objs l env) fun vs => if op = 17 then appV τ sig tbs objs name vs else if op = 18 then .ok (lookE env name) else .ok (combV τ op n vs)
def evalHd (τ : Nat → List UInt8) (sig : List Fn) (tbs : List Tb) (objs : Nat) : List Tm → Env → Except Int Vl
  | [], _ => .error 0
  | t :: _, env => evalT τ sig tbs objs t env
def evals (τ : Nat → List UInt8) (sig : List Fn) (tbs : List Tb) (objs : Nat) : List Tm → Env → Except Int (List Vl)
  | [], _ => .ok []
  | t :: ts, env => consV (evalT τ sig tbs objs t env) (evals τ sig tbs objs ts env)
end
/-- A value is of a sort. -/
def ofSort : Vl → Int → Prop
  | .num _, s => s = 1
  | .tr _, s => s = 2
  | .ob _, s => s = 3
end Go.Proofs.YtbnonccmlildnaaGreat

/- What is checked is worth a value of its sort. -/
namespace Go.Proofs.YtbnonccmlildnaaGreat
open Go.RowKit Go.Lib
variable {τ : Nat → List UInt8}

theorem checksS_get {sig : List Fn} {bd : Bd} : ∀ {l : List Tm}, (checksS sig l bd).2 = 0 → ∀ {j : Nat} {t : Tm}, l[j]? = some t → (checkS sig t bd).2 = 0 ∧ (checksS sig l bd).1[j]? = some (checkS sig t bd).1
  | [], _, j, t, h => by simp at h
  | u :: l, h, j, t, ht => by
    simp only [checksS] at h ⊢
    by_cases e1 : (checkS sig u bd).2 = 0
    · rw [if_neg (by simpa using e1)] at h ⊢
      by_cases e2 : (checksS sig l bd).2 = 0
      · rw [if_neg (by simpa using e2)]
        cases j with
        | zero => simp at ht; subst ht; exact ⟨e1, rfl⟩
        | succ j =>
          have := checksS_get e2 (j := j) (t := t) (by simpa using ht)
          exact ⟨this.1, by simpa using this.2⟩
      · rw [if_pos e2] at h; exact absurd h e2
    · rw [if_pos e1] at h; exact absurd h e1
theorem pick1 {a x : Int} (h : ((if a ≠ 0 then ((0 : Int), a) else (x, 0)) : Int × Int).2 = 0) : a = 0 ∧ ((if a ≠ 0 then ((0 : Int), a) else (x, 0)) : Int × Int).1 = x := by
  by_cases e : a = 0
  · exact ⟨e, by simp [e]⟩
  · rw [if_pos e] at h; exact absurd h e
/-- What a check that finds no error has seen. -/
theorem check_parts {sig : List Fn} {op sort : Int} {name n : ByteArray} {l : List Tm} {vars : Bd} {pat : List Tm} {bd : Bd} (h : (checkS sig (.mk op name sort n l vars pat) bd).2 = 0) :
    shapeB (.mk op name sort n l vars pat) = true ∧ ofE sig op name sort l.length bd = 0 ∧ (checksS sig l (if op = 19 then bd ++ vars else bd)).2 = 0 ∧ (nodeS sig op name sort (checksS sig l (if op = 19 then bd ++ vars else bd)).1).2 = 0 ∧
      (checkS sig (.mk op name sort n l vars pat) bd).1 = (nodeS sig op name sort (checksS sig l (if op = 19 then bd ++ vars else bd)).1).1 := by
  simp only [checkS] at h ⊢
  by_cases h1 : shapeB (.mk op name sort n l vars pat) = false
  · rw [if_pos h1] at h; cases h
  rw [if_neg h1] at h ⊢
  by_cases h2 : ofE sig op name sort l.length bd ≠ 0
  · rw [if_pos h2] at h; exact absurd h h2
  rw [if_neg h2] at h ⊢
  by_cases h3 : (checksS sig l (if op = 19 then bd ++ vars else bd)).2 ≠ 0
  · rw [if_pos h3] at h; exact absurd h h3
  rw [if_neg h3] at h ⊢
  obtain ⟨h4, h5⟩ := pick1 h
  refine ⟨by simpa using h1, by simpa using h2, by simpa using h3, ?_, h5⟩
  by_cases h6 : (nodeS sig op name sort (checksS sig l (if op = 19 then bd ++ vars else bd)).1).2 = 0
  · exact h6
  · rw [if_neg (c := op = 19 ∧ _) (fun e => h6 e.2)] at h4
    exact absurd h4 h6
/-- Bound variables are worth values of their sorts. -/
def EnvOK (env : Env) (bd : Bd) : Prop := env.length = bd.length ∧ ∀ (j : Nat) (x : ByteArray × Vl) (y : ByteArray × Int), env[j]? = some x → bd[j]? = some y → x.1 = y.1 ∧ ofSort x.2 y.2
theorem EnvOK.nil : EnvOK [] [] := ⟨rfl, by simp⟩
theorem EnvOK.snoc {env : Env} {bd : Bd} (h : EnvOK env bd) {x : ByteArray} {v : Vl} {s : Int} (hv : ofSort v s) : EnvOK (env ++ [(x, v)]) (bd ++ [(x, s)]) := by
  refine ⟨by simp [h.1], fun j a b ha hb => ?_⟩
  by_cases hj : j < env.length
  · rw [List.getElem?_append_left hj] at ha
    rw [List.getElem?_append_left (by rw [← h.1]; exact hj)] at hb
    exact h.2 j a b ha hb
  · rw [List.getElem?_append_right (by omega)] at ha
    rw [List.getElem?_append_right (by rw [← h.1]; omega), ← h.1] at hb
    cases hk : j - env.length with
    | zero =>
      rw [hk] at ha hb
      simp at ha hb
      subst ha hb
      exact ⟨rfl, hv⟩
    | succ k => rw [hk] at ha; simp at ha
theorem EnvOK.look : ∀ {env : Env} {bd : Bd}, EnvOK env bd → ∀ {nm : ByteArray} {v : ByteArray × Int}, lastVar bd nm = some v → ofSort (lookE env nm) v.2 := by
  intro env bd h nm v hv
  have key : ∀ (a : Env) (b : Bd), a.length = b.length → (∀ (j : Nat) (x : ByteArray × Vl) (y : ByteArray × Int), a[j]? = some x → b[j]? = some y → x.1 = y.1 ∧ ofSort x.2 y.2) → b.find? (fun v => v.1.toList == nm.toList) = some v → ∃ x, a.find? (fun v => v.1.toList == nm.toList) = some x ∧ ofSort x.2 v.2 := by
    intro a
    induction a with
    | nil =>
      intro b hl _ hf
      have : b = [] := List.eq_nil_of_length_eq_zero (by simpa using hl.symm)
      subst this
      simp at hf
    | cons x a ih =>
      intro b hl hp hf
      cases b with
      | nil => simp at hl
      | cons y b =>
        obtain ⟨h1, h2⟩ := hp 0 x y rfl rfl
        rw [List.find?_cons] at hf ⊢
        rw [h1]
        cases hc : (y.1.toList == nm.toList) with
        | true =>
          rw [hc] at hf
          simp at hf
          subst hf
          exact ⟨x, rfl, h2⟩
        | false =>
          rw [hc] at hf
          exact ih b (by simpa using hl) (fun j a' b' ha hb => hp (j + 1) a' b' (by simpa using ha) (by simpa using hb)) hf
  unfold lastVar at hv
  obtain ⟨x, h1, h2⟩ := key env.reverse bd.reverse (by simp [h.1]) (fun j a b ha hb => by
    have hj : j < env.length := by
      have := (List.getElem?_eq_some_iff.1 ha).1
      simpa using this
    rw [List.getElem?_reverse hj] at ha
    rw [List.getElem?_reverse (by rw [← h.1]; exact hj), ← h.1] at hb
    exact h.2 _ a b ha hb) hv
  unfold lookE
  rw [h1]
  exact h2
theorem readV_sort {s : ByteArray} {k : Int} {objs : Nat} {v : Vl} (h : readV s k objs = some v) (hk : 1 ≤ k ∧ k ≤ 3) : ofSort v k := by
  unfold readV at h
  split at h
  · split at h <;> cases h
    assumption
  · split at h
    · rename_i h2
      split at h
      · cases h; exact h2
      · split at h <;> cases h
        exact h2
    · split at h <;> cases h
      show k = 3
      omega
/-- Is something asked that can't be? -/
def askVars (objs : Nat) (op : Int) (vars : Bd) : Bool := op == 19 && (vars.any (fun v => v.2 != 3) || decide (65536 < (max objs 1) ^ vars.length))
mutual
def asksT (objs : Nat) : Tm → Bool
  | .mk op _ _ _ l vars _ => askVars objs op vars || asksTs objs l
def asksTs (objs : Nat) : List Tm → Bool
  | [] => false
  | t :: ts => asksT objs t || asksTs objs ts
end
theorem asksTs_get {objs : Nat} : ∀ {l : List Tm}, asksTs objs l = false → ∀ {j : Nat} {t : Tm}, l[j]? = some t → asksT objs t = false
  | [], _, j, t, h => by simp at h
  | u :: l, h, j, t, ht => by
    simp only [asksTs, Bool.or_eq_false_iff] at h
    cases j with
    | zero => simp at ht; subst ht; exact h.1
    | succ j => exact asksTs_get h.2 (by simpa using ht)
theorem consV_ok {a : Except Int Vl} {b : Except Int (List Vl)} {vs : List Vl} (h : consV a b = .ok vs) : ∃ v ws, a = .ok v ∧ b = .ok ws ∧ vs = v :: ws := by
  cases a with
  | error e => cases h
  | ok v =>
    cases b with
    | error e => cases h
    | ok ws => cases h; exact ⟨v, ws, rfl, rfl, rfl⟩
theorem bindL_ok {a : Except Int (List Vl)} {f : List Vl → Except Int Vl} {v : Vl} (h : bindL a f = .ok v) : ∃ vs, a = .ok vs ∧ f vs = .ok v := by
  cases a with
  | error e => cases h
  | ok vs => exact ⟨vs, rfl, h⟩
theorem trOf_ok {a : Except Int Bool} {v : Vl} (h : trOf a = .ok v) : ∃ b, a = .ok b ∧ v = .tr b := by
  cases a with
  | error e => cases h
  | ok b => cases h; exact ⟨b, rfl, rfl⟩
theorem evals_length {sig : List Fn} {tbs : List Tb} {objs : Nat} {env : Env} : ∀ {l : List Tm} {vs : List Vl}, evals τ sig tbs objs l env = .ok vs → vs.length = l.length
  | [], vs, h => by simp [evals] at h; subst h; rfl
  | t :: l, vs, h => by
    simp only [evals] at h
    obtain ⟨v, vs', h1, h2, rfl⟩ := consV_ok h
    simp [evals_length h2]
theorem evals_get {sig : List Fn} {tbs : List Tb} {objs : Nat} {env : Env} : ∀ {l : List Tm} {vs : List Vl}, evals τ sig tbs objs l env = .ok vs → ∀ {j : Nat} {t : Tm} {v : Vl}, l[j]? = some t → vs[j]? = some v → evalT τ sig tbs objs t env = .ok v
  | [], vs, h, j, t, v, ht, hv => by simp at ht
  | u :: l, vs, h, j, t, v, ht, hv => by
    simp only [evals] at h
    obtain ⟨v0, vs', h1, h2, rfl⟩ := consV_ok h
    cases j with
    | zero => simp at ht hv; subst ht hv; exact h1
    | succ j => exact evals_get h2 (by simpa using ht) (by simpa using hv)
theorem comb_num {op : Int} {n : ByteArray} {vs : List Vl} (h : op = 1 ∨ op = 12 ∨ op = 13 ∨ op = 14 ∨ op = 15) : ∃ z, combV τ op n vs = .num z := by
  rcases h with rfl | rfl | rfl | rfl | rfl <;> exact ⟨_, rfl⟩
theorem comb_tr {op : Int} {n : ByteArray} {vs : List Vl} (h : ¬ (op = 1 ∨ op = 12 ∨ op = 13 ∨ op = 14 ∨ op = 15)) (h16 : ¬ op = 16) : ∃ b, combV τ op n vs = .tr b := by
  by_cases o2 : op = 2
  · subst o2; exact ⟨_, rfl⟩
  by_cases o3 : op = 3
  · subst o3; exact ⟨_, rfl⟩
  by_cases o4 : op = 4
  · subst o4; exact ⟨_, rfl⟩
  by_cases o5 : op = 5
  · subst o5; exact ⟨_, rfl⟩
  by_cases o6 : op = 6
  · subst o6; exact ⟨_, rfl⟩
  by_cases o7 : op = 7
  · subst o7; exact ⟨_, rfl⟩
  by_cases o8 : op = 8
  · subst o8; exact ⟨_, rfl⟩
  by_cases o9 : op = 9
  · subst o9; exact ⟨_, rfl⟩
  by_cases o10 : op = 10
  · subst o10; exact ⟨_, rfl⟩
  by_cases o11 : op = 11
  · subst o11; exact ⟨_, rfl⟩
  refine ⟨false, ?_⟩
  unfold combV
  rw [if_neg (by omega), if_neg o2, if_neg o3, if_neg o4, if_neg o5, if_neg o6, if_neg o7, if_neg o8, if_neg o9, if_neg o10, if_neg o11, if_neg (by omega), if_neg (by omega), if_neg (by omega), if_neg (by omega), if_neg h16]
theorem fixedS_fst {i o : Int} {xs : List Int} (h : (fixedS i o xs).2 = 0) : (fixedS i o xs).1 = o := by
  unfold fixedS at h ⊢
  by_cases c : (xs.all fun x => x == i) = true
  · rw [if_pos c]
  · rw [if_neg c] at h; cases h
theorem node_num {sig : List Fn} {op sort : Int} {name : ByteArray} {xs : List Int} (h : op = 1 ∨ op = 12 ∨ op = 13 ∨ op = 14 ∨ op = 15) (h0 : (nodeS sig op name sort xs).2 = 0) : (nodeS sig op name sort xs).1 = 1 := by
  rcases h with rfl | rfl | rfl | rfl | rfl
  · rfl
  all_goals
    have e : ∀ o : Int, o = 12 ∨ o = 13 ∨ o = 14 ∨ o = 15 → nodeS sig o name sort xs = fixedS 1 1 xs := fun o ho => by
      rcases ho with rfl | rfl | rfl | rfl <;> simp [nodeS]
    rw [e _ (by decide)] at h0 ⊢
    exact fixedS_fst h0
theorem node_tr {sig : List Fn} {op sort : Int} {name : ByteArray} {xs : List Int} (h : ¬ (op = 1 ∨ op = 12 ∨ op = 13 ∨ op = 14 ∨ op = 15)) (h16 : ¬ op = 16) (h17 : ¬ op = 17) (h18 : ¬ op = 18) (h0 : (nodeS sig op name sort xs).2 = 0) : (nodeS sig op name sort xs).1 = 2 := by
  by_cases o2 : op = 2 ∨ op = 3
  · rcases o2 with rfl | rfl <;> rfl
  by_cases o9 : op = 9
  · subst o9
    have e : nodeS sig 9 name sort xs = equalS (xs.getD 0 0) (xs.getD 1 0) := by simp [nodeS]
    rw [e] at h0 ⊢
    unfold equalS at h0 ⊢
    by_cases c : xs.getD 0 0 = xs.getD 1 0
    · rw [if_pos c]
    · rw [if_neg c] at h0; cases h0
  by_cases o10 : op = 10 ∨ op = 11
  · have e : nodeS sig op name sort xs = fixedS 1 2 xs := by rcases o10 with rfl | rfl <;> simp [nodeS]
    rw [e] at h0 ⊢
    exact fixedS_fst h0
  have e : nodeS sig op name sort xs = fixedS 2 2 xs := by
    unfold nodeS
    rw [if_neg (by omega), if_neg o2, if_neg o9, if_neg o10, if_neg (by omega), if_neg h16, if_neg h18, if_neg h17]
  rw [e] at h0 ⊢
  exact fixedS_fst h0
theorem evalT_sort (sig : List Fn) (tbs : List Tb) (objs : Nat) : ∀ (t : Tm) (bd : Bd) (env : Env) (v : Vl), (checkS sig t bd).2 = 0 → asksT objs t = false → EnvOK env bd → evalT τ sig tbs objs t env = .ok v → ofSort v (checkS sig t bd).1 := by
  intro t
  induction t using Tm.rec (motive_2 := fun l => ∀ (j : Nat) (t : Tm), l[j]? = some t → ∀ (bd : Bd) (env : Env) (v : Vl), (checkS sig t bd).2 = 0 → asksT objs t = false → EnvOK env bd → evalT τ sig tbs objs t env = .ok v → ofSort v (checkS sig t bd).1) with
  | nil => simp_all
  | cons u l ih1 ih2 =>
    rename_i j t ht bd env v a b c d
    cases j with
    | zero => simp at ht; subst ht; exact ih1 bd env v a b c d
    | succ j => exact ih2 j t (by simpa using ht) bd env v a b c d
  | mk op name sort n l vars pat ihl _ =>
    intro bd env v hc ha he hv
    obtain ⟨h1, h2, h3, h4, h5⟩ := check_parts hc
    rw [h5]
    clear h5 hc
    generalize hb2 : (if op = 19 then bd ++ vars else bd) = bd2 at *
    simp only [asksT, Bool.or_eq_false_iff] at ha
    simp only [evalT] at hv
    by_cases h19 : op = 19
    · rw [if_pos h19] at hv
      obtain ⟨b, _, rfl⟩ := trOf_ok hv
      · subst h19
        have hn : ∀ xs, nodeS sig 19 name sort xs = fixedS 2 2 xs := fun xs => by simp [nodeS]
        rw [hn] at h4 ⊢
        unfold fixedS at h4 ⊢
        split at h4
        · rename_i h7
          rw [if_pos h7]
          rfl
        · cases h4
    rw [if_neg h19] at hv
    obtain ⟨vs, hvs, hv2⟩ := bindL_ok hv
    clear hv
    have hv := hv2
    clear hv2
    by_cases h17 : op = 17
    · rw [if_pos h17] at hv
      subst h17
      unfold appV at hv
      cases hf : foundFn sig name with
      | none => simp [nodeS, hf] at h4
      | some f =>
        have h6 : nodeS sig 17 name sort (checksS sig l bd2).1 = funS f.args f.out (checksS sig l bd2).1 := by simp [nodeS, hf]
        rw [h6] at h4 ⊢
        unfold funS at h4 ⊢
        split at h4
        · rename_i h7
          rw [if_pos h7]
          have h8 : 1 ≤ f.out ∧ f.out ≤ 3 := by
            have := h7.2
            simp only [sortB, Bool.and_eq_true, decide_eq_true_eq] at this
            exact this
          split at hv
          · cases hv
          · split at hv
            · cases hv
            · rename_i w hw
              cases hv
              have : outOf sig name = f.out := by simp [outOf, hf]
              rw [this] at hw
              exact readV_sort hw h8
        · cases h4
    rw [if_neg h17] at hv
    by_cases h18 : op = 18
    · rw [if_pos h18] at hv
      cases hv
      subst h18
      have h6 : (varV bd name sort).2 = 0 := by simpa [ofE] using h2
      unfold varV at h6
      cases hl : lastVar bd name with
      | none => rw [hl] at h6; cases h6
      | some w =>
        rw [hl] at h6
        dsimp only at h6
        by_cases hs : w.2 = sort
        · have := he.look hl
          rw [hs] at this
          simpa [nodeS] using this
        · rw [if_neg hs] at h6; cases h6
    rw [if_neg h18] at hv
    cases hv
    rw [if_neg h19] at hb2
    subst hb2
    by_cases h16 : op = 16
    · subst h16
      have hll : l.length = 3 := by
        simp [shapeB] at h1
        omega
      have hvl := evals_length hvs
      have hxl := checksS_length sig bd l h3
      have g : ∀ j, j < 3 → ∃ t w, l[j]? = some t ∧ vs[j]? = some w ∧ vs.getD j (.tr false) = w ∧ (checksS sig l bd).1.getD j 0 = (checkS sig t bd).1 ∧ ofSort w (checkS sig t bd).1 := fun j hj => by
        have e1 : l[j]? = some l[j] := List.getElem?_eq_getElem (by omega)
        have e2 : vs[j]? = some vs[j] := List.getElem?_eq_getElem (by omega)
        obtain ⟨c1, c2⟩ := checksS_get h3 e1
        exact ⟨_, _, e1, e2, by rw [List.getD_eq_getElem?_getD, e2]; rfl, by rw [List.getD_eq_getElem?_getD, c2]; rfl, ihl j _ e1 bd env _ c1 (asksTs_get ha.2 e1) he (evals_get hvs e1 e2)⟩
      obtain ⟨t1, w1, _, _, d1, k1, s1⟩ := g 1 (by omega)
      obtain ⟨t2, w2, _, _, d2, k2, s2⟩ := g 2 (by omega)
      have hn : nodeS sig 16 name sort (checksS sig l bd).1 = iteS ((checksS sig l bd).1.getD 0 0) ((checksS sig l bd).1.getD 1 0) ((checksS sig l bd).1.getD 2 0) := by simp [nodeS]
      rw [hn] at h4 ⊢
      have hcv : combV τ 16 n vs = if asBool (vs.getD 0 (.tr false)) then vs.getD 1 (.tr false) else vs.getD 2 (.tr false) := by simp [combV]
      rw [hcv, d1, d2]
      rw [k1, k2] at h4 ⊢
      unfold iteS at h4 ⊢
      split at h4
      · rename_i h7
        rw [if_pos h7]
        split
        · exact s1
        · rw [h7.2]; exact s2
      · cases h4
    by_cases hnum : op = 1 ∨ op = 12 ∨ op = 13 ∨ op = 14 ∨ op = 15
    · obtain ⟨z, hz⟩ := comb_num (n := n) (vs := vs) hnum
      rw [hz, node_num hnum h4]
      rfl
    · obtain ⟨b, hb⟩ := comb_tr (n := n) (vs := vs) hnum h16
      rw [hb, node_tr hnum h16 h17 h18 h4]
      rfl
end Go.Proofs.YtbnonccmlildnaaGreat

/- A constant for a variable: what is worth what. -/
namespace Go.Proofs.YtbnonccmlildnaaGreat
open Go.RowKit Go.Lib
variable {τ : Nat → List UInt8}

def constT (z : ByteArray) : Tm := .mk 17 z 0 .empty [] [] []
def bindsX (vars : Bd) (x : ByteArray) : Bool := vars.any fun v => v.1.toList == x.toList
mutual
/-- A term for a variable, where it isn't bound within. -/
def putX (x : ByteArray) (u : Tm) : Tm → Tm
  | .mk op name sort n l vars pat => if (op == 18 && name.toList == x.toList) = true then u else if (op == 19 && bindsX vars x) = true then .mk op name sort n l vars pat else .mk op name sort n (putXs x u l) vars (putXs x u pat)
def putXs (x : ByteArray) (u : Tm) : List Tm → List Tm
  | [] => []
  | t :: ts => putX x u t :: putXs x u ts
end
mutual
/-- Is a function named? -/
def usesX (z : ByteArray) : Tm → Bool
  | .mk op name _ _ l _ pat => (op == 17 && name.toList == z.toList) || usesXs z l || usesXs z pat
def usesXs (z : ByteArray) : List Tm → Bool
  | [] => false
  | t :: ts => usesX z t || usesXs z ts
end
mutual
/-- Variables have no operands. -/
def leafT : Tm → Bool
  | .mk op _ _ _ l _ _ => (!(op == 18) || l.isEmpty) && leafTs l
def leafTs : List Tm → Bool
  | [] => true
  | t :: ts => leafT t && leafTs ts
end
mutual
theorem leaf_checked (sig : List Fn) : ∀ (t : Tm) (bd : Bd), (checkS sig t bd).2 = 0 → leafT t = true
  | .mk op name sort n l vars pat, bd, h => by
    obtain ⟨h1, _, h3, _⟩ := check_parts h
    simp only [leafT, Bool.and_eq_true, Bool.or_eq_true, Bool.not_eq_true']
    refine ⟨?_, leafs_checked sig l _ h3⟩
    by_cases e : op = 18
    · subst e
      simp [shapeB] at h1
      exact .inr (by simp [h1.1])
    · exact .inl (beq_eq_false_iff_ne.2 e)
theorem leafs_checked (sig : List Fn) : ∀ (l : List Tm) (bd : Bd), (checksS sig l bd).2 = 0 → leafTs l = true
  | [], _, _ => rfl
  | t :: ts, bd, h => by
    have h1 := checksS_get h (j := 0) (t := t) rfl
    simp only [checksS] at h
    rw [if_neg (by simpa using h1.1)] at h
    have h2 : (checksS sig ts bd).2 = 0 := by
      by_cases e : (checksS sig ts bd).2 = 0
      · exact e
      · rw [if_pos e] at h; exact absurd h e
    simp only [leafTs, Bool.and_eq_true]
    exact ⟨leaf_checked sig t bd h1.1, leafs_checked sig ts bd h2⟩
end
def inEnv (env : Env) (x : ByteArray) : Bool := env.any fun v => v.1.toList == x.toList
theorem inEnv_append (a b : Env) (x : ByteArray) : inEnv (a ++ b) x = (inEnv a x || inEnv b x) := by simp [inEnv]
theorem lookE_shadow {env : Env} {x nm : ByteArray} {v : Vl} (h : inEnv env nm = true) : lookE ((x, v) :: env) nm = lookE env nm := by
  unfold lookE
  rw [List.reverse_cons, List.find?_append]
  have : env.reverse.find? (fun v => v.1.toList == nm.toList) ≠ none := by
    intro e
    rw [List.find?_eq_none] at e
    unfold inEnv at h
    obtain ⟨w, hw, h2⟩ := List.any_eq_true.1 h
    exact e w (List.mem_reverse.2 hw) h2
  cases hf : env.reverse.find? (fun v => v.1.toList == nm.toList) with
  | none => exact absurd hf this
  | some w => rfl
theorem lookE_other {env : Env} {x nm : ByteArray} {v : Vl} (h : (x.toList == nm.toList) = false) : lookE ((x, v) :: env) nm = lookE env nm := by
  unfold lookE
  rw [List.reverse_cons, List.find?_append]
  have : [(x, v)].find? (fun v => v.1.toList == nm.toList) = none := by simp [List.find?_cons, h]
  rw [this]
  simp
theorem lookE_here {env : Env} {x nm : ByteArray} {v : Vl} (h : (x.toList == nm.toList) = true) (h2 : inEnv env nm = false) : lookE ((x, v) :: env) nm = v := by
  unfold lookE
  rw [List.reverse_cons, List.find?_append]
  have h3 : env.reverse.find? (fun v => v.1.toList == nm.toList) = none := by
    rw [List.find?_eq_none]
    intro w hw h4
    unfold inEnv at h2
    rw [List.any_eq_false] at h2
    exact h2 w (List.mem_reverse.1 hw) h4
  rw [h3]
  simp [List.find?_cons, h]
/-- Two ways to ask of all objects, where what is asked is the same. -/
theorem allObs_congr {f g : Nat → Except Int Bool} : ∀ (n k : Nat), (∀ j, f j = g j) → allObs f k n = allObs g k n
  | 0, _, _ => rfl
  | n + 1, k, h => by simp only [allObs, h k, allObs_congr n (k + 1) h]
theorem allVars_congr {objs : Nat} {f g : Env → Except Int Bool} {p : ByteArray × Vl} : ∀ (xs : List ByteArray) (env : Env), (∀ ext : Env, ext.map (·.1) = xs → f (p :: (env ++ ext)) = g (env ++ ext)) → allVars objs f xs (p :: env) = allVars objs g xs env
  | [], env, h => by simpa [allVars] using h [] rfl
  | x :: xs, env, h => by
    simp only [allVars]
    refine allObs_congr _ _ fun k => ?_
    have := allVars_congr (objs := objs) (f := f) (g := g) (p := p) xs (env ++ [(x, .ob k)]) (fun ext he => by
      have := h ((x, .ob k) :: ext) (by simp [he])
      simpa using this)
    simpa using this
theorem allVars_same {objs : Nat} {f g : Env → Except Int Bool} : ∀ (xs : List ByteArray) (env : Env), (∀ e, f e = g e) → allVars objs f xs env = allVars objs g xs env
  | [], env, h => by simpa [allVars] using h env
  | x :: xs, env, h => by
    simp only [allVars]
    exact allObs_congr _ _ fun k => allVars_same xs _ h
theorem inEnv_ext {ext : Env} {vars : Bd} {x : ByteArray} (h : ext.map (·.1) = vars.map (·.1)) : inEnv ext x = bindsX vars x := by
  unfold inEnv bindsX
  have e1 : (ext.any fun v => v.1.toList == x.toList) = (ext.map (·.1)).any (fun s => s.toList == x.toList) := by rw [List.any_map]; rfl
  have e2 : (vars.any fun v => v.1.toList == x.toList) = (vars.map (·.1)).any (fun s => s.toList == x.toList) := by rw [List.any_map]; rfl
  rw [e1, e2, h]
section
variable (sig : List Fn) (tbs : List Tb) (objs : Nat)
mutual
/-- A variable that is hidden says nothing. -/
theorem eval_shadow (x : ByteArray) (v : Vl) : ∀ (t : Tm) (env : Env), inEnv env x = true → evalT τ sig tbs objs t ((x, v) :: env) = evalT τ sig tbs objs t env
  | .mk op name sort n l vars pat, env, h => by
    simp only [evalT]
    by_cases h19 : op = 19
    · rw [if_pos h19, if_pos h19]
      rw [allVars_congr (g := fun e => boolOf (evalHd τ sig tbs objs l e)) (vars.map (·.1)) env (fun ext he => by
        rw [evalHd_shadow x v l (env ++ ext) (by rw [inEnv_append, h]; rfl)])]
    · rw [if_neg h19, if_neg h19, evals_shadow x v l env h]
      have hl : lookE ((x, v) :: env) name = lookE env name := by
        cases hn : (x.toList == name.toList) with
        | false => exact lookE_other hn
        | true =>
          refine lookE_shadow ?_
          have : x.toList = name.toList := by simpa using hn
          unfold inEnv at h ⊢
          rw [← this]
          exact h
      rw [hl]
theorem evalHd_shadow (x : ByteArray) (v : Vl) : ∀ (l : List Tm) (env : Env), inEnv env x = true → evalHd τ sig tbs objs l ((x, v) :: env) = evalHd τ sig tbs objs l env
  | [], _, _ => rfl
  | t :: _, env, h => by simp only [evalHd]; exact eval_shadow x v t env h
theorem evals_shadow (x : ByteArray) (v : Vl) : ∀ (l : List Tm) (env : Env), inEnv env x = true → evals τ sig tbs objs l ((x, v) :: env) = evals τ sig tbs objs l env
  | [], _, _ => rfl
  | t :: ts, env, h => by simp only [evals]; rw [eval_shadow x v t env h, evals_shadow x v ts env h]
end
variable {sig tbs objs} (z : ByteArray) (e0 : ByteArray)
theorem foundFn_cons {f : Fn} {nm : ByteArray} (h : (f.name.toList == nm.toList) = false) : foundFn (f :: sig) nm = foundFn sig nm := by
  unfold foundFn firstFn
  rw [List.findIdx?_cons]
  simp only [h]
  cases hk : sig.findIdx? (fun f => f.name.toList == nm.toList) with
  | none => simp
  | some k => simp
theorem appV_other {nm : ByteArray} {vs : List Vl} (h : (z.toList == nm.toList) = false) : appV τ (⟨z, [], 3⟩ :: sig) (⟨z, [], e0⟩ :: tbs) objs nm vs = appV τ sig tbs objs nm vs := by
  have h1 : foundFn (⟨z, [], 3⟩ :: sig) nm = foundFn sig nm := foundFn_cons h
  have h2 : tableOf (⟨z, [], e0⟩ :: tbs) nm = tableOf tbs nm := by
    unfold tableOf
    rw [List.find?_cons]
    simp only [h]
  unfold appV outOf
  rw [h1, h2]
mutual
/-- A function that isn't named says nothing. -/
theorem eval_frame : ∀ (t : Tm) (env : Env), usesX z t = false → evalT τ (⟨z, [], 3⟩ :: sig) (⟨z, [], e0⟩ :: tbs) objs t env = evalT τ sig tbs objs t env
  | .mk op name sort n l vars pat, env, h => by
    simp only [usesX, Bool.or_eq_false_iff] at h
    simp only [evalT]
    by_cases h19 : op = 19
    · rw [if_pos h19, if_pos h19]
      rw [allVars_same (g := fun e => boolOf (evalHd τ sig tbs objs l e)) (vars.map (·.1)) env (fun e => by
        rw [evalHd_frame l e h.1.2])]
    · rw [if_neg h19, if_neg h19, evals_frame l env h.1.2]
      by_cases h17 : op = 17
      · simp only [if_pos h17]
        have h1 : (z.toList == name.toList) = false := by
          have := h.1.1
          subst h17
          simp at this
          rw [beq_eq_false_iff_ne]
          exact fun e => this e.symm
        simp only [appV_other z e0 h1]
      · simp only [if_neg h17]
theorem evalHd_frame : ∀ (l : List Tm) (env : Env), usesXs z l = false → evalHd τ (⟨z, [], 3⟩ :: sig) (⟨z, [], e0⟩ :: tbs) objs l env = evalHd τ sig tbs objs l env
  | [], _, _ => rfl
  | t :: _, env, h => by
    simp only [usesXs, Bool.or_eq_false_iff] at h
    simp only [evalHd]
    exact eval_frame t env h.1
theorem evals_frame : ∀ (l : List Tm) (env : Env), usesXs z l = false → evals τ (⟨z, [], 3⟩ :: sig) (⟨z, [], e0⟩ :: tbs) objs l env = evals τ sig tbs objs l env
  | [], _, _ => rfl
  | t :: ts, env, h => by
    simp only [usesXs, Bool.or_eq_false_iff] at h
    simp only [evals]
    rw [eval_frame t env h.1, evals_frame ts env h.2]
end
mutual
/-- A constant that is worth what a variable is worth, in its place. -/
theorem eval_put (x : ByteArray) (v : Vl) (hz : ∀ env, evalT τ (⟨z, [], 3⟩ :: sig) (⟨z, [], e0⟩ :: tbs) objs (constT z) env = .ok v) : ∀ (t : Tm) (env : Env), leafT t = true → usesX z t = false → inEnv env x = false →
    evalT τ sig tbs objs t ((x, v) :: env) = evalT τ (⟨z, [], 3⟩ :: sig) (⟨z, [], e0⟩ :: tbs) objs (putX x (constT z) t) env
  | .mk op name sort n l vars pat, env, hlf, h, hx => by
    have h' := h
    simp only [leafT, Bool.and_eq_true] at hlf
    simp only [usesX, Bool.or_eq_false_iff] at h
    simp only [putX]
    by_cases h18 : (op == 18 && name.toList == x.toList) = true
    · rw [if_pos h18, hz]
      simp only [Bool.and_eq_true, beq_iff_eq] at h18
      obtain ⟨rfl, hn⟩ := h18
      have hl : l = [] := by simpa using hlf.1
      subst hl
      have hn2 : (x.toList == name.toList) = true := by simp [hn]
      have hx2 : inEnv env name = false := by
        unfold inEnv at hx ⊢
        rw [hn]
        exact hx
      have h3 : lookE ((x, v) :: env) name = v := lookE_here hn2 hx2
      simp only [evalT, evals, bindL]
      simp [h3]
    · rw [if_neg h18]
      by_cases h19 : (op == 19 && bindsX vars x) = true
      · rw [if_pos h19, eval_frame z e0 _ env h']
        simp only [Bool.and_eq_true, beq_iff_eq] at h19
        obtain ⟨rfl, hb⟩ := h19
        simp only [evalT, if_true]
        rw [allVars_congr (g := fun e => boolOf (evalHd τ sig tbs objs l e)) (vars.map (·.1)) env (fun ext he => by
            rw [evalHd_shadow sig tbs objs x v l (env ++ ext) (by rw [inEnv_append, inEnv_ext he, hb, Bool.or_true])])]
      · rw [if_neg h19]
        simp only [evalT]
        by_cases ho : op = 19
        · have hb : bindsX vars x = false := by
            cases hb : bindsX vars x with
            | false => rfl
            | true => rw [hb, ho] at h19; simp at h19
          rw [if_pos ho, if_pos ho]
          rw [allVars_congr (g := fun e => boolOf (evalHd τ (⟨z, [], 3⟩ :: sig) (⟨z, [], e0⟩ :: tbs) objs (putXs x (constT z) l) e)) (vars.map (·.1)) env (fun ext he => by
                rw [evalHd_put x v hz l (env ++ ext) hlf.2 h.1.2 (by rw [inEnv_append, hx, inEnv_ext he, hb]; rfl)])]
        · rw [if_neg ho, if_neg ho, evals_put x v hz l env hlf.2 h.1.2 hx]
          by_cases h17 : op = 17
          · simp only [if_pos h17]
            have h1 : (z.toList == name.toList) = false := by
              have := h.1.1
              subst h17
              simp at this
              rw [beq_eq_false_iff_ne]
              exact fun e => this e.symm
            simp only [appV_other z e0 h1]
          · simp only [if_neg h17]
            by_cases ho18 : op = 18
            · simp only [if_pos ho18]
              have h1 : (x.toList == name.toList) = false := by
                rw [ho18] at h18
                simp at h18
                rw [beq_eq_false_iff_ne]
                exact fun e => h18 e.symm
              rw [lookE_other h1]
            · simp only [if_neg ho18]
theorem evalHd_put (x : ByteArray) (v : Vl) (hz : ∀ env, evalT τ (⟨z, [], 3⟩ :: sig) (⟨z, [], e0⟩ :: tbs) objs (constT z) env = .ok v) : ∀ (l : List Tm) (env : Env), leafTs l = true → usesXs z l = false → inEnv env x = false →
    evalHd τ sig tbs objs l ((x, v) :: env) = evalHd τ (⟨z, [], 3⟩ :: sig) (⟨z, [], e0⟩ :: tbs) objs (putXs x (constT z) l) env
  | [], _, _, _, _ => rfl
  | t :: _, env, hlf, h, hx => by
    simp only [usesXs, Bool.or_eq_false_iff] at h
    simp only [leafTs, Bool.and_eq_true] at hlf
    simp only [putXs, evalHd]
    exact eval_put x v hz t env hlf.1 h.1 hx
theorem evals_put (x : ByteArray) (v : Vl) (hz : ∀ env, evalT τ (⟨z, [], 3⟩ :: sig) (⟨z, [], e0⟩ :: tbs) objs (constT z) env = .ok v) : ∀ (l : List Tm) (env : Env), leafTs l = true → usesXs z l = false → inEnv env x = false →
    evals τ sig tbs objs l ((x, v) :: env) = evals τ (⟨z, [], 3⟩ :: sig) (⟨z, [], e0⟩ :: tbs) objs (putXs x (constT z) l) env
  | [], _, _, _, _ => rfl
  | t :: ts, env, hlf, h, hx => by
    simp only [usesXs, Bool.or_eq_false_iff] at h
    simp only [leafTs, Bool.and_eq_true] at hlf
    simp only [putXs, evals]
    have e1 := eval_put x v hz t env hlf.1 h.1 hx
    have e2 := evals_put x v hz ts env hlf.2 h.2 hx
    rw [e1, e2]
end
end
end Go.Proofs.YtbnonccmlildnaaGreat

/- The laws on opposites and on objects, plainly. -/
namespace Go.Proofs.YtbnonccmlildnaaGreat
open Go.RowKit Go.Lib
variable {τ : Nat → List UInt8}

/-- What a term is worth, or the error. -/
def valueS (τ : Nat → List UInt8) (sig : List Fn) (tbs : List Tb) (objs : Nat) (t : Tm) : Except Int Vl :=
  if (checkTop sig t).2 ≠ 0 then .error (checkTop sig t).2 else if asksT objs t = true then .error 41 else evalT τ sig tbs objs t []
theorem valueS_ok {sig : List Fn} {tbs : List Tb} {objs : Nat} {t : Tm} {v : Vl} (h : valueS τ sig tbs objs t = .ok v) : tdepth t ≤ 200 ∧ tsize t ≤ 50000 ∧ (checkS sig t []).2 = 0 ∧ asksT objs t = false ∧ evalT τ sig tbs objs t [] = .ok v := by
  unfold valueS at h
  by_cases h1 : (checkTop sig t).2 ≠ 0
  · rw [if_pos h1] at h; cases h
  rw [if_neg h1] at h
  have h1 : (checkTop sig t).2 = 0 := by simpa using h1
  by_cases h2 : asksT objs t = true
  · rw [if_pos h2] at h; cases h
  rw [if_neg h2] at h
  unfold checkTop at h1
  by_cases h3 : 200 < tdepth t
  · rw [if_pos h3] at h1; cases h1
  rw [if_neg h3] at h1
  by_cases h4 : 50000 < tsize t
  · rw [if_pos h4] at h1; cases h1
  rw [if_neg h4] at h1
  exact ⟨by omega, by omega, h1, by simpa using h2, h⟩
theorem valueS_of {sig : List Fn} {tbs : List Tb} {objs : Nat} {t : Tm} (h1 : tdepth t ≤ 200) (h2 : tsize t ≤ 50000) (h3 : (checkS sig t []).2 = 0) (h4 : asksT objs t = false) : valueS τ sig tbs objs t = evalT τ sig tbs objs t [] := by
  have h5 : checkTop sig t = checkS sig t [] := by
    unfold checkTop
    rw [if_neg (by omega), if_neg (by omega)]
  unfold valueS
  rw [h5, if_neg (by simpa using h3), h4]
  rfl
theorem itoa_head (z : Int) : ∃ c l, itoa z = c :: l ∧ (c = 45 ∨ (48 ≤ c.toNat ∧ c.toNat ≤ 57)) := by
  have hd : ∀ u : Nat, ∃ c l, decDigits u = c :: l ∧ (48 ≤ c.toNat ∧ c.toNat ≤ 57) := by
    intro u
    induction u using Nat.strongRecOn with
    | _ u ih =>
      by_cases h : u < 10
      · refine ⟨UInt8.ofNat (48 + u), [], by rw [decDigits, dif_pos h], ?_⟩
        have : (UInt8.ofNat (48 + u)).toNat = 48 + u := by
          rw [UInt8.toNat_ofNat']
          omega
        omega
      · obtain ⟨c, l, h1, h2⟩ := ih (u / 10) (by omega)
        exact ⟨c, l ++ [UInt8.ofNat (48 + u % 10)], by rw [decDigits, dif_neg h, h1]; rfl, h2⟩
  unfold itoa
  split
  · exact ⟨45, _, rfl, .inl rfl⟩
  · obtain ⟨c, l, h1, h2⟩ := hd z.toNat
    exact ⟨c, l, h1, .inr h2⟩
theorem toList_of (l : List UInt8) : (⟨l.toArray⟩ : ByteArray).toList = l := by rw [ByteArray.toList_eq]
theorem text_true {v : Vl} {b : Bool} (h : (textV τ v).toList = (if b then trueB else falseB).toList) : v = .tr b := by
  have hb : ∃ l, (if b then trueB else falseB).toList = (if b then (116 : UInt8) else 102) :: l := by
    cases b
    · exact ⟨[97, 108, 115, 101], by rw [ByteArray.toList_eq]; rfl⟩
    · exact ⟨[114, 117, 101], by rw [ByteArray.toList_eq]; rfl⟩
  obtain ⟨l, hl⟩ := hb
  rw [hl] at h
  cases v with
  | num z =>
    exfalso
    obtain ⟨c, m, h1, h2⟩ := itoa_head z
    rw [show textV τ (.num z) = ⟨(itoa z).toArray⟩ from rfl, toList_of, h1] at h
    have hc := (List.cons.inj h).1
    subst hc
    cases b <;> simp at h2
  | tr c =>
    cases b <;> cases c <;> first | rfl | (exfalso; simp [textV, trueB, falseB, ByteArray.toList_eq] at h)
  | ob k =>
    exfalso
    rw [show textV τ (.ob k) = ⟨((35 : UInt8) :: τ k).toArray⟩ from rfl, toList_of] at h
    have hc := (List.cons.inj h).1
    cases b <;> simp at hc
def opT (o : Int) (l : List Tm) : Tm := .mk o .empty 0 .empty l [] []
theorem check_op1 {sig : List Fn} {t : Tm} (h : checkS sig t [] = (2, 0)) : checkS sig (opT 4 [t]) [] = (2, 0) := by
  simp [opT, checkS, shapeB, ofE, checksS, h, nodeS, fixedS]
theorem check_op56 {sig : List Fn} {a b : Tm} {o : Int} (ho : o = 5 ∨ o = 6) (ha : checkS sig a [] = (2, 0)) (hb : checkS sig b [] = (2, 0)) : checkS sig (opT o [a, b]) [] = (2, 0) := by
  rcases ho with rfl | rfl <;> simp [opT, checkS, shapeB, ofE, checksS, ha, hb, nodeS, fixedS]
theorem check_tr {sig : List Fn} {tbs : List Tb} {objs : Nat} {t : Tm} {b : Bool} (h : valueS τ sig tbs objs t = .ok (.tr b)) : checkS sig t [] = (2, 0) := by
  obtain ⟨_, _, h3, h4, h5⟩ := valueS_ok h
  have h6 : (checkS sig t []).1 = 2 := evalT_sort sig tbs objs t [] [] _ h3 h4 EnvOK.nil h5
  exact Prod.ext h6 h3
theorem asks_op {objs : Nat} {o : Int} {l : List Tm} (ho : o ≠ 19) : asksT objs (opT o l) = asksTs objs l := by
  simp [opT, asksT, askVars, ho]
theorem eval_op {sig : List Fn} {tbs : List Tb} {objs : Nat} {o : Int} {l : List Tm} {env : Env} {vs : List Vl} (h : evals τ sig tbs objs l env = .ok vs) (h1 : o ≠ 19) (h2 : o ≠ 17) (h3 : o ≠ 18) : evalT τ sig tbs objs (opT o l) env = .ok (combV τ o .empty vs) := by
  simp only [opT, evalT]
  rw [if_neg h1, h]
  simp only [bindL]
  rw [if_neg h2, if_neg h3]
theorem evals_one {sig : List Fn} {tbs : List Tb} {objs : Nat} {env : Env} {t : Tm} {v : Vl} (h : evalT τ sig tbs objs t env = .ok v) : evals τ sig tbs objs [t] env = .ok [v] := by
  simp only [evals, h, consV]
theorem evals_two {sig : List Fn} {tbs : List Tb} {objs : Nat} {env : Env} {t u : Tm} {v w : Vl} (h : evalT τ sig tbs objs t env = .ok v) (k : evalT τ sig tbs objs u env = .ok w) : evals τ sig tbs objs [t, u] env = .ok [v, w] := by
  simp only [evals, h, k, consV]
/-- NOT, AND and OR of what is worth truths. -/
theorem turns {sig : List Fn} {tbs : List Tb} {objs : Nat} {a b : Tm} {x y : Bool} (ha : valueS τ sig tbs objs a = .ok (.tr x)) (hb : valueS τ sig tbs objs b = .ok (.tr y)) (da : tdepth a ≤ 150) (db : tdepth b ≤ 150) (sa : tsize a ≤ 1000) (sb : tsize b ≤ 1000) :
    valueS τ sig tbs objs (opT 4 [opT 5 [a, b]]) = .ok (.tr (!(x && y))) ∧ valueS τ sig tbs objs (opT 6 [opT 4 [a], opT 4 [b]]) = .ok (.tr (!x || !y)) ∧ valueS τ sig tbs objs (opT 4 [a]) = .ok (.tr (!x)) := by
  have ca := check_tr ha
  have cb := check_tr hb
  obtain ⟨_, _, _, qa, ea⟩ := valueS_ok ha
  obtain ⟨_, _, _, qb, eb⟩ := valueS_ok hb
  have na := check_op1 ca
  have nb := check_op1 cb
  have cab := check_op56 (.inl rfl) ca cb
  have ena : evalT τ sig tbs objs (opT 4 [a]) [] = .ok (.tr (!x)) := eval_op (evals_one ea) (by decide) (by decide) (by decide)
  have enb : evalT τ sig tbs objs (opT 4 [b]) [] = .ok (.tr (!y)) := eval_op (evals_one eb) (by decide) (by decide) (by decide)
  have eab : evalT τ sig tbs objs (opT 5 [a, b]) [] = .ok (.tr (x && y)) := by
    rw [eval_op (evals_two ea eb) (by decide) (by decide) (by decide)]
    simp [combV, asBool]
  have q1 : asksT objs (opT 4 [a]) = false := by rw [asks_op (by decide)]; simp [asksTs, qa]
  have q2 : asksT objs (opT 4 [b]) = false := by rw [asks_op (by decide)]; simp [asksTs, qb]
  have q3 : asksT objs (opT 5 [a, b]) = false := by rw [asks_op (by decide)]; simp [asksTs, qa, qb]
  refine ⟨?_, ?_, ?_⟩
  · rw [valueS_of (by simp only [opT, tdepth, tdepths]; omega) (by simp only [opT, tsize, tsizes]; omega) (by rw [check_op1 cab]) (by rw [asks_op (by decide)]; simp [asksTs, q3])]
    rw [eval_op (evals_one eab) (by decide) (by decide) (by decide)]
    rfl
  · rw [valueS_of (by simp only [opT, tdepth, tdepths]; omega) (by simp only [opT, tsize, tsizes]; omega) (by rw [check_op56 (.inr rfl) na nb]) (by rw [asks_op (by decide)]; simp [asksTs, q1, q2])]
    rw [eval_op (evals_two ena enb) (by decide) (by decide) (by decide)]
    simp [combV, asBool]
  · rw [valueS_of (by simp only [opT, tdepth, tdepths]; omega) (by simp only [opT, tsize, tsizes]; omega) (by rw [na]) q1]
    exact ena
end Go.Proofs.YtbnonccmlildnaaGreat

/- What holds of all objects holds of each, plainly. -/
namespace Go.Proofs.YtbnonccmlildnaaGreat
open Go.RowKit Go.Lib
variable {τ : Nat → List UInt8}

def objB (i : Nat) : ByteArray := ⟨#[35, UInt8.ofNat (48 + i)]⟩
theorem readV_obj {i objs : Nat} (hi : i < objs) (h3 : i < 3) : readV (objB i) 3 objs = some (.ob i) := by
  have e : ((objB i).data[0]? == some 35 && rightB ((objB i).extract 1 (objB i).size)) = true ∧ valB ((objB i).extract 1 (objB i).size) = i := by
    have h : i = 0 ∨ i = 1 ∨ i = 2 := by omega
    rcases h with rfl | rfl | rfl <;> exact ⟨by decide +kernel, by decide +kernel⟩
  unfold readV
  rw [if_neg (by decide), if_neg (by decide), e.2, if_pos ⟨e.1, by omega, by omega⟩]
  simp
theorem eval_const {sig : List Fn} {tbs : List Tb} {objs i : Nat} {z : ByteArray} (hi : i < objs) (h3 : i < 3) (env : Env) : evalT τ (⟨z, [], 3⟩ :: sig) (⟨z, [], objB i⟩ :: tbs) objs (constT z) env = .ok (.ob i) := by
  have h1 : foundFn (⟨z, [], 3⟩ :: sig) z = some ⟨z, [], 3⟩ := by
    unfold foundFn firstFn
    rw [List.findIdx?_cons]
    simp
  have h2 : tableOf (⟨z, [], objB i⟩ :: tbs) z = some ⟨z, [], objB i⟩ := by
    unfold tableOf
    rw [List.find?_cons]
    simp
  simp only [constT, evalT]
  rw [if_neg (by decide)]
  simp only [evals, bindL, if_true]
  unfold appV outOf
  rw [h1, h2]
  simp only [rowOf, List.map_nil]
  rw [readV_obj hi h3]
theorem allObs_ok {f : Nat → Except Int Bool} : ∀ (n k : Nat) {b : Bool}, allObs f k n = .ok b → (∀ i, i < n → ∃ c, f (k + i) = .ok c) ∧ (b = true ↔ ∀ i, i < n → f (k + i) = .ok true)
  | 0, k, b, h => by
    simp only [allObs] at h
    cases h
    exact ⟨fun i hi => absurd hi (Nat.not_lt_zero _), by simp⟩
  | n + 1, k, b, h => by
    simp only [allObs] at h
    cases hf : f k with
    | error e => rw [hf] at h; cases h
    | ok c =>
      rw [hf] at h
      dsimp only at h
      cases hr : allObs f (k + 1) n with
      | error e => rw [hr] at h; cases h
      | ok d =>
        rw [hr] at h
        dsimp only at h
        cases h
        obtain ⟨h1, h2⟩ := allObs_ok n (k + 1) hr
        refine ⟨fun i hi => ?_, ?_⟩
        · cases i with
          | zero => exact ⟨c, hf⟩
          | succ i =>
            obtain ⟨e, he⟩ := h1 i (by omega)
            exact ⟨e, by rw [← he]; congr 1; omega⟩
        · rw [Bool.and_eq_true, h2]
          constructor
          · rintro ⟨rfl, h3⟩ i hi
            cases i with
            | zero => exact hf
            | succ i =>
              have := h3 i (by omega)
              rw [← this]
              congr 1
              omega
          · intro h3
            refine ⟨?_, fun i hi => ?_⟩
            · have := h3 0 (by omega)
              rw [Nat.add_zero, hf] at this
              cases this
              rfl
            · have := h3 (i + 1) (by omega)
              rw [← this]
              congr 1
              omega
/-- The law on objects. -/
theorem objects {sig : List Fn} {tbs : List Tb} {objs : Nat} {nm nn x z : ByteArray} {st s : Int} {body : Tm} {pat : List Tm} {v : Vl} (h0 : objs ≤ 3) (hu : usesX z (.mk 19 nm st nn [body] [(x, s)] pat) = false)
    (hv : valueS τ sig tbs objs (.mk 19 nm st nn [body] [(x, s)] pat) = .ok v) {w : Nat → Vl} (hw : ∀ i, i < objs → valueS τ (⟨z, [], 3⟩ :: sig) (⟨z, [], objB i⟩ :: tbs) objs (putX x (constT z) body) = .ok (w i)) :
    ∃ b, v = .tr b ∧ (∀ i, i < objs → ∃ c, w i = .tr c) ∧ (b = true ↔ ∀ i, i < objs → w i = .tr true) := by
  obtain ⟨_, _, hc, ha, he⟩ := valueS_ok hv
  obtain ⟨_, _, h3, h4, _⟩ := check_parts hc
  rw [if_pos rfl] at h3 h4
  have hcb := (checksS_get h3 (j := 0) (t := body) rfl)
  have hs : s = 3 := by
    simp only [asksT, askVars, Bool.or_eq_false_iff] at ha
    have := ha.1
    simp at this
    exact this.1
  subst hs
  have hb2 : (checkS sig body ([] ++ [(x, 3)])).1 = 2 := by
    have e : checksS sig [body] ([] ++ [(x, (3 : Int))]) = ([(checkS sig body ([] ++ [(x, 3)])).1], 0) := by
      simp only [checksS]
      rw [if_neg (by simpa using hcb.1)]
      simp
    rw [e] at h4
    have hn : nodeS sig 19 nm st [(checkS sig body ([] ++ [(x, 3)])).1] = fixedS 2 2 [(checkS sig body ([] ++ [(x, 3)])).1] := by simp [nodeS]
    rw [hn] at h4
    unfold fixedS at h4
    by_cases c : ([(checkS sig body ([] ++ [(x, 3)])).1].all fun y => y == 2) = true
    · simpa using c
    · rw [if_neg c] at h4; cases h4
  have hab : asksT objs body = false := by
    simp only [asksT, asksTs, Bool.or_eq_false_iff] at ha
    exact ha.2.1
  have hub : usesX z body = false := by
    simp only [usesX, usesXs, Bool.or_eq_false_iff] at hu
    exact hu.1.2.1
  have hlf := leaf_checked sig body _ hcb.1
  simp only [evalT, if_true] at he
  obtain ⟨b, hb, rfl⟩ := trOf_ok he
  simp only [List.map_cons, List.map_nil, allVars, List.nil_append, evalHd] at hb
  have hwi : ∀ i, i < objs → evalT τ sig tbs objs body [(x, .ob i)] = .ok (w i) := fun i hi => by
    obtain ⟨_, _, _, _, h5⟩ := valueS_ok (hw i hi)
    rw [← h5]
    exact eval_put z (objB i) x (.ob i) (fun env => eval_const hi (by omega) env) body [] hlf hub rfl
  obtain ⟨h5, h6⟩ := allObs_ok _ _ hb
  have hty : ∀ i, i < objs → ∃ c, w i = .tr c := fun i hi => by
    have := evalT_sort sig tbs objs body ([] ++ [(x, 3)]) [(x, Vl.ob i)] (w i) hcb.1 hab (EnvOK.snoc (env := []) (bd := []) (x := x) (v := .ob i) (s := 3) EnvOK.nil (by simp [ofSort])) (hwi i hi)
    rw [hb2] at this
    cases hwv : w i with
    | num z => rw [hwv] at this; cases this
    | tr c => exact ⟨c, rfl⟩
    | ob k => rw [hwv] at this; cases this
  refine ⟨b, rfl, hty, ?_⟩
  rw [h6]
  constructor
  · intro h i hi
    have h7 := h i hi
    rw [Nat.zero_add, hwi i hi] at h7
    obtain ⟨c, hc2⟩ := hty i hi
    rw [hc2] at h7 ⊢
    simp only [boolOf, asBool] at h7
    cases h7
    rfl
  · intro h i hi
    rw [Nat.zero_add, hwi i hi, h i hi]
    rfl
end Go.Proofs.YtbnonccmlildnaaGreat

/- 'compare': how two rows of digits compare. -/
namespace Go.Proofs.YtbnonccmlildnaaGreat
open Go.RowKit Go.Lib

/-- How two numbers compare. -/
def cmpN (a b : Nat) : Int := if a < b then -1 else if b < a then 1 else 0
theorem cmpN_lt {a b : Nat} (h : a < b) : cmpN a b = -1 := by rw [cmpN, if_pos h]
theorem cmpN_gt {a b : Nat} (h : b < a) : cmpN a b = 1 := by rw [cmpN, if_neg (by omega), if_pos h]
theorem cmpN_eq (a : Nat) : cmpN a a = 0 := by rw [cmpN, if_neg (by omega), if_neg (by omega)]
theorem split_at {ds : List Nat} {i x : Nat} (h : ds[i]? = some x) : ds = ds.take i ++ x :: ds.drop (i + 1) := by
  have hl := (List.getElem?_eq_some_iff.1 h)
  obtain ⟨hi, rfl⟩ := hl
  rw [← List.drop_eq_getElem_cons hi, List.take_append_drop]
theorem dval_split {ds es : List Nat} (hd : okD 4294967296 ds) (he : okD 4294967296 es) (hl : ds.length = es.length) {i x y : Nat} (hx : ds[i]? = some x) (hy : es[i]? = some y) (h : x < y) (hr : ds.drop (i + 1) = es.drop (i + 1)) : dval 4294967296 ds < dval 4294967296 es := by
  rw [split_at hx, split_at hy]
  have h1 := (List.getElem?_eq_some_iff.1 hx).1
  have h2 := (List.getElem?_eq_some_iff.1 hy).1
  refine dval_lt_at (by omega) (fun z hz => hd z (List.mem_of_mem_take hz)) (fun z hz => he z (List.mem_of_mem_take hz)) (by simp; omega) h hr
theorem DigAt.cell {w : World} {A : Option Addr} {ds : List Nat} (h : DigAt w A ds) {i : Nat} (hi : i < ds.length) : ∃ g x, A = some ⟨g, 0, none⟩ ∧ g < w.heap.size ∧ ds[i]? = some x ∧ w.cell? ⟨g, i, none⟩ = some (.int .u32 (x : Int)) := by
  rcases h with rfl | ⟨g, hA, hg, h⟩
  · simp at hi
  · have := List.getElem?_eq_getElem hi
    exact ⟨g, _, hA, blk_lt hg, this, h i _ this⟩

set_option maxRecDepth 100000 in
set_option maxHeartbeats 1000000 in
theorem compare_ex {w : World} {A B : Option Addr} {ds es : List Nat} {n m ca cb : Nat} (hA : DigAt w A ds) (hB : DigAt w B es) (hd : okD 4294967296 ds) (he : okD 4294967296 es) (cd : canon ds) (ce : canon es) (hn : n = ds.length) (hm : m = es.length) (bn : n ≤ 60000000000000) (bm : m ≤ 60000000000000) :
    Calls Tryz.prog 101 #[.slice A n ca, .slice B m cb] w fun e w' => e = .returned (.int .i64 (cmpN (dval 4294967296 ds) (dval 4294967296 es))) ∧ Below w.heap.size w w' := by
  have Hn := Lib.hid hn
  have Hm := Lib.hid hm
  have HA := Lib.hid hA
  have HB := Lib.hid hB
  have Hd := Lib.hid hd
  have He := Lib.hid he
  by_cases hnm : n = m
  · subst hnm
    clear hA hB hd he hn hm
    go_enter Tryz.func101, Tryz.ntmps101
    go_wp2_with fail
    go_loopw [5] (fun v wr => ∃ k : Nat, v = .int .i64 ((k : Int) - 1) ∧ k ≤ n ∧ Hid (Below w.heap.size w wr) ∧ Hid (ds.drop k = es.drop k)) (fun v _ => (intOf v + 1).toNat)
    case atStart => exact ⟨n, rfl, Nat.le_refl _, Lib.hid (Below.refl _ _), Lib.hid (by have h1 := Hn.out; have h2 := Hm.out; rw [List.drop_of_length_le (by omega), List.drop_of_length_le (by omega)])⟩
    case round =>
      obtain ⟨k, rfl, hk, Hb, Hr⟩ := hrel
      have HA := Lib.hid (HA.out.mono (Nat.le_refl _) Hb.out)
      have HB := Lib.hid (HB.out.mono (Nat.le_refl _) Hb.out)
      cases k with
      | zero =>
        go_wp2_with fail
        go_ret
        have h1 := Hr.out
        simp only [List.drop_zero] at h1
        rw [h1, cmpN_eq]
        exact ⟨rfl, Hb.out⟩
      | succ j =>
        have hj : (((j + 1 : Nat) : Int) - 1) = (j : Int) := by omega
        rw [hj]
        obtain ⟨g, x, rfl, hg, hx, hcx⟩ := HA.out.cell (i := j) (by have := Hn.out; omega)
        obtain ⟨g', y, rfl, hg', hy, hcy⟩ := HB.out.cell (i := j) (by have := Hm.out; omega)
        have Hx := Lib.hid hx
        have Hy := Lib.hid hy
        have hl2 : ds.length = es.length := by have h1 := Hn.out; have h2 := Hm.out; omega
        rcases Nat.lt_trichotomy x y with h | h | h
        · have hlt : ((x : Int) < (y : Int)) := by omega
          have Hlt := Lib.hid (cmpN_lt (dval_split Hd.out He.out hl2 hx hy h Hr.out))
          clear hx hy hl2
          go_wp2_with fail
          go_region
          go_wp2_with fail
          go_ret
          rw [Hlt.out]
          exact ⟨rfl, Hb.out.drew⟩
        · have hlt : ¬ ((x : Int) < (y : Int)) := by omega
          have hgt : ¬ ((y : Int) < (x : Int)) := by omega
          have Hr2 : Hid (ds.drop j = es.drop j) := Lib.hid (by
            obtain ⟨i1, e1⟩ := List.getElem?_eq_some_iff.1 hx
            obtain ⟨i2, e2⟩ := List.getElem?_eq_some_iff.1 hy
            rw [List.drop_eq_getElem_cons i1, List.drop_eq_getElem_cons i2, e1, e2, h, Hr.out])
          clear hx hy hl2
          go_wp2_with fail
          go_region
          go_wp2_with fail
          go_region
          go_wp2_with fail
          go_roundw
          case rel => exact ⟨j, rfl, by omega, Lib.hid Hb.out.drew.drew, Hr2⟩
          case measure => simp [intOf]
        · have hlt : ¬ ((x : Int) < (y : Int)) := by omega
          have hgt : ((y : Int) < (x : Int)) := by omega
          have Hlt := Lib.hid (cmpN_gt (dval_split He.out Hd.out hl2.symm hy hx h Hr.out.symm))
          clear hx hy hl2
          go_wp2_with fail
          go_region
          go_wp2_with fail
          go_region
          go_wp2_with fail
          go_ret
          rw [Hlt.out]
          exact ⟨rfl, Hb.out.drew.drew⟩
  · rcases Nat.lt_or_gt_of_ne hnm with h | h
    · have Hlt := Lib.hid (cmpN_lt (dval_lt_len (B := 4294967296) (by omega) hd ce (by omega)))
      clear hA hB hd he hn hm HA HB Hd He Hn Hm
      have b1 : ((n : Int) == (m : Int)) = false := by rw [beq_eq_false_iff_ne]; omega
      go_enter Tryz.func101, Tryz.ntmps101
      go_wp2_with fail
      all_goals
        go_ret
        refine ⟨?_, Below.refl _ _⟩
        rw [Hlt.out]
        show Ending.returned (Value.int IntKind.i64 _) = _
        congr 2
        try omega
    · have Hlt := Lib.hid (cmpN_gt (dval_lt_len (B := 4294967296) (by omega) he cd (by omega)))
      clear hA hB hd he hn hm HA HB Hd He Hn Hm
      have b1 : ((n : Int) == (m : Int)) = false := by rw [beq_eq_false_iff_ne]; omega
      go_enter Tryz.func101, Tryz.ntmps101
      go_wp2_with fail
      all_goals
        go_ret
        refine ⟨?_, Below.refl _ _⟩
        rw [Hlt.out]
        show Ending.returned (Value.int IntKind.i64 _) = _
        congr 2
        try omega
end Go.Proofs.YtbnonccmlildnaaGreat
