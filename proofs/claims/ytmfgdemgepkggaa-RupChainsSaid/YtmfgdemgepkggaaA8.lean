/- The reference's small functions: 'worth', 'whole'. -/
import Derived.Test.YtmfgdemgepkggaaA7
namespace Go.Proofs.Ytmfgdemgepkggaa
open Go.RowKit Go.Maps Go.ChangeMaps

/-- 'm[k]' at an operation that is guarded, and wanted. -/
theorem wpList_lookup_mapv_w {P : Program} (w : World) {ops : Array Oper} {rest : List Oper} {o : Oper} {a : Act} {Q : Exit → Act → World → Prop}
    (hg : Region.wanted o (yielded ops a.tmps) = true) (m x : Operand) (t : TypeId) (hop : o.op = Op.lookup t m x false)
    (k e : TypeId) (K : Keyed P k) (ht : P.underlying t = some (.map k e)) (z : Value) (hz : (zeroValue e).run P w = .ok z w) (b n : Nat) (f : Lit → Option Value)
    (hm : a.eval m = .map (some b)) (hown : MapV P k w b n f) (key : Value) (kl : Lit) (hx : a.eval x = key) (hkey : keyOf P k key = some kl)
    (v : Value) (hv : (f kl).getD z = v) (hK : wpList P ops Q rest (a.put o.dst v) w) :
    wpList P ops Q (o :: rest) a w := by
  refine Go.BigFrame.wpList_want hg fun K' hK' => ?_
  have hrun := hown.lookup K ht hz hkey
  rw [hv] at hrun
  unfold Oper.wp
  simp [execOp, hop, hm, hx, hrun, Result.andThen]
  exact hK' _ _ hK

theorem zero4 (w : World) : (zeroValue 4).run Try.prog w = .ok (.bool false) w := by kernel_rfl
def posF (ts : List Int) : Lit → Option Value
  | .int .i64 x => if 0 < x ∧ hasI ts x = true then some (.bool true) else none
  | _ => none
def negF (ts : List Int) : Lit → Option Value
  | .int .i64 x => if 0 < x ∧ hasI ts (-x) = true then some (.bool true) else none
  | _ => none
structure RefAt (w : World) (a b n : Nat) (ts : List Int) : Prop where
  pos : MapV Try.prog 3 w a n (posF ts)
  neg : MapV Try.prog 3 w b n (negF ts)
  ne : a ≠ b
def worthI (ts : List Int) (x : Int) : Int := if hasI ts x = true then 1 else if hasI ts (-x) = true then -1 else 0

section
variable {w : World} {a b n : Nat} {ts : List Int}
set_option maxHeartbeats 2000000 in
theorem worth_any (h : RefAt w a b n ts) (x : Int) (hx : i64 x) (hx' : i64 (-x)) (h0 : x ≠ 0) :
    Calls Try.prog 18 #[.map (some a), .map (some b), .int .i64 x] w fun e w' => e = .returned (.int .i64 (worthI ts x)) ∧ w = w' := by
  have hk := keyI x hx
  have hk' := keyI (-x) hx'
  obtain ⟨l1, l2⟩ := hx
  obtain ⟨l3, l4⟩ := hx'
  have Hh := Lib.hid h
  clear h
  obtain ⟨t1, ht1⟩ : ∃ t1, hasI ts x = t1 := ⟨_, rfl⟩
  obtain ⟨t2, ht2⟩ : ∃ t2, hasI ts (-x) = t2 := ⟨_, rfl⟩
  have Hw : Hid (worthI ts x = if t1 = true then 1 else if t2 = true then -1 else 0) := Lib.hid (by rw [worthI, ht1, ht2])
  by_cases hpos : 0 < x
  · have hneg : ¬ x < 0 := by omega
    have hd1 : decide (x > 0) = true := by simpa using hpos
    have hd2 : decide (x < 0) = false := by simpa using hneg
    have P1 : Hid ((posF ts (.int .i64 x)).getD (.bool false) = .bool t1) := Lib.hid (by simp only [posF, ht1]; cases t1 <;> simp [hpos])
    have P2 : Hid ((negF ts (.int .i64 x)).getD (.bool false) = .bool t2) := Lib.hid (by simp only [negF, ht2]; cases t2 <;> simp [hpos])
    clear ht1 ht2
    cases t1 <;> cases t2
    all_goals
      go_enter Try.func18, Try.ntmps18
      go_wp2_with (first
        | (at_lookup; refine wpList_lookup_mapv_w _ (by rfl) (.tmp 10) (.tmp 11) 40 rfl 3 4 law3 Try.underlying40 _ (zero4 _) a _ _ rfl Hh.out.pos _ _ rfl hk _ P1.out ?_)
        | (at_lookup; refine wpList_lookup_mapv_w _ (by rfl) (.tmp 27) (.tmp 28) 40 rfl 3 4 law3 Try.underlying40 _ (zero4 _) b _ _ rfl Hh.out.neg _ _ rfl hk _ P2.out ?_))
      go_ret
      exact ⟨by rw [Hw.out]; rfl, rfl⟩
  · have hneg : x < 0 := by omega
    have hd1 : decide (x > 0) = false := by simpa using hpos
    have hd2 : decide (x < 0) = true := by simpa using hneg
    have P1 : Hid ((negF ts (.int .i64 (-x))).getD (.bool false) = .bool t1) := Lib.hid (by simp only [negF, Int.neg_neg, ht1]; cases t1 <;> simp [hneg])
    have P2 : Hid ((posF ts (.int .i64 (-x))).getD (.bool false) = .bool t2) := Lib.hid (by simp only [posF, ht2]; cases t2 <;> simp [hneg])
    clear ht1 ht2
    cases t1 <;> cases t2
    all_goals
      go_enter Try.func18, Try.ntmps18
      go_wp2_with (first
        | (at_lookup; refine wpList_lookup_mapv_w _ (by rfl) (.tmp 18) (.tmp 20) 40 rfl 3 4 law3 Try.underlying40 _ (zero4 _) b _ _ rfl Hh.out.neg _ _ rfl hk' _ P1.out ?_)
        | (at_lookup; refine wpList_lookup_mapv_w _ (by rfl) (.tmp 35) (.tmp 37) 40 rfl 3 4 law3 Try.underlying40 _ (zero4 _) a _ _ rfl Hh.out.pos _ _ rfl hk' _ P2.out ?_))
      go_ret
      exact ⟨by rw [Hw.out]; rfl, rfl⟩
end

set_option maxHeartbeats 1000000 in
theorem whole_any (A : Option Addr) (c : Nat) (xs : List Int) (w : World) (h : IntsAt w A c xs) (hl : xs.length ≤ 9223372036854775807) :
    Calls Try.prog 19 #[.slice A xs.length c] w fun e w' => e = .returned (.bool (!none0 xs)) ∧ w = w' := by
  have H := Lib.hid h
  clear h
  go_enter Try.func19, Try.ntmps19
  go_wp2
  go_loop [3] (fun i => ∃ k : Nat, k ≤ xs.length ∧ i = .int .i64 k ∧ ∀ j (h : j < xs.length), j < k → xs[j] ≠ 0 ∧ xs[j] ≠ -9223372036854775808) (fun i => xs.length - (intOf i).toNat)
  case atStart => exact ⟨0, Nat.zero_le _, rfl, by simp⟩
  case round =>
    obtain ⟨k, hk, rfl, hno⟩ := hrel
    have Hno := Lib.hid hno
    clear hno
    by_cases hlt : k < xs.length
    · obtain ⟨b, o, rfl, hc⟩ := H.out.get hlt
      have Hin : Hid (xs[k] ∈ xs) := Lib.hid (List.getElem_mem hlt)
      have Hx : Hid (∀ j (h : j < xs.length), j < k + 1 → xs[k] ≠ 0 → xs[k] ≠ -9223372036854775808 → xs[j] ≠ 0 ∧ xs[j] ≠ -9223372036854775808) := Lib.hid (fun j h hj h1 h2 => by
        by_cases e : j = k
        · subst e; exact ⟨h1, h2⟩
        · exact Hno.out j h (by omega))
      generalize xs[k] = x at *
      by_cases h0 : x = 0
      · have he : (x == 0) = true := by simpa using h0
        have Hn : Hid (none0 xs = true) := Lib.hid (by simp [none0, hasI, ← h0, Hin.out])
        clear h0
        go_wp2
        go_ret
        exact ⟨by rw [Hn.out]; rfl, rfl⟩
      · have he : (x == 0) = false := by simpa using h0
        by_cases h1 : x = -9223372036854775808
        · have he1 : (x == -9223372036854775808) = true := by simpa using h1
          have Hn : Hid (none0 xs = true) := Lib.hid (by simp [none0, hasI, ← h1, Hin.out])
          clear h1 h0
          go_wp2
          go_ret
          exact ⟨by rw [Hn.out]; rfl, rfl⟩
        · have he1 : (x == -9223372036854775808) = false := by simpa using h1
          have H0 := Lib.hid h0
          have H1 := Lib.hid h1
          clear h0 h1
          go_wp2
          go_round
          case rel => exact ⟨k + 1, by omega, by go_num, fun j h hj => Hx.out j h hj H0.out H1.out⟩
          case measure => simp [intOf]; omega
    · have Hn : Hid (none0 xs = false) := Lib.hid (by
        rw [none0, Bool.or_eq_false_iff, hasI_false, hasI_false]
        constructor
        · intro hm
          obtain ⟨j, hj, e⟩ := List.getElem_of_mem hm
          exact (Hno.out j hj (by omega)).1 e
        · intro hm
          obtain ⟨j, hj, e⟩ := List.getElem_of_mem hm
          exact (Hno.out j hj (by omega)).2 e)
      go_wp2
      go_ret
      exact ⟨by rw [Hn.out]; rfl, rfl⟩
end Go.Proofs.Ytmfgdemgepkggaa
