/- Values' texts. -/
import Derived.Test.YtbnonccmlildnaaGreatM22
import Derived.Test.YtbnonccmlildnaaGreatM23
import Derived.Laws.Concat
import Derived.Lib.Strings
import Derived.Lib.IndexBytes
set_option linter.unusedSimpArgs false
set_option linter.unusedVariables false
namespace Go.Proofs.YtbnonccmlildnaaGreat
open Go.RowKit Go.Lib

/-- What strconv.Itoa tells of each object. -/
def ObjText (M : Mdl) (τ : Nat → List UInt8) : Prop := ∀ k, k < M.objs → (τ k).length ≤ 1000 ∧ ∀ w, Below M.w0.heap.size M.w0 w → Calls Tryz.prog 148 #[.int .i64 k] w fun e w' => e = .returned (.string ⟨(τ k).toArray⟩) ∧ Below w.heap.size w w'
theorem num_text {w : World} {u : Value} {z : Int} {k : Nat} (h : NumAt w u z) (hz : z.natAbs < 4294967296 ^ k) (hk : k ≤ 1000000000000) :
    Calls Tryz.prog 134 #[u] w fun e w' => e = .returned (.string (numB z)) ∧ Below w.heap.size w w' := by
  obtain ⟨A, c, ds, rfl, h'⟩ := id h
  have hb : Below w.heap.size w (w.alloc (.cells #[.slice A ds.length c, .bool (decide (z < 0))] 93)) := (Below.refl _ _).alloc (Nat.le_refl _) _
  have Hs := Lib.hid (string_ex (h.mono (Nat.le_refl _) hb) hz hk)
  have Hb := Lib.hid hb
  clear h h' hb hz
  generalize ds.length = n at *
  generalize decide (z < 0) = b at *
  go_enter Tryz.func134, Tryz.ntmps134
  go_wp2_with (go_at_call 133; refine Hs.out.mono ?_; rintro e w5 ⟨rfl, hb5⟩; have Hb5 := Lib.hid hb5; clear hb5)
  go_ret
  exact ⟨rfl, Hb.out.trans (Hb5.out.mono Hb.out.size)⟩
theorem formatBool_text (b : Bool) : (⟨(Lib.formatBool b).toArray⟩ : ByteArray) = if b then trueB else falseB := by cases b <;> rfl
theorem truth_text {w : World} (b : Bool) : Calls Tryz.prog 137 #[.bool b] w fun e w' => e = .returned (.string (if b then trueB else falseB)) ∧ Below w.heap.size w w' := by
  have Hf := Lib.hid (Tryz.strconv_FormatBool b w)
  rw [formatBool_text] at Hf
  generalize (if b then trueB else falseB) = s at *
  go_enter Tryz.func137, Tryz.ntmps137
  go_wp2_with (go_at_call 138; refine Hf.out.mono ?_; rintro e w5 ⟨rfl, rfl⟩)
  go_ret
  exact ⟨rfl, Below.refl _ _⟩
theorem obj_text {w : World} {k : Nat} {l : List UInt8} (hl : l.length ≤ 1000) (h : Calls Tryz.prog 148 #[.int .i64 k] w fun e w' => e = .returned (.string ⟨l.toArray⟩) ∧ Below w.heap.size w w') :
    Calls Tryz.prog 147 #[.int .i64 k] w fun e w' => e = .returned (.string ⟨((35 : UInt8) :: l).toArray⟩) ∧ Below w.heap.size w w' := by
  have Hs := Lib.hid h
  obtain ⟨s, hs⟩ : ∃ s : ByteArray, s = ⟨l.toArray⟩ := ⟨_, rfl⟩
  have hsz : s.size ≤ 1000 := by rw [hs]; simpa [ByteArray.size] using hl
  rw [← hs] at Hs
  have Hadd := Lib.hid (fun w : World => run_string_add_sum (P := Tryz.prog) w ⟨#[35]⟩ s (by have : (⟨#[35]⟩ : ByteArray).size = 1 := rfl; omega))
  have Hfin : Hid ((⟨#[35]⟩ : ByteArray) ++ s = ⟨((35 : UInt8) :: l).toArray⟩) := Lib.hid (by
    subst hs
    apply ByteArray.ext
    simp)
  clear hs h
  have hadd := Hadd.out
  go_enter Tryz.func147, Tryz.ntmps147
  go_wp2_with (go_at_call 148; refine Hs.out.mono ?_; rintro e w5 ⟨rfl, hb5⟩; have Hb5 := Lib.hid hb5; clear hb5)
  go_ret
  exact ⟨by rw [← Hfin.out]; rfl, Hb5.out⟩
theorem method_num {w0 : World} {u : Value} {z : Int} (h : NumAt w0 u z) (w : World) : (method 315 93 u "avow/model.text").run Tryz.prog w = .ok (134, u) w := by
  obtain ⟨A, c, ds, rfl, _⟩ := h
  kernel_rfl
theorem method_tr (b : Bool) (w : World) : (method 315 100 (.bool b) "avow/model.text").run Tryz.prog w = .ok (137, .bool b) w := by kernel_rfl
theorem method_ob (k : Int) (w : World) : (method 315 175 (.int .i64 k) "avow/model.text").run Tryz.prog w = .ok (147, .int .i64 k) w := by kernel_rfl
theorem enter_num (u : Value) (w : World) : (callFunc 134 #[u]).run Tryz.prog w = .ok (.enter 134 #[u]) w := by kernel_rfl
theorem enter_tr (u : Value) (w : World) : (callFunc 137 #[u]).run Tryz.prog w = .ok (.enter 137 #[u]) w := by kernel_rfl
theorem enter_ob (u : Value) (w : World) : (callFunc 147 #[u]).run Tryz.prog w = .ok (.enter 147 #[u]) w := by kernel_rfl
/-- A value's method 'text'. -/
def TextOf (v : Value) (s : ByteArray) (w : World) : Prop := ∃ (T F : Nat) (u : Value), v = .iface T u ∧ (∀ w, (method 315 T u "avow/model.text").run Tryz.prog w = .ok (F, u) w) ∧ (∀ w, (callFunc F #[u]).run Tryz.prog w = .ok (.enter F #[u]) w) ∧ Calls Tryz.prog F #[u] w fun e w' => e = .returned (.string s) ∧ Below w.heap.size w w'
theorem text_any {M : Mdl} {τ : Nat → List UInt8} (hτ : ObjText M τ) {w : World} {v : Value} {x : Vl} {k : Nat} (hv : ValAt w v x) (hw : Below M.w0.heap.size M.w0 w) (hk : (asInt x).natAbs < 4294967296 ^ k) (hk2 : k ≤ 1000000000000) (ho : ∀ j, x = .ob j → j < M.objs) : TextOf v (textV τ x) w := by
  cases x with
  | num z =>
    obtain ⟨u, rfl, hu⟩ := hv
    exact ⟨93, 134, _, rfl, method_num hu, enter_num u, num_text hu hk hk2⟩
  | tr b => subst hv; exact ⟨100, 137, _, rfl, method_tr b, enter_tr _, truth_text b⟩
  | ob j =>
    subst hv
    have := hτ j (ho j rfl)
    exact ⟨175, 147, _, rfl, method_ob j, enter_ob _, obj_text this.1 (this.2 w hw)⟩
end Go.Proofs.YtbnonccmlildnaaGreat

/- read: a text's value. -/
namespace Go.Proofs.YtbnonccmlildnaaGreat
open Go.RowKit Go.Lib

/-- What a reading hands back. -/
def ReadIs (r : Option Vl) (v : Value) (ok : Bool) (w : World) : Prop := ok = r.isSome ∧ ∀ x, r = some x → ValAt w v x
def ReadPost (r : Option Vl) (w : World) (e : Ending) (w' : World) : Prop := ∃ v ok, e = .returned (.tuple #[v, .bool ok]) ∧ ReadIs r v ok w' ∧ Below w.heap.size w w'
theorem readIs_none {v : Value} {w : World} : ReadIs none v false w := ⟨rfl, fun x h => by cases h⟩
theorem readIs_some {v : Value} {w : World} {x : Vl} (h : ValAt w v x) : ReadIs (some x) v true w := ⟨rfl, fun y e => by cases e; exact h⟩
theorem parsed_shape {w : World} {v : Value} {z : Int} (h : NumAt w v z) : ∃ A n c b, v = .agg #[.slice A n c, .bool b] := by
  obtain ⟨A, c, ds, rfl, _⟩ := h
  exact ⟨_, _, _, _, rfl⟩
theorem read_num (s : ByteArray) (objs : Nat) (w : World) (hs : s.size ≤ 1000000000000) : Calls Tryz.prog 73 #[.string s, .int .i64 1, .int .i64 objs] w (ReadPost (readV s 1 objs) w) := by
  have Hp := Lib.hid (parse_ex s w hs)
  have HR : Hid (readV s 1 objs = if rightB s = true then some (.num (valB s)) else none) := Lib.hid (by unfold readV; rw [if_pos rfl])
  have HZ : Hid (rightB s = true → parseZ s = valB s) := Lib.hid (fun h => by unfold parseZ parZ; rw [if_pos h])
  generalize readV s 1 objs = r at *
  generalize parseZ s = z at *
  generalize rightB s = rb at *
  go_enter Tryz.func73, Tryz.ntmps73
  go_wp2_with (go_at_call 33; refine Hp.out.mono ?_; rintro e w5 ⟨v5, rfl, hv5, hb5⟩; have Hv5 := Lib.hid (NumAt.mono hv5 (Nat.le_refl _) ((Below.refl w5.heap.size w5).alloc (Nat.le_refl _) (.cells #[.slice none 0 0, .bool false] 89))); obtain ⟨A5, n5, c5, b5, rfl⟩ := parsed_shape hv5; have Hn5 := Lib.hid hv5; have Hb5 := Lib.hid hb5; clear hb5 hv5 Hv5)
  go_ret2
  refine ⟨_, _, rfl, ?_, Hb5.out.alloc Hb5.out.size _⟩
  rw [HR.out]
  cases rb with
  | false => exact readIs_none
  | true =>
    rw [if_pos rfl]
    refine readIs_some ⟨_, rfl, ?_⟩
    rw [← HZ.out rfl]
    exact Hn5.out.mono (Nat.le_refl _) ((Below.refl _ _).alloc (Nat.le_refl _) _)
theorem read_tr (s : ByteArray) (objs : Nat) (w : World) : Calls Tryz.prog 73 #[.string s, .int .i64 2, .int .i64 objs] w (ReadPost (readV s 2 objs) w) := by
  have HR : Hid (readV s 2 objs = if s.toList = [116, 114, 117, 101] then some (.tr true) else if s.toList = [102, 97, 108, 115, 101] then some (.tr false) else none) := Lib.hid (by
    have e1 : trueB.toList = [116, 114, 117, 101] := by rw [ByteArray.toList_eq]; rfl
    have e2 : falseB.toList = [102, 97, 108, 115, 101] := by rw [ByteArray.toList_eq]; rfl
    unfold readV
    rw [if_neg (by decide), if_pos rfl, e1, e2])
  generalize readV s 2 objs = r at *
  cases h1 : (s.toList == [116, 114, 117, 101]) with
  | true =>
    have H1 := Lib.hid (show s.toList = [116, 114, 117, 101] by simpa using h1)
    go_enter Tryz.func73, Tryz.ntmps73
    go_wp2_with fail
    go_ret2
    refine ⟨_, _, rfl, ?_, Below.refl _ _⟩
    rw [HR.out, if_pos H1.out]
    exact readIs_some rfl
  | false =>
    have H1 := Lib.hid (show ¬ s.toList = [116, 114, 117, 101] by simpa using h1)
    cases h2 : (s.toList == [102, 97, 108, 115, 101]) with
    | true =>
      have H2 := Lib.hid (show s.toList = [102, 97, 108, 115, 101] by simpa using h2)
      go_enter Tryz.func73, Tryz.ntmps73
      go_wp2_with fail
      go_ret2
      refine ⟨_, _, rfl, ?_, Below.refl _ _⟩
      rw [HR.out, if_neg H1.out, if_pos H2.out]
      exact readIs_some rfl
    | false =>
      have H2 := Lib.hid (show ¬ s.toList = [102, 97, 108, 115, 101] by simpa using h2)
      go_enter Tryz.func73, Tryz.ntmps73
      go_wp2_with fail
      go_ret2
      refine ⟨_, _, rfl, ?_, Below.refl _ _⟩
      rw [HR.out, if_neg H1.out, if_neg H2.out]
      exact readIs_none
theorem cut_ex (s : ByteArray) (w : World) : Calls Tryz.prog 103 #[.string s, .string ⟨#[35]⟩] w fun e w' => e = .returned (.tuple #[.string ⟨(Lib.trimPrefix s.data.toList [35]).toArray⟩, .bool (Lib.hasPrefix s.data.toList [35])]) ∧ w = w' :=
  (Tryz.strings_CutPrefix s ⟨#[35]⟩ w).mono fun e w' h => ⟨h.1, h.2.symm⟩
theorem hash_prefix (s : ByteArray) : Lib.hasPrefix s.data.toList [35] = (s.data[0]? == some 35) := by
  unfold Lib.hasPrefix
  rw [← Array.getElem?_toList]
  cases s.data.toList with
  | nil => rfl
  | cons c l =>
    show ((35 : UInt8) == c && true) = (some c == some 35)
    rw [Bool.and_true, Bool.eq_iff_iff, beq_iff_eq, beq_iff_eq]
    exact ⟨fun h => by rw [h], fun h => (Option.some.inj h).symm⟩
theorem hash_rest (s : ByteArray) (h : (s.data[0]? == some 35) = true) : (⟨(Lib.trimPrefix s.data.toList [35]).toArray⟩ : ByteArray) = s.extract 1 s.size := by
  unfold Lib.trimPrefix
  rw [hash_prefix, if_pos h]
  apply ByteArray.ext
  apply Array.ext'
  rw [Lib.extract_to_end]
  rfl
set_option maxHeartbeats 1000000 in
theorem read_ob (s : ByteArray) (objs : Nat) (w : World) (hs : s.size ≤ 1000000000000) (ho : objs ≤ 1000) : Calls Tryz.prog 73 #[.string s, .int .i64 3, .int .i64 objs] w (ReadPost (readV s 3 objs) w) := by
  have hc := cut_ex s w
  rw [hash_prefix] at hc
  have HR : Hid (readV s 3 objs = if (s.data[0]? == some 35 && rightB (s.extract 1 s.size)) = true ∧ 0 ≤ valB (s.extract 1 s.size) ∧ valB (s.extract 1 s.size) < objs then some (.ob (valB (s.extract 1 s.size)).toNat) else none) := Lib.hid (by
    unfold readV
    rw [if_neg (by decide), if_neg (by decide)])
  have hrest : ∃ u : ByteArray, u = ⟨(Lib.trimPrefix s.data.toList [35]).toArray⟩ := ⟨_, rfl⟩
  obtain ⟨u, hu⟩ := hrest
  rw [← hu] at hc
  have hsz : u.size ≤ 1000000000000 := by
    rw [hu]
    show (Lib.trimPrefix s.data.toList [35]).toArray.size ≤ _
    unfold Lib.trimPrefix
    have : s.data.toList.length = s.size := by rw [Array.length_toList]; rfl
    split <;> simp <;> omega
  have Hu : Hid ((s.data[0]? == some 35) = true → s.extract 1 s.size = u) := Lib.hid (fun h => by rw [hu, hash_rest s h])
  have Hpb : Hid ((parseZ u).natAbs < 4294967296 ^ u.size) := Lib.hid (by
    have := valB_lt u
    unfold parseZ parZ
    split
    · exact this
    · simpa using Nat.pow_pos (n := u.size) (by decide : 0 < 4294967296))
  have HZ : Hid (rightB u = true → parseZ u = valB u) := Lib.hid (fun h => by unfold parseZ parZ; rw [if_pos h])
  have Hc := Lib.hid hc
  have Hp := Lib.hid (parse_ex u w hsz)
  have Hsz := Lib.hid hsz
  clear hc hu hsz hs
  generalize hH : (s.data[0]? == some 35) = H at *
  clear hH
  generalize parseZ u = z at *
  generalize hRB : rightB u = rb at *
  have HRB := Lib.hid hRB
  clear hRB
  obtain ⟨sm, hsm⟩ : ∃ b, b = smallB z := ⟨_, rfl⟩
  have Hsm := Lib.hid hsm
  have Hfin : Hid (∀ (x : Int) (v : Value) (w' : World), (sm = true → x = z) → v = .iface 175 (.int .i64 x) → ReadIs (readV s 3 objs) v (H && rb && sm && decide (0 ≤ x) && decide (x < objs)) w') := Lib.hid (fun x v w' hx hv => by
    rw [HR.out]
    by_cases hall : (H && rb) = true
    · obtain ⟨rfl, rfl⟩ : H = true ∧ rb = true := by simpa using hall
      rw [Hu.out rfl, HRB.out, ← HZ.out rfl]
      cases hs : sm with
      | false =>
        have h1 : ¬ (0 ≤ z ∧ z < objs) := by
          intro h
          rw [Hsm.out] at hs
          unfold smallB at hs
          simp at hs
          omega
        rw [if_neg (by simpa using fun a b => h1 ⟨a, b⟩)]
        exact readIs_none
      | true =>
        have hxz := hx hs
        subst hxz
        by_cases h1 : 0 ≤ x ∧ x < objs
        · rw [if_pos ⟨rfl, h1⟩]
          rw [show (true && true && true && decide (0 ≤ x) && decide (x < (objs : Int))) = true by simp [h1]]
          refine readIs_some ?_
          rw [hv]
          show _ = Value.iface 175 (.int .i64 ((x.toNat : Nat) : Int))
          rw [Int.toNat_of_nonneg h1.1]
        · rw [if_neg (by simpa using fun a b => h1 ⟨a, b⟩)]
          rw [show (true && true && true && decide (0 ≤ x) && decide (x < (objs : Int))) = false by
            simp
            intro a
            have : ¬ x < objs := fun b => h1 ⟨a, b⟩
            omega]
          exact readIs_none
    · have hno : ¬ ((H && rightB (s.extract 1 s.size)) = true ∧ 0 ≤ valB (s.extract 1 s.size) ∧ valB (s.extract 1 s.size) < objs) := by
        rintro ⟨h1, _⟩
        apply hall
        cases H with
        | false => simp at h1
        | true =>
          rw [Hu.out rfl, HRB.out] at h1
          simpa using h1
      rw [if_neg hno, show (H && rb && sm && decide (0 ≤ x) && decide (x < (objs : Int))) = false by rw [Bool.not_eq_true] at hall; rw [hall]; simp]
      exact readIs_none)
  clear hsm HR Hu HZ HRB
  have Hsmall : Hid (∀ (w5 : World) (v5 : Value), NumAt w5 v5 z → Calls Tryz.prog 104 #[v5] w5 fun e w' => (∃ x : Int, e = .returned (.tuple #[.int .i64 x, .bool sm]) ∧ (sm = true → x = z)) ∧ Below w5.heap.size w5 w') := Lib.hid (fun w5 v5 h => by
    rw [Hsm.out]
    exact small_ex h Hpb.out (by have := Hsz.out; omega))
  clear Hsm
  generalize readV s 3 objs = r at *
  go_enter Tryz.func73, Tryz.ntmps73
  go_wp2_with (first
    | (go_at_call 103; refine Hc.out.mono ?_; rintro e w5 ⟨rfl, rfl⟩)
    | (go_at_call 33; refine Hp.out.mono ?_; rintro e w5 ⟨v5, rfl, hv5, hb5⟩; obtain ⟨A5, n5, c5, b5, rfl⟩ := parsed_shape hv5; have Hn5 := Lib.hid (hv5.mono (Nat.le_refl _) ((Below.refl _ _).alloc (Nat.le_refl _) (.cells #[.slice A5 n5 c5, .bool b5] 89))); have Hb5 := Lib.hid hb5; clear hb5 hv5)
    | (go_at_call 104; refine (Hsmall.out _ _ Hn5.out).mono ?_; rintro e w6 ⟨⟨x, rfl, hx⟩, hb6⟩; have Hx := Lib.hid hx; have Hb6 := Lib.hid hb6; clear hx hb6))
  all_goals
    go_ret2
    refine ⟨_, _, rfl, ?_, (Hb5.out.alloc Hb5.out.size _).trans (Hb6.out.mono (by have := Hb5.out.size; simp; omega))⟩
    have h := Hfin.out x _ w6 Hx.out rfl
    first
      | (have h0 : decide (0 ≤ x) = false := decide_eq_false (by omega); rw [h0] at h; simpa using h)
      | (have h0 : decide (0 ≤ x) = true := decide_eq_true (by omega); rw [h0] at h; simpa [*] using h)
      | (simpa [*] using h)
end Go.Proofs.YtbnonccmlildnaaGreat
