/- Keys of ground terms are alike just where the terms are the same. -/
import Derived.Test.YtlgbepamnkfpjaaGreatDoorM34
import Derived.Test.YtlgbepamnkfpjaaGreatDoorM31
import Derived.Test.YtlgbepamnkfpjaaGreatDoorM32
import Derived.Lib.ItoaLen
set_option linter.unusedSimpArgs false
set_option linter.unusedVariables false
set_option linter.unusedVariables false
set_option linter.unusedSimpArgs false
namespace Go.Proofs.YtlgbepamnkfpjaaGreatDoor
open Go.RowKit Go.Lib

theorem digit_nat {u : Nat} (h : u < 10) : (UInt8.ofNat (48 + u)).toNat = 48 + u := by
  rw [UInt8.toNat_ofNat']
  omega
theorem dec_digits (u : Nat) : ∀ c ∈ Lib.decDigits u, 48 ≤ c.toNat ∧ c.toNat ≤ 57 := by
  induction u using Nat.strongRecOn with
  | _ u ih =>
    intro c hc
    rw [Lib.decDigits] at hc
    split at hc
    · rename_i h
      simp only [List.mem_singleton] at hc
      subst hc
      rw [digit_nat h]
      omega
    · rename_i h
      rcases List.mem_append.1 hc with hc | hc
      · exact ih (u / 10) (by omega) c hc
      · simp only [List.mem_singleton] at hc
        subst hc
        rw [digit_nat (Nat.mod_lt _ (by omega))]
        omega
def valD (l : List UInt8) : Nat := l.foldl (fun a c => a * 10 + (c.toNat - 48)) 0
theorem valD_dec (u : Nat) : valD (Lib.decDigits u) = u := by
  induction u using Nat.strongRecOn with
  | _ u ih =>
    rw [Lib.decDigits]
    split
    · rename_i h
      simp [valD, digit_nat h]
      omega
    · rename_i h
      have h1 := ih (u / 10) (by omega)
      unfold valD at h1 ⊢
      rw [List.foldl_append, h1]
      simp only [List.foldl_cons, List.foldl_nil, digit_nat (Nat.mod_lt _ (by omega))]
      omega
theorem itoa_chars (n : Int) : ∀ c ∈ Lib.itoa n, c = 45 ∨ (48 ≤ c.toNat ∧ c.toNat ≤ 57) := by
  intro c hc
  unfold Lib.itoa at hc
  split at hc
  · rcases List.mem_cons.1 hc with rfl | hc
    · exact .inl rfl
    · exact .inr (dec_digits _ c hc)
  · exact .inr (dec_digits _ c hc)
theorem dec_ne_neg (u : Nat) (l : List UInt8) : Lib.decDigits u ≠ 45 :: l := fun e => by
  have := dec_digits u 45 (by rw [e]; simp)
  have : (45 : UInt8).toNat = 45 := rfl
  omega
theorem itoa_inj {a b : Int} (h : Lib.itoa a = Lib.itoa b) : a = b := by
  unfold Lib.itoa at h
  split at h <;> split at h
  · have := congrArg valD (List.cons.inj h).2
    rw [valD_dec, valD_dec] at this
    omega
  · exact absurd h.symm (dec_ne_neg _ _)
  · exact absurd h (dec_ne_neg _ _)
  · have := congrArg valD h
    rw [valD_dec, valD_dec] at this
    omega
theorem itoa_ne {n : Int} {c : UInt8} (h : c ≠ 45 ∧ (c.toNat < 48 ∨ 57 < c.toNat)) : c ∉ Lib.itoa n := fun hc => by
  rcases itoa_chars n c hc with e | e
  · exact h.1 e
  · omega
theorem split_at {c : UInt8} : ∀ {l m x y : List UInt8}, c ∉ l → c ∉ m → l ++ c :: x = m ++ c :: y → l = m ∧ x = y
  | [], [], x, y, _, _, h => ⟨rfl, by simpa using h⟩
  | [], b :: m, x, y, _, hm, h => by
    simp only [List.nil_append, List.cons_append, List.cons.injEq] at h
    exact absurd (by rw [h.1]; simp) hm
  | a :: l, [], x, y, hl, _, h => by
    simp only [List.nil_append, List.cons_append, List.cons.injEq] at h
    exact absurd (by rw [← h.1]; simp) hl
  | a :: l, b :: m, x, y, hl, hm, h => by
    simp only [List.cons_append, List.cons.injEq] at h
    obtain ⟨h1, h2⟩ := split_at (fun e => hl (by simp [e])) (fun e => hm (by simp [e])) h.2
    exact ⟨by rw [h.1, h1], h2⟩
theorem putL_inj {a b : ByteArray} {x y : List UInt8} (h : putL a ++ x = putL b ++ y) : a = b ∧ x = y := by
  unfold putL at h
  simp only [List.append_assoc, List.singleton_append, List.cons_append, List.nil_append] at h
  obtain ⟨h1, h2⟩ := split_at (c := 58) (itoa_ne (by decide)) (itoa_ne (by decide)) h
  have h3 := itoa_inj h1
  have h4 : a.data.toList.length = b.data.toList.length := by
    have e1 : a.data.toList.length = a.size := by simp
    have e2 : b.data.toList.length = b.size := by simp
    omega
  obtain ⟨h5, h6⟩ := List.append_inj h2 h4
  refine ⟨?_, h6⟩
  cases a
  cases b
  simpa using h5
def midL (op : Int) (name n : ByteArray) : List UInt8 := if op = 1 then putL n else if op = 17 then putL name else []
theorem keyL_form (op : Int) (name : ByteArray) (s : Int) (n : ByteArray) (l : List Tm) (vars : Bd) (pat : List Tm) (x : List UInt8) :
    keyL (.mk op name s n l vars pat) ++ x = Lib.itoa op ++ 32 :: (midL op name n ++ 40 :: (keysL l ++ 41 :: x)) := by
  simp only [keyL, midL, List.append_assoc, List.singleton_append, List.cons_append, List.nil_append]
theorem keyL_head (t : Tm) : ∃ c r, keyL t = c :: r ∧ c ≠ 41 := by
  cases t with
  | mk op name s n l vars pat =>
    have h := keyL_form op name s n l vars pat []
    rw [List.append_nil] at h
    cases hi : Lib.itoa op with
    | nil => exact ⟨32, _, by rw [h, hi]; rfl, by decide⟩
    | cons c r =>
      refine ⟨c, _, by rw [h, hi]; rfl, fun e => ?_⟩
      have : (41 : UInt8) ∉ Lib.itoa op := itoa_ne (by decide)
      exact this (by rw [hi, e]; simp)
mutual
theorem keyL_inj : ∀ (u t : Tm), tground u = true → tground t = true → ∀ x y, keyL u ++ x = keyL t ++ y → sameT u t = true ∧ x = y
  | .mk op name s n l vars pat, .mk op' name' s' n' l' vars' pat', hu, ht, x, y, h => by
    rw [keyL_form, keyL_form] at h
    obtain ⟨h1, h2⟩ := split_at (c := 32) (itoa_ne (by decide)) (itoa_ne (by decide)) h
    have h3 := itoa_inj h1
    subst h3
    simp only [tground, Bool.and_eq_true, Bool.not_eq_true', beq_eq_false_iff_ne, ne_eq] at hu ht
    have hmid : keysL l ++ 41 :: x = keysL l' ++ 41 :: y ∧ (if op = 17 then name.toList == name'.toList else if op = 1 then n.toList == n'.toList else true) = true := by
      unfold midL at h2
      by_cases e1 : op = 1
      · rw [if_pos e1, if_pos e1] at h2
        obtain ⟨h4, h5⟩ := putL_inj h2
        subst h4
        refine ⟨by simpa using h5, ?_⟩
        rw [if_neg (by omega), if_pos e1]
        simp
      · rw [if_neg e1, if_neg e1] at h2
        by_cases e17 : op = 17
        · rw [if_pos e17, if_pos e17] at h2
          obtain ⟨h4, h5⟩ := putL_inj h2
          subst h4
          refine ⟨by simpa using h5, ?_⟩
          rw [if_pos e17]
          simp
        · rw [if_neg e17, if_neg e17] at h2
          refine ⟨by simpa using h2, ?_⟩
          rw [if_neg e17, if_neg e1]
    obtain ⟨h6, h7⟩ := keysL_inj l l' hu.2 ht.2 x y hmid.1
    refine ⟨?_, h7⟩
    have h8 := hmid.2
    simp only [sameT, Bool.and_eq_true, h6, beq_self_eq_true, true_and]
    by_cases e17 : op = 17
    · rw [if_pos e17] at h8 ⊢
      exact h8
    · rw [if_neg e17] at h8 ⊢
      by_cases e1 : op = 1
      · rw [if_pos e1] at h8 ⊢
        exact h8
      · rw [if_neg e1, if_neg hu.1.1, if_neg hu.1.2]
theorem keysL_inj : ∀ (us ts : List Tm), tgrounds us = true → tgrounds ts = true → ∀ x y, keysL us ++ 41 :: x = keysL ts ++ 41 :: y → sameTs us ts = true ∧ x = y
  | [], [], _, _, x, y, h => ⟨by simp [sameTs], by simpa [keysL] using h⟩
  | [], t :: ts, _, _, x, y, h => by
    obtain ⟨c, r, hc, hne⟩ := keyL_head t
    simp only [keysL, hc, List.nil_append, List.cons_append, List.cons.injEq] at h
    exact absurd h.1.symm hne
  | u :: us, [], _, _, x, y, h => by
    obtain ⟨c, r, hc, hne⟩ := keyL_head u
    simp only [keysL, hc, List.nil_append, List.cons_append, List.cons.injEq] at h
    exact absurd h.1 hne
  | u :: us, t :: ts, hu, ht, x, y, h => by
    simp only [tgrounds, Bool.and_eq_true] at hu ht
    simp only [keysL, List.append_assoc] at h
    obtain ⟨h1, h2⟩ := keyL_inj u t hu.1 ht.1 _ _ h
    obtain ⟨h3, h4⟩ := keysL_inj us ts hu.2 ht.2 _ _ h2
    exact ⟨by simp [sameTs, h1, h3], h4⟩
end
mutual
theorem sameT_key : ∀ (u t : Tm), sameT u t = true → keyL u = keyL t
  | .mk op name s n l vars pat, .mk op' name' s' n' l' vars' pat', h => by
    simp only [sameT, Bool.and_eq_true, beq_iff_eq] at h
    obtain ⟨⟨h1, h2⟩, h3⟩ := h
    subst h1
    have h4 := sameTs_key l l' h2
    simp only [keyL, h4]
    by_cases e17 : op = 17
    · rw [if_pos e17] at h3
      have := toList_inj (eq_of_beq h3)
      subst this
      simp [e17]
    · rw [if_neg e17] at h3
      by_cases e1 : op = 1
      · rw [if_pos e1] at h3
        have := toList_inj (eq_of_beq h3)
        subst this
        rw [if_pos e1, if_pos e1]
      · rw [if_neg e1, if_neg e1, if_neg e17, if_neg e17]
theorem sameTs_key : ∀ (us ts : List Tm), sameTs us ts = true → keysL us = keysL ts
  | [], [], _ => rfl
  | [], _ :: _, h => by simp [sameTs] at h
  | _ :: _, [], h => by simp [sameTs] at h
  | u :: us, t :: ts, h => by
    simp only [sameTs, Bool.and_eq_true] at h
    rw [keysL, keysL, sameT_key u t h.1, sameTs_key us ts h.2]
end
mutual
theorem sameT_refl : ∀ t : Tm, sameT t t = true
  | .mk op name s n l vars pat => by
    simp only [sameT, beq_self_eq_true, Bool.true_and, sameTs_refl l, sameTs_refl pat, decide_true, ite_self]
theorem sameTs_refl : ∀ l : List Tm, sameTs l l = true
  | [] => by simp [sameTs]
  | t :: ts => by simp [sameTs, sameT_refl t, sameTs_refl ts]
end
theorem hasKey_in {out : List Tm} {t : Tm} (ho : tgrounds out = true) (ht : tground t = true) : hasKey out (keyL t) = inT out t := by
  unfold hasKey inT
  induction out with
  | nil => rfl
  | cons u us ih =>
    simp only [tgrounds, Bool.and_eq_true] at ho
    rw [List.any_cons, List.any_cons, ih ho.2]
    congr 1
    rw [Bool.eq_iff_iff, beq_iff_eq]
    exact ⟨fun h => (keyL_inj u t ho.1 ht [] [] (by rw [h])).1, sameT_key u t⟩
theorem tgrounds_append (a b : List Tm) : tgrounds (a ++ b) = (tgrounds a && tgrounds b) := by
  induction a with
  | nil => simp [tgrounds]
  | cons t a ih => simp only [List.cons_append, tgrounds, ih, Bool.and_assoc]
theorem add_same {out : List Tm} (ho : tgrounds out = true) (t : Tm) (op : Int) : appsAdd out t op = appsRAdd out t op ∧ tgrounds (appsRAdd out t op) = true := by
  unfold appsAdd appsRAdd
  by_cases ht : tground t = true
  · rw [hasKey_in ho ht, ht]
    have : (true && op == 17 && !inT out t) = (op == 17 && true && !inT out t) := by simp
    rw [this]
    refine ⟨rfl, ?_⟩
    split
    · rw [tgrounds_append, ho]
      simp [tgrounds, ht]
    · exact ho
  · have ht : tground t = false := by simpa using ht
    rw [ht]
    simp [ho]
mutual
theorem apps_same : ∀ (t : Tm) (out : List Tm), tgrounds out = true → appsW out t = appsR out t ∧ tgrounds (appsR out t) = true
  | .mk op name s n l vars pat, out, ho => by
    simp only [appsW, appsR]
    by_cases h19 : op = 19
    · simp [h19, ho]
    · obtain ⟨h1, h2⟩ := apps_sames l out ho
      rw [if_neg h19, if_neg h19, h1]
      exact add_same h2 _ op
theorem apps_sames : ∀ (l : List Tm) (out : List Tm), tgrounds out = true → appsWs out l = appsRs out l ∧ tgrounds (appsRs out l) = true
  | [], out, ho => ⟨rfl, ho⟩
  | t :: ts, out, ho => by
    obtain ⟨h1, h2⟩ := apps_same t out ho
    obtain ⟨h3, h4⟩ := apps_sames ts (appsR out t) h2
    exact ⟨by rw [appsWs, appsRs, h1, h3], h4⟩
end
def q64 (n : Int) : Bool := decide (-9223372036854775808 ≤ n ∧ n ≤ 9223372036854775807)
theorem keysN_all {q : Int → Bool} : ∀ l : List Tm, (∀ (j : Nat) (t : Tm), l[j]? = some t → keyN q t = true) → keysN q l = true
  | [], _ => rfl
  | t :: ts, h => by
    simp only [keysN, Bool.and_eq_true]
    exact ⟨h 0 t rfl, keysN_all ts fun j u hj => h (j + 1) u (by simpa using hj)⟩
theorem tm_keyN {w : World} {t : Tm} {v : Value} (h : TmV w t v) : keyN q64 t = true := by
  induction h with
  | @mk op name sort n l vars pat A V P ca cv cp f g hbd hl hf hL hv hV hp hg hP ihL _ =>
    simp only [keyN, Bool.and_eq_true]
    have h1 := hbd.op
    have h2 := hbd.n
    have h3 := hbd.name
    refine ⟨⟨decide_eq_true h1, ?_⟩, keysN_all l ihL⟩
    have a1 : q64 (n.size : Int) = true := decide_eq_true ⟨by omega, by omega⟩
    have a2 : q64 (name.size : Int) = true := decide_eq_true ⟨by omega, by omega⟩
    split
    · exact a1
    · split
      · exact a2
      · rfl
mutual
theorem keyL_short : ∀ t : Tm, keyN q64 t = true → shortT t = true → nmT t = true → (keyL t).length ≤ tsize t * 1000100
  | .mk op name s n l vars pat, hq, hs, hn => by
    simp only [keyN, Bool.and_eq_true] at hq
    simp only [shortT, Bool.and_eq_true, decide_eq_true_eq] at hs
    simp only [nmT, Bool.and_eq_true, decide_eq_true_eq] at hn
    have h1 := of_decide_eq_true hq.1.1
    have h2 := Lib.itoa_length_le op h1.1 h1.2
    have h3 := keysL_short l hq.2 hs.1.2 hn.1.2
    have h4 : (midL op name n).length ≤ 1000030 := by
      have p1 : ∀ b : ByteArray, b.size ≤ 1000000 → (putL b).length ≤ 1000030 := fun b hb => by
        have := Lib.itoa_length_le (b.size : Int) (by omega) (by omega)
        have e : b.data.toList.length = b.size := by simp
        simp only [putL, List.length_append, List.length_cons, List.length_nil, e]
        omega
      unfold midL
      split
      · exact p1 n hs.1.1
      · split
        · exact p1 name (by omega)
        · simp
    have h5 := congrArg List.length (keyL_form op name s n l vars pat [])
    simp only [List.append_nil, List.length_append, List.length_cons, List.length_nil] at h5
    simp only [tsize]
    omega
theorem keysL_short : ∀ l : List Tm, keysN q64 l = true → shortTs l = true → nmTs l = true → (keysL l).length ≤ tsizes l * 1000100
  | [], _, _, _ => by simp [keysL]
  | t :: ts, hq, hs, hn => by
    simp only [keysN, Bool.and_eq_true] at hq
    simp only [shortTs, Bool.and_eq_true] at hs
    simp only [nmTs, Bool.and_eq_true] at hn
    have h1 := keyL_short t hq.1 hs.1 hn.1
    have h2 := keysL_short ts hq.2 hs.2 hn.2
    simp only [keysL, List.length_append, tsizes]
    omega
end
end Go.Proofs.YtlgbepamnkfpjaaGreatDoor

/- TermApps: the walk. -/
set_option linter.unusedVariables false
set_option linter.unusedSimpArgs false
namespace Go.Proofs.YtlgbepamnkfpjaaGreatDoor
open Go.RowKit Go.Lib

abbrev TabAt (w : World) : Prop := Lib.TabIs Tryz.prog w "internal/strconv.uint64pow10" .u64 Lib.pow10Tab
/-- The program's own list. -/
theorem apps_list {w0 : World} {t : Tm} {v : Value} (h : TmV w0 t v) (htab : TabAt w0) (htw : tw t ≤ 200) (hs : shortT t = true) (hn : nmT t = true) (w : World) (hb : Below w0.heap.size w0 w) :
    Calls Tryz.prog 10 #[v] w fun e w' => ∃ v', e = .returned v' ∧ TsV w' (appsR [] t) v' ∧ Below w.heap.size w w' := by
  have hq := tm_keyN h
  have hk := keyL_short t hq hs hn
  have h1 := tsize_tw t
  have hwalk := walk_any h (q := q64) (fun n hn => itoa_every (show i64 n from of_decide_eq_true (p := -9223372036854775808 ≤ n ∧ n ≤ 9223372036854775807) hn) htab) (fun _ => hq) hq (by omega) (by omega)
  refine (Apps_any h hwalk (by omega) w hb).mono ?_
  rintro e w' ⟨A, c, rfl, h2, h3⟩
  rw [(apps_same t [] rfl).1] at h2 ⊢
  have h4 := h2.inc (inc_only _ _)
  obtain ⟨e1, e2, f, e3, e4⟩ := h4
  exact ⟨_, rfl, ⟨A, c, rfl, e2, f, e3, e4⟩, h3⟩
/-- The reference's own list. -/
theorem apps_list_ref {w0 : World} {t : Tm} {v : Value} (h : TmV w0 t v) (htw : tw t ≤ 200) (w : World) (hb : Below w0.heap.size w0 w) :
    Calls Tryz.prog 11 #[v, .slice none 0 0] w fun e w' => ∃ v', e = .returned v' ∧ TsV w' (appsR [] t) v' ∧ Below w.heap.size w w' := by
  have h1 := tsize_tw t
  refine (appsR_any (h.mono hb) w [] none 0 0 [] (Below.refl _ _) (RefL.nil _ _) (by simp; omega)).mono ?_
  rintro e w' ⟨A, n, c, us, rfl, h2, h3⟩
  obtain ⟨_, e2, _⟩ := ownsRow_cells h2.own h2.seven h2.len (by decide)
  exact ⟨_, rfl, ⟨A, c, by rw [h2.num], by rw [← h2.num]; exact e2, _, h2.row, fun j t ht => (h2.data j t ht).mono h3.below⟩, h3.below⟩
def aSpec (p : Parts) (L : List Tm) : Nat → World → Value → Prop
  | 0, _, v => v = .agg p.arr
  | 1, w, v => TsV w L v
  | 2, _, v => v = .agg p.arr
  | 3, w, v => TsV w L v
  | _, _, _ => True
theorem aSpec_keep (p : Parts) (L : List Tm) (i : Nat) (w w' : World) (v : Value) (h : aSpec p L i w v) (hb : Below w.heap.size w w') : aSpec p L i w' v := by
  unfold aSpec at h ⊢
  split <;> simp_all <;> exact TsV.mono (by assumption) (by assumption)
set_option maxRecDepth 100000 in
set_option maxHeartbeats 8000000 in
theorem termApps_any {w : World} {t : Tm} {v : Value} (h : TmV w t v) (htab : TabAt w) : Calls Tryz.prog 4 #[v] w fun e w' => e = .returned (.bool true) ∧ Below w.heap.size w w' := by
  obtain ⟨⟨op, name, sort, n, A, la, ca, V, lv, cv, P, lp, cp⟩, rfl⟩ := h.parts
  have HT := Lib.hid h
  have Htab := Lib.hid htab
  have HB0 : Hid (Below w.heap.size w (boxT w ⟨op, name, sort, n, A, la, ca, V, lv, cv, P, lp, cp⟩)) := Lib.hid (below_boxT _ _)
  have HR0 := Lib.hid (boxT_row w ⟨op, name, sort, n, A, la, ca, V, lv, cv, P, lp, cp⟩)
  obtain ⟨b, hb⟩ : ∃ b, lightB 200 [t] = b := ⟨_, rfl⟩
  have Hlt : Hid (∀ W, Below w.heap.size w W → Calls Tryz.prog 7 #[.slice (some ⟨W.heap.size, 0, none⟩) 1 1, .int .i64 200] (W.alloc (.cells #[.int .i64 op, .string name, .int .i64 sort, .string n, .slice A la ca, .slice V lv cv, .slice P lp cp] 26)) fun e w' => e = .returned (.bool b) ∧ Below W.heap.size W w') := Lib.hid (fun W hW => by
    obtain ⟨A9, c9, e9, hc9, fl, hrow, hlt9⟩ := TsV.one (p := ⟨op, name, sort, n, A, la, ca, V, lv, cv, P, lp, cp⟩) (HT.out.mono hW) 26
    cases e9
    have hA : Below W.heap.size W (W.alloc (.cells #[.int .i64 op, .string name, .int .i64 sort, .string n, .slice A la ca, .slice V lv cv, .slice P lp cp] 26)) := (Below.refl _ _).alloc (Nat.le_refl _) _
    have h := light_any (c := 1) hrow hlt9 (by simp) (most := 200) (by omega) _ (Below.refl _ _)
    rw [hb] at h
    refine Calls.mono h ?_
    rintro e w' ⟨rfl, h2⟩
    exact ⟨rfl, hA.trans (h2.mono hA.size)⟩)
  unfold boxT at HB0
  unfold boxT at HR0
  simp only [Parts.arr] at HB0
  clear h htab
  unfold Parts.arr
  cases b with
  | false =>
    go_enter Tryz.func4, Tryz.ntmps4
    go_wp2_with (first
      | (go_at_call 6; (with_reducible refine Calls.mono (known_any _) ?_); rintro e w1 ⟨rfl, hb1⟩; have Hb1 := Lib.hid (HB0.out.trans (hb1.mono HB0.out.size)); obtain ⟨x0, x1, x2, x3, x4, x5, x6⟩ := box_cells (below_keeps hb1 HR0.out); dsimp only at x0 x1 x2 x3 x4 x5 x6; clear hb1)
      | (go_at_call 7; (with_reducible refine Calls.mono (Hlt.out _ Hb1.out) ?_); rintro e w3 ⟨rfl, hb3⟩; have Hb3 := Lib.hid (Hb1.out.trans (hb3.mono Hb1.out.size)); clear hb3))
    go_ret
    exact ⟨rfl, Hb3.out⟩
  | true =>
    obtain ⟨ht1, ht2, ht3⟩ := light_mem hb (t := t) (by simp)
    have Ha := Lib.hid (fun W (hW : Below w.heap.size w W) => apps_list HT.out Htab.out ht1 ht2 ht3 W hW)
    have Hr := Lib.hid (fun W (hW : Below w.heap.size w W) => apps_list_ref HT.out ht1 W hW)
    have HLn : Hid ((appsR [] t).length ≤ 200) := Lib.hid (by have h1 := appsR_length [] t; have h2 := tsize_tw t; simp at h1; omega)
    clear hb ht1 ht2 ht3 Htab HT
    generalize appsR [] t = L at *
    go_enter Tryz.func4, Tryz.ntmps4
    go_upto_region 5 with (first
      | (go_at_call 6; (with_reducible refine Calls.mono (known_any _) ?_); rintro e w1 ⟨rfl, hb1⟩; have Hb01 := Lib.hid hb1; have Hb1 := Lib.hid (HB0.out.trans (hb1.mono HB0.out.size)); obtain ⟨x0, x1, x2, x3, x4, x5, x6⟩ := box_cells (below_keeps hb1 HR0.out); dsimp only at x0 x1 x2 x3 x4 x5 x6; clear hb1)
      | (go_at_call 7; (with_reducible refine Calls.mono (Hlt.out _ Hb1.out) ?_); rintro e w3 ⟨rfl, hb3⟩; have Hb13 := Lib.hid hb3; have Hb3 := Lib.hid (Hb1.out.trans (hb3.mono Hb1.out.size)); clear hb3))
    have R3 := Lib.hid (below_keeps Hb13.out (below_keeps Hb01.out HR0.out))
    clear Hb01 Hb13 HR0 Hb1 HB0 Hlt x0 x1 x2 x3 x4 x5 x6
    go_cut [3, 4] from 12 to 15 (fun s3 s4 wx => Hid (TsV wx L s3) ∧ Hid (TsV wx L s4) ∧ Hid (Below w.heap.size w wx))
    case first =>
      go_wp2_with fail
      refine wp_region_makes [0, 1, 2, 3] [4, 5] (by kernel_rfl) (by kernel_rfl) (aSpec_keep ⟨op, name, sort, n, A, la, ca, V, lv, cv, P, lp, cp⟩ L) ?_ ?_
      · generalize Exit.then _ _ = Q2
        intro i o ho hi a' w' hb hfr hd K hK
        have hbd : Below w3.heap.size w3 w' := (Below.refl w3.heap.size w3).drew.trans hb
        obtain ⟨x0, x1, x2, x3, x4, x5, x6⟩ := box_cells (below_keeps hbd R3.out)
        have hv1 : a'.tmps.getD 1 undef = .pointer (some ⟨w.heap.size, 0, none⟩) := hfr 1 (by kernel_rfl)
        rw [Array.getD_eq_getD_getElem?] at hv1
        have Hw0 : Hid (Below w.heap.size w w') := Lib.hid (Hb3.out.trans (hbd.mono Hb3.out.size))
        have HK := Lib.hid hK
        dsimp only at x0 x1 x2 x3 x4 x5 x6
        clear hb hK hfr hbd
        match i, ho with
        | 0, ho => cases ho; clear hd; go_simp; exact HK.out _ _ rfl (Below.refl _ _)
        | 1, ho =>
          cases ho
          have e := hd ⟨0, .data⟩ (by simp) rfl _ _ rfl rfl
          simp only [aSpec, Parts.arr, Array.getD_eq_getD_getElem?] at e
          clear hd
          go_simp
          refine Calls.mono (Ha.out w' Hw0.out) ?_
          rintro e8 w8 ⟨v8, rfl, ht8, hb8⟩
          exact HK.out _ _ ht8 hb8
        | 2, ho => cases ho; clear hd; go_simp; exact HK.out _ _ rfl (Below.refl _ _)
        | 3, ho =>
          cases ho
          have e := hd ⟨2, .data⟩ (by simp) rfl _ _ rfl rfl
          simp only [aSpec, Parts.arr, Array.getD_eq_getD_getElem?] at e
          clear hd
          go_simp
          refine Calls.mono (Hr.out w' Hw0.out) ?_
          rintro e8 w8 ⟨v8, rfl, ht8, hb8⟩
          exact HK.out _ _ ht8 hb8
        | 4, ho => exact absurd (by simp) hi
        | 5, ho => exact absurd (by simp) hi
        | n + 6, ho => simp at ho
      · intro fuel listed a' w8 hc hm hall
        obtain ⟨g, ha, hh⟩ := hm.act (ds := [12, 13, 14, 15]) (by kernel_rfl)
        have hl : listed = #[true, true, true, true, false, false] := by
          have hs : listed.size = 6 := hm.size
          have n4 := getD_both (hm.rest 4 (by simp))
          have n5 := getD_both (hm.rest 5 (by simp))
          rw [listed_all listed, hs]
          simp only [List.range, List.range.loop, List.map, n4, n5, hall 0 (by simp), hall 1 (by simp), hall 2 (by simp), hall 3 (by simp)]
        have h13 := Lib.hid (show TsV w8 L (g 13) from hh 1 _ _ (hall 1 (by simp)) rfl rfl)
        have h15 := Lib.hid (show TsV w8 L (g 15) from hh 3 _ _ (hall 3 (by simp)) rfl rfl)
        have Hbd : Hid (Below w.heap.size w w8) := Lib.hid (Hb3.out.trans (((Below.refl w3.heap.size w3).drew.trans hm.inv).mono Hb3.out.size))
        subst hl
        clear hm hall hh
        subst ha
        simp only [setAll]
        generalize g 12 = g12
        generalize g 13 = g13 at *
        generalize g 14 = g14
        generalize g 15 = g15 at *
        simp only [Act.put, List.setIfInBounds_toArray, List.set_cons_zero, List.set_cons_succ]
        obtain ⟨f, rfl⟩ : ∃ f, fuel = f + 2 := ⟨fuel - 2, by simp at hc; omega⟩
        clear hc
        refine wpAny_ready (rs := [4]) (by kernel_rfl) (by simp) ?_
        refine AllReady.cons rfl (fun K3 hK3 => ?_) AllReady.nil
        go_simp
        refine hK3 _ _ ?_
        refine wpAny_ready (rs := [5]) (by kernel_rfl) (by simp) ?_
        refine AllReady.cons rfl (fun K4 hK4 => ?_) AllReady.nil
        go_simp
        refine hK4 _ _ ?_
        refine wpAny_done (by kernel_rfl) ?_ _
        dsimp only [Exit.then]
        go_wp2_with fail
        go_meet
        exact ⟨h13, h15, Hbd⟩
    case rest =>
      obtain ⟨h13, h15, Hbx⟩ := hcut
      obtain ⟨A1, c1, rfl, hc1, f1, hf1, hL1⟩ := h13.out
      obtain ⟨A2, c2, rfl, hc2, f2, hf2, hL2⟩ := h15.out
      have Hf1 := Lib.hid hf1
      have Hf2 := Lib.hid hf2
      have HL1 := Lib.hid hL1
      have HL2 := Lib.hid hL2
      have hln := HLn.out
      clear h13 h15 hf1 hf2 hL1 hL2
      go_wp2_with fail
      go_loopw [5] (fun i wr => ∃ k : Nat, k ≤ L.length ∧ i = .int .i64 k ∧ Hid (Below wc.heap.size wc wr)) (fun i _ => L.length - (Go.RowKit.intOf i).toNat)
      case atStart => exact ⟨0, by omega, rfl, Lib.hid (Below.refl _ _)⟩
      case round =>
        obtain ⟨k, hk, rfl, HBr⟩ := hrel
        by_cases hlt : k < L.length
        · have Ht : Hid (L[k]? = some L[k]) := Lib.hid (List.getElem?_eq_getElem hlt)
          have Hv := Lib.hid ((HL1.out k _ Ht.out).mono HBr.out)
          have Hv2 := Lib.hid ((HL2.out k _ Ht.out).mono HBr.out)
          obtain ⟨p, hp⟩ := Hv.out.parts
          obtain ⟨q, hq⟩ := Hv2.out.parts
          have Hp := Lib.hid hp
          have Hq := Lib.hid hq
          obtain ⟨b, o, rfl, e0, e1, e2, e3, e4, e5, e6⟩ := (Hf1.out.below HBr.out).get hlt hp
          obtain ⟨b2, o2, rfl, f0, f1, f2, f3, f4, f5, f6⟩ := (Hf2.out.below HBr.out).get hlt hq
          have Hc : Hid (∀ W2, Below wr.heap.size wr W2 → Calls Tryz.prog 12 #[.agg #[.int .i64 p.op, .string p.name, .int .i64 p.sort, .string p.n, .slice p.A p.la p.ca, .slice p.V p.lv p.cv, .slice p.P p.lp p.cp], .agg #[.int .i64 q.op, .string q.name, .int .i64 q.sort, .string q.n, .slice q.A q.la q.ca, .slice q.V q.lv q.cv, .slice q.P q.lp q.cp]] W2 fun e w'' => e = .returned (.bool true) ∧ Below W2.heap.size W2 w'') := Lib.hid (fun W2 h2 => by
            have h := same_any Hv.out _ _ Hv2.out W2 h2
            rw [Hp.out, Hq.out, sameT_refl] at h
            exact h)
          have k1 : (0 : Int) ≤ (k : Int) := by omega
          have k2 : (k : Int) < (L.length : Int) := by omega
          clear hp hq Ht Hv Hv2 Hp Hq
          have SD : wr.drew.cell? ⟨b, o + k * 7, none⟩ = some (.int .i64 p.op) ∧ wr.drew.cell? ⟨b, o + k * 7 + 1, none⟩ = some (.string p.name) ∧ wr.drew.cell? ⟨b, o + k * 7 + 2, none⟩ = some (.int .i64 p.sort) ∧ wr.drew.cell? ⟨b, o + k * 7 + 3, none⟩ = some (.string p.n) ∧ wr.drew.cell? ⟨b, o + k * 7 + 4, none⟩ = some (.slice p.A p.la p.ca) ∧ wr.drew.cell? ⟨b, o + k * 7 + 5, none⟩ = some (.slice p.V p.lv p.cv) ∧ wr.drew.cell? ⟨b, o + k * 7 + 6, none⟩ = some (.slice p.P p.lp p.cp) ∧
            wr.drew.cell? ⟨b2, o2 + k * 7, none⟩ = some (.int .i64 q.op) ∧ wr.drew.cell? ⟨b2, o2 + k * 7 + 1, none⟩ = some (.string q.name) ∧ wr.drew.cell? ⟨b2, o2 + k * 7 + 2, none⟩ = some (.int .i64 q.sort) ∧ wr.drew.cell? ⟨b2, o2 + k * 7 + 3, none⟩ = some (.string q.n) ∧ wr.drew.cell? ⟨b2, o2 + k * 7 + 4, none⟩ = some (.slice q.A q.la q.ca) ∧ wr.drew.cell? ⟨b2, o2 + k * 7 + 5, none⟩ = some (.slice q.V q.lv q.cv) ∧ wr.drew.cell? ⟨b2, o2 + k * 7 + 6, none⟩ = some (.slice q.P q.lp q.cp) := ⟨e0, e1, e2, e3, e4, e5, e6, f0, f1, f2, f3, f4, f5, f6⟩
          have Hwd : Hid (Below wr.heap.size wr wr.drew) := Lib.hid (Below.refl wr.heap.size wr).drew
          go_wp2_with fail
          go_region_held3 (fun w' => w'.cell? ⟨b, o + k * 7, none⟩ = some (.int .i64 p.op) ∧ w'.cell? ⟨b, o + k * 7 + 1, none⟩ = some (.string p.name) ∧ w'.cell? ⟨b, o + k * 7 + 2, none⟩ = some (.int .i64 p.sort) ∧ w'.cell? ⟨b, o + k * 7 + 3, none⟩ = some (.string p.n) ∧ w'.cell? ⟨b, o + k * 7 + 4, none⟩ = some (.slice p.A p.la p.ca) ∧ w'.cell? ⟨b, o + k * 7 + 5, none⟩ = some (.slice p.V p.lv p.cv) ∧ w'.cell? ⟨b, o + k * 7 + 6, none⟩ = some (.slice p.P p.lp p.cp) ∧
              w'.cell? ⟨b2, o2 + k * 7, none⟩ = some (.int .i64 q.op) ∧ w'.cell? ⟨b2, o2 + k * 7 + 1, none⟩ = some (.string q.name) ∧ w'.cell? ⟨b2, o2 + k * 7 + 2, none⟩ = some (.int .i64 q.sort) ∧ w'.cell? ⟨b2, o2 + k * 7 + 3, none⟩ = some (.string q.n) ∧ w'.cell? ⟨b2, o2 + k * 7 + 4, none⟩ = some (.slice q.A q.la q.ca) ∧ w'.cell? ⟨b2, o2 + k * 7 + 5, none⟩ = some (.slice q.V q.lv q.cv) ∧ w'.cell? ⟨b2, o2 + k * 7 + 6, none⟩ = some (.slice q.P q.lp q.cp))
            (first
              | (with_reducible exact SD)
              | (with_reducible exact S4))
            (first
              | (go_at_call 12; (with_reducible refine Calls.mono (Hc.out _ Hwd.out) ?_); rintro e w4 ⟨rfl, hb4⟩
                 have S4 := And.intro (keep_cell hb4 SD.1) (And.intro (keep_cell hb4 SD.2.1) (And.intro (keep_cell hb4 SD.2.2.1) (And.intro (keep_cell hb4 SD.2.2.2.1) (And.intro (keep_cell hb4 SD.2.2.2.2.1) (And.intro (keep_cell hb4 SD.2.2.2.2.2.1) (And.intro (keep_cell hb4 SD.2.2.2.2.2.2.1) (And.intro (keep_cell hb4 SD.2.2.2.2.2.2.2.1) (And.intro (keep_cell hb4 SD.2.2.2.2.2.2.2.2.1) (And.intro (keep_cell hb4 SD.2.2.2.2.2.2.2.2.2.1) (And.intro (keep_cell hb4 SD.2.2.2.2.2.2.2.2.2.2.1) (And.intro (keep_cell hb4 SD.2.2.2.2.2.2.2.2.2.2.2.1) (And.intro (keep_cell hb4 SD.2.2.2.2.2.2.2.2.2.2.2.2.1) (keep_cell hb4 SD.2.2.2.2.2.2.2.2.2.2.2.2.2)))))))))))))
                 have Hb4 : Hid (Below wr.heap.size wr w4) := Lib.hid (Hwd.out.trans (hb4.mono Hwd.out.size))
                 clear hb4))
          go_wp2_with fail
          go_roundw
          case rel => exact ⟨k + 1, by omega, by go_num, Lib.hid (HBr.out.trans (Hb4.out.mono HBr.out.size))⟩
          case measure => simp [Go.RowKit.intOf]; omega
        · have hlt2 : ¬ (k : Int) < (L.length : Int) := by omega
          go_wp2_with fail
          go_ret
          exact ⟨rfl, Hbx.out.trans (HBr.out.mono Hbx.out.size)⟩
end Go.Proofs.YtlgbepamnkfpjaaGreatDoor
