/- Numbers by digits, plainly. -/
import Derived.Test.YtbnonccmlildnaaGreatM6
import Derived.Lib.ItoaNum
set_option linter.unusedSimpArgs false
set_option linter.unusedVariables false
namespace Go.Proofs.YtbnonccmlildnaaGreat
open Go.RowKit Go.Lib

/- Numbers by digits, plainly. -/
/-- What digits are worth, the lowest first. -/
def dval (B : Nat) : List Nat → Nat
  | [] => 0
  | x :: xs => x + B * dval B xs
theorem dval_append (B : Nat) (a b : List Nat) : dval B (a ++ b) = dval B a + B ^ a.length * dval B b := by
  induction a with
  | nil => simp [dval]
  | cons x a ih =>
    simp only [List.cons_append, dval, ih, List.length_cons, Nat.pow_succ, Nat.mul_add]
    have : B * (B ^ a.length * dval B b) = B ^ a.length * B * dval B b := by
      rw [← Nat.mul_assoc, Nat.mul_comm B]
    omega
def okD (B : Nat) (l : List Nat) : Prop := ∀ x ∈ l, x < B
theorem dval_lt {B : Nat} (hB : 0 < B) {l : List Nat} (h : okD B l) : dval B l < B ^ l.length := by
  induction l with
  | nil => simp [dval]
  | cons x l ih =>
    have h1 := ih (fun y hy => h y (by simp [hy]))
    have h2 := h x (by simp)
    simp only [dval, List.length_cons, Nat.pow_succ]
    have h3 : B * (dval B l + 1) ≤ B * B ^ l.length := Nat.mul_le_mul_left B h1
    rw [Nat.mul_add] at h3
    rw [Nat.mul_comm (B ^ l.length) B]
    omega
/-- Without noughts at the end. -/
def canon (l : List Nat) : Prop := ∀ x, l.getLast? = some x → x ≠ 0
theorem dval_pos {B : Nat} {l : List Nat} (h : canon l) (hl : l ≠ []) : B ^ (l.length - 1) ≤ dval B l := by
  obtain ⟨m, x, rfl⟩ : ∃ m x, l = m ++ [x] := ⟨l.dropLast, l.getLast hl, (List.dropLast_concat_getLast hl).symm⟩
  have hx : x ≠ 0 := h x (by simp)
  rw [dval_append]
  simp only [List.length_append, List.length_singleton, Nat.add_sub_cancel, dval, Nat.mul_zero, Nat.add_zero]
  have : B ^ m.length * 1 ≤ B ^ m.length * x := Nat.mul_le_mul_left _ (by omega)
  omega
theorem canon_nil : canon [] := by intro x h; simp at h
theorem dval_zero {B : Nat} (hB : 0 < B) {l : List Nat} (h : canon l) (h0 : dval B l = 0) : l = [] := by
  cases l with
  | nil => rfl
  | cons x l =>
    have := dval_pos (B := B) h (by simp)
    have h2 : 0 < B ^ ((x :: l).length - 1) := Nat.pow_pos hB
    omega
theorem canon_tail {x : Nat} {l : List Nat} (h : canon (x :: l)) (hl : l ≠ []) : canon l := by
  intro y hy
  refine h y ?_
  cases l with
  | nil => exact absurd rfl hl
  | cons z l => simpa using hy
/-- One number has one row of digits. -/
theorem dval_inj {B : Nat} (hB : 1 < B) : ∀ {a b : List Nat}, okD B a → okD B b → canon a → canon b → dval B a = dval B b → a = b := by
  intro a
  induction a with
  | nil =>
    intro b _ _ _ hb h
    exact (dval_zero (by omega) hb h.symm).symm
  | cons x a ih =>
    intro b ha hb ca cb h
    cases b with
    | nil => exact absurd (dval_zero (by omega) ca h) (by simp)
    | cons y b =>
      simp only [dval] at h
      have hx := ha x (by simp)
      have hy := hb y (by simp)
      have h1 : x = y := by
        have e1 : (x + B * dval B a) % B = x := by rw [Nat.add_mul_mod_self_left, Nat.mod_eq_of_lt hx]
        have e2 : (y + B * dval B b) % B = y := by rw [Nat.add_mul_mod_self_left, Nat.mod_eq_of_lt hy]
        rw [← e1, h, e2]
      subst h1
      have h2 : dval B a = dval B b := Nat.eq_of_mul_eq_mul_left (by omega) (Nat.add_left_cancel h)
      have h3 : a = b := by
        by_cases e : a = []
        · subst e
          by_cases e2 : b = []
          · exact e2.symm
          · have := dval_zero (B := B) (by omega) (canon_tail cb e2) (by rw [← h2]; rfl)
            exact absurd this e2
        · by_cases e2 : b = []
          · subst e2
            have := dval_zero (B := B) (by omega) (canon_tail ca e) (by rw [h2]; rfl)
            exact absurd this e
          · exact ih (fun z hz => ha z (by simp [hz])) (fun z hz => hb z (by simp [hz])) (canon_tail ca e) (canon_tail cb e2) h2
      rw [h3]
/-- Cutting noughts off the end. -/
theorem dval_snoc_zero (B : Nat) (l : List Nat) : dval B (l ++ [0]) = dval B l := by rw [dval_append]; simp [dval]
/-- The sum of two rows, with what is carried. -/
def plusC (B : Nat) : List Nat → List Nat → Nat → Nat → List Nat
  | _, _, _, 0 => []
  | a, b, c, k + 1 => (a.headD 0 + b.headD 0 + c) % B :: plusC B a.tail b.tail ((a.headD 0 + b.headD 0 + c) / B) k
theorem headD_tail (B : Nat) (a : List Nat) : dval B a = a.headD 0 + B * dval B a.tail := by cases a <;> simp [dval]
theorem plusC_val {B : Nat} (hB : 0 < B) : ∀ (k : Nat) (a b : List Nat) (c : Nat), a.length ≤ k → b.length ≤ k → dval B a + dval B b + c < B ^ k → dval B (plusC B a b c k) = dval B a + dval B b + c := by
  intro k
  induction k with
  | zero =>
    intro a b c ha hb hc
    simp at hc
    simp [plusC, dval]
    omega
  | succ k ih =>
    intro a b c ha hb hc
    rw [headD_tail B a, headD_tail B b] at hc ⊢
    simp only [plusC, dval]
    generalize a.headD 0 = x at *
    generalize b.headD 0 = y at *
    have h1 : dval B a.tail + dval B b.tail + (x + y + c) / B < B ^ k := by
      rw [Nat.pow_succ, Nat.mul_comm (B ^ k) B] at hc
      refine Nat.lt_of_mul_lt_mul_left (a := B) ?_
      have := Nat.div_add_mod (x + y + c) B
      rw [Nat.mul_add, Nat.mul_add]
      omega
    rw [ih a.tail b.tail _ (by simp; omega) (by simp; omega) h1, Nat.mul_add, Nat.mul_add]
    have := Nat.div_add_mod (x + y + c) B
    omega
theorem plusC_ok {B : Nat} (hB : 0 < B) : ∀ (k : Nat) (a b : List Nat) (c : Nat), okD B (plusC B a b c k)
  | 0, _, _, _ => by intro x hx; simp [plusC] at hx
  | k + 1, a, b, c => by
    intro x hx
    simp only [plusC, List.mem_cons] at hx
    rcases hx with rfl | hx
    · exact Nat.mod_lt _ hB
    · exact plusC_ok hB k _ _ _ x hx
theorem plusC_length (B : Nat) : ∀ (k : Nat) (a b : List Nat) (c : Nat), (plusC B a b c k).length = k
  | 0, _, _, _ => rfl
  | k + 1, a, b, c => by simp [plusC, plusC_length B k]
/-- Noughts at the end, cut off. -/
def strip : List Nat → List Nat
  | [] => []
  | x :: l => if strip l = [] ∧ x = 0 then [] else x :: strip l
theorem strip_val (B : Nat) : ∀ l : List Nat, dval B (strip l) = dval B l
  | [] => rfl
  | x :: l => by
    have ih := strip_val B l
    simp only [strip]
    split
    · rename_i h
      rw [h.1] at ih
      simp only [dval] at ih ⊢
      rw [h.2, ← ih]
      simp
    · simp only [dval, ih]
theorem strip_canon : ∀ l : List Nat, canon (strip l)
  | [] => canon_nil
  | x :: l => by
    have ih := strip_canon l
    simp only [strip]
    split
    · exact canon_nil
    · rename_i h
      intro y hy
      cases hs : strip l with
      | nil =>
        rw [hs] at hy h
        simp at hy h
        omega
      | cons z m =>
        rw [hs] at hy ih
        refine ih y ?_
        simpa using hy
theorem strip_ok {B : Nat} : ∀ {l : List Nat}, okD B l → okD B (strip l)
  | [], h => h
  | x :: l, h => by
    have ih := strip_ok (l := l) (fun y hy => h y (by simp [hy]))
    simp only [strip]
    split
    · intro y hy; cases hy
    · intro y hy
      rcases List.mem_cons.1 hy with rfl | hy
      · exact h _ (by simp)
      · exact ih y hy
theorem strip_snoc (l : List Nat) (x : Nat) : strip (l ++ [x]) = if x = 0 then strip l else l ++ [x] := by
  induction l with
  | nil => simp [strip]
  | cons y l ih =>
    simp only [List.cons_append, strip, ih]
    by_cases hx : x = 0
    · simp [hx]
    · simp [hx]
theorem strip_canon_id {l : List Nat} (h : canon l) : strip l = l := by
  by_cases hl : l = []
  · subst hl; rfl
  · obtain ⟨m, x, rfl⟩ : ∃ m x, l = m ++ [x] := ⟨l.dropLast, l.getLast hl, (List.dropLast_concat_getLast hl).symm⟩
    rw [strip_snoc, if_neg (h x (by simp))]
theorem strip_prefix (l : List Nat) : ∃ k, strip l = l.take k ∧ k ≤ l.length := by
  induction l with
  | nil => exact ⟨0, rfl, Nat.le_refl _⟩
  | cons x l ih =>
    obtain ⟨k, h1, h2⟩ := ih
    simp only [strip]
    split
    · exact ⟨0, by simp, by simp⟩
    · exact ⟨k + 1, by rw [h1]; simp, by simpa using h2⟩
/-- The difference of two rows, with what is borrowed. -/
def minusC (B : Nat) : List Nat → List Nat → Nat → List Nat
  | [], _, _ => []
  | x :: a, b, c => (if b.headD 0 + c ≤ x then x - (b.headD 0 + c) else x + B - (b.headD 0 + c)) :: minusC B a b.tail (if b.headD 0 + c ≤ x then 0 else 1)
theorem minusC_val {B : Nat} (hB : 0 < B) : ∀ (a b : List Nat) (c : Nat), okD B a → okD B b → b.length ≤ a.length → c ≤ 1 → dval B b + c ≤ dval B a → dval B (minusC B a b c) = dval B a - (dval B b + c) := by
  intro a
  induction a with
  | nil =>
    intro b c _ _ hl _ h
    have : b = [] := List.eq_nil_of_length_eq_zero (by simpa using hl)
    subst this
    simp [minusC, dval]
  | cons x a ih =>
    intro b c ha hb hl hc h
    rw [headD_tail B b] at h ⊢
    simp only [minusC, dval] at h ⊢
    have hx := ha x (by simp)
    have hy : b.headD 0 < B := by
      cases b with
      | nil => simpa using hB
      | cons y b => exact hb y (by simp)
    generalize b.headD 0 = y at *
    have hbt : okD B b.tail := fun z hz => hb z (List.mem_of_mem_tail hz)
    have hlt : b.tail.length ≤ a.length := by simp at hl ⊢; omega
    by_cases hle : y + c ≤ x
    · rw [if_pos hle, if_pos hle]
      have h2 : dval B b.tail + 0 ≤ dval B a := by
        have : B * dval B b.tail < B * (dval B a + 1) := by rw [Nat.mul_add]; omega
        have := Nat.lt_of_mul_lt_mul_left this
        omega
      rw [ih b.tail 0 (fun z hz => ha z (by simp [hz])) hbt hlt (by omega) h2, Nat.mul_sub, Nat.mul_add]
      have h3 : B * dval B b.tail ≤ B * dval B a := Nat.mul_le_mul_left B (by omega)
      omega
    · rw [if_neg hle, if_neg hle]
      have h2 : dval B b.tail + 1 ≤ dval B a := by
        have : B * dval B b.tail < B * dval B a := by omega
        have := Nat.lt_of_mul_lt_mul_left this
        omega
      rw [ih b.tail 1 (fun z hz => ha z (by simp [hz])) hbt hlt (by omega) h2, Nat.mul_sub, Nat.mul_add]
      have h3 : B * (dval B b.tail + 1) ≤ B * dval B a := Nat.mul_le_mul_left B h2
      rw [Nat.mul_add] at h3
      omega
theorem minusC_ok {B : Nat} : ∀ (a b : List Nat) (c : Nat), okD B a → okD B b → c ≤ 1 → 0 < B → okD B (minusC B a b c) := by
  intro a
  induction a with
  | nil => intro b c _ _ _ _ x hx; simp [minusC] at hx
  | cons x a ih =>
    intro b c ha hb hc hB z hz
    simp only [minusC, List.mem_cons] at hz
    have hx := ha x (by simp)
    rcases hz with rfl | hz
    · split <;> omega
    · exact ih b.tail _ (fun z hz => ha z (by simp [hz])) (fun z hz => hb z (List.mem_of_mem_tail hz)) (by split <;> omega) hB z hz
/-- How two rows without noughts at the end compare. -/
theorem dval_lt_len {B : Nat} (hB : 0 < B) {a b : List Nat} (ha : okD B a) (hb : canon b) (h : a.length < b.length) : dval B a < dval B b := by
  have h1 := dval_lt hB ha
  have h2 := dval_pos (B := B) hb (by intro e; subst e; simp at h)
  have h3 : B ^ a.length ≤ B ^ (b.length - 1) := Nat.pow_le_pow_right hB (by omega)
  omega
/-- Rows of one length: the highest place at which they are not the same decides. -/
theorem dval_lt_at {B : Nat} (hB : 0 < B) {a b m n : List Nat} {x y : Nat} (ha : okD B a) (hb : okD B b) (hl : a.length = b.length) (hx : x < y) (hm : m = n) : dval B (a ++ x :: m) < dval B (b ++ y :: n) := by
  subst hm
  rw [dval_append, dval_append, hl]
  simp only [dval]
  have h1 := dval_lt hB ha
  rw [hl] at h1
  have h2 : B ^ b.length * (x + 1 + B * dval B m) ≤ B ^ b.length * (y + B * dval B m) := Nat.mul_le_mul_left _ (by omega)
  rw [Nat.mul_add, Nat.mul_add] at h2
  rw [Nat.mul_add]
  omega
/-- Digits so many times, and a number more. -/
def growC (B : Nat) : List Nat → Nat → Nat → List Nat
  | [], _, m => if m = 0 then [] else [m]
  | x :: l, t, m => (m + x * t) % B :: growC B l t ((m + x * t) / B)
theorem carry_lt {B x t m : Nat} (hx : x < B) (ht : t < B) (hm : m < B) : (m + x * t) / B < B := by
  rw [Nat.div_lt_iff_lt_mul (by omega)]
  have h1 : x * t ≤ (B - 1) * (B - 1) := Nat.mul_le_mul (by omega) (by omega)
  obtain ⟨b, rfl⟩ : ∃ b, B = b + 1 := ⟨B - 1, by omega⟩
  simp only [Nat.add_sub_cancel] at h1
  have : (b + 1) * (b + 1) = b * b + b + b + 1 := by rw [Nat.add_mul, Nat.mul_add]; omega
  omega
theorem growC_val {B : Nat} : ∀ (l : List Nat) (t m : Nat), dval B (growC B l t m) = dval B l * t + m
  | [], t, m => by
    simp only [growC]
    split <;> simp_all [dval]
  | x :: l, t, m => by
    have ih := growC_val (B := B) l t ((m + x * t) / B)
    simp only [growC, dval, ih]
    have := Nat.div_add_mod (m + x * t) B
    rw [Nat.mul_add, Nat.add_mul, Nat.mul_assoc]
    omega
theorem growC_ok {B : Nat} : ∀ (l : List Nat) (t m : Nat), okD B l → t < B → m < B → okD B (growC B l t m)
  | [], t, m, _, _, hm => by
    intro x hx
    simp only [growC] at hx
    split at hx
    · cases hx
    · simp at hx; omega
  | x :: l, t, m, h, ht, hm => by
    intro z hz
    simp only [growC, List.mem_cons] at hz
    rcases hz with rfl | hz
    · exact Nat.mod_lt _ (by omega)
    · exact growC_ok l t _ (fun y hy => h y (by simp [hy])) ht (carry_lt (h x (by simp)) ht hm) z hz
/-- A row divided by a small number, from the highest place on. -/
def divC (B D : Nat) : List Nat → List Nat × Nat
  | [] => ([], 0)
  | x :: l => (((divC B D l).2 * B + x) / D :: (divC B D l).1, ((divC B D l).2 * B + x) % D)
theorem divC_val {B D : Nat} (hD : 0 < D) : ∀ l : List Nat, dval B (divC B D l).1 * D + (divC B D l).2 = dval B l ∧ (divC B D l).2 < D
  | [] => by simp [divC, dval, hD]
  | x :: l => by
    obtain ⟨h1, h2⟩ := divC_val hD l
    simp only [divC, dval]
    refine ⟨?_, Nat.mod_lt _ hD⟩
    have h3 := Nat.div_add_mod ((divC B D l).2 * B + x) D
    rw [← h1, Nat.add_mul, Nat.mul_add]
    have h4 : B * dval B (divC B D l).1 * D = B * (dval B (divC B D l).1 * D) := Nat.mul_assoc _ _ _
    have h5 : D * (((divC B D l).2 * B + x) / D) = ((divC B D l).2 * B + x) / D * D := Nat.mul_comm _ _
    have h6 : (divC B D l).2 * B = B * (divC B D l).2 := Nat.mul_comm _ _
    omega
theorem divC_ok {B D : Nat} (hD : 0 < D) : ∀ l : List Nat, okD B l → okD B (divC B D l).1
  | [], _ => by intro x hx; simp [divC] at hx
  | x :: l, h => by
    intro z hz
    simp only [divC, List.mem_cons] at hz
    rcases hz with rfl | hz
    · rw [Nat.div_lt_iff_lt_mul hD]
      have h2 := (divC_val (B := B) hD l).2
      have hx := h x (by simp)
      have h3 : ((divC B D l).2 + 1) * B ≤ D * B := Nat.mul_le_mul_right B h2
      rw [Nat.add_mul] at h3
      rw [Nat.mul_comm B D]
      omega
    · exact divC_ok hD l (fun y hy => h y (by simp [hy])) z hz
theorem divC_length {B D : Nat} : ∀ l : List Nat, (divC B D l).1.length = l.length
  | [] => rfl
  | x :: l => by simp [divC, divC_length l]
/-- The lowest k places. -/
def lowD (B : Nat) : Nat → Nat → List Nat
  | 0, _ => []
  | k + 1, n => n % B :: lowD B k (n / B)
theorem lowD_val {B : Nat} (hB : 0 < B) : ∀ k n : Nat, n < B ^ k → dval B (lowD B k n) = n
  | 0, n, h => by simp at h; simp [lowD, dval, h]
  | k + 1, n, h => by
    have h1 : n / B < B ^ k := by
      rw [Nat.div_lt_iff_lt_mul hB]
      rwa [Nat.pow_succ] at h
    simp only [lowD, dval, lowD_val hB k _ h1]
    have := Nat.div_add_mod n B
    omega
theorem lowD_ok {B : Nat} (hB : 0 < B) : ∀ k n : Nat, okD B (lowD B k n)
  | 0, n => by intro x hx; simp [lowD] at hx
  | k + 1, n => by
    intro x hx
    simp only [lowD, List.mem_cons] at hx
    rcases hx with rfl | hx
    · exact Nat.mod_lt _ hB
    · exact lowD_ok hB k _ x hx
theorem lowD_length (B : Nat) : ∀ k n : Nat, (lowD B k n).length = k
  | 0, _ => rfl
  | k + 1, n => by simp [lowD, lowD_length B k]
/-- A row's places of another base, nine at a time. -/
def chunks (B D b k : Nat) : Nat → List Nat → List Nat
  | 0, _ => []
  | f + 1, l => if dval B l = 0 then [] else lowD b k (divC B D l).2 ++ chunks B D b k f (divC B D l).1
theorem chunks_val {B b k : Nat} (hb : 1 < b) (hk : 0 < k) : ∀ (f : Nat) (l : List Nat), dval B l < (b ^ k) ^ f → dval b (chunks B (b ^ k) b k f l) = dval B l := by
  have hD : 1 < b ^ k := Nat.one_lt_pow (by omega) hb
  intro f
  induction f with
  | zero => intro l h; simp at h; simp [chunks, dval, h]
  | succ f ih =>
    intro l h
    simp only [chunks]
    split
    · rename_i h0; simp [dval, h0]
    · obtain ⟨h1, h2⟩ := divC_val (B := B) (D := b ^ k) (by omega) l
      have h3 : dval B (divC B (b ^ k) l).1 < (b ^ k) ^ f := by
        rw [Nat.pow_succ] at h
        have : dval B (divC B (b ^ k) l).1 * b ^ k < (b ^ k) ^ f * b ^ k := by omega
        exact Nat.lt_of_mul_lt_mul_right this
      rw [dval_append, lowD_val (by omega) k _ h2, lowD_length, ih _ h3]
      have := Nat.mul_comm (b ^ k) (dval B (divC B (b ^ k) l).1)
      omega
/-- The numeral, out of its places. -/
theorem decDigits_rev : ∀ ds : List Nat, okD 10 ds → canon ds → ds ≠ [] → decDigits (dval 10 ds) = (ds.map fun d => UInt8.ofNat (48 + d)).reverse
  | [], _, _, h => absurd rfl h
  | [x], ho, _, _ => by
    have hx := ho x (by simp)
    simp only [dval, Nat.mul_zero, Nat.add_zero, List.map_cons, List.map_nil, List.reverse_singleton]
    rw [decDigits, dif_pos hx]
  | x :: y :: l, ho, hc, _ => by
    have hx := ho x (by simp)
    have hc2 := canon_tail hc (by simp)
    have ih := decDigits_rev (y :: l) (fun z hz => ho z (by simp [hz])) hc2 (by simp)
    have hp : dval 10 (y :: l) ≠ 0 := fun h => by
      have := dval_zero (by decide) hc2 h
      cases this
    rw [show dval 10 (x :: y :: l) = x + 10 * dval 10 (y :: l) from rfl, decDigits, dif_neg (by omega), show (x + 10 * dval 10 (y :: l)) / 10 = dval 10 (y :: l) by omega, show (x + 10 * dval 10 (y :: l)) % 10 = x by omega, ih]
    simp
/-- What a text of digits is worth. -/
def pval : List UInt8 → Nat → Nat
  | [], a => a
  | c :: l, a => pval l (10 * a + (c.toNat - 48))
theorem pval_append (a b : List UInt8) (n : Nat) : pval (a ++ b) n = pval b (pval a n) := by
  induction a generalizing n with
  | nil => rfl
  | cons c a ih => simp only [List.cons_append, pval, ih]
def digit (c : UInt8) : Prop := 48 ≤ c.toNat ∧ c.toNat ≤ 57
theorem pval_dec : ∀ (l : List UInt8) (a : Nat), 0 < a → (∀ c ∈ l, digit c) → decDigits (pval l a) = decDigits a ++ l
  | [], a, _, _ => by simp [pval]
  | c :: l, a, ha, h => by
    have hc := h c (by simp)
    have hd : (c.toNat - 48) < 10 := by have := hc.1; have := hc.2; omega
    rw [pval, pval_dec l (10 * a + (c.toNat - 48)) (by omega) (fun d hd => h d (by simp [hd]))]
    have : decDigits (10 * a + (c.toNat - 48)) = decDigits a ++ [c] := by
      rw [decDigits, dif_neg (by omega), show (10 * a + (c.toNat - 48)) / 10 = a by omega, show (10 * a + (c.toNat - 48)) % 10 = c.toNat - 48 by omega]
      have h1 := hc.1
      rw [show 48 + (c.toNat - 48) = c.toNat by omega]
      simp
    rw [this]
    simp
/-- A text of digits without a nought ahead is the numeral of what it is worth. -/
theorem pval_text {c : UInt8} {l : List UInt8} (h : ∀ d ∈ c :: l, digit d) (h0 : c ≠ 48 ∨ l = []) : decDigits (pval (c :: l) 0) = c :: l := by
  have hc := h c (by simp)
  have hone : decDigits (c.toNat - 48) = [c] := by
    have h1 := hc.1
    have h2 := hc.2
    rw [decDigits, dif_pos (by omega), show 48 + (c.toNat - 48) = c.toNat by omega]
    simp
  rcases h0 with h0 | rfl
  · have hp : 0 < c.toNat - 48 := by
      have h1 := hc.1
      have : c.toNat ≠ 48 := fun e => h0 (UInt8.toNat_inj.1 (by rw [e]; rfl))
      omega
    simp only [pval, Nat.mul_zero, Nat.zero_add]
    rw [pval_dec l _ hp (fun d hd => h d (by simp [hd])), hone]
    rfl
  · simp only [pval, Nat.mul_zero, Nat.zero_add]
    exact hone
/-- One row of a product, on what is there. -/
def rowC (B x : Nat) : List Nat → List Nat → Nat → List Nat
  | [], _, n => [n]
  | y :: b, o, n => (n + (x * y + o.headD 0)) % B :: rowC B x b o.tail ((n + (x * y + o.headD 0)) / B)
theorem rowC_val {B x : Nat} : ∀ (b o : List Nat) (n : Nat), o.length = b.length → dval B (rowC B x b o n) = x * dval B b + dval B o + n
  | [], o, n, h => by
    have : o = [] := List.eq_nil_of_length_eq_zero (by simpa using h)
    subst this
    simp [rowC, dval]
  | y :: b, o, n, h => by
    have ih := rowC_val (B := B) (x := x) b o.tail ((n + (x * y + o.headD 0)) / B) (by simp at h ⊢; omega)
    rw [headD_tail B o]
    simp only [rowC, dval, ih]
    generalize o.headD 0 = z
    have h1 := Nat.div_add_mod (n + (x * y + z)) B
    rw [Nat.mul_add, Nat.mul_add, Nat.mul_add]
    have h2 : B * (x * dval B b) = x * (B * dval B b) := Nat.mul_left_comm _ _ _
    omega
theorem rowC_length {B x : Nat} : ∀ (b o : List Nat) (n : Nat), (rowC B x b o n).length = b.length + 1
  | [], _, _ => rfl
  | y :: b, o, n => by simp [rowC, rowC_length b]
theorem row_carry {B x y z n : Nat} (hx : x < B) (hy : y < B) (hz : z < B) (hn : n < B) : (n + (x * y + z)) / B < B ∧ n + (x * y + z) < B * B := by
  have h1 : x * y ≤ (B - 1) * (B - 1) := Nat.mul_le_mul (by omega) (by omega)
  obtain ⟨b, rfl⟩ : ∃ b, B = b + 1 := ⟨B - 1, by omega⟩
  simp only [Nat.add_sub_cancel] at h1
  have h2 : (b + 1) * (b + 1) = b * b + b + b + 1 := by rw [Nat.add_mul, Nat.mul_add]; omega
  have h3 : n + (x * y + z) < (b + 1) * (b + 1) := by omega
  exact ⟨by rw [Nat.div_lt_iff_lt_mul (by omega)]; exact h3, h3⟩
theorem rowC_ok {B x : Nat} (hx : x < B) : ∀ (b o : List Nat) (n : Nat), okD B b → okD B o → n < B → okD B (rowC B x b o n)
  | [], o, n, _, _, hn => by
    intro z hz
    simp [rowC] at hz
    omega
  | y :: b, o, n, hb, ho, hn => by
    have hy := hb y (by simp)
    have hz : o.headD 0 < B := by
      cases o with
      | nil => simp; omega
      | cons z o => exact ho z (by simp)
    intro w hw
    simp only [rowC, List.mem_cons] at hw
    rcases hw with rfl | hw
    · exact Nat.mod_lt _ (by omega)
    · exact rowC_ok hx b o.tail _ (fun z hz => hb z (by simp [hz])) (fun z hz => ho z (List.mem_of_mem_tail hz)) (row_carry hx hy hz hn).1 w hw
/-- A product, row by row, on a window of what is there. -/
def mulC (B : Nat) : List Nat → List Nat → List Nat → List Nat
  | [], _, o => o
  | x :: a, b, o => (rowC B x b o 0).headD 0 :: mulC B a b (rowC B x b o 0).tail
theorem mulC_val {B : Nat} : ∀ (a b o : List Nat), o.length = b.length → dval B (mulC B a b o) = dval B a * dval B b + dval B o
  | [], b, o, _ => by simp [mulC, dval]
  | x :: a, b, o, h => by
    have h1 := rowC_val (B := B) (x := x) b o 0 h
    have ih := mulC_val (B := B) a b (rowC B x b o 0).tail (by simp [rowC_length])
    simp only [mulC, dval, ih]
    rw [headD_tail B (rowC B x b o 0)] at h1
    rw [Nat.mul_add, Nat.add_mul]
    have h2 : B * (dval B a * dval B b) = B * dval B a * dval B b := (Nat.mul_assoc _ _ _).symm
    omega
theorem mulC_ok {B : Nat} : ∀ (a b o : List Nat), okD B a → okD B b → okD B o → 0 < B → okD B (mulC B a b o)
  | [], b, o, _, _, ho, _ => ho
  | x :: a, b, o, ha, hb, ho, hB => by
    have hr := rowC_ok (ha x (by simp)) b o 0 hb ho hB
    intro z hz
    simp only [mulC, List.mem_cons] at hz
    rcases hz with rfl | hz
    · cases hc : rowC B x b o 0 with
      | nil => simpa using hB
      | cons d r => rw [hc] at hr; exact hr d (by simp)
    · exact mulC_ok a b _ (fun y hy => ha y (by simp [hy])) hb (fun y hy => hr y (List.mem_of_mem_tail hy)) hB z hz
theorem mulC_length {B : Nat} : ∀ (a b o : List Nat), o.length = b.length → (mulC B a b o).length = a.length + b.length
  | [], b, o, h => by simp [mulC, h]
  | x :: a, b, o, h => by
    simp only [mulC, List.length_cons]
    rw [mulC_length a b _ (by simp [rowC_length])]
    omega
/-- How two rows compare, from the highest place on. -/
def cmpC : List Nat → List Nat → Int
  | x :: a, y :: b => if cmpC a b ≠ 0 then cmpC a b else if x < y then -1 else if y < x then 1 else 0
  | _, _ => 0
theorem cmpC_val {B : Nat} : ∀ (a b : List Nat), a.length = b.length → okD B a → okD B b →
    (cmpC a b = -1 ∧ dval B a < dval B b) ∨ (cmpC a b = 0 ∧ dval B a = dval B b) ∨ (cmpC a b = 1 ∧ dval B b < dval B a)
  | [], [], _, _, _ => by simp [cmpC, dval]
  | [], _ :: _, h, _, _ => by simp at h
  | _ :: _, [], h, _, _ => by simp at h
  | x :: a, y :: b, h, ha, hb => by
    have ih := cmpC_val a b (by simpa using h) (fun z hz => ha z (by simp [hz])) (fun z hz => hb z (by simp [hz]))
    have hx := ha x (by simp)
    have hy := hb y (by simp)
    simp only [cmpC, dval]
    rcases ih with ⟨h1, h2⟩ | ⟨h1, h2⟩ | ⟨h1, h2⟩
    · refine .inl ⟨by rw [h1]; simp, ?_⟩
      have : B * (dval B a + 1) ≤ B * dval B b := Nat.mul_le_mul_left B h2
      rw [Nat.mul_add] at this
      omega
    · rw [h1, h2]
      simp only [ne_eq, not_true, if_false]
      rcases Nat.lt_trichotomy x y with h3 | h3 | h3
      · exact .inl ⟨by rw [if_pos h3], by omega⟩
      · exact .inr (.inl ⟨by rw [if_neg (by omega), if_neg (by omega)], by omega⟩)
      · exact .inr (.inr ⟨by rw [if_neg (by omega), if_pos h3], by omega⟩)
    · refine .inr (.inr ⟨by rw [h1]; simp, ?_⟩)
      have : B * (dval B b + 1) ≤ B * dval B a := Nat.mul_le_mul_left B h2
      rw [Nat.mul_add] at this
      omega

end Go.Proofs.YtbnonccmlildnaaGreat

/- Numbers' digits in memory; 'grown', exactly. -/
namespace Go.Proofs.YtbnonccmlildnaaGreat
open Go.RowKit Go.Lib

def digV (d : Nat) : Value := .int .u32 (d : Int)
/-- A list of just these digits, of the call's own. -/
def DigL (w : World) (base : Nat) (ds : List Nat) (v : Value) : Prop := w.ownsRow base 131 1 v ds.length (ds.map digV)
theorem DigL.nil (w : World) (base : Nat) : DigL w base [] (.slice none 0 0) := World.ownsRow_nil _ _ _ _
theorem okD_append {B : Nat} {a b : List Nat} (ha : okD B a) (hb : okD B b) : okD B (a ++ b) := by
  intro x hx
  rcases List.mem_append.1 hx with h | h
  · exact ha x h
  · exact hb x h

theorem mul32 {x t : Nat} (hx : x < 4294967296) (ht : t < 4294967296) : x * t ≤ 18446744065119617025 := by
  have := Nat.mul_le_mul (show x ≤ 4294967295 by omega) (show t ≤ 4294967295 by omega)
  omega
theorem grow_num {x t m : Nat} (hx : x < 4294967296) (ht : t < 4294967296) (hm : m < 4294967296) : IntKind.u64.wrap ((m : Int) + IntKind.u64.wrap (IntKind.u64.wrap (x : Int) * (t : Int))) = ((m + x * t : Nat) : Int) := by
  have h1 := mul32 hx ht
  rw [IntWalk.u64_in (x : Int) (by omega), ← Int.natCast_mul, IntWalk.u64_in ((x * t : Nat) : Int) (by omega), ← Int.natCast_add, IntWalk.u64_in _ (by omega)]
theorem DigL.stored {w : World} {base g c n x : Nat} {done rest : List Nat} (h : w.ownsRow base 131 1 (.slice (some ⟨g, 0, none⟩) n c) n ((done ++ x :: rest).map digV)) (hn : done.length + (x :: rest).length = n) (y : Nat) :
    DigL (w.setCell ⟨g, done.length, none⟩ (digV y)) base (done ++ [y] ++ rest) (.slice (some ⟨g, 0, none⟩) n c) := by
  unfold DigL
  have h2 := (h.stored done.length (digV y)).1
  have e : (done ++ [y] ++ rest).length = n := by simp only [List.length_append, List.length_cons, List.length_nil] at *; omega
  rw [e, show (done ++ [y] ++ rest).map digV = ((done ++ x :: rest).map digV).set done.length (digV y) by simp [List.set_append]]
  exact h2

set_option maxRecDepth 100000 in
set_option maxHeartbeats 1000000 in
theorem grown_ex {w : World} {v : Value} {t m base : Nat} {ds : List Nat} (h : DigL w base ds v) (ho : okD 4294967296 ds) (ht : t < 4294967296) (hm : m < 4294967296) (hn : ds.length ≤ 30000000000000) (hbase : base ≤ w.heap.size) :
    Calls Tryz.prog 65 #[v, .int .u64 (t : Int), .int .u64 (m : Int)] w fun e w' => ∃ v', e = .returned v' ∧ DigL w' base (growC 4294967296 ds t m) v' ∧ Below base w w' := by
  obtain ⟨i135, hi, hz0, hz1, hz2⟩ := info_parts info135
  have hs : ∃ A c, v = .slice A ds.length c ∧ (0 < ds.length → ∃ g, A = some ⟨g, 0, none⟩ ∧ base ≤ g ∧ g < w.heap.size) := by
    rcases h.2 with ⟨rfl, h0⟩ | ⟨g, cap, cur, rfl, hg, hh, _⟩
    · exact ⟨_, _, by rw [h0], by omega⟩
    · exact ⟨_, _, rfl, fun _ => ⟨g, rfl, hg, (Array.getElem?_eq_some_iff.1 hh).1⟩⟩
  obtain ⟨A, c, rfl, hA⟩ := hs
  have hres : ∃ R, R = growC 4294967296 ds t m := ⟨_, rfl⟩
  obtain ⟨R, hR⟩ := hres
  rw [← hR]
  have hln : ∃ n, n = ds.length := ⟨_, rfl⟩
  obtain ⟨n, hln⟩ := hln
  rw [← hln] at hA hn ⊢
  have HA := Lib.hid hA
  have Hx := Lib.hid h
  have Ho := Lib.hid ho
  have HR := Lib.hid hR
  have Hln := Lib.hid hln
  have Ht := Lib.hid ht
  have Hm := Lib.hid hm
  clear h hA ho hR hln ht hm
  go_enter Tryz.func65, Tryz.ntmps65
  go_wp2_with fail
  go_loopw [2, 11] (fun mv i wr => ∃ (k m : Nat) (done rest : List Nat), Hid (done.length = k ∧ k + rest.length = n) ∧ i = .int .i64 (k : Int) ∧ mv = .int .u64 (m : Int) ∧ Hid (m < 4294967296) ∧ Hid (DigL wr base (done ++ rest) (.slice A n c)) ∧ Hid (okD 4294967296 rest) ∧ Hid (R = done ++ growC 4294967296 rest t m) ∧ Hid (Below base w wr)) (fun _ i _ => n - (intOf i).toNat)
  case atStart => exact ⟨0, m, [], ds, Lib.hid ⟨rfl, by rw [Hln.out]; simp⟩, rfl, rfl, Hm, Lib.hid (by have := Hx.out; rw [← Hln.out] at *; simpa using this), Ho, Lib.hid (by rw [HR.out]; rfl), Lib.hid (Below.refl _ _)⟩
  case round =>
    clear Hx Ho HR Hln Hm
    obtain ⟨k, m, done, rest, Hk, rfl, rfl, Hm, Hd, Hok, HR, Hb⟩ := hrel
    have Hw : Hid (wr.ownsRow base 131 1 (.slice A n c) n ((done ++ rest).map digV)) := Lib.hid (by
      have e := Hk.out
      have h := Hd.out
      unfold DigL at h
      rwa [show (done ++ rest).length = n by simp; omega] at h)
    have Hlt : Hid (rest = [] ↔ ¬ k < n) := Lib.hid (by
      have e := Hk.out
      rw [← List.length_eq_zero_iff]
      omega)
    by_cases hlt : k < n
    · cases rest with
      | nil => exact absurd hlt (Hlt.out.1 rfl)
      | cons x rest =>
      obtain ⟨g, rfl, hg1, hg2⟩ := HA.out (by omega)
      have hc1 : wr.cell? ⟨g, k, none⟩ = some (.int .u32 (x : Int)) := by
        have e := Hk.out
        rw [Hw.out.cellAt k (by omega), ← e.1]
        simp [digV]
      have hfz : wr.frozen? ⟨g, k, none⟩ = false := Hw.out.frozenAt k
      go_wp2_with fail
      go_roundw
      case rel =>
        have hx := Hok.out x (by simp)
        rw [grow_num hx Ht.out Hm.out]
        have e1 := Hk.out.1
        subst e1
        refine ⟨done.length + 1, (m + x * t) / 4294967296, done ++ [(m + x * t) % 4294967296], rest, Lib.hid ⟨by simp, ?_⟩, by simp, by simp, Lib.hid ?_, Lib.hid ?_, Lib.hid fun y hy => Hok.out y (by simp [hy]), Lib.hid ?_, Lib.hid (Hb.out.setCell hg1 _)⟩
        · have := Hk.out.2; simp at this; omega
        · have := carry_lt hx Ht.out Hm.out; exact this
        · exact DigL.stored Hw.out Hk.out.2 _
        · rw [HR.out]; simp [growC]
      case measure => simp [intOf]; omega
    · have hr : rest = [] := Hlt.out.2 hlt
      subst hr
      clear HA Hlt
      by_cases hm : (0 : Int) < (m : Int)
      · have hu0 : ∀ (y : Int), Hid ((wr.alloc (.cells #[.int .u32 y] 131)).ownsRow base 131 1 (.slice A n c) n ((done ++ []).map digV)) := fun y => Lib.hid (Hw.out.alloc _)
        have hsz := Hb.out.size
        go_wp2_with (at_builtin; refine wpList_append_own_at _ rfl _ _ 87 rfl base 131 i135 (.int .u32 0) 1 4 Tryz.underlying87 hi hz0 hz1 hz2 rfl (by omega) (.slice A n c) n _ rfl (hu0 _).out ⟨wr.heap.size, 0, none⟩ 1 1 [.int .u32 ((m : Int) % 4294967296)] rfl rfl (fun j u hj => by cases j with | zero => (simp at hj; subst hj; simp [Addr.add]) | succ j => simp at hj) (fun u hu => by simp at hu; subst hu; rfl) (by simp [maxLen]; omega) (by omega) (by simp; omega) ?_; intro v' w' k1 k2 k3 k4; have K1 := Lib.hid k1; have K2 := Lib.hid k2; clear k1 k2 k3 k4)
        go_ret
        have e := HR.out
        rw [growC, if_neg (by omega)] at e
        refine ⟨v', rfl, ?_, (Hb.out.alloc (by omega) _).grown K2.out (by simp; omega) (fun g hg => (Hw.out.lt g hg).1)⟩
        have hl := Hk.out
        simp only [List.length_nil, Nat.add_zero] at hl
        unfold DigL
        rw [e, show (done ++ [m]).length = n + 1 by simp; omega]
        have K := K1.out
        rw [Int.emod_eq_of_lt (by omega) (by have := Hm.out; omega)] at K
        simpa [digV] using K
      · go_wp2_with fail
        go_ret
        have e := HR.out
        rw [growC, if_pos (by omega)] at e
        rw [e]
        exact ⟨_, rfl, Hd.out, Hb.out⟩
end Go.Proofs.YtbnonccmlildnaaGreat

/- Numbers in memory; 'made', exactly. -/
namespace Go.Proofs.YtbnonccmlildnaaGreat
open Go.RowKit Go.Lib

/-- A row of digits is there. -/
theorem blk_lt {w : World} {g : Nat} (h : ∃ cur fz, w.heap[g]? = some (.cells cur 131 fz)) : g < w.heap.size := let ⟨_, _, h⟩ := h; (Array.getElem?_eq_some_iff.1 h).1
/-- Digits that lie in memory. -/
def DigAt (w : World) (A : Option Addr) (ds : List Nat) : Prop := ds = [] ∨ ∃ g, A = some ⟨g, 0, none⟩ ∧ (∃ cur fz, w.heap[g]? = some (.cells cur 131 fz)) ∧ ∀ (k x : Nat), ds[k]? = some x → w.cell? ⟨g, k, none⟩ = some (digV x)
theorem DigAt.mono {w w' : World} {A : Option Addr} {ds : List Nat} (h : DigAt w A ds) {n : Nat} (hn : w.heap.size ≤ n) (hb : Below n w w') : DigAt w' A ds := by
  rcases h with h | ⟨g, hA, hg, h⟩
  · exact .inl h
  · have hlt := blk_lt hg
    obtain ⟨cur, fz, hh⟩ := hg
    exact .inr ⟨g, hA, ⟨cur, fz, (hb.block g (by omega)).trans hh⟩, fun k x hk => cell_of_below hb (by omega) (h k x hk)⟩
theorem DigAt.take {w : World} {A : Option Addr} {ds : List Nat} (h : DigAt w A ds) (k : Nat) : DigAt w A (ds.take k) := by
  rcases h with rfl | ⟨g, hA, hg, h⟩
  · exact .inl (by simp)
  · refine .inr ⟨g, hA, hg, fun j x hj => h j x ?_⟩
    rw [List.getElem?_take] at hj
    by_cases e : j < k
    · rwa [if_pos e] at hj
    · rw [if_neg e] at hj; cases hj
theorem DigL.at {w : World} {base n c : Nat} {A : Option Addr} {ds : List Nat} (h : DigL w base ds (.slice A n c)) : n = ds.length ∧ ds.length ≤ c ∧ DigAt w A ds := by
  have hl := h
  unfold DigL at hl
  rcases hl.2 with ⟨e, h0⟩ | ⟨g, cap, cur, e, hg, hh, hc, _⟩
  · cases e
    have : ds = [] := List.length_eq_zero_iff.1 h0
    subst this
    exact ⟨rfl, Nat.le_refl _, .inl rfl⟩
  · cases e
    refine ⟨rfl, hc, .inr ⟨g, rfl, ⟨_, _, hh⟩, fun k x hk => ?_⟩⟩
    have hk2 : k < ds.length := (List.getElem?_eq_some_iff.1 hk).1
    rw [hl.cellAt k (by omega), List.getElem?_map, hk]
    rfl
/-- A whole number in memory. -/
def NumAt (w : World) (v : Value) (z : Int) : Prop := ∃ A c ds, v = .agg #[.slice A ds.length c, .bool (decide (z < 0))] ∧ ds.length ≤ c ∧ DigAt w A ds ∧ okD 4294967296 ds ∧ canon ds ∧ dval 4294967296 ds = z.natAbs
theorem NumAt.mono {w w' : World} {v : Value} {z : Int} (h : NumAt w v z) {n : Nat} (hn : w.heap.size ≤ n) (hb : Below n w w') : NumAt w' v z := by
  obtain ⟨A, c, ds, e, hc, hd, h1, h2, h3⟩ := h
  exact ⟨A, c, ds, e, hc, hd.mono hn hb, h1, h2, h3⟩
def signed (neg : Bool) (n : Nat) : Int := if neg then -(n : Int) else n
theorem strip_take_last {ds : List Nat} {k x : Nat} (hk : ds[k]? = some x) (hx : x ≠ 0) : strip (ds.take (k + 1)) = ds.take (k + 1) := by
  have hl : k < ds.length := (List.getElem?_eq_some_iff.1 hk).1
  have : ds.take (k + 1) = ds.take k ++ [x] := by
    rw [List.take_add_one, hk]; rfl
  rw [this, strip_snoc, if_neg hx]
theorem strip_take_zero {ds : List Nat} {k : Nat} (hk : ds[k]? = some 0) : strip (ds.take (k + 1)) = strip (ds.take k) := by
  have : ds.take (k + 1) = ds.take k ++ [0] := by
    rw [List.take_add_one, hk]; rfl
  rw [this, strip_snoc, if_pos rfl]
/-- What 'made' hands back is a number. -/
theorem made_is {w : World} {A : Option Addr} {ds : List Nat} {neg : Bool} {k c : Nat} (h : DigAt w A ds) (ho : okD 4294967296 ds) (hc : ds.length ≤ c) (hk : k ≤ ds.length) (hs : strip ds = ds.take k) :
    NumAt w (.agg #[.slice A k c, .bool (neg && decide (0 < k))]) (signed neg (dval 4294967296 ds)) := by
  have hv := strip_val 4294967296 ds
  have hca := strip_canon ds
  have hok := strip_ok ho
  have hl : (strip ds).length = k := by rw [hs, List.length_take]; omega
  refine ⟨A, c, strip ds, ?_, by omega, by rw [hs]; exact h.take k, hok, hca, ?_⟩
  · rw [hl]
    have : decide (signed neg (dval 4294967296 ds) < 0) = (neg && decide (0 < k)) := by
      rw [← hv]
      have h0 : 0 < k ↔ 0 < dval 4294967296 (strip ds) := by
        constructor
        · intro h
          by_cases e : dval 4294967296 (strip ds) = 0
          · rw [dval_zero (by omega) hca e] at hl
            simp at hl; omega
          · omega
        · intro h
          by_cases e : k = 0
          · have : strip ds = [] := List.length_eq_zero_iff.1 (by omega)
            rw [this] at h
            simp [dval] at h
          · omega
      cases neg with
      | true => simp only [signed, if_true, Bool.true_and]; rw [decide_eq_decide, h0]; omega
      | false => simp [signed]
    rw [this]
  · rw [hv]
    cases neg <;> simp [signed]

set_option maxRecDepth 100000 in
set_option maxHeartbeats 1000000 in
theorem made_ex {w : World} {A : Option Addr} {ds : List Nat} {neg : Bool} {n c : Nat} (h : DigAt w A ds) (ho : okD 4294967296 ds) (hn : n = ds.length) (hc : ds.length ≤ c) (hb : n ≤ 60000000000000) :
    Calls Tryz.prog 66 #[.slice A n c, .bool neg] w fun e w' => ∃ v, e = .returned v ∧ NumAt w' v (signed neg (dval 4294967296 ds)) ∧ Below w.heap.size w w' := by
  have hA : 0 < n → ∃ g, A = some ⟨g, 0, none⟩ ∧ g < w.heap.size ∧ ∀ (k x : Nat), ds[k]? = some x → w.cell? ⟨g, k, none⟩ = some (digV x) := by
    intro h0
    rcases h with rfl | ⟨g, hA, hg, h⟩
    · simp at hn; omega
    · exact ⟨g, hA, blk_lt hg, h⟩
  have HA := Lib.hid hA
  have Hfin : ∀ k, Hid (k ≤ ds.length → strip ds = ds.take k → ∀ o, NumAt (w.alloc o) (.agg #[.slice A k c, .bool (neg && decide (0 < k))]) (signed neg (dval 4294967296 ds))) := fun k => Lib.hid fun h1 h2 o => made_is (h.mono (Nat.le_refl _) ((Below.refl _ _).alloc (Nat.le_refl _) _)) ho hc h1 h2
  have hnc : n ≤ c := by omega
  have Hn := Lib.hid hn
  clear hA h ho hn hc
  go_enter Tryz.func66, Tryz.ntmps66
  go_wp2_with fail
  go_loopw [0] (fun v wr => ∃ k : Nat, k ≤ n ∧ v = .slice A k c ∧ wr = w.alloc (.cells #[.slice none 0 0, .bool false] 89) ∧ Hid (strip (ds.take k) = strip ds)) (fun v _ => match v with | .slice _ k _ => k | _ => 0)
  case atStart => exact ⟨n, Nat.le_refl _, rfl, rfl, Lib.hid (by rw [Hn.out, List.take_length])⟩
  case round =>
    obtain ⟨k, hk, rfl, rfl, Hs⟩ := hrel
    by_cases hk0 : 0 < k
    · obtain ⟨j, rfl⟩ : ∃ j, k = j + 1 := ⟨k - 1, by omega⟩
      obtain ⟨g, rfl, hg, hcell⟩ := HA.out (by omega)
      have hj : j < ds.length := by have := Hn.out; omega
      have hgx : ds[j]? = some ds[j] := List.getElem?_eq_getElem hj
      generalize ds[j] = x at hgx
      have hx2 : (w.alloc (.cells #[.slice none 0 0, .bool false] 89)).cell? ⟨g, j, none⟩ = some (.int .u32 (x : Int)) := cell_of_below ((Below.refl _ _).alloc (Nat.le_refl _) _) (by omega) (hcell j x hgx)
      have Hx := Lib.hid hgx
      clear hcell HA hgx hj
      cases hz : ((x : Int) == 0) with
      | true =>
        have hx0 : x = 0 := by simpa using hz
        go_wp2_with fail
        go_roundw
        case rel => exact ⟨j, by omega, rfl, trivial, Lib.hid (by rw [← strip_take_zero (hx0 ▸ Hx.out)]; exact Hs.out)⟩
        case measure => simp
      | false =>
        have hx0 : x ≠ 0 := by simpa using hz
        have hfin := (Hfin (j + 1)).out (by have := Hn.out; omega) (by rw [← Hs.out]; exact strip_take_last Hx.out hx0)
        have HF := Lib.hid hfin
        clear Hfin hfin
        cases neg with
        | true =>
          go_wp2_with fail
          refine bodyPost_ret (results_cell_row rfl _ _ w.heap.size 89 #[.slice (some ⟨g, 0, none⟩) (j + 1) c, .bool true] (0, 0) _ rfl (heap_alloc_new _ _) Tryz.underlying89 rfl size101) rfl ?_
          exact ⟨_, rfl, by simpa using HF.out _, (Below.refl _ _).alloc (Nat.le_refl _) _⟩
        | false =>
          go_wp2_with fail
          refine bodyPost_ret (results_cell_row rfl _ _ w.heap.size 89 #[.slice (some ⟨g, 0, none⟩) (j + 1) c, .bool false] (0, 0) _ rfl (heap_alloc_new _ _) Tryz.underlying89 rfl size101) rfl ?_
          exact ⟨_, rfl, by simpa using HF.out _, (Below.refl _ _).alloc (Nat.le_refl _) _⟩
    · clear HA
      have hk00 : k = 0 := by omega
      subst hk00
      have hfin := (Hfin 0).out (by omega) (by rw [← Hs.out]; simp [strip])
      have HF := Lib.hid hfin
      clear Hfin hfin
      cases neg with
      | true =>
        go_wp2_with fail
        refine bodyPost_ret (results_cell_row rfl _ _ w.heap.size 89 #[.slice A 0 c, .bool false] (0, 0) _ rfl (heap_alloc_new _ _) Tryz.underlying89 rfl size101) rfl ?_
        exact ⟨_, rfl, by simpa using HF.out _, (Below.refl _ _).alloc (Nat.le_refl _) _⟩
      | false =>
        go_wp2_with fail
        refine bodyPost_ret (results_cell_row rfl _ _ w.heap.size 89 #[.slice A 0 c, .bool false] (0, 0) _ rfl (heap_alloc_new _ _) Tryz.underlying89 rfl size101) rfl ?_
        exact ⟨_, rfl, by simpa using HF.out _, (Below.refl _ _).alloc (Nat.le_refl _) _⟩
end Go.Proofs.YtbnonccmlildnaaGreat

/- num.Parse, exactly. -/
namespace Go.Proofs.YtbnonccmlildnaaGreat
open Go.RowKit Go.Lib

/-- What the first characters are worth. -/
def ptake (s : ByteArray) (k : Nat) : Nat := pval (s.data.toList.take k) 0
theorem ptake_succ {s : ByteArray} {k : Nat} {c : UInt8} (h : s.data[k]? = some c) : ptake s (k + 1) = 10 * ptake s k + (c.toNat - 48) := by
  unfold ptake
  rw [List.take_add_one, show s.data.toList[k]? = some c by rw [Array.getElem?_toList]; exact h, pval_append]
  rfl
theorem ptake_all (s : ByteArray) : ptake s s.size = pval s.data.toList 0 := by
  unfold ptake
  rw [List.take_of_length_le (Nat.le_of_eq (by rw [Array.length_toList]; rfl))]
/-- A numeral's number. -/
def valB (s : ByteArray) : Int := if (s.data[0]? == some 45) = true then -((pval (s.extract 1 s.size).data.toList 0 : Nat) : Int) else ((pval s.data.toList 0 : Nat) : Int)
def parZ (b : Bool) (z : Int) : Int := if b = true then z else 0
/-- What a parse tells. -/
def parseZ (s : ByteArray) : Int := parZ (rightB s) (valB s)
theorem dig_class2 (s : ByteArray) (pos : Nat) (hp : pos < s.size) : ∃ r wd : Nat, Utf8.decode s pos = (r, wd) ∧ ((digAt s pos = true ∧ wd = 1 ∧ 48 ≤ r ∧ r ≤ 57 ∧ ∃ c : UInt8, s.data[pos]? = some c ∧ r = c.toNat) ∨ (digAt s pos = false ∧ (r < 48 ∨ 57 < r))) := by
  obtain ⟨r, wd, hd, h⟩ := dig_class s pos hp
  refine ⟨r, wd, hd, ?_⟩
  rcases h with ⟨h1, h2, h3, h4⟩ | h
  · refine .inl ⟨h1, h2, h3, h4, ?_⟩
    have hget : s.data[pos]? = some (s[pos]'hp) := Array.getElem?_eq_getElem hp
    refine ⟨_, hget, ?_⟩
    have hk : digitB (s[pos]'hp).toNat = true := by
      have := h1
      unfold digAt at this
      rwa [hget] at this
    have ha : (s[pos]'hp).toNat < 128 := by
      simp [digitB] at hk
      omega
    rw [decode_ascii s pos hp ha] at hd
    exact (Prod.mk.inj hd).1.symm
  · exact .inr h
def p10 (i : Nat) : Nat := 10 ^ i
/-- How far a parse has come. -/
def PV (s : ByteArray) (pos dg m : Nat) (ds : List Nat) : Prop := dval 4294967296 ds * 10 ^ dg + m = ptake s pos ∧ m < 10 ^ dg ∧ okD 4294967296 ds ∧ (pos = s.size → dg = 0)
theorem pow10_le {k n : Nat} (h : k ≤ n) : 10 ^ k ≤ 10 ^ n := Nat.pow_le_pow_right (by omega) h
theorem PV.step {s : ByteArray} {pos dg m : Nat} {ds : List Nat} (h : PV s pos dg m ds) {c : UInt8} (hc : s.data[pos]? = some c) (h48 : 48 ≤ c.toNat) (h57 : c.toNat ≤ 57) (hl : pos + 1 ≠ s.size) : PV s (pos + 1) (dg + 1) (10 * m + (c.toNat - 48)) ds := by
  obtain ⟨h1, h2, h3, h4⟩ := h
  refine ⟨?_, ?_, h3, fun e => absurd e hl⟩
  · rw [ptake_succ hc, ← h1, Nat.pow_succ, ← Nat.mul_assoc]
    omega
  · rw [Nat.pow_succ]
    omega
theorem PV.grow {s : ByteArray} {pos dg m : Nat} {ds : List Nat} (h : PV s pos dg m ds) {c : UInt8} (hc : s.data[pos]? = some c) (h48 : 48 ≤ c.toNat) (h57 : c.toNat ≤ 57) (hd : dg ≤ 8) :
    p10 (dg + 1) < 4294967296 ∧ 10 * m + (c.toNat - 48) < 4294967296 ∧ PV s (pos + 1) 0 0 (growC 4294967296 ds (p10 (dg + 1)) (10 * m + (c.toNat - 48))) := by
  unfold p10
  obtain ⟨h1, h2, h3, h4⟩ := h
  have h5 := pow10_le (show dg + 1 ≤ 9 by omega)
  have h6 : 10 * m + (c.toNat - 48) < 10 ^ (dg + 1) := by rw [Nat.pow_succ]; omega
  have h7 : (10 : Nat) ^ 9 = 1000000000 := rfl
  refine ⟨by omega, by omega, ?_, by simp, growC_ok _ _ _ h3 (by omega) (by omega), fun _ => rfl⟩
  rw [growC_val, ptake_succ hc, ← h1, Nat.pow_succ, ← Nat.mul_assoc]
  omega
theorem pow_num {i : Nat} (hi : i < 9) : IntKind.u64.wrap ((p10 i : Int) * 10) = (p10 (i + 1) : Int) := by
  unfold p10
  have h5 := pow10_le (show i + 1 ≤ 9 by omega)
  have h7 : (10 : Nat) ^ 9 = 1000000000 := rfl
  rw [Nat.pow_succ] at *
  rw [IntWalk.u64_in _ (by omega)]
  omega
/-- What a parse tells of its text. -/
def ParsedEx (w : World) (z : Int) (b : Bool) (e : Ending) (w' : World) : Prop := ∃ v, e = .returned (.tuple #[v, .bool b]) ∧ NumAt w' v z ∧ Below w.heap.size w w'
theorem DigAt.boxed {w : World} {K : Nat} {A B : Option Addr} {n c T : Nat} {b : Bool} {ds : List Nat} (h : DigAt w A ds) (hK : w.heap[K]? = some (.cells #[.slice B n c, .bool b] T (0, 0))) (i : Nat) (v : Value) : DigAt (w.setCell ⟨K, i, none⟩ v) A ds := by
  rcases h with h | ⟨g, hA, hg, h⟩
  · exact .inl h
  · cases ds with
    | nil => exact .inl rfl
    | cons x ds =>
      have hne : g ≠ K := by
        intro e
        subst e
        have h0 := h 0 x rfl
        rw [cell_of_row w g 0 _ T (0, 0) hK] at h0
        simp [digV] at h0
      refine .inr ⟨g, hA, let ⟨cur, fz, hh⟩ := hg; ⟨cur, fz, (Below.heap_setCell w ⟨K, i, none⟩ v g hne).trans hh⟩, fun k y hk => ?_⟩
      rw [World.cell?_of_block (w := w) (Below.heap_setCell w ⟨K, i, none⟩ v g hne)]
      exact h k y hk
theorem NumAt.boxed {w : World} {K : Nat} {A : Option Addr} {n c T : Nat} {b : Bool} {z : Int} (hK : w.heap[K]? = some (.cells #[.slice none 0 0, .bool false] T (0, 0))) (h : NumAt w (.agg #[.slice A n c, .bool b]) z) :
    NumAt ((w.setCell ⟨K, 0, none⟩ (.slice A n c)).setCell ⟨K, 1, none⟩ (.bool b)) (.agg #[.slice A n c, .bool b]) z := by
  obtain ⟨A', c', ds, e, hc, hd, h1, h2, h3⟩ := h
  exact ⟨A', c', ds, e, hc, (hd.boxed hK 0 _).boxed (heap_setCell_same w K 0 _ T _ hK) 1 _, h1, h2, h3⟩
theorem NumAt.zero (w : World) : NumAt w (.agg #[.slice none 0 0, .bool false]) 0 := ⟨none, 0, [], rfl, Nat.le_refl _, .inl rfl, by intro x hx; simp at hx, canon_nil, rfl⟩
theorem DigL.slice {w : World} {base : Nat} {ds : List Nat} {v : Value} (h : DigL w base ds v) : ∃ A c, v = .slice A ds.length c := by
  rcases h.2 with ⟨e, h0⟩ | ⟨g, cap, cur, e, _⟩
  · exact ⟨none, 0, by rw [e, h0]⟩
  · exact ⟨_, cap, e⟩
theorem DigL.iterAt {w : World} {base k : Nat} {ds : List Nat} {v : Value} (h : DigL w base ds v) (hk : k < base) (s : ByteArray) (p : Nat) : DigL (w.iterAt k s p) base ds v := ownsRow_iterAt h hk s p
theorem par_num {m c : Nat} (hm : m < 1000000000) (c1 : 48 ≤ c) (c2 : c ≤ 57) : IntKind.u64.wrap (IntKind.u64.wrap (10 * (m : Int)) + ((c : Int) - 48)) = ((10 * m + (c - 48) : Nat) : Int) := by
  rw [IntWalk.u64_in (10 * (m : Int)) (by omega), IntWalk.u64_in _ (by omega)]
  omega
theorem growC_len {B : Nat} : ∀ (l : List Nat) (t m : Nat), (growC B l t m).length ≤ l.length + 1
  | [], t, m => by
    simp only [growC]
    split <;> simp
  | x :: l, t, m => by
    have := growC_len (B := B) l t ((m + x * t) / B)
    simp only [growC, List.length_cons]
    omega
theorem grow_len {B pos t m : Nat} {ds : List Nat} (h : ds.length ≤ pos) : (growC B ds t m).length ≤ pos + 1 := by
  have := growC_len (B := B) ds t m
  omega

set_option maxRecDepth 100000 in
set_option maxHeartbeats 1000000 in
theorem parseE_empty (s : ByteArray) (w : World) (h0 : s.size = 0) : Calls Tryz.prog 33 #[.string s] w (ParsedEx w 0 false) := by
  have he : (s.toList == []) = true := by rw [empty_toList, decide_eq_true h0]
  go_enter Tryz.func33, Tryz.ntmps33
  go_wp2_with fail
  all_goals
    refine bodyPost_ret (results_two rfl _ _ w.heap.size 89 #[.slice none 0 0, .bool false] (0, 0) _ rfl (heap_alloc_new _ _) Tryz.underlying89 rfl size101) rfl ?_
    exact ⟨_, rfl, NumAt.zero _, (Below.refl _ _).alloc (Nat.le_refl _) _⟩

set_option maxRecDepth 100000 in
set_option maxHeartbeats 1000000 in
theorem parseE_plain (s : ByteArray) (w : World) (h0 : 0 < s.size) (hs : s.size ≤ 1000000000000) (h45 : (((s[0]'h0).toNat : Int) == 45) = false) (hz : (((s[0]'h0).toNat : Int) == 48) = false) : Calls Tryz.prog 33 #[.string s] w (ParsedEx w (parZ (digsTo s s.size) (signed false (ptake s s.size))) (digsTo s s.size)) := by
  have he : (s.toList == []) = false := by rw [empty_toList, decide_eq_false (by omega)]
  have hb0 : Below (w.heap.size + 1) (w.alloc (.cells #[.slice none 0 0, .bool false] 89)) ((w.alloc (.cells #[.slice none 0 0, .bool false] 89)).iter s 0) := by
    have := below_iter (w.alloc (.cells #[.slice none 0 0, .bool false] 89)) s 0
    rwa [show (w.alloc (.cells #[.slice none 0 0, .bool false] 89)).heap.size = w.heap.size + 1 by simp] at this
  have hi0 : ((w.alloc (.cells #[.slice none 0 0, .bool false] 89)).iter s 0).heap[w.heap.size + 1]? = some (.stringIter s 0) := by
    have := World.iter_heap (w.alloc (.cells #[.slice none 0 0, .bool false] 89)) s 0
    rwa [show (w.alloc (.cells #[.slice none 0 0, .bool false] 89)).heap.size = w.heap.size + 1 by simp] at this
  have Hb0 := Lib.hid hb0
  have Hi0 := Lib.hid hi0
  have Hpv : Hid (PV s 0 0 0 []) := Lib.hid ⟨by simp [dval, ptake, pval], by simp, (by intro x hx; simp at hx), fun _ => rfl⟩
  clear hb0 hi0
  go_enter Tryz.func33, Tryz.ntmps33
  go_wp2_with fail
  go_loopw [6, 7, 8] (fun lv nv dv wr => ∃ (pos dg m : Nat) (ds : List Nat), Hid (ds.length ≤ pos) ∧ nv = .int .u64 (m : Int) ∧ dv = .int .i64 dg ∧ dg ≤ 8 ∧ pos ≤ s.size ∧ Hid (DigL wr (w.heap.size + 1 + 1) ds lv) ∧ Hid (PV s pos dg m ds) ∧ Hid (wr.heap[w.heap.size + 1]? = some (.stringIter s pos)) ∧ Hid (digsTo s pos = true) ∧ Hid (Below (w.heap.size + 1) (w.alloc (.cells #[.slice none 0 0, .bool false] 89)) wr)) (fun _ _ _ wr => s.size - wr.iterPos (w.heap.size + 1))
  case atStart => exact ⟨0, 0, 0, [], Lib.hid (Nat.le_refl _), rfl, rfl, by omega, Nat.zero_le _, Lib.hid (DigL.nil _ _), Hpv, Hi0, Lib.hid rfl, Hb0⟩
  case round =>
    clear Hb0 Hi0 Hpv
    obtain ⟨pos, dg, m, ds, Hn, rfl, rfl, hdg, hpos, Hd, Hv, Hk, Hok, Hb⟩ := hrel
    by_cases hp : pos < s.size
    · have hnx : ∀ ty, (Instr.next (.pointer (some ⟨w.heap.size + 1, 0, none⟩)) true ty).run Tryz.prog wr = _ := fun ty => Lib.run_next_any_at wr (w.heap.size + 1) s pos ty Hk.out hp
      obtain ⟨r, wd, hdec, hcls⟩ := dig_class2 s pos hp
      rw [hdec] at hnx
      simp only at hnx
      clear hdec
      have Hm : Hid (wr.iterPos (w.heap.size + 1) = pos) := Lib.hid (iterPos_of Hk.out)
      have Hd2 := Lib.hid (Hd.out.iterAt (k := w.heap.size + 1) (by omega) s (pos + wd))
      have Hk2 := Lib.hid (Lib.iterAt_heap wr (w.heap.size + 1) s pos (pos + wd) Hk.out)
      have Hb2 := Lib.hid (Lib.below_iterAt Hb.out (Nat.le_refl _) s (pos + wd))
      generalize wr.iterAt (w.heap.size + 1) s (pos + wd) = wv at *
      have Hrow : Hid (wv.heap[w.heap.size]? = some (.cells #[.slice none 0 0, .bool false] 89 (0, 0))) := Lib.hid ((Hb2.out.block w.heap.size (by omega)).trans (heap_alloc_new w _))
      have hf0 : wv.frozen? ⟨w.heap.size, 0, none⟩ = false := frozen_of_row wv w.heap.size 0 _ 89 Hrow.out
      have hf1 : wv.frozen? ⟨w.heap.size, 1, none⟩ = false := frozen_of_row wv w.heap.size 1 _ 89 Hrow.out
      have hc0 : wv.cell? ⟨w.heap.size, 0, none⟩ = some (.slice none 0 0) := by rw [cell_of_row wv w.heap.size 0 _ 89 (0, 0) Hrow.out]; rfl
      have hc1 : wv.cell? ⟨w.heap.size, 1, none⟩ = some (.bool false) := by rw [cell_of_row wv w.heap.size 1 _ 89 (0, 0) Hrow.out]; rfl
      rcases hcls with ⟨h1, rfl, c1, c2, ch, hch, rfl⟩ | ⟨h1, hc⟩
      · have H1 := Lib.hid h1
        have Hch := Lib.hid hch
        have Hok2 : Hid (digsTo s (pos + 1) = true) := Lib.hid (by unfold digsTo; rw [Hok.out, h1]; rfl)
        have Hsz : Hid (w.heap.size + 1 + 1 ≤ wv.heap.size) := Lib.hid (Array.getElem?_eq_some_iff.1 Hk2.out).1
        have HG := Lib.hid (Hv.out.grow hch c1 c2 hdg)
        have HS : pos + 1 ≠ s.size → Hid (PV s (pos + 1) (dg + 1) (10 * m + (ch.toNat - 48)) ds) := fun e => Lib.hid (Hv.out.step hch c1 c2 e)
        have Hm10 : Hid (m < 1000000000) := Lib.hid (by have h1 := Hv.out.2.1; have h2 := pow10_le (show dg ≤ 9 by omega); have h7 : (10 : Nat) ^ 9 = 1000000000 := rfl; omega)
        have hnum : IntKind.u64.wrap (IntKind.u64.wrap (10 * (m : Int)) + ((ch.toNat : Int) - 48)) = ((10 * m + (ch.toNat - 48) : Nat) : Int) := par_num Hm10.out c1 c2
        generalize 10 * m + (ch.toNat - 48) = m2 at HG HS hnum
        clear h1 H1 hch
        by_cases h8 : dg = 8
        · subst h8
          clear HS
          go_wp2_with fail
          go_loop [11, 71] (fun t j => ∃ (i : Nat), t = .int .u64 (p10 i : Int) ∧ j = .int .i64 i ∧ i ≤ 9) (fun _ j => 9 - (intOf j).toNat)
          case atStart => exact ⟨0, rfl, rfl, by omega⟩
          case round =>
            obtain ⟨i, rfl, rfl, hi⟩ := hrel
            by_cases hij : i < 9
            · have hij2 : (i : Int) < 9 := by omega
              go_wp2_with fail
              go_round
              case rel => exact ⟨i + 1, by rw [pow_num (by omega)], by go_num, by omega⟩
              case measure => simp [intOf]; omega
            · have hij2 : ¬ (i : Int) < 9 := by omega
              have hie : i = 8 + 1 := by omega
              have HG2 := HG.out
              rw [← hie] at HG2
              have HG3 := Lib.hid HG2
              clear HG HG2 hie
              go_wp2_with (go_at_call 65; refine (grown_ex Hd2.out Hv.out.2.2.1 HG3.out.1 HG3.out.2.1 (by have := Hn.out; omega) Hsz.out).mono ?_; rintro e w5 ⟨v', rfl, hd5, hb5⟩; have Hd5 := Lib.hid hd5; have Hb5 := Lib.hid hb5; clear hd5 hb5)
              go_roundw
              case rel => exact ⟨pos + 1, 0, 0, _, Lib.hid (grow_len Hn.out), rfl, rfl, by omega, by omega, Hd5, Lib.hid HG3.out.2.2, Lib.hid ((Hb5.out.block _ (by omega)).trans Hk2.out), Hok2, Lib.hid (Hb2.out.trans (Hb5.out.mono (by omega)))⟩
              case measure =>
                have e1 := Hm.out
                have e2 := iterPos_of ((Hb5.out.block (w.heap.size + 1) (by omega)).trans Hk2.out)
                omega
        · have b8 : ((dg : Int) + 1 == 9) = false := by
            rw [beq_eq_false_iff_ne]
            omega
          by_cases hlast : pos + 1 = s.size
          · have bl : ((pos : Int) == (s.size : Int) - 1) = true := by
              rw [beq_iff_eq]
              omega
            clear hlast HS
            go_wp2_with fail
            go_loop [11, 71] (fun t j => ∃ (i : Nat), t = .int .u64 (p10 i : Int) ∧ j = .int .i64 i ∧ i ≤ (dg + 1)) (fun _ j => (dg + 1) - (intOf j).toNat)
            case atStart => exact ⟨0, rfl, rfl, by omega⟩
            case round =>
              obtain ⟨i, rfl, rfl, hi⟩ := hrel
              by_cases hij : i < (dg + 1)
              · have hij2 : (i : Int) < (dg : Int) + 1 := by omega
                go_wp2_with fail
                go_round
                case rel => exact ⟨i + 1, by rw [pow_num (by omega)], by go_num, by omega⟩
                case measure => simp [intOf]; omega
              · have hij2 : ¬ (i : Int) < (dg : Int) + 1 := by omega
                have hie : i = dg + 1 := by omega
                have HG2 := HG.out
                rw [← hie] at HG2
                have HG3 := Lib.hid HG2
                clear HG HG2 hie
                go_wp2_with (go_at_call 65; refine (grown_ex Hd2.out Hv.out.2.2.1 HG3.out.1 HG3.out.2.1 (by have := Hn.out; omega) Hsz.out).mono ?_; rintro e w5 ⟨v', rfl, hd5, hb5⟩; have Hd5 := Lib.hid hd5; have Hb5 := Lib.hid hb5; clear hd5 hb5)
                go_roundw
                case rel => exact ⟨pos + 1, 0, 0, _, Lib.hid (grow_len Hn.out), rfl, rfl, by omega, by omega, Hd5, Lib.hid HG3.out.2.2, Lib.hid ((Hb5.out.block _ (by omega)).trans Hk2.out), Hok2, Lib.hid (Hb2.out.trans (Hb5.out.mono (by omega)))⟩
                case measure =>
                  have e1 := Hm.out
                  have e2 := iterPos_of ((Hb5.out.block (w.heap.size + 1) (by omega)).trans Hk2.out)
                  omega
          · have bl : ((pos : Int) == (s.size : Int) - 1) = false := by
              rw [beq_eq_false_iff_ne]
              omega
            have HS2 := HS hlast
            clear HS
            go_wp2_with fail
            go_roundw
            case rel => exact ⟨pos + 1, dg + 1, m2, ds, Lib.hid (by have := Hn.out; omega), rfl, by go_num, by omega, by omega, Hd2, HS2, Hk2, Hok2, Hb2⟩
            case measure =>
              have e1 := Hm.out
              have e2 := iterPos_of Hk2.out
              omega
      · have Hr : Hid (digsTo s s.size = false) := Lib.hid (digsTo_false hp h1)
        clear h1
        rcases hc with c1 | c1
        all_goals
          go_wp2_with fail
          refine bodyPost_ret (results_two rfl _ _ w.heap.size 89 #[.slice none 0 0, .bool false] (0, 0) _ rfl (heap_setCell_same _ w.heap.size 1 _ 89 (.bool false) (heap_setCell_same wv w.heap.size 0 _ 89 (.slice none 0 0) Hrow.out)) Tryz.underlying89 rfl size101) rfl ?_
          exact ⟨_, by rw [Hr.out]; rfl, by rw [Hr.out]; exact NumAt.zero _, ((((Below.refl _ _).alloc (Nat.le_refl _) _).trans (Hb2.out.mono (by omega))).setCell (Nat.le_refl _) _).setCell (Nat.le_refl _) _⟩
    · have hnx : ∀ ty, (Instr.next (.pointer (some ⟨w.heap.size + 1, 0, none⟩)) true ty).run Tryz.prog wr = _ := fun ty => Lib.run_next_end_at wr (w.heap.size + 1) s pos ty Hk.out hp
      have hps : pos = s.size := by omega
      have Hr : Hid (digsTo s s.size = true) := Lib.hid (by have := Hok.out; rwa [hps] at this)
      have Hrow : Hid (∀ w5, Below wr.heap.size wr w5 → w5.heap[w.heap.size]? = some (.cells #[.slice none 0 0, .bool false] 89 (0, 0))) := Lib.hid (fun w5 h5 => by
        have h1 := Hb.out.size
        simp at h1
        exact (h5.block w.heap.size (by omega)).trans ((Hb.out.block w.heap.size (by omega)).trans (heap_alloc_new w _)))
      have hwr : w.heap.size + 1 ≤ wr.heap.size := by
        have h1 := Hb.out.size
        simpa using h1
      obtain ⟨A, c, e⟩ := Hd.out.slice
      subst e
      obtain ⟨_, hcl, hat⟩ := Hd.out.at
      have hval : dval 4294967296 ds = ptake s s.size := by
        have h1 := Hv.out.1
        have h2 := Hv.out.2.1
        rw [Hv.out.2.2.2 hps] at h1 h2
        rw [hps] at h1
        simp at h1 h2
        omega
      have Hval := Lib.hid hval
      have Hmk := Lib.hid (made_ex (neg := false) hat Hv.out.2.2.1 rfl hcl (by have := Hn.out; omega))
      clear hat hval hps hcl
      generalize ds.length = n at *
      go_wp2_with (go_at_call 66; refine Hmk.out.mono ?_; rintro e w5 ⟨v5, rfl, hv5, hb5⟩; have Hz5 := Lib.hid hv5; obtain ⟨A5, c5, ds5, rfl, _⟩ := hv5; have Hb5 := Lib.hid hb5; obtain ⟨hf0, hf1, hc0, hc1⟩ := row_facts (Hrow.out w5 hb5); have Hrw := Lib.hid (Hrow.out w5 hb5); clear hb5; generalize ds5.length = n5 at *)
      refine bodyPost_ret (results_two rfl _ _ w.heap.size 89 #[.slice A5 n5 c5, .bool (decide (signed false (dval 4294967296 ds) < 0))] (0, 0) _ rfl (heap_setCell_same _ w.heap.size 1 _ 89 (.bool _) (heap_setCell_same w5 w.heap.size 0 _ 89 (.slice A5 n5 c5) Hrw.out)) Tryz.underlying89 rfl size101) rfl ?_
      refine ⟨_, by rw [Hr.out]; rfl, ?_, (((((Below.refl _ _).alloc (Nat.le_refl _) _).trans (Hb.out.mono (by omega))).trans (Hb5.out.mono (by omega))).setCell (Nat.le_refl _) _).setCell (Nat.le_refl _) _⟩
      rw [Hr.out, ← Hval.out]
      refine NumAt.boxed Hrw.out ?_ 
      exact Hz5.out

set_option maxRecDepth 100000 in
set_option maxHeartbeats 1000000 in
theorem parseE_zero (s : ByteArray) (w : World) (h0 : 0 < s.size) (hs : s.size ≤ 1000000000000) (h45 : (((s[0]'h0).toNat : Int) == 45) = false) (hz : (((s[0]'h0).toNat : Int) == 48) = true) (hle : s.size ≤ 1) : Calls Tryz.prog 33 #[.string s] w (ParsedEx w (parZ (digsTo s s.size) (signed false (ptake s s.size))) (digsTo s s.size)) := by
  have he : (s.toList == []) = false := by rw [empty_toList, decide_eq_false (by omega)]
  have hb0 : Below (w.heap.size + 1) (w.alloc (.cells #[.slice none 0 0, .bool false] 89)) ((w.alloc (.cells #[.slice none 0 0, .bool false] 89)).iter s 0) := by
    have := below_iter (w.alloc (.cells #[.slice none 0 0, .bool false] 89)) s 0
    rwa [show (w.alloc (.cells #[.slice none 0 0, .bool false] 89)).heap.size = w.heap.size + 1 by simp] at this
  have hi0 : ((w.alloc (.cells #[.slice none 0 0, .bool false] 89)).iter s 0).heap[w.heap.size + 1]? = some (.stringIter s 0) := by
    have := World.iter_heap (w.alloc (.cells #[.slice none 0 0, .bool false] 89)) s 0
    rwa [show (w.alloc (.cells #[.slice none 0 0, .bool false] 89)).heap.size = w.heap.size + 1 by simp] at this
  have Hb0 := Lib.hid hb0
  have Hi0 := Lib.hid hi0
  have Hpv : Hid (PV s 0 0 0 []) := Lib.hid ⟨by simp [dval, ptake, pval], by simp, (by intro x hx; simp at hx), fun _ => rfl⟩
  clear hb0 hi0
  go_enter Tryz.func33, Tryz.ntmps33
  go_wp2_with fail
  go_loopw [6, 7, 8] (fun lv nv dv wr => ∃ (pos dg m : Nat) (ds : List Nat), Hid (ds.length ≤ pos) ∧ nv = .int .u64 (m : Int) ∧ dv = .int .i64 dg ∧ dg ≤ 8 ∧ pos ≤ s.size ∧ Hid (DigL wr (w.heap.size + 1 + 1) ds lv) ∧ Hid (PV s pos dg m ds) ∧ Hid (wr.heap[w.heap.size + 1]? = some (.stringIter s pos)) ∧ Hid (digsTo s pos = true) ∧ Hid (Below (w.heap.size + 1) (w.alloc (.cells #[.slice none 0 0, .bool false] 89)) wr)) (fun _ _ _ wr => s.size - wr.iterPos (w.heap.size + 1))
  case atStart => exact ⟨0, 0, 0, [], Lib.hid (Nat.le_refl _), rfl, rfl, by omega, Nat.zero_le _, Lib.hid (DigL.nil _ _), Hpv, Hi0, Lib.hid rfl, Hb0⟩
  case round =>
    clear Hb0 Hi0 Hpv
    obtain ⟨pos, dg, m, ds, Hn, rfl, rfl, hdg, hpos, Hd, Hv, Hk, Hok, Hb⟩ := hrel
    by_cases hp : pos < s.size
    · have hnx : ∀ ty, (Instr.next (.pointer (some ⟨w.heap.size + 1, 0, none⟩)) true ty).run Tryz.prog wr = _ := fun ty => Lib.run_next_any_at wr (w.heap.size + 1) s pos ty Hk.out hp
      obtain ⟨r, wd, hdec, hcls⟩ := dig_class2 s pos hp
      rw [hdec] at hnx
      simp only at hnx
      clear hdec
      have Hm : Hid (wr.iterPos (w.heap.size + 1) = pos) := Lib.hid (iterPos_of Hk.out)
      have Hd2 := Lib.hid (Hd.out.iterAt (k := w.heap.size + 1) (by omega) s (pos + wd))
      have Hk2 := Lib.hid (Lib.iterAt_heap wr (w.heap.size + 1) s pos (pos + wd) Hk.out)
      have Hb2 := Lib.hid (Lib.below_iterAt Hb.out (Nat.le_refl _) s (pos + wd))
      generalize wr.iterAt (w.heap.size + 1) s (pos + wd) = wv at *
      have Hrow : Hid (wv.heap[w.heap.size]? = some (.cells #[.slice none 0 0, .bool false] 89 (0, 0))) := Lib.hid ((Hb2.out.block w.heap.size (by omega)).trans (heap_alloc_new w _))
      have hf0 : wv.frozen? ⟨w.heap.size, 0, none⟩ = false := frozen_of_row wv w.heap.size 0 _ 89 Hrow.out
      have hf1 : wv.frozen? ⟨w.heap.size, 1, none⟩ = false := frozen_of_row wv w.heap.size 1 _ 89 Hrow.out
      have hc0 : wv.cell? ⟨w.heap.size, 0, none⟩ = some (.slice none 0 0) := by rw [cell_of_row wv w.heap.size 0 _ 89 (0, 0) Hrow.out]; rfl
      have hc1 : wv.cell? ⟨w.heap.size, 1, none⟩ = some (.bool false) := by rw [cell_of_row wv w.heap.size 1 _ 89 (0, 0) Hrow.out]; rfl
      rcases hcls with ⟨h1, rfl, c1, c2, ch, hch, rfl⟩ | ⟨h1, hc⟩
      · have H1 := Lib.hid h1
        have Hch := Lib.hid hch
        have Hok2 : Hid (digsTo s (pos + 1) = true) := Lib.hid (by unfold digsTo; rw [Hok.out, h1]; rfl)
        have Hsz : Hid (w.heap.size + 1 + 1 ≤ wv.heap.size) := Lib.hid (Array.getElem?_eq_some_iff.1 Hk2.out).1
        have HG := Lib.hid (Hv.out.grow hch c1 c2 hdg)
        have HS : pos + 1 ≠ s.size → Hid (PV s (pos + 1) (dg + 1) (10 * m + (ch.toNat - 48)) ds) := fun e => Lib.hid (Hv.out.step hch c1 c2 e)
        have Hm10 : Hid (m < 1000000000) := Lib.hid (by have h1 := Hv.out.2.1; have h2 := pow10_le (show dg ≤ 9 by omega); have h7 : (10 : Nat) ^ 9 = 1000000000 := rfl; omega)
        have hnum : IntKind.u64.wrap (IntKind.u64.wrap (10 * (m : Int)) + ((ch.toNat : Int) - 48)) = ((10 * m + (ch.toNat - 48) : Nat) : Int) := par_num Hm10.out c1 c2
        generalize 10 * m + (ch.toNat - 48) = m2 at HG HS hnum
        clear h1 H1 hch
        by_cases h8 : dg = 8
        · subst h8
          clear HS
          go_wp2_with fail
          go_loop [11, 71] (fun t j => ∃ (i : Nat), t = .int .u64 (p10 i : Int) ∧ j = .int .i64 i ∧ i ≤ 9) (fun _ j => 9 - (intOf j).toNat)
          case atStart => exact ⟨0, rfl, rfl, by omega⟩
          case round =>
            obtain ⟨i, rfl, rfl, hi⟩ := hrel
            by_cases hij : i < 9
            · have hij2 : (i : Int) < 9 := by omega
              go_wp2_with fail
              go_round
              case rel => exact ⟨i + 1, by rw [pow_num (by omega)], by go_num, by omega⟩
              case measure => simp [intOf]; omega
            · have hij2 : ¬ (i : Int) < 9 := by omega
              have hie : i = 8 + 1 := by omega
              have HG2 := HG.out
              rw [← hie] at HG2
              have HG3 := Lib.hid HG2
              clear HG HG2 hie
              go_wp2_with (go_at_call 65; refine (grown_ex Hd2.out Hv.out.2.2.1 HG3.out.1 HG3.out.2.1 (by have := Hn.out; omega) Hsz.out).mono ?_; rintro e w5 ⟨v', rfl, hd5, hb5⟩; have Hd5 := Lib.hid hd5; have Hb5 := Lib.hid hb5; clear hd5 hb5)
              go_roundw
              case rel => exact ⟨pos + 1, 0, 0, _, Lib.hid (grow_len Hn.out), rfl, rfl, by omega, by omega, Hd5, Lib.hid HG3.out.2.2, Lib.hid ((Hb5.out.block _ (by omega)).trans Hk2.out), Hok2, Lib.hid (Hb2.out.trans (Hb5.out.mono (by omega)))⟩
              case measure =>
                have e1 := Hm.out
                have e2 := iterPos_of ((Hb5.out.block (w.heap.size + 1) (by omega)).trans Hk2.out)
                omega
        · have b8 : ((dg : Int) + 1 == 9) = false := by
            rw [beq_eq_false_iff_ne]
            omega
          by_cases hlast : pos + 1 = s.size
          · have bl : ((pos : Int) == (s.size : Int) - 1) = true := by
              rw [beq_iff_eq]
              omega
            clear hlast HS
            go_wp2_with fail
            go_loop [11, 71] (fun t j => ∃ (i : Nat), t = .int .u64 (p10 i : Int) ∧ j = .int .i64 i ∧ i ≤ (dg + 1)) (fun _ j => (dg + 1) - (intOf j).toNat)
            case atStart => exact ⟨0, rfl, rfl, by omega⟩
            case round =>
              obtain ⟨i, rfl, rfl, hi⟩ := hrel
              by_cases hij : i < (dg + 1)
              · have hij2 : (i : Int) < (dg : Int) + 1 := by omega
                go_wp2_with fail
                go_round
                case rel => exact ⟨i + 1, by rw [pow_num (by omega)], by go_num, by omega⟩
                case measure => simp [intOf]; omega
              · have hij2 : ¬ (i : Int) < (dg : Int) + 1 := by omega
                have hie : i = dg + 1 := by omega
                have HG2 := HG.out
                rw [← hie] at HG2
                have HG3 := Lib.hid HG2
                clear HG HG2 hie
                go_wp2_with (go_at_call 65; refine (grown_ex Hd2.out Hv.out.2.2.1 HG3.out.1 HG3.out.2.1 (by have := Hn.out; omega) Hsz.out).mono ?_; rintro e w5 ⟨v', rfl, hd5, hb5⟩; have Hd5 := Lib.hid hd5; have Hb5 := Lib.hid hb5; clear hd5 hb5)
                go_roundw
                case rel => exact ⟨pos + 1, 0, 0, _, Lib.hid (grow_len Hn.out), rfl, rfl, by omega, by omega, Hd5, Lib.hid HG3.out.2.2, Lib.hid ((Hb5.out.block _ (by omega)).trans Hk2.out), Hok2, Lib.hid (Hb2.out.trans (Hb5.out.mono (by omega)))⟩
                case measure =>
                  have e1 := Hm.out
                  have e2 := iterPos_of ((Hb5.out.block (w.heap.size + 1) (by omega)).trans Hk2.out)
                  omega
          · exact absurd (show pos + 1 = s.size by omega) hlast
      · have Hr : Hid (digsTo s s.size = false) := Lib.hid (digsTo_false hp h1)
        clear h1
        rcases hc with c1 | c1
        all_goals
          go_wp2_with fail
          refine bodyPost_ret (results_two rfl _ _ w.heap.size 89 #[.slice none 0 0, .bool false] (0, 0) _ rfl (heap_setCell_same _ w.heap.size 1 _ 89 (.bool false) (heap_setCell_same wv w.heap.size 0 _ 89 (.slice none 0 0) Hrow.out)) Tryz.underlying89 rfl size101) rfl ?_
          exact ⟨_, by rw [Hr.out]; rfl, by rw [Hr.out]; exact NumAt.zero _, ((((Below.refl _ _).alloc (Nat.le_refl _) _).trans (Hb2.out.mono (by omega))).setCell (Nat.le_refl _) _).setCell (Nat.le_refl _) _⟩
    · have hnx : ∀ ty, (Instr.next (.pointer (some ⟨w.heap.size + 1, 0, none⟩)) true ty).run Tryz.prog wr = _ := fun ty => Lib.run_next_end_at wr (w.heap.size + 1) s pos ty Hk.out hp
      have hps : pos = s.size := by omega
      have Hr : Hid (digsTo s s.size = true) := Lib.hid (by have := Hok.out; rwa [hps] at this)
      have Hrow : Hid (∀ w5, Below wr.heap.size wr w5 → w5.heap[w.heap.size]? = some (.cells #[.slice none 0 0, .bool false] 89 (0, 0))) := Lib.hid (fun w5 h5 => by
        have h1 := Hb.out.size
        simp at h1
        exact (h5.block w.heap.size (by omega)).trans ((Hb.out.block w.heap.size (by omega)).trans (heap_alloc_new w _)))
      have hwr : w.heap.size + 1 ≤ wr.heap.size := by
        have h1 := Hb.out.size
        simpa using h1
      obtain ⟨A, c, e⟩ := Hd.out.slice
      subst e
      obtain ⟨_, hcl, hat⟩ := Hd.out.at
      have hval : dval 4294967296 ds = ptake s s.size := by
        have h1 := Hv.out.1
        have h2 := Hv.out.2.1
        rw [Hv.out.2.2.2 hps] at h1 h2
        rw [hps] at h1
        simp at h1 h2
        omega
      have Hval := Lib.hid hval
      have Hmk := Lib.hid (made_ex (neg := false) hat Hv.out.2.2.1 rfl hcl (by have := Hn.out; omega))
      clear hat hval hps hcl
      generalize ds.length = n at *
      go_wp2_with (go_at_call 66; refine Hmk.out.mono ?_; rintro e w5 ⟨v5, rfl, hv5, hb5⟩; have Hz5 := Lib.hid hv5; obtain ⟨A5, c5, ds5, rfl, _⟩ := hv5; have Hb5 := Lib.hid hb5; obtain ⟨hf0, hf1, hc0, hc1⟩ := row_facts (Hrow.out w5 hb5); have Hrw := Lib.hid (Hrow.out w5 hb5); clear hb5; generalize ds5.length = n5 at *)
      refine bodyPost_ret (results_two rfl _ _ w.heap.size 89 #[.slice A5 n5 c5, .bool (decide (signed false (dval 4294967296 ds) < 0))] (0, 0) _ rfl (heap_setCell_same _ w.heap.size 1 _ 89 (.bool _) (heap_setCell_same w5 w.heap.size 0 _ 89 (.slice A5 n5 c5) Hrw.out)) Tryz.underlying89 rfl size101) rfl ?_
      refine ⟨_, by rw [Hr.out]; rfl, ?_, (((((Below.refl _ _).alloc (Nat.le_refl _) _).trans (Hb.out.mono (by omega))).trans (Hb5.out.mono (by omega))).setCell (Nat.le_refl _) _).setCell (Nat.le_refl _) _⟩
      rw [Hr.out, ← Hval.out]
      refine NumAt.boxed Hrw.out ?_ 
      exact Hz5.out

set_option maxRecDepth 100000 in
set_option maxHeartbeats 1000000 in
theorem parseE_neg (s txt : ByteArray) (w : World) (h1 : 0 < s.size) (hext : s.extract 1 s.size = txt) (h0 : 0 < txt.size) (hs : txt.size ≤ 1000000000000) (h45 : (((s[0]'h1).toNat : Int) == 45) = true) (hz : (((txt[0]'h0).toNat : Int) == 48) = false) : Calls Tryz.prog 33 #[.string s] w (ParsedEx w (parZ (digsTo txt txt.size) (signed true (ptake txt txt.size))) (digsTo txt txt.size)) := by
  have he : (txt.toList == []) = false := by rw [empty_toList, decide_eq_false (by omega)]
  have hb0 : Below (w.heap.size + 1) (w.alloc (.cells #[.slice none 0 0, .bool false] 89)) ((w.alloc (.cells #[.slice none 0 0, .bool false] 89)).iter txt 0) := by
    have := below_iter (w.alloc (.cells #[.slice none 0 0, .bool false] 89)) txt 0
    rwa [show (w.alloc (.cells #[.slice none 0 0, .bool false] 89)).heap.size = w.heap.size + 1 by simp] at this
  have hi0 : ((w.alloc (.cells #[.slice none 0 0, .bool false] 89)).iter txt 0).heap[w.heap.size + 1]? = some (.stringIter txt 0) := by
    have := World.iter_heap (w.alloc (.cells #[.slice none 0 0, .bool false] 89)) txt 0
    rwa [show (w.alloc (.cells #[.slice none 0 0, .bool false] 89)).heap.size = w.heap.size + 1 by simp] at this
  have Hb0 := Lib.hid hb0
  have Hi0 := Lib.hid hi0
  have Hpv : Hid (PV txt 0 0 0 []) := Lib.hid ⟨by simp [dval, ptake, pval], by simp, (by intro x hx; simp at hx), fun _ => rfl⟩
  clear hb0 hi0
  go_enter Tryz.func33, Tryz.ntmps33
  go_wp2_with fail
  go_loopw [6, 7, 8] (fun lv nv dv wr => ∃ (pos dg m : Nat) (ds : List Nat), Hid (ds.length ≤ pos) ∧ nv = .int .u64 (m : Int) ∧ dv = .int .i64 dg ∧ dg ≤ 8 ∧ pos ≤ txt.size ∧ Hid (DigL wr (w.heap.size + 1 + 1) ds lv) ∧ Hid (PV txt pos dg m ds) ∧ Hid (wr.heap[w.heap.size + 1]? = some (.stringIter txt pos)) ∧ Hid (digsTo txt pos = true) ∧ Hid (Below (w.heap.size + 1) (w.alloc (.cells #[.slice none 0 0, .bool false] 89)) wr)) (fun _ _ _ wr => txt.size - wr.iterPos (w.heap.size + 1))
  case atStart => exact ⟨0, 0, 0, [], Lib.hid (Nat.le_refl _), rfl, rfl, by omega, Nat.zero_le _, Lib.hid (DigL.nil _ _), Hpv, Hi0, Lib.hid rfl, Hb0⟩
  case round =>
    clear Hb0 Hi0 Hpv
    obtain ⟨pos, dg, m, ds, Hn, rfl, rfl, hdg, hpos, Hd, Hv, Hk, Hok, Hb⟩ := hrel
    by_cases hp : pos < txt.size
    · have hnx : ∀ ty, (Instr.next (.pointer (some ⟨w.heap.size + 1, 0, none⟩)) true ty).run Tryz.prog wr = _ := fun ty => Lib.run_next_any_at wr (w.heap.size + 1) txt pos ty Hk.out hp
      obtain ⟨r, wd, hdec, hcls⟩ := dig_class2 txt pos hp
      rw [hdec] at hnx
      simp only at hnx
      clear hdec
      have Hm : Hid (wr.iterPos (w.heap.size + 1) = pos) := Lib.hid (iterPos_of Hk.out)
      have Hd2 := Lib.hid (Hd.out.iterAt (k := w.heap.size + 1) (by omega) txt (pos + wd))
      have Hk2 := Lib.hid (Lib.iterAt_heap wr (w.heap.size + 1) txt pos (pos + wd) Hk.out)
      have Hb2 := Lib.hid (Lib.below_iterAt Hb.out (Nat.le_refl _) txt (pos + wd))
      generalize wr.iterAt (w.heap.size + 1) txt (pos + wd) = wv at *
      have Hrow : Hid (wv.heap[w.heap.size]? = some (.cells #[.slice none 0 0, .bool false] 89 (0, 0))) := Lib.hid ((Hb2.out.block w.heap.size (by omega)).trans (heap_alloc_new w _))
      have hf0 : wv.frozen? ⟨w.heap.size, 0, none⟩ = false := frozen_of_row wv w.heap.size 0 _ 89 Hrow.out
      have hf1 : wv.frozen? ⟨w.heap.size, 1, none⟩ = false := frozen_of_row wv w.heap.size 1 _ 89 Hrow.out
      have hc0 : wv.cell? ⟨w.heap.size, 0, none⟩ = some (.slice none 0 0) := by rw [cell_of_row wv w.heap.size 0 _ 89 (0, 0) Hrow.out]; rfl
      have hc1 : wv.cell? ⟨w.heap.size, 1, none⟩ = some (.bool false) := by rw [cell_of_row wv w.heap.size 1 _ 89 (0, 0) Hrow.out]; rfl
      rcases hcls with ⟨h1, rfl, c1, c2, ch, hch, rfl⟩ | ⟨h1, hc⟩
      · have H1 := Lib.hid h1
        have Hch := Lib.hid hch
        have Hok2 : Hid (digsTo txt (pos + 1) = true) := Lib.hid (by unfold digsTo; rw [Hok.out, h1]; rfl)
        have Hsz : Hid (w.heap.size + 1 + 1 ≤ wv.heap.size) := Lib.hid (Array.getElem?_eq_some_iff.1 Hk2.out).1
        have HG := Lib.hid (Hv.out.grow hch c1 c2 hdg)
        have HS : pos + 1 ≠ txt.size → Hid (PV txt (pos + 1) (dg + 1) (10 * m + (ch.toNat - 48)) ds) := fun e => Lib.hid (Hv.out.step hch c1 c2 e)
        have Hm10 : Hid (m < 1000000000) := Lib.hid (by have h1 := Hv.out.2.1; have h2 := pow10_le (show dg ≤ 9 by omega); have h7 : (10 : Nat) ^ 9 = 1000000000 := rfl; omega)
        have hnum : IntKind.u64.wrap (IntKind.u64.wrap (10 * (m : Int)) + ((ch.toNat : Int) - 48)) = ((10 * m + (ch.toNat - 48) : Nat) : Int) := par_num Hm10.out c1 c2
        generalize 10 * m + (ch.toNat - 48) = m2 at HG HS hnum
        clear h1 H1 hch
        by_cases h8 : dg = 8
        · subst h8
          clear HS
          go_wp2_with fail
          go_loop [11, 71] (fun t j => ∃ (i : Nat), t = .int .u64 (p10 i : Int) ∧ j = .int .i64 i ∧ i ≤ 9) (fun _ j => 9 - (intOf j).toNat)
          case atStart => exact ⟨0, rfl, rfl, by omega⟩
          case round =>
            obtain ⟨i, rfl, rfl, hi⟩ := hrel
            by_cases hij : i < 9
            · have hij2 : (i : Int) < 9 := by omega
              go_wp2_with fail
              go_round
              case rel => exact ⟨i + 1, by rw [pow_num (by omega)], by go_num, by omega⟩
              case measure => simp [intOf]; omega
            · have hij2 : ¬ (i : Int) < 9 := by omega
              have hie : i = 8 + 1 := by omega
              have HG2 := HG.out
              rw [← hie] at HG2
              have HG3 := Lib.hid HG2
              clear HG HG2 hie
              go_wp2_with (go_at_call 65; refine (grown_ex Hd2.out Hv.out.2.2.1 HG3.out.1 HG3.out.2.1 (by have := Hn.out; omega) Hsz.out).mono ?_; rintro e w5 ⟨v', rfl, hd5, hb5⟩; have Hd5 := Lib.hid hd5; have Hb5 := Lib.hid hb5; clear hd5 hb5)
              go_roundw
              case rel => exact ⟨pos + 1, 0, 0, _, Lib.hid (grow_len Hn.out), rfl, rfl, by omega, by omega, Hd5, Lib.hid HG3.out.2.2, Lib.hid ((Hb5.out.block _ (by omega)).trans Hk2.out), Hok2, Lib.hid (Hb2.out.trans (Hb5.out.mono (by omega)))⟩
              case measure =>
                have e1 := Hm.out
                have e2 := iterPos_of ((Hb5.out.block (w.heap.size + 1) (by omega)).trans Hk2.out)
                omega
        · have b8 : ((dg : Int) + 1 == 9) = false := by
            rw [beq_eq_false_iff_ne]
            omega
          by_cases hlast : pos + 1 = txt.size
          · have bl : ((pos : Int) == (txt.size : Int) - 1) = true := by
              rw [beq_iff_eq]
              omega
            clear hlast HS
            go_wp2_with fail
            go_loop [11, 71] (fun t j => ∃ (i : Nat), t = .int .u64 (p10 i : Int) ∧ j = .int .i64 i ∧ i ≤ (dg + 1)) (fun _ j => (dg + 1) - (intOf j).toNat)
            case atStart => exact ⟨0, rfl, rfl, by omega⟩
            case round =>
              obtain ⟨i, rfl, rfl, hi⟩ := hrel
              by_cases hij : i < (dg + 1)
              · have hij2 : (i : Int) < (dg : Int) + 1 := by omega
                go_wp2_with fail
                go_round
                case rel => exact ⟨i + 1, by rw [pow_num (by omega)], by go_num, by omega⟩
                case measure => simp [intOf]; omega
              · have hij2 : ¬ (i : Int) < (dg : Int) + 1 := by omega
                have hie : i = dg + 1 := by omega
                have HG2 := HG.out
                rw [← hie] at HG2
                have HG3 := Lib.hid HG2
                clear HG HG2 hie
                go_wp2_with (go_at_call 65; refine (grown_ex Hd2.out Hv.out.2.2.1 HG3.out.1 HG3.out.2.1 (by have := Hn.out; omega) Hsz.out).mono ?_; rintro e w5 ⟨v', rfl, hd5, hb5⟩; have Hd5 := Lib.hid hd5; have Hb5 := Lib.hid hb5; clear hd5 hb5)
                go_roundw
                case rel => exact ⟨pos + 1, 0, 0, _, Lib.hid (grow_len Hn.out), rfl, rfl, by omega, by omega, Hd5, Lib.hid HG3.out.2.2, Lib.hid ((Hb5.out.block _ (by omega)).trans Hk2.out), Hok2, Lib.hid (Hb2.out.trans (Hb5.out.mono (by omega)))⟩
                case measure =>
                  have e1 := Hm.out
                  have e2 := iterPos_of ((Hb5.out.block (w.heap.size + 1) (by omega)).trans Hk2.out)
                  omega
          · have bl : ((pos : Int) == (txt.size : Int) - 1) = false := by
              rw [beq_eq_false_iff_ne]
              omega
            have HS2 := HS hlast
            clear HS
            go_wp2_with fail
            go_roundw
            case rel => exact ⟨pos + 1, dg + 1, m2, ds, Lib.hid (by have := Hn.out; omega), rfl, by go_num, by omega, by omega, Hd2, HS2, Hk2, Hok2, Hb2⟩
            case measure =>
              have e1 := Hm.out
              have e2 := iterPos_of Hk2.out
              omega
      · have Hr : Hid (digsTo txt txt.size = false) := Lib.hid (digsTo_false hp h1)
        clear h1
        rcases hc with c1 | c1
        all_goals
          go_wp2_with fail
          refine bodyPost_ret (results_two rfl _ _ w.heap.size 89 #[.slice none 0 0, .bool false] (0, 0) _ rfl (heap_setCell_same _ w.heap.size 1 _ 89 (.bool false) (heap_setCell_same wv w.heap.size 0 _ 89 (.slice none 0 0) Hrow.out)) Tryz.underlying89 rfl size101) rfl ?_
          exact ⟨_, by rw [Hr.out]; rfl, by rw [Hr.out]; exact NumAt.zero _, ((((Below.refl _ _).alloc (Nat.le_refl _) _).trans (Hb2.out.mono (by omega))).setCell (Nat.le_refl _) _).setCell (Nat.le_refl _) _⟩
    · have hnx : ∀ ty, (Instr.next (.pointer (some ⟨w.heap.size + 1, 0, none⟩)) true ty).run Tryz.prog wr = _ := fun ty => Lib.run_next_end_at wr (w.heap.size + 1) txt pos ty Hk.out hp
      have hps : pos = txt.size := by omega
      have Hr : Hid (digsTo txt txt.size = true) := Lib.hid (by have := Hok.out; rwa [hps] at this)
      have Hrow : Hid (∀ w5, Below wr.heap.size wr w5 → w5.heap[w.heap.size]? = some (.cells #[.slice none 0 0, .bool false] 89 (0, 0))) := Lib.hid (fun w5 h5 => by
        have h1 := Hb.out.size
        simp at h1
        exact (h5.block w.heap.size (by omega)).trans ((Hb.out.block w.heap.size (by omega)).trans (heap_alloc_new w _)))
      have hwr : w.heap.size + 1 ≤ wr.heap.size := by
        have h1 := Hb.out.size
        simpa using h1
      obtain ⟨A, c, e⟩ := Hd.out.slice
      subst e
      obtain ⟨_, hcl, hat⟩ := Hd.out.at
      have hval : dval 4294967296 ds = ptake txt txt.size := by
        have h1 := Hv.out.1
        have h2 := Hv.out.2.1
        rw [Hv.out.2.2.2 hps] at h1 h2
        rw [hps] at h1
        simp at h1 h2
        omega
      have Hval := Lib.hid hval
      have Hmk := Lib.hid (made_ex (neg := true) hat Hv.out.2.2.1 rfl hcl (by have := Hn.out; omega))
      clear hat hval hps hcl
      generalize ds.length = n at *
      go_wp2_with (go_at_call 66; refine Hmk.out.mono ?_; rintro e w5 ⟨v5, rfl, hv5, hb5⟩; have Hz5 := Lib.hid hv5; obtain ⟨A5, c5, ds5, rfl, _⟩ := hv5; have Hb5 := Lib.hid hb5; obtain ⟨hf0, hf1, hc0, hc1⟩ := row_facts (Hrow.out w5 hb5); have Hrw := Lib.hid (Hrow.out w5 hb5); clear hb5; generalize ds5.length = n5 at *)
      refine bodyPost_ret (results_two rfl _ _ w.heap.size 89 #[.slice A5 n5 c5, .bool (decide (signed true (dval 4294967296 ds) < 0))] (0, 0) _ rfl (heap_setCell_same _ w.heap.size 1 _ 89 (.bool _) (heap_setCell_same w5 w.heap.size 0 _ 89 (.slice A5 n5 c5) Hrw.out)) Tryz.underlying89 rfl size101) rfl ?_
      refine ⟨_, by rw [Hr.out]; rfl, ?_, (((((Below.refl _ _).alloc (Nat.le_refl _) _).trans (Hb.out.mono (by omega))).trans (Hb5.out.mono (by omega))).setCell (Nat.le_refl _) _).setCell (Nat.le_refl _) _⟩
      rw [Hr.out, ← Hval.out]
      refine NumAt.boxed Hrw.out ?_ 
      exact Hz5.out

set_option maxRecDepth 100000 in
set_option maxHeartbeats 1000000 in
theorem parseE_zeros (s : ByteArray) (w : World) (h0 : 0 < s.size) (h45 : (((s[0]'h0).toNat : Int) == 45) = false) (hz : (((s[0]'h0).toNat : Int) == 48) = true) (h1 : 1 < s.size) : Calls Tryz.prog 33 #[.string s] w (ParsedEx w 0 false) := by
  have he : (s.toList == []) = false := by rw [empty_toList, decide_eq_false (by omega)]
  go_enter Tryz.func33, Tryz.ntmps33
  go_wp2_with fail
  all_goals
    refine bodyPost_ret (results_two rfl _ _ w.heap.size 89 #[.slice none 0 0, .bool false] (0, 0) _ rfl (heap_alloc_new _ _) Tryz.underlying89 rfl size101) rfl ?_
    exact ⟨_, rfl, NumAt.zero _, (Below.refl _ _).alloc (Nat.le_refl _) _⟩

set_option maxRecDepth 100000 in
set_option maxHeartbeats 1000000 in
theorem parseE_sign (s txt : ByteArray) (w : World) (h1 : 0 < s.size) (hext : s.extract 1 s.size = txt) (h0 : txt.size = 0) (h45 : (((s[0]'h1).toNat : Int) == 45) = true) : Calls Tryz.prog 33 #[.string s] w (ParsedEx w 0 false) := by
  have he : (txt.toList == []) = true := by rw [empty_toList, decide_eq_true h0]
  clear h0
  go_enter Tryz.func33, Tryz.ntmps33
  go_wp2_with fail
  all_goals
    refine bodyPost_ret (results_two rfl _ _ w.heap.size 89 #[.slice none 0 0, .bool false] (0, 0) _ rfl (heap_alloc_new _ _) Tryz.underlying89 rfl size101) rfl ?_
    exact ⟨_, rfl, NumAt.zero _, (Below.refl _ _).alloc (Nat.le_refl _) _⟩

set_option maxRecDepth 100000 in
set_option maxHeartbeats 1000000 in
theorem parseE_sign_zero (s txt : ByteArray) (w : World) (h1 : 0 < s.size) (hext : s.extract 1 s.size = txt) (h0 : 0 < txt.size) (h45 : (((s[0]'h1).toNat : Int) == 45) = true) (hz : (((txt[0]'h0).toNat : Int) == 48) = true) : Calls Tryz.prog 33 #[.string s] w (ParsedEx w 0 false) := by
  have he : (txt.toList == []) = false := by rw [empty_toList, decide_eq_false (by omega)]
  go_enter Tryz.func33, Tryz.ntmps33
  go_wp2_with fail
  all_goals
    refine bodyPost_ret (results_two rfl _ _ w.heap.size 89 #[.slice none 0 0, .bool false] (0, 0) _ rfl (heap_alloc_new _ _) Tryz.underlying89 rfl size101) rfl ?_
    exact ⟨_, rfl, NumAt.zero _, (Below.refl _ _).alloc (Nat.le_refl _) _⟩
end Go.Proofs.YtbnonccmlildnaaGreat

/- num.Parse, exactly and whole. -/
namespace Go.Proofs.YtbnonccmlildnaaGreat
open Go.RowKit Go.Lib

theorem parse_ex (s : ByteArray) (w : World) (hs : s.size ≤ 1000000000000) : Calls Tryz.prog 33 #[.string s] w (ParsedEx w (parseZ s) (rightB s)) := by
  by_cases h0 : 0 < s.size
  · have f45 := first_is s h0 45
    have f48 := first_is s h0 48
    cases hn : (((s[0]'h0).toNat : Int) == 45) with
    | true =>
      have hneg : (s.data[0]? == some 45) = true := f45.trans hn
      by_cases hr : 0 < (s.extract 1 s.size).size
      · have g48 := first_is (s.extract 1 s.size) hr 48
        cases hz : ((((s.extract 1 s.size)[0]'hr).toNat : Int) == 48) with
        | true =>
          have : rightB s = false := by
            unfold rightB
            simp only [hneg, if_true, Bool.or_true, Bool.and_true]
            rw [g48, show (((48 : UInt8).toNat : Nat) : Int) = 48 from rfl, hz]
            simp
          unfold parseZ
          rw [this]
          exact parseE_sign_zero s _ w h0 rfl hr hn hz
        | false =>
          have : rightB s = digsTo (s.extract 1 s.size) (s.extract 1 s.size).size := by
            unfold rightB
            simp only [hneg, if_true, Bool.or_true, Bool.and_true]
            rw [g48, show (((48 : UInt8).toNat : Nat) : Int) = 48 from rfl, hz, decide_eq_true hr]
            rfl
          unfold parseZ
          rw [this]
          rw [show valB s = signed true (ptake (s.extract 1 s.size) (s.extract 1 s.size).size) by rw [ptake_all]; unfold valB; rw [if_pos hneg]; rfl]
          exact parseE_neg s _ w h0 rfl hr (by simp; omega) hn hz
      · have : rightB s = false := by
          unfold rightB
          simp only [hneg, if_true]
          rw [decide_eq_false hr]
          rfl
        unfold parseZ
        rw [this]
        exact parseE_sign s _ w h0 rfl (by omega) hn
    | false =>
      have hneg : (s.data[0]? == some 45) = false := f45.trans hn
      cases hz : (((s[0]'h0).toNat : Int) == 48) with
      | false =>
        have : rightB s = digsTo s s.size := by
          unfold rightB
          simp only [hneg, if_false, Bool.false_eq_true, Bool.or_false]
          rw [f48, show (((48 : UInt8).toNat : Nat) : Int) = 48 from rfl, hz, decide_eq_true h0]
          rfl
        unfold parseZ
        rw [this]
        rw [show valB s = signed false (ptake s s.size) by rw [ptake_all]; unfold valB; rw [if_neg (by rw [hneg]; simp)]; rfl]
        exact parseE_plain s w h0 hs hn hz
      | true =>
        by_cases h1 : 1 < s.size
        · have : rightB s = false := by
            unfold rightB
            simp only [hneg, if_false, Bool.false_eq_true, Bool.or_false]
            rw [f48, show (((48 : UInt8).toNat : Nat) : Int) = 48 from rfl, hz, decide_eq_true h1]
            simp
          unfold parseZ
          rw [this]
          exact parseE_zeros s w h0 hn hz h1
        · have : rightB s = digsTo s s.size := by
            unfold rightB
            simp only [hneg, if_false, Bool.false_eq_true, Bool.or_false]
            rw [decide_eq_false h1, decide_eq_true h0, Bool.and_false]
            rfl
          unfold parseZ
          rw [this]
          rw [show valB s = signed false (ptake s s.size) by rw [ptake_all]; unfold valB; rw [if_neg (by rw [hneg]; simp)]; rfl]
          exact parseE_zero s w h0 hs hn hz (by omega)
  · have : rightB s = false := by
      have h00 : s.size = 0 := by omega
      have hget : s.data[0]? = none := Array.getElem?_eq_none (by rw [ByteArray.size_data]; omega)
      unfold rightB
      simp [h00]
    unfold parseZ
    rw [this]
    exact parseE_empty s w (by omega)
end Go.Proofs.YtbnonccmlildnaaGreat
