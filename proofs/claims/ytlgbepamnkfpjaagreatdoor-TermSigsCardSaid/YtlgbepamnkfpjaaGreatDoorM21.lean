/- Small strings: Word, sorts, prefixes. -/
import Derived.Test.YtlgbepamnkfpjaaGreatDoorM20
import Derived.Lib.Strings
import Derived.Laws.Strings3
set_option linter.unusedSimpArgs false
set_option linter.unusedVariables false
set_option linter.unusedVariables false
set_option linter.unusedSimpArgs false
namespace Go.Proofs.YtlgbepamnkfpjaaGreatDoor
open Go.RowKit Go.Lib

def wordB (op : Int) : ByteArray :=
  if (op == 4) = true then ⟨#[110, 111, 116]⟩ else if (op == 5) = true then ⟨#[97, 110, 100]⟩ else if (op == 6) = true then ⟨#[111, 114]⟩ else if (op == 7) = true then ⟨#[61, 62]⟩ else if (op == 8) = true then ⟨#[105, 102, 102]⟩ else if (op == 9) = true then ⟨#[61]⟩ else if (op == 10) = true then ⟨#[60, 61]⟩ else if (op == 11) = true then ⟨#[60]⟩
  else if (op == 12) = true then ⟨#[43]⟩ else if (op == 13) = true then ⟨#[45]⟩ else if (op == 14) = true then ⟨#[110, 101, 103]⟩ else if (op == 15) = true then ⟨#[42]⟩ else if (op == 16) = true then ⟨#[105, 116, 101]⟩ else ⟨#[63]⟩
def sortsB (s : Int) : ByteArray := if (s == 1) = true then ⟨#[105, 110, 116]⟩ else if (s == 2) = true then ⟨#[98, 111, 111, 108]⟩ else if (s == 3) = true then ⟨#[111, 98, 106]⟩ else ⟨#[63]⟩
set_option maxHeartbeats 1000000 in
theorem word_any (op : Int) (w : World) : Calls Tryz.prog 36 #[.int .i64 op] w fun e w' => e = .returned (.string (wordB op)) ∧ w' = w := by
  go_enter Tryz.func36, Tryz.ntmps36
  go_wp2
  all_goals
    go_ret
    refine ⟨?_, rfl⟩
    simp [wordB, *]
set_option maxHeartbeats 1000000 in
theorem sorts_any (s : Int) (w : World) : Calls Tryz.prog 38 #[.int .i64 s] w fun e w' => e = .returned (.string (sortsB s)) ∧ w' = w := by
  go_enter Tryz.func38, Tryz.ntmps38
  go_wp2
  all_goals
    go_ret
    refine ⟨?_, rfl⟩
    simp [sortsB, *]
set_option maxHeartbeats 1000000 in
theorem prefix0_any (s p : ByteArray) (w : World) : Calls Tryz.prog 63 #[.string s, .string p] w fun e w' => e = .returned (.bool (Lib.hasPrefix s.data.toList p.data.toList)) ∧ w' = w := by
  rw [← Lib.hasPrefix_of_take, ← Lib.size_eq, ← Lib.size_eq]
  go_enter Tryz.func63, Tryz.ntmps63
  go_wp2
  · rename_i h
    go_ret
    refine ⟨?_, rfl⟩
    show Ending.returned (Value.bool ((s.extract 0 p.size).toList == p.toList)) = _
    rw [Lib.extract_toList, Lib.toList_data]
    simp [h]
  · rename_i h
    go_ret
    refine ⟨?_, rfl⟩
    show Ending.returned (Value.bool false) = _
    simp [h]
set_option maxHeartbeats 1000000 in
theorem prefix_any (s p : ByteArray) (w : World) : Calls Tryz.prog 37 #[.string s, .string p] w fun e w' => e = .returned (.bool (Lib.hasPrefix s.data.toList p.data.toList)) ∧ w' = w := by
  have Hc : Hid (Calls Tryz.prog 63 #[.string s, .string p] w fun e w' => e = .returned (.bool (Lib.hasPrefix s.data.toList p.data.toList)) ∧ w' = w) := Lib.hid (prefix0_any s p w)
  go_enter Tryz.func37, Tryz.ntmps37
  go_wp2_with (go_at_call 63; refine Hc.out.mono ?_; rintro e w' ⟨rfl, hw⟩; rw [hw])
  go_ret
  exact ⟨rfl, rfl⟩
def trimB (s p : ByteArray) : ByteArray := ⟨(Lib.trimPrefix s.data.toList p.data.toList).toArray⟩
set_option maxHeartbeats 1000000 in
theorem trim0_any (s p : ByteArray) (w : World) : Calls Tryz.prog 83 #[.string s, .string p] w fun e w' => e = .returned (.string (trimB s p)) ∧ w' = w := by
  have Hc : Hid (Calls Tryz.prog 63 #[.string s, .string p] w fun e w' => e = .returned (.bool (Lib.hasPrefix s.data.toList p.data.toList)) ∧ w' = w) := Lib.hid (prefix0_any s p w)
  unfold trimB
  by_cases h1 : p.size ≤ s.size
  · cases h2 : ((s.extract 0 p.size).toList == p.toList)
    · have hh : Lib.hasPrefix s.data.toList p.data.toList = false := by rw [← Lib.hasPrefix_raw, h2]; simp
      go_enter Tryz.func83, Tryz.ntmps83
      go_wp2_with (go_at_call 63; refine Hc.out.mono ?_; rintro e w' ⟨rfl, hw⟩; rw [hw, hh])
      go_ret
      refine ⟨?_, rfl⟩
      rw [Lib.trimPrefix_miss s p (by rw [h2]; simp)]
      rfl
    · have hh : Lib.hasPrefix s.data.toList p.data.toList = true := by rw [← Lib.hasPrefix_raw, h2]; simp [h1]
      go_enter Tryz.func83, Tryz.ntmps83
      go_wp2_with (go_at_call 63; refine Hc.out.mono ?_; rintro e w' ⟨rfl, hw⟩; rw [hw, hh])
      go_ret
      refine ⟨?_, rfl⟩
      rw [Lib.trimPrefix_hit s p h1 h2]
      rfl
  · have hh : Lib.hasPrefix s.data.toList p.data.toList = false := by rw [← Lib.hasPrefix_raw]; simp [h1]
    go_enter Tryz.func83, Tryz.ntmps83
    go_wp2_with (go_at_call 63; refine Hc.out.mono ?_; rintro e w' ⟨rfl, hw⟩; rw [hw, hh])
    go_ret
    refine ⟨?_, rfl⟩
    rw [Lib.trimPrefix_miss s p (by simp [h1])]
    rfl
set_option maxHeartbeats 1000000 in
theorem trim_any (s p : ByteArray) (w : World) : Calls Tryz.prog 66 #[.string s, .string p] w fun e w' => e = .returned (.string (trimB s p)) ∧ w' = w := by
  have Hc : Hid (Calls Tryz.prog 83 #[.string s, .string p] w fun e w' => e = .returned (.string (trimB s p)) ∧ w' = w) := Lib.hid (trim0_any s p w)
  go_enter Tryz.func66, Tryz.ntmps66
  go_wp2_with (go_at_call 83; refine Hc.out.mono ?_; rintro e w' ⟨rfl, hw⟩; rw [hw])
  go_ret
  exact ⟨rfl, rfl⟩
end Go.Proofs.YtlgbepamnkfpjaaGreatDoor

/- Texts of terms: plainly; what stands behind an operator. -/
set_option linter.unusedVariables false
set_option linter.unusedSimpArgs false
namespace Go.Proofs.YtlgbepamnkfpjaaGreatDoor
open Go.RowKit Go.Lib

/-- Strings, one space between them. -/
def joinB : List ByteArray → ByteArray
  | [] => ⟨#[]⟩
  | [s] => s
  | s :: l => s ++ (⟨#[32]⟩ ++ joinB l)
def varTexts (vs : Bd) : List ByteArray := vs.map fun v => v.1 ++ ⟨#[32]⟩ ++ sortsB v.2
mutual
def textT : Tm → ByteArray
  | .mk op name _ n l vars pat =>
    if op = 1 then (if Lib.hasPrefix n.data.toList [45] = true then ⟨#[40, 45, 32]⟩ ++ n.extract 1 n.size ++ ⟨#[41]⟩ else n)
    else if op = 2 then ⟨#[116, 114, 117, 101]⟩ else if op = 3 then ⟨#[102, 97, 108, 115, 101]⟩ else if op = 18 then name
    else if op = 17 then (if l.length = 0 then name else ⟨#[40]⟩ ++ name ++ behindB l ++ ⟨#[41]⟩)
    else if op = 19 then ⟨#[40, 102, 111, 114, 97, 108, 108, 32, 40]⟩ ++ joinB (varTexts vars) ++ ⟨#[41, 32, 40, 112, 97, 116, 116, 101, 114, 110, 32]⟩ ++ trimB (behindB pat) ⟨#[32]⟩ ++ ⟨#[41, 32]⟩ ++ trimB (behindB l) ⟨#[32]⟩ ++ ⟨#[41]⟩
    else ⟨#[40]⟩ ++ wordB op ++ behindB l ++ ⟨#[41]⟩
def behindB : List Tm → ByteArray
  | [] => ⟨#[]⟩
  | t :: ts => (⟨#[32]⟩ ++ textT t) ++ behindB ts
end
theorem ba_assoc (a b c : ByteArray) : a ++ b ++ c = a ++ (b ++ c) := ByteArray.append_assoc
theorem ba_nil (a : ByteArray) : a ++ (⟨#[]⟩ : ByteArray) = a := ByteArray.append_empty
theorem behindB_take {l : List Tm} {k : Nat} (hk : k < l.length) : behindB (l.take (k + 1)) = behindB (l.take k) ++ (⟨#[32]⟩ ++ textT l[k]) := by
  induction l generalizing k with
  | nil => simp at hk
  | cons t l ih =>
    cases k with
    | zero =>
      simp only [List.take_succ_cons, List.take_zero, List.getElem_cons_zero, behindB]
      rw [ba_nil]
      exact (ByteArray.empty_append (b := ⟨#[32]⟩ ++ textT t)).symm
    | succ k =>
      simp only [List.length_cons] at hk
      have := ih (k := k) (by omega)
      simp only [List.take_succ_cons, List.getElem_cons_succ, behindB]
      rw [this, ba_assoc (⟨#[32]⟩ ++ textT t)]
theorem behindB_le (l : List Tm) (k : Nat) : (behindB (l.take k)).size ≤ (behindB l).size := by
  induction l generalizing k with
  | nil => simp
  | cons t l ih =>
    cases k with
    | zero =>
      simp only [List.take_zero, behindB]
      show 0 ≤ _
      omega
    | succ k =>
      have := ih k
      simp only [List.take_succ_cons, behindB, ByteArray.size_append] at this ⊢
      omega
def TextIs (w : World) (s : ByteArray) (e : Ending) (w' : World) : Prop := e = .returned (.string s) ∧ Below w.heap.size w w'
set_option maxRecDepth 100000 in
set_option maxHeartbeats 1000000 in
theorem behind_any {w0 : World} {ts : List Tm} {A : Option Addr} {c : Nat} {f : Nat → Value} (hf : RowCells w0 A 7 ts.length f) (hL : ∀ (j : Nat) (t : Tm), ts[j]? = some t → TmV w0 t (f j)) (htext : ∀ (j : Nat) (t : Tm), ts[j]? = some t → ∀ W, Below w0.heap.size w0 W → Calls Tryz.prog 16 #[f j] W (TextIs W (textT t)))
    (hlen : ts.length ≤ 1000000) (hsz : (behindB ts).size ≤ 9000000000000000000) (w : World) (hb : Below w0.heap.size w0 w) : Calls Tryz.prog 41 #[.slice A ts.length c] w (TextIs w (behindB ts)) := by
  have Hf := Lib.hid hf
  have HL := Lib.hid hL
  have Htext := Lib.hid htext
  have Hb := Lib.hid hb
  have Hsz := Lib.hid hsz
  clear hf hL htext hb hsz
  go_enter Tryz.func41, Tryz.ntmps41
  go_wp2_with fail
  go_loopw [3, 8] (fun v i wr => ∃ (k : Nat) (s : ByteArray), k ≤ ts.length ∧ i = .int .i64 k ∧ v = .string s ∧ Hid (s = behindB (ts.take k)) ∧ Hid (Below w.heap.size w wr)) (fun _ i _ => ts.length - (intOf i).toNat)
  case atStart => exact ⟨0, ⟨#[]⟩, Nat.zero_le _, rfl, rfl, Lib.hid rfl, Lib.hid (Below.refl _ _)⟩
  case round =>
    obtain ⟨k, s, hk, rfl, rfl, Hs, Hbr⟩ := hrel
    by_cases hlt : k < ts.length
    · have Ht : Hid (ts[k]? = some ts[k]) := Lib.hid (List.getElem?_eq_getElem hlt)
      have Hv := Lib.hid (HL.out k _ Ht.out)
      obtain ⟨p, hp⟩ := Hv.out.parts
      have hwr0 : Below w0.heap.size w0 wr := Hb.out.trans (Hbr.out.mono Hb.out.size)
      obtain ⟨b, o, rfl, h0, h1, h2, h3, h4, h5, h6⟩ := (Hf.out.below hwr0).get hlt hp
      have Hbx : Hid (Below wr.heap.size wr (boxT wr p)) := Lib.hid (below_boxT wr p)
      have Hc : Hid (Calls Tryz.prog 16 #[.agg #[.int .i64 p.op, .string p.name, .int .i64 p.sort, .string p.n, .slice p.A p.la p.ca, .slice p.V p.lv p.cv, .slice p.P p.lp p.cp]] (wr.alloc (.cells #[.int .i64 p.op, .string p.name, .int .i64 p.sort, .string p.n, .slice p.A p.la p.ca, .slice p.V p.lv p.cv, .slice p.P p.lp p.cp] 26)) (TextIs (boxT wr p) (textT ts[k]))) := Lib.hid (by
        have := Htext.out k _ Ht.out (boxT wr p) (hwr0.trans (Hbx.out.mono hwr0.size))
        rw [hp] at this
        exact this)
      have Hst : Hid (behindB (ts.take (k + 1)) = s ++ (⟨#[32]⟩ ++ textT ts[k])) := Lib.hid (by rw [Hs.out]; exact behindB_take hlt)
      have hn : s.size + (1 + (textT ts[k]).size) ≤ 9000000000000000000 := by
        have h1 := behindB_le ts (k + 1)
        rw [Hst.out, ByteArray.size_append, ByteArray.size_append] at h1
        have h2 := Hsz.out
        have h3 : (⟨#[32]⟩ : ByteArray).size = 1 := rfl
        omega
      clear hp hwr0
      generalize ts[k] = t at *
      generalize textT t = x at *
      have n1 : ¬ (9223372036854775807 : Nat) < 1 + x.size := by omega
      have n2 : ¬ (9223372036854775807 : Nat) < s.size + (1 + x.size) := by omega
      go_wp2_with (go_at_call 16; refine Calls.mono Hc.out ?_; rintro e w8 ⟨rfl, hb8⟩; have Hb8 : Hid (Below (boxT wr p).heap.size (boxT wr p) w8) := Lib.hid hb8; clear hb8)
      go_roundw
      case rel =>
        exact ⟨k + 1, _, by omega, by go_num, rfl, Lib.hid Hst.out.symm, Lib.hid (Hbr.out.trans ((Hbx.out.trans (Hb8.out.mono Hbx.out.size)).mono Hbr.out.size))⟩
      case measure => simp [intOf]; omega
    · have hkl : k = ts.length := by omega
      subst hkl
      go_wp2_with fail
      go_ret
      exact ⟨by rw [Hs.out, List.take_length]; rfl, Hbr.out⟩
end Go.Proofs.YtlgbepamnkfpjaaGreatDoor

/- Texts: how long; Text but for formulas for all. -/
set_option linter.unusedVariables false
set_option linter.unusedSimpArgs false
namespace Go.Proofs.YtlgbepamnkfpjaaGreatDoor
open Go.RowKit Go.Lib

theorem ite_size {c : Prop} [Decidable c] {a b : ByteArray} {m : Nat} (ha : a.size ≤ m) (hb : b.size ≤ m) : (if c then a else b).size ≤ m := by
  split
  · exact ha
  · exact hb
theorem wordB_size (op : Int) : (wordB op).size ≤ 3 := by
  unfold wordB
  iterate 13 refine ite_size (by decide) ?_
  decide
theorem sortsB_size (s : Int) : (sortsB s).size ≤ 4 := by
  unfold sortsB
  repeat' split
  all_goals decide
theorem trimB_size (s p : ByteArray) : (trimB s p).size ≤ s.size := by
  unfold trimB
  rw [Lib.size_eq, Lib.size_eq]
  simpa using Lib.trimPrefix_le s.data.toList p.data.toList
theorem joinB_size {l : List ByteArray} {m : Nat} (h : ∀ s ∈ l, s.size + 1 ≤ m) : (joinB l).size ≤ l.length * m := by
  induction l with
  | nil => simp [joinB, ByteArray.size]
  | cons s l ih =>
    have h1 := h s (by simp)
    have h2 := ih fun x hx => h x (by simp [hx])
    cases l with
    | nil => simp only [joinB, List.length_singleton]; omega
    | cons t l =>
      simp only [joinB, ByteArray.size_append, List.length_cons] at h2 ⊢
      have h3 : (⟨#[32]⟩ : ByteArray).size = 1 := rfl
      rw [Nat.add_mul, Nat.one_mul]
      omega
theorem varTexts_size {vs : Bd} (h : ∀ x ∈ vs, x.1.size ≤ 140737488355328) : ∀ s ∈ varTexts vs, s.size + 1 ≤ 281474976710656 := by
  intro s hs
  obtain ⟨v, hv, rfl⟩ := List.mem_map.1 hs
  have h1 := h v hv
  have h2 := sortsB_size v.2
  have h3 : (⟨#[32]⟩ : ByteArray).size = 1 := rfl
  simp only [ByteArray.size_append]
  omega
theorem behindB_size {l : List Tm} (h : ∀ (j : Nat) (t : Tm), l[j]? = some t → (textT t).size + 1 ≤ tw t * 281474976710656) : (behindB l).size ≤ tws l * 281474976710656 := by
  induction l with
  | nil => simp [behindB, tws, ByteArray.size]
  | cons t l ih =>
    have h1 := h 0 t rfl
    have h2 := ih fun j t hj => h (j + 1) t (by simpa using hj)
    have h3 : (⟨#[32]⟩ : ByteArray).size = 1 := rfl
    simp only [behindB, tws, ByteArray.size_append, Nat.add_mul]
    omega
theorem textT_size {w : World} {t : Tm} {v : Value} (h : TmV w t v) : (textT t).size + 1 ≤ tw t * 281474976710656 := by
  induction h with
  | @mk op name sort n ts vs pat A V P ca cv cp f g hbd hl hf hL hv hV hp hg hP ihL ihP =>
    have h1 := behindB_size ihL
    have h2 := behindB_size ihP
    have h3 := trimB_size (behindB ts) ⟨#[32]⟩
    have h4 := trimB_size (behindB pat) ⟨#[32]⟩
    have h5 := joinB_size (varTexts_size fun x hx => (hbd.vs x hx).1)
    have h6 := wordB_size op
    have h7 := hbd.name
    have h8 := hbd.n
    have h9 : (varTexts vs).length = vs.length := by simp [varTexts]
    have h10 : (n.extract 1 n.size).size ≤ n.size := by rw [ByteArray.size_extract]; omega
    rw [h9] at h5
    simp only [tw, Nat.add_mul]
    have a1 : (⟨#[40, 45, 32]⟩ : ByteArray).size = 3 := rfl
    have a2 : (⟨#[41]⟩ : ByteArray).size = 1 := rfl
    have a3 : (⟨#[116, 114, 117, 101]⟩ : ByteArray).size = 4 := rfl
    have a4 : (⟨#[102, 97, 108, 115, 101]⟩ : ByteArray).size = 5 := rfl
    have a5 : (⟨#[40]⟩ : ByteArray).size = 1 := rfl
    have a6 : (⟨#[40, 102, 111, 114, 97, 108, 108, 32, 40]⟩ : ByteArray).size = 9 := rfl
    have a7 : (⟨#[41, 32, 40, 112, 97, 116, 116, 101, 114, 110, 32]⟩ : ByteArray).size = 11 := rfl
    have a8 : (⟨#[41, 32]⟩ : ByteArray).size = 2 := rfl
    simp only [textT]
    split
    · split
      · simp only [ByteArray.size_append]; omega
      · omega
    · split
      · omega
      · split
        · omega
        · split
          · omega
          · split
            · split
              · omega
              · simp only [ByteArray.size_append]; omega
            · split
              · simp only [ByteArray.size_append]; omega
              · simp only [ByteArray.size_append]; omega
def TextOK (w0 : World) (t : Tm) (v : Value) : Prop := ∀ W, Below w0.heap.size w0 W → Calls Tryz.prog 16 #[v] W (TextIs W (textT t))
set_option maxRecDepth 100000 in
set_option maxHeartbeats 1000000 in
theorem joined_any {A : Option Addr} {n c : Nat} {s : ByteArray} {W : World} (h : Calls Tryz.prog 41 #[.slice A n c] W (TextIs W s)) : Calls Tryz.prog 40 #[.slice A n c] W (TextIs W (trimB s ⟨#[32]⟩)) := by
  have Hc := Lib.hid h
  clear h
  go_enter Tryz.func40, Tryz.ntmps40
  go_wp2_with (first
    | (go_at_call 41; refine Hc.out.mono ?_; rintro e w5 ⟨rfl, hb5⟩; have Hb5 := Lib.hid hb5; clear hb5)
    | (go_at_call 66; refine (trim_any _ _ _).mono ?_; rintro e w6 ⟨rfl, rfl⟩))
  go_ret
  exact ⟨rfl, Hb5.out⟩
set_option maxRecDepth 100000 in
set_option maxHeartbeats 1000000 in
theorem text_leaf {op sort : Int} {name n : ByteArray} {ts pat : List Tm} {vs : Bd} {A V P : Option Addr} {ca cv cp : Nat} (hop : op = 1 ∨ op = 2 ∨ op = 3 ∨ op = 18) (hn : n.size ≤ 140737488355328) (w : World) :
    Calls Tryz.prog 16 #[.agg (Parts.arr ⟨op, name, sort, n, A, ts.length, ca, V, vs.length, cv, P, pat.length, cp⟩)] w (TextIs w (textT (.mk op name sort n ts vs pat))) := by
  obtain ⟨s, hs⟩ : ∃ s, s = textT (.mk op name sort n ts vs pat) := ⟨_, rfl⟩
  rw [← hs]
  simp only [Parts.arr]
  rcases hop with rfl | rfl | rfl | rfl
  · cases hm : Lib.hasPrefix n.data.toList [45] with
    | true =>
      have Hs : Hid (s = ⟨#[40, 45, 32]⟩ ++ n.extract 1 n.size ++ ⟨#[41]⟩) := Lib.hid (by rw [hs]; simp [textT, hm])
      have Hm : Hid (Lib.hasPrefix n.data.toList (⟨#[45]⟩ : ByteArray).data.toList = true) := Lib.hid hm
      have hn1 : 1 ≤ n.size := by
        cases hd : n.data.toList with
        | nil => rw [hd] at hm; simp [Lib.hasPrefix] at hm
        | cons a l => rw [Lib.size_eq, hd]; simp
      have hx : (n.extract 1 n.size).size = n.size - 1 := by rw [ByteArray.size_extract]; omega
      clear hs hm
      have n1 : ¬ (9223372036854775807 : Nat) < 3 + (n.size - 1) := by omega
      have n2 : ¬ (9223372036854775807 : Nat) < 3 + (n.size - 1) + 1 := by omega
      go_enter Tryz.func16, Tryz.ntmps16
      go_wp2_with (first
        | (go_at_call 36; refine (word_any _ _).mono ?_; rintro e w2 ⟨rfl, rfl⟩)
        | (go_at_call 37; refine (prefix_any _ _ _).mono ?_; rintro e w2 ⟨rfl, rfl⟩; rw [Hm.out]))
      go_ret
      exact ⟨by rw [Hs.out]; rfl, (Below.refl _ _).alloc (Nat.le_refl _) _⟩
    | false =>
      have Hs : Hid (s = n) := Lib.hid (by rw [hs]; simp [textT, hm])
      have Hm : Hid (Lib.hasPrefix n.data.toList (⟨#[45]⟩ : ByteArray).data.toList = false) := Lib.hid hm
      clear hs hm
      go_enter Tryz.func16, Tryz.ntmps16
      go_wp2_with (first
        | (go_at_call 36; refine (word_any _ _).mono ?_; rintro e w2 ⟨rfl, rfl⟩)
        | (go_at_call 37; refine (prefix_any _ _ _).mono ?_; rintro e w2 ⟨rfl, rfl⟩; rw [Hm.out]))
      go_ret
      exact ⟨by rw [Hs.out]; rfl, (Below.refl _ _).alloc (Nat.le_refl _) _⟩
  · have Hs : Hid (s = ⟨#[116, 114, 117, 101]⟩) := Lib.hid (by rw [hs]; simp [textT])
    clear hs
    go_enter Tryz.func16, Tryz.ntmps16
    go_wp2_with (go_at_call 36; refine (word_any _ _).mono ?_; rintro e w2 ⟨rfl, rfl⟩)
    go_ret
    exact ⟨by rw [Hs.out]; rfl, (Below.refl _ _).alloc (Nat.le_refl _) _⟩
  · have Hs : Hid (s = ⟨#[102, 97, 108, 115, 101]⟩) := Lib.hid (by rw [hs]; simp [textT])
    clear hs
    go_enter Tryz.func16, Tryz.ntmps16
    go_wp2_with (go_at_call 36; refine (word_any _ _).mono ?_; rintro e w2 ⟨rfl, rfl⟩)
    go_ret
    exact ⟨by rw [Hs.out]; rfl, (Below.refl _ _).alloc (Nat.le_refl _) _⟩
  · have Hs : Hid (s = name) := Lib.hid (by rw [hs]; simp [textT])
    clear hs
    go_enter Tryz.func16, Tryz.ntmps16
    go_wp2_with (go_at_call 36; refine (word_any _ _).mono ?_; rintro e w2 ⟨rfl, rfl⟩)
    go_ret
    exact ⟨by rw [Hs.out]; rfl, (Below.refl _ _).alloc (Nat.le_refl _) _⟩
set_option maxRecDepth 100000 in
set_option maxHeartbeats 1000000 in
theorem text_app {w0 : World} {sort : Int} {name n : ByteArray} {ts pat : List Tm} {vs : Bd} {A V P : Option Addr} {ca cv cp : Nat} (hn : name.size ≤ 140737488355328) (hl : ts.length ≤ 1000000) (hs : (behindB ts).size ≤ 9000000000000000000)
    (hbeh : ∀ W, Below w0.heap.size w0 W → Calls Tryz.prog 41 #[.slice A ts.length ca] W (TextIs W (behindB ts))) (w : World) (hb : Below w0.heap.size w0 w) :
    Calls Tryz.prog 16 #[.agg (Parts.arr ⟨17, name, sort, n, A, ts.length, ca, V, vs.length, cv, P, pat.length, cp⟩)] w (TextIs w (textT (.mk 17 name sort n ts vs pat))) := by
  obtain ⟨s, hs2⟩ : ∃ s, s = textT (.mk 17 name sort n ts vs pat) := ⟨_, rfl⟩
  rw [← hs2]
  simp only [Parts.arr]
  by_cases h0 : ts.length = 0
  · have Hs : Hid (s = name) := Lib.hid (by rw [hs2]; simp [textT, h0])
    rw [h0]
    clear hs2 hbeh hs hl h0
    go_enter Tryz.func16, Tryz.ntmps16
    go_wp2_with (go_at_call 36; refine (word_any _ _).mono ?_; rintro e w2 ⟨rfl, rfl⟩)
    go_ret
    exact ⟨by rw [Hs.out]; rfl, (Below.refl _ _).alloc (Nat.le_refl _) _⟩
  · have Hs : Hid (s = ⟨#[40]⟩ ++ name ++ behindB ts ++ ⟨#[41]⟩) := Lib.hid (by rw [hs2]; simp [textT, h0])
    have h0b : ((ts.length : Int) == 0) = false := by simpa using h0
    have Hbeh := Lib.hid hbeh
    have Hb := Lib.hid hb
    clear hs2 hbeh hb h0
    generalize ts.length = lt at *
    generalize behindB ts = bh at *
    have n1 : ¬ (9223372036854775807 : Nat) < 1 + name.size := by omega
    have n2 : ¬ (9223372036854775807 : Nat) < 1 + name.size + bh.size := by omega
    have n3 : ¬ (9223372036854775807 : Nat) < 1 + name.size + bh.size + 1 := by omega
    go_enter Tryz.func16, Tryz.ntmps16
    go_wp2_with (first
      | (go_at_call 36; refine (word_any _ _).mono ?_; rintro e w2 ⟨rfl, rfl⟩)
      | (go_at_call 41; refine (Hbeh.out _ (Hb.out.alloc Hb.out.size _)).mono ?_; rintro e w5 ⟨rfl, hb5⟩; have Hb5 := Lib.hid hb5; clear hb5))
    go_ret
    exact ⟨by rw [Hs.out]; rfl, ((Below.refl w.heap.size w).alloc (Nat.le_refl _) _).trans (Hb5.out.mono (by simp))⟩
set_option maxRecDepth 100000 in
set_option maxHeartbeats 1000000 in
theorem text_op {w0 : World} {op sort : Int} {name n : ByteArray} {ts pat : List Tm} {vs : Bd} {A V P : Option Addr} {ca cv cp : Nat} (hop : op ≠ 1 ∧ op ≠ 2 ∧ op ≠ 3 ∧ op ≠ 18 ∧ op ≠ 17 ∧ op ≠ 19) (hs : (behindB ts).size ≤ 9000000000000000000)
    (hbeh : ∀ W, Below w0.heap.size w0 W → Calls Tryz.prog 41 #[.slice A ts.length ca] W (TextIs W (behindB ts))) (w : World) (hb : Below w0.heap.size w0 w) :
    Calls Tryz.prog 16 #[.agg (Parts.arr ⟨op, name, sort, n, A, ts.length, ca, V, vs.length, cv, P, pat.length, cp⟩)] w (TextIs w (textT (.mk op name sort n ts vs pat))) := by
  obtain ⟨s, hs2⟩ : ∃ s, s = textT (.mk op name sort n ts vs pat) := ⟨_, rfl⟩
  rw [← hs2]
  simp only [Parts.arr]
  obtain ⟨p1, p2, p3, p18, p17, p19⟩ := hop
  have Hs : Hid (s = ⟨#[40]⟩ ++ wordB op ++ behindB ts ++ ⟨#[41]⟩) := Lib.hid (by rw [hs2]; simp only [textT]; rw [if_neg p1, if_neg p2, if_neg p3, if_neg p18, if_neg p17, if_neg p19])
  have q1 : (op == 1) = false := by simpa using p1
  have q2 : (op == 2) = false := by simpa using p2
  have q3 : (op == 3) = false := by simpa using p3
  have q18 : (op == 18) = false := by simpa using p18
  have q17 : (op == 17) = false := by simpa using p17
  have q19 : (op == 19) = false := by simpa using p19
  have Hbeh := Lib.hid hbeh
  have Hb := Lib.hid hb
  have hw := wordB_size op
  have Hw : Hid (∀ W, Calls Tryz.prog 36 #[.int .i64 op] W fun e w' => e = .returned (.string (wordB op)) ∧ w' = W) := Lib.hid (word_any op)
  clear hs2 hbeh hb p1 p2 p3 p18 p17 p19
  generalize ts.length = lt at *
  generalize behindB ts = bh at *
  generalize wordB op = wd at *
  have n1 : ¬ (9223372036854775807 : Nat) < 1 + wd.size := by omega
  have n2 : ¬ (9223372036854775807 : Nat) < 1 + wd.size + bh.size := by omega
  have n3 : ¬ (9223372036854775807 : Nat) < 1 + wd.size + bh.size + 1 := by omega
  go_enter Tryz.func16, Tryz.ntmps16
  go_wp2_with (first
    | (go_at_call 36; refine (Hw.out _).mono ?_; rintro e w2 ⟨rfl, rfl⟩)
    | (go_at_call 41; refine (Hbeh.out _ (Hb.out.alloc Hb.out.size _)).mono ?_; rintro e w5 ⟨rfl, hb5⟩; have Hb5 := Lib.hid hb5; clear hb5))
  go_ret
  exact ⟨by rw [Hs.out]; rfl, ((Below.refl w.heap.size w).alloc (Nat.le_refl _) _).trans (Hb5.out.mono (by simp))⟩
end Go.Proofs.YtlgbepamnkfpjaaGreatDoor

/- Text of a formula for all. -/
set_option linter.unusedVariables false
set_option linter.unusedSimpArgs false
namespace Go.Proofs.YtlgbepamnkfpjaaGreatDoor
open Go.RowKit Go.Lib

/-- Join is as it is written, of so many strings at most. -/
def JoinOK (m : Nat) : Prop := ∀ (W : World) (A : Option Addr) (c : Nat) (names : List ByteArray), names.length ≤ m → (∀ s ∈ names, s.size + 1 ≤ 281474976710656) → Cells W A (names.map Value.string) → Calls Tryz.prog 39 #[.slice A names.length c, .string ⟨#[32]⟩] W (TextIs W (joinB names))
set_option maxRecDepth 100000 in
set_option maxHeartbeats 1000000 in
theorem join1 : JoinOK 1 := by
  intro W A c names hl _ hc
  match names, hl with
  | [], _ =>
    simp only [List.length_nil]
    clear hc
    go_enter Tryz.func39, Tryz.ntmps39
    go_wp2_with fail
    go_ret
    exact ⟨rfl, Below.refl _ _⟩
  | [s], _ =>
    rcases hc with ⟨_, h⟩ | ⟨b, o, rfl, h⟩
    · simp at h
    · have h0 := h 0 (.string s) rfl
      simp only [Nat.add_zero] at h0
      clear h
      simp only [List.length_singleton]
      go_enter Tryz.func39, Tryz.ntmps39
      go_wp2_with fail
      go_ret
      exact ⟨rfl, Below.refl _ _⟩
theorem varTexts_take {vs : Bd} {k : Nat} (hk : k < vs.length) : varTexts (vs.take (k + 1)) = varTexts (vs.take k) ++ [vs[k].1 ++ ⟨#[32]⟩ ++ sortsB vs[k].2] := by
  unfold varTexts
  rw [List.map_take, List.map_take, List.take_add_one]
  simp [hk]
theorem varTexts_length (vs : Bd) : (varTexts vs).length = vs.length := by simp [varTexts]
set_option maxRecDepth 100000 in
set_option maxHeartbeats 4000000 in
theorem text_all {w0 : World} {sort : Int} {name n : ByteArray} {ts pat : List Tm} {vs : Bd} {A V P : Option Addr} {ca cv cp : Nat} (hV : RowCells w0 V 2 vs.length (bval vs)) (hvs : ∀ x ∈ vs, x.1.size ≤ 140737488355328) {m : Nat} (hjoin : JoinOK m) (hm : vs.length ≤ m) (hvl : vs.length ≤ 10000)
    (hst : (behindB ts).size ≤ 2900000000000000000) (hsp : (behindB pat).size ≤ 2900000000000000000)
    (hjt : ∀ W, Below w0.heap.size w0 W → Calls Tryz.prog 40 #[.slice A ts.length ca] W (TextIs W (trimB (behindB ts) ⟨#[32]⟩)))
    (hjp : ∀ W, Below w0.heap.size w0 W → Calls Tryz.prog 40 #[.slice P pat.length cp] W (TextIs W (trimB (behindB pat) ⟨#[32]⟩))) (w : World) (hb : Below w0.heap.size w0 w) :
    Calls Tryz.prog 16 #[.agg (Parts.arr ⟨19, name, sort, n, A, ts.length, ca, V, vs.length, cv, P, pat.length, cp⟩)] w (TextIs w (textT (.mk 19 name sort n ts vs pat))) := by
  obtain ⟨s, hs2⟩ : ∃ s, s = textT (.mk 19 name sort n ts vs pat) := ⟨_, rfl⟩
  rw [← hs2]
  have Hs : Hid (s = ⟨#[40, 102, 111, 114, 97, 108, 108, 32, 40]⟩ ++ joinB (varTexts vs) ++ ⟨#[41, 32, 40, 112, 97, 116, 116, 101, 114, 110, 32]⟩ ++ trimB (behindB pat) ⟨#[32]⟩ ++ ⟨#[41, 32]⟩ ++ trimB (behindB ts) ⟨#[32]⟩ ++ ⟨#[41]⟩) := Lib.hid (by rw [hs2]; simp [textT])
  have hj := joinB_size (varTexts_size hvs)
  rw [varTexts_length] at hj
  have hts := Nat.le_trans (trimB_size (behindB ts) ⟨#[32]⟩) hst
  have hps := Nat.le_trans (trimB_size (behindB pat) ⟨#[32]⟩) hsp
  have hvt := varTexts_size hvs
  have Hvt := Lib.hid hvt
  have HV := Lib.hid hV
  have Hjoin : Hid (∀ (W : World) (A2 : Option Addr) (c2 : Nat), Cells W A2 ((varTexts vs).map Value.string) → Calls Tryz.prog 39 #[.slice A2 vs.length c2, .string ⟨#[32]⟩] W (TextIs W (joinB (varTexts vs)))) := Lib.hid (fun W A2 c2 hc => by have := hjoin W A2 c2 (varTexts vs) (by rw [varTexts_length]; exact hm) hvt hc; rwa [varTexts_length] at this)
  have Hjt := Lib.hid hjt
  have Hjp := Lib.hid hjp
  have Hb := Lib.hid hb
  have Hvs := Lib.hid hvs
  have HT0 : Hid ((w.alloc (.cells #[.int .i64 19, .string name, .int .i64 sort, .string n, .slice A ts.length ca, .slice V vs.length cv, .slice P pat.length cp] 26)).heap[w.heap.size]? = some (.cells (Parts.arr ⟨19, name, sort, n, A, ts.length, ca, V, vs.length, cv, P, pat.length, cp⟩) 26 (0, 0))) := Lib.hid (heap_alloc_new w _)
  obtain ⟨i9, hi9, hz0, hz1, hz2⟩ := info_parts info9
  clear hs2 hV hvs hjoin hm hst hsp hjt hjp hb hvt
  simp only [Parts.arr]
  generalize hlt : ts.length = lt at *
  generalize hlp : pat.length = lp at *
  clear hlt hlp
  generalize trimB (behindB ts) ⟨#[32]⟩ = tl at *
  generalize trimB (behindB pat) ⟨#[32]⟩ = tp at *
  go_enter Tryz.func16, Tryz.ntmps16
  go_wp2_with (go_at_call 36; refine (word_any _ _).mono ?_; rintro e w2 ⟨rfl, rfl⟩)
  go_loopw [4, 46] (fun v i wr => ∃ (k c2 : Nat) (A2 : Option Addr), k ≤ vs.length ∧ i = .int .i64 k ∧ v = .slice A2 k c2 ∧ Hid (OwnQ wr (w.heap.size + 1) 9 (.slice A2 k c2) ((varTexts (vs.take k)).map Value.string)) ∧ Hid (Below w.heap.size w wr ∧ w.heap.size + 1 ≤ wr.heap.size) ∧ Hid (wr.heap[w.heap.size]? = some (.cells (Parts.arr ⟨19, name, sort, n, A, lt, ca, V, vs.length, cv, P, lp, cp⟩) 26 (0, 0)))) (fun _ i _ => vs.length - (intOf i).toNat)
  case atStart => exact ⟨0, 0, none, Nat.zero_le _, rfl, rfl, Lib.hid (OwnQ.nil _ _ _), Lib.hid ⟨(Below.refl _ _).alloc (Nat.le_refl _) _, by simp⟩, HT0⟩
  case round =>
    obtain ⟨k, c2, A2, hk, rfl, rfl, Hown, Hbr, HT⟩ := hrel
    by_cases hlt : k < vs.length
    · have hwr0 : Below w0.heap.size w0 wr := Hb.out.trans (Hbr.out.1.mono Hb.out.size)
      obtain ⟨b, o, rfl, h0, h1⟩ := (HV.out.below hwr0).bound (List.getElem?_eq_getElem hlt)
      have Hst := Lib.hid (varTexts_take hlt)
      have hx := Hvs.out vs[k] (List.getElem_mem hlt)
      clear hwr0
      generalize vs[k] = v at *
      obtain ⟨x, sx⟩ := v
      dsimp only at h0 h1 Hst hx
      have hss := sortsB_size sx
      have Hsort : Hid (∀ W, Calls Tryz.prog 38 #[.int .i64 sx] W fun e w' => e = .returned (.string (sortsB sx)) ∧ w' = W) := Lib.hid (sorts_any sx)
      generalize sortsB sx = sb at *
      have n1 : ¬ (9223372036854775807 : Nat) < x.size + 1 := by omega
      have n2 : ¬ (9223372036854775807 : Nat) < x.size + 1 + sb.size := by omega
      have HN : Hid (((varTexts (vs.take k)).map Value.string).length = k) := Lib.hid (by simp [varTexts]; omega)
      have HN2 : Hid ((varTexts (vs.take k)).length = k) := Lib.hid (by simp [varTexts]; omega)
      have Hlen : Hid (((varTexts (vs.take k)).map Value.string).length + 1 ≤ maxLen ∧ (((varTexts (vs.take k)).map Value.string).length + 1) * 16 ≤ 140737488355328) := Lib.hid (by rw [HN.out]; simp only [maxLen]; omega)
      go_wp2_with fail
      have Hbase : Hid (w.heap.size + 1 ≤ wr.heap.size) := Lib.hid Hbr.out.2
      have hp0 : (wr.alloc (.cells #[.string x, .int .i64 sx] 41)).cell? ⟨wr.heap.size, 0, none⟩ = some (.string x) := by rw [row_at (heap_alloc_new wr _)]; rfl
      have hp1 : (wr.alloc (.cells #[.string x, .int .i64 sx] 41)).cell? ⟨wr.heap.size, 1, none⟩ = some (.int .i64 sx) := by rw [row_at (heap_alloc_new wr _)]; rfl
      have HrowB : Hid (((wr.alloc (.cells #[.string x, .int .i64 sx] 41)).alloc (.cells #[.string (x ++ ⟨#[32]⟩ ++ sb)] 9)).drew.heap[wr.heap.size]? = some (.cells #[.string x, .int .i64 sx] 41 (0, 0))) := Lib.hid (by show ((wr.alloc (.cells #[.string x, .int .i64 sx] 41)).alloc (.cells #[.string (x ++ ⟨#[32]⟩ ++ sb)] 9)).heap[wr.heap.size]? = _; rw [Below.heap_alloc _ _ _ (by simp)]; exact heap_alloc_new wr _)
      obtain ⟨hq0, hq1⟩ : ((wr.alloc (.cells #[.string x, .int .i64 sx] 41)).alloc (.cells #[.string (x ++ ⟨#[32]⟩ ++ sb)] 9)).drew.cell? ⟨wr.heap.size, 0, none⟩ = some (.string x) ∧ ((wr.alloc (.cells #[.string x, .int .i64 sx] 41)).alloc (.cells #[.string (x ++ ⟨#[32]⟩ ++ sb)] 9)).drew.cell? ⟨wr.heap.size, 1, none⟩ = some (.int .i64 sx) := ⟨by rw [row_at HrowB.out]; rfl, by rw [row_at HrowB.out]; rfl⟩
      have HownB : Hid (OwnQ ((wr.alloc (.cells #[.string x, .int .i64 sx] 41)).alloc (.cells #[.string (x ++ ⟨#[32]⟩ ++ sb)] 9)).drew (w.heap.size + 1) 9 (.slice A2 k c2) ((varTexts (vs.take k)).map Value.string)) := Lib.hid (((Hown.out.alloc _).alloc _).drew)
      go_region_held3 (fun w' => w'.cell? ⟨wr.heap.size, 0, none⟩ = some (.string x) ∧ w'.cell? ⟨wr.heap.size, 1, none⟩ = some (.int .i64 sx))
        (first
          | exact ⟨hp0, hp1⟩
          | (with_reducible exact ⟨hq0, hq1⟩)
          | (with_reducible exact ⟨hr0, hr1⟩))
        (first
          | (go_at_call 38; (with_reducible refine (Hsort.out _).mono ?_); rintro e w5 ⟨rfl, rfl⟩)
          | (refine step_append_q _ (by rfl) _ _ 67 (by rfl) (w.heap.size + 1) 9 i9 (.string ⟨#[]⟩) 16 Tryz.underlying67 hi9 hz0 hz1 hz2 rfl (.slice A2 k c2) ((varTexts (vs.take k)).map Value.string) (by rfl) HownB.out ⟨wr.heap.size + 1, 0, none⟩ 1 (.string (x ++ ⟨#[32]⟩ ++ sb)) (by simp [Act.eval, Act.put]) (by simp) rfl Hlen.out.1 Hlen.out.2 (by have := Hbase.out; simp; omega) ?_
             intro g of cap w3 hq3 hg3 _
             have Hq3 := Lib.hid hq3
             have Hg3 := Lib.hid hg3
             have hr3 := row_kept_q HrowB.out HownB.out hg3 (by decide)
             have hr0 : w3.cell? ⟨wr.heap.size, 0, none⟩ = some (.string x) := (by rw [row_at hr3]; rfl)
             have hr1 : w3.cell? ⟨wr.heap.size, 1, none⟩ = some (.int .i64 sx) := (by rw [row_at hr3]; rfl)
             clear hq3 hg3 hr3))
      all_goals
        go_wp2_with fail
        go_roundw
        case rel =>
          refine ⟨k + 1, cap, some ⟨g, of, none⟩, by omega, by go_num, by rw [HN2.out], Lib.hid ?_, Lib.hid ⟨?_, ?_⟩, Lib.hid ?_⟩
          · have := Hq3.out
            rw [HN.out] at this
            rw [Hst.out, List.map_append]
            exact this
          · exact (((Hbr.out.1.alloc Hbr.out.1.size _).alloc (by have := Hbr.out.1.size; simp; omega) _).drew).grown Hg3.out (by have := Hbr.out.1.size; simp; omega) (fun j hj => by have := (HownB.out.lt j hj).1; omega)
          · have := Hg3.out.size
            have := Hbase.out
            simp at *
            omega
          · exact row_kept_q (W := ((wr.alloc (.cells #[.string x, .int .i64 sx] 41)).alloc (.cells #[.string (x ++ ⟨#[32]⟩ ++ sb)] 9)).drew) (by show ((wr.alloc (.cells #[.string x, .int .i64 sx] 41)).alloc (.cells #[.string (x ++ ⟨#[32]⟩ ++ sb)] 9)).heap[_]? = _; rw [Below.heap_alloc _ _ _ (by have := Hbase.out; simp; omega), Below.heap_alloc _ _ _ (by have := Hbase.out; omega)]; exact HT.out) HownB.out Hg3.out (by decide)
        case measure => simp [intOf]; omega
    · have hkl : k = vs.length := by omega
      subst hkl
      have Hcells : Hid (Cells wr A2 ((varTexts vs).map Value.string)) := Lib.hid (by
        have := Hown.out
        rw [List.take_length] at this
        obtain ⟨A3, c3, e, _, hc⟩ := this.cells
        simp only [Value.slice.injEq] at e
        obtain ⟨rfl, _, _⟩ := e
        exact hc)
      generalize joinB (varTexts vs) = j at *
      have HcD : Hid (Cells wr.drew A2 ((varTexts vs).map Value.string)) := Lib.hid Hcells.out
      have HTd : Hid (wr.drew.heap[w.heap.size]? = some (.cells (Parts.arr ⟨19, name, sort, n, A, lt, ca, V, vs.length, cv, P, lp, cp⟩) 26 (0, 0))) := Lib.hid HT.out
      have HB0 : Hid (Below w.heap.size w wr.drew) := Lib.hid Hbr.out.1.drew
      obtain ⟨_, _, _, _, x4, _, x6⟩ := box_cells HT.out
      dsimp only at x4 x6
      have n1 : ¬ (9223372036854775807 : Nat) < 9 + j.size := by omega
      have n2 : ¬ (9223372036854775807 : Nat) < 9 + j.size + 11 := by omega
      have n3 : ¬ (9223372036854775807 : Nat) < 9 + j.size + 11 + tp.size := by omega
      have n4 : ¬ (9223372036854775807 : Nat) < 9 + j.size + 11 + tp.size + 2 := by omega
      have n5 : ¬ (9223372036854775807 : Nat) < 9 + j.size + 11 + tp.size + 2 + tl.size := by omega
      have n6 : ¬ (9223372036854775807 : Nat) < 9 + j.size + 11 + tp.size + 2 + tl.size + 1 := by omega
      go_wp2_with fail
      clear Hown Hcells HT hts hps hj HV Hvt Hvs
      go_region_held3 (fun w' => w'.cell? ⟨w.heap.size, 4, none⟩ = some (.slice A lt ca) ∧ w'.cell? ⟨w.heap.size, 6, none⟩ = some (.slice P lp cp))
        (first
          | exact ⟨x4, x6⟩
          | (with_reducible exact ⟨x54, x56⟩)
          | (with_reducible exact ⟨x64, x66⟩)
          | (with_reducible exact ⟨x74, x76⟩))
        (first
          | (go_at_call 39; (with_reducible refine (Hjoin.out _ A2 c2 HcD.out).mono ?_); rintro e w5 ⟨rfl, hb5⟩
             have H5 : Hid (Below w.heap.size w w5) := Lib.hid (HB0.out.trans (hb5.mono HB0.out.size))
             have HT5 := Lib.hid (below_keeps hb5 HTd.out)
             obtain ⟨_, _, _, _, x54, _, x56⟩ := box_cells HT5.out
             dsimp only at x54 x56
             clear hb5)
          | (go_at_call 40; (with_reducible refine (Hjp.out w5 (Hb.out.trans (H5.out.mono Hb.out.size))).mono ?_); rintro e w6 ⟨rfl, hb6⟩
             have H6 : Hid (Below w.heap.size w w6) := Lib.hid (H5.out.trans (hb6.mono H5.out.size))
             have HT6 := Lib.hid (below_keeps hb6 HT5.out)
             obtain ⟨_, _, _, _, x64, _, x66⟩ := box_cells HT6.out
             dsimp only at x64 x66
             clear hb6)
          | (go_at_call 40; (with_reducible refine (Hjt.out w6 (Hb.out.trans (H6.out.mono Hb.out.size))).mono ?_); rintro e w7 ⟨rfl, hb7⟩
             have H7 : Hid (Below w.heap.size w w7) := Lib.hid (H6.out.trans (hb7.mono H6.out.size))
             have HT7 := Lib.hid (below_keeps hb7 HT6.out)
             obtain ⟨_, _, _, _, x74, _, x76⟩ := box_cells HT7.out
             dsimp only at x74 x76
             clear hb7))
      all_goals
        go_wp2_with fail
        go_ret
        exact ⟨by rw [Hs.out]; rfl, H7.out⟩
end Go.Proofs.YtlgbepamnkfpjaaGreatDoor

/- Text. -/
set_option linter.unusedVariables false
set_option linter.unusedSimpArgs false
namespace Go.Proofs.YtlgbepamnkfpjaaGreatDoor
open Go.RowKit Go.Lib

mutual
def fewT (m : Nat) : Tm → Bool
  | .mk op _ _ _ l vars pat => (!(op == 19) || decide (vars.length ≤ m)) && fewTs m l && fewTs m pat
def fewTs (m : Nat) : List Tm → Bool
  | [] => true
  | t :: ts => fewT m t && fewTs m ts
end
theorem fewTs_mem {m : Nat} {l : List Tm} {k : Nat} {t : Tm} (h : l[k]? = some t) (hs : fewTs m l = true) : fewT m t = true := by
  induction l generalizing k with
  | nil => simp at h
  | cons u l ih =>
    simp only [fewTs, Bool.and_eq_true] at hs
    cases k with
    | zero => simp at h; subst h; exact hs.1
    | succ k => exact ih (k := k) (by simpa using h) hs.2
set_option maxHeartbeats 1000000 in
theorem Text_any {w0 : World} {t : Tm} {v : Value} (h : TmV w0 t v) {m : Nat} (hj : JoinOK m) : fewT m t = true → tw t ≤ 10000 → TextOK w0 t v := by
  induction h with
  | @mk op name sort n ts vs pat A V P ca cv cp f g hbd hl hf hL hv hV hp hg hP ihL ihP =>
    intro hfew htw W hW
    simp only [fewT, Bool.and_eq_true] at hfew
    simp only [tw] at htw
    have l1 := length_tws ts
    have l2 := length_tws pat
    have s1 := behindB_size (fun j t ht => textT_size (hL j t ht))
    have s2 := behindB_size (fun j t ht => textT_size (hP j t ht))
    have hA : ∀ W, Below w0.heap.size w0 W → Calls Tryz.prog 41 #[.slice A ts.length ca] W (TextIs W (behindB ts)) := fun W hW => behind_any hf hL (fun j t ht => ihL j t ht (fewTs_mem ht hfew.1.2) (by have := tws_mem ht; omega)) (by omega) (by omega) W hW
    have hB : ∀ W, Below w0.heap.size w0 W → Calls Tryz.prog 41 #[.slice P pat.length cp] W (TextIs W (behindB pat)) := fun W hW => behind_any hg hP (fun j t ht => ihP j t ht (fewTs_mem ht hfew.2) (by have := tws_mem ht; omega)) (by omega) (by omega) W hW
    by_cases h0 : op = 1 ∨ op = 2 ∨ op = 3 ∨ op = 18
    · exact text_leaf h0 hbd.n W
    · by_cases h17 : op = 17
      · subst h17
        exact text_app hbd.name (by omega) (by omega) hA W hW
      · by_cases h19 : op = 19
        · subst h19
          exact text_all hV (fun x hx => (hbd.vs x hx).1) hj (by simpa using hfew.1.1) (by omega) (by omega) (by omega) (fun W hW => joined_any (hA W hW)) (fun W hW => joined_any (hB W hW)) W hW
        · exact text_op ⟨fun e => h0 (.inl e), fun e => h0 (.inr (.inl e)), fun e => h0 (.inr (.inr (.inl e))), fun e => h0 (.inr (.inr (.inr e))), h17, h19⟩ (by omega) hA W hW
end Go.Proofs.YtlgbepamnkfpjaaGreatDoor
