/- Keys of terms: plainly; a text with its length ahead. -/
import Derived.Test.YtlgbepamnkfpjaaGreatDoorM23
import Derived.Deep.RegionHeld3
set_option linter.unusedSimpArgs false
set_option linter.unusedVariables false
set_option linter.unusedVariables false
set_option linter.unusedSimpArgs false
namespace Go.Proofs.YtlgbepamnkfpjaaGreatDoor
open Go.RowKit Go.Lib

def itoaB (n : Int) : ByteArray := ⟨(Lib.itoa n).toArray⟩
def putL (s : ByteArray) : List UInt8 := Lib.itoa s.size ++ [58] ++ s.data.toList
theorem strCells_itoa (n : Int) : Lib.strCells (itoaB n) = Lib.byteCells (Lib.itoa n) := by simp [Lib.strCells, Lib.byteCells, itoaB]
theorem strCells_byte (s : ByteArray) : Lib.strCells s = Lib.byteCells s.data.toList := rfl
theorem byteCells_append (a b : List UInt8) : Lib.byteCells (a ++ b) = Lib.byteCells a ++ Lib.byteCells b := by simp [Lib.byteCells]
theorem itoaB_size (n : Int) : (itoaB n).size = (Lib.itoa n).length := by simp [itoaB, ByteArray.size]
theorem isBuilder_below {B b : Nat} {bs : List Value} {w w' : World} (h : Lib.IsBuilder 90 5 B b bs w) (hb : Below w.heap.size w w') : Lib.IsBuilder 90 5 B b bs w' := by
  have go : ∀ p, Lib.BuilderAt 90 5 B b p bs w → Lib.BuilderAt 90 5 B b p bs w' := by
    rintro p ⟨h1, v, h2, h3, h4⟩
    exact ⟨h1, v, (hb.block b (Array.getElem?_eq_some_iff.1 h2).1).trans h2, ownsRow_same h3 fun g hg => hb.block g (by obtain ⟨_, cur, hc⟩ := ownsRow_lt h3 g hg; exact (Array.getElem?_eq_some_iff.1 hc).1), h4⟩
  exact h.imp (go _) (go _)
theorem isBuilder_le {B b : Nat} {bs : List Value} {w : World} (h : Lib.IsBuilder 90 5 B b bs w) : B ≤ b ∧ b < w.heap.size := by
  rcases h with h | h
  · exact ⟨h.1, h.lt⟩
  · exact ⟨h.1, h.lt⟩
/-- What a function that writes into the builder leaves. -/
def Wrote (B b : Nat) (l : List UInt8) (w : World) (e : Ending) (w' : World) : Prop :=
  e = .returned (.tuple #[]) ∧ Lib.IsBuilder 90 5 B b (Lib.byteCells l) w' ∧ Below B w w' ∧ OthersKept 5 (some b) w w'
theorem row_kept5 {w w' : World} {b k : Nat} {c : Array Value} {t : TypeId} (h : w.heap[k]? = some (.cells c t (0, 0))) (hk : OthersKept 5 (some b) w w') (hne : k ≠ b) (ht : t ≠ 5) : w'.heap[k]? = some (.cells c t (0, 0)) :=
  hk k _ h (fun e => hne (by cases e; rfl)) (fun c' fz e => by cases e; exact ht rfl)
theorem kept5_below {w w' : World} {b : Nat} (hb : Below w.heap.size w w') : OthersKept 5 (some b) w w' := kept_via (OthersKept.refl _ _ _) hb (Nat.le_refl _)
set_option maxRecDepth 100000 in
set_option maxHeartbeats 2000000 in
theorem put1_any {B b q : Nat} {l : List UInt8} {s : ByteArray} {w : World} (hq : w.heap[q]? = some (.cells #[.pointer (some ⟨b, 0, none⟩)] 87 (0, 0))) (hqb : q ≠ b) (h : Lib.IsBuilder 90 5 B b (Lib.byteCells l) w)
    (hit : ∀ W, Below w.heap.size w W → Calls Tryz.prog 78 #[.int .i64 s.size] W (TextIs W (itoaB s.size))) (hlen : l.length + (putL s).length ≤ 140737488355328) (hBw : B ≤ w.heap.size) :
    Calls Tryz.prog 77 #[.string s, .pointer (some ⟨q, 0, none⟩)] w (Wrote B b (l ++ putL s) w) := by
  have c0 : w.cell? ⟨q, 0, none⟩ = some (.pointer (some ⟨b, 0, none⟩)) := (row1 hq).1
  have hl2 : l.length + ((Lib.itoa s.size).length + 1 + s.size) ≤ 140737488355328 := by
    have : (putL s).length = (Lib.itoa s.size).length + 1 + s.size := by unfold putL; rw [List.length_append, List.length_append, ← Lib.size_eq]; rfl
    omega
  have Hit := Lib.hid hit
  have Hq := Lib.hid hq
  have Hqb := Lib.hid hqb
  have HI := Lib.hid h
  have Hl := Lib.hid hl2
  have HB := Lib.hid hBw
  clear hit hq hqb h hl2 hBw hlen
  have HSz : Hid (s.size ≤ 9223372036854775807) := Lib.hid (by have := Hl.out; omega)
  go_enter Tryz.func77, Tryz.ntmps77
  go_wp2_with fail
  go_region_held3 (fun w' => w'.cell? ⟨q, 0, none⟩ = some (.pointer (some ⟨b, 0, none⟩)))
    (first
      | exact c0
      | (with_reducible exact c5)
      | (with_reducible exact c6))
    (first
      | (go_at_call 78; (with_reducible refine (Hit.out _ (Below.refl _ _).drew).mono ?_); rintro e w5 ⟨rfl, hb5⟩
         have Hb5 : Hid (Below w.heap.size w w5) := Lib.hid ((Below.refl _ w).drew.trans hb5)
         have Hq5 := Lib.hid (below_keeps Hb5.out Hq.out)
         have HI5 := Lib.hid (isBuilder_below HI.out Hb5.out)
         have c5 := (row1 Hq5.out).1
         clear hb5)
      | (go_at_call 65; (with_reducible refine (writeString_any B b (Lib.byteCells l) (itoaB s.size) w5 HI5.out (by rw [Lib.byteCells_length, itoaB_size]; have := Hl.out; omega) (Nat.le_trans HB.out Hb5.out.size)).mono ?_); rintro e w6 ⟨rfl, hi6, hb6, hk6⟩
         have HI6 : Hid (Lib.IsBuilder 90 5 B b (Lib.byteCells l ++ Lib.strCells (itoaB s.size)) w6) := Lib.hid (.inr hi6)
         have Hb6 : Hid (Below B w w6) := Lib.hid ((Hb5.out.mono HB.out).trans hb6)
         have Hk6 : Hid (OthersKept 5 (some b) w w6) := Lib.hid ((kept5_below Hb5.out).trans hk6)
         have Hq6 := Lib.hid (row_kept5 Hq5.out hk6 Hqb.out (by decide))
         have c6 := (row1 Hq6.out).1
         clear hi6 hb6 hk6))
  all_goals
    go_wp2_with (first
      | (go_at_call 79; refine (writeByte_any B b _ _ w6 HI6.out (by rw [List.length_append, Lib.byteCells_length, Lib.strCells_length, itoaB_size]; have := Hl.out; omega) (Nat.le_trans HB.out Hb6.out.size)).mono ?_; rintro e w7 ⟨rfl, hi7, hb7, hk7⟩; have HI7 : Hid (Lib.IsBuilder 90 5 B b (Lib.byteCells l ++ Lib.strCells (itoaB s.size) ++ [.int .u8 58]) w7) := Lib.hid (.inr hi7); have Hb7 : Hid (Below B w w7) := Lib.hid (Hb6.out.trans hb7); have Hk7 : Hid (OthersKept 5 (some b) w w7) := Lib.hid (Hk6.out.trans hk7); have Hq7 := Lib.hid (row_kept5 Hq6.out hk7 Hqb.out (by decide)); have c7 := (row1 Hq7.out).1; clear hi7 hb7 hk7)
      | (go_at_call 65; refine (writeString_any B b _ s w7 HI7.out (by rw [List.length_append, List.length_append, Lib.byteCells_length, Lib.strCells_length, itoaB_size]; simp only [List.length_singleton]; have := Hl.out; omega) (Nat.le_trans HB.out Hb7.out.size)).mono ?_; rintro e w8 ⟨rfl, hi8, hb8, hk8⟩; have HI8 : Hid (Lib.IsBuilder 90 5 B b (Lib.byteCells l ++ Lib.strCells (itoaB s.size) ++ [.int .u8 58] ++ Lib.strCells s) w8) := Lib.hid (.inr hi8); have Hb8 : Hid (Below B w w8) := Lib.hid (Hb7.out.trans hb8); have Hk8 : Hid (OthersKept 5 (some b) w w8) := Lib.hid (Hk7.out.trans hk8); clear hi8 hb8 hk8))
    go_end0
    refine ⟨rfl, ?_, Hb8.out, Hk8.out⟩
    have e : Lib.byteCells (l ++ putL s) = Lib.byteCells l ++ Lib.strCells (itoaB s.size) ++ [.int .u8 58] ++ Lib.strCells s := by
      rw [strCells_itoa, strCells_byte]
      unfold putL
      simp [Lib.byteCells]
    rw [e]
    exact HI8.out
end Go.Proofs.YtlgbepamnkfpjaaGreatDoor

/- Keys of ground terms. -/
set_option linter.unusedVariables false
set_option linter.unusedSimpArgs false
namespace Go.Proofs.YtlgbepamnkfpjaaGreatDoor
open Go.RowKit Go.Lib

mutual
/-- A ground term's key. -/
def keyL : Tm → List UInt8
  | .mk op name _ n l _ _ => Lib.itoa op ++ [32] ++ (if op = 1 then putL n else if op = 17 then putL name else []) ++ [40] ++ keysL l ++ [41]
def keysL : List Tm → List UInt8
  | [] => []
  | t :: ts => keyL t ++ keysL ts
end
mutual
/-- The numbers that are told within a ground term's key. -/
def keyN (q : Int → Bool) : Tm → Bool
  | .mk op name _ n l _ _ => q op && (if op = 1 then q n.size else if op = 17 then q name.size else true) && keysN q l
def keysN (q : Int → Bool) : List Tm → Bool
  | [] => true
  | t :: ts => keyN q t && keysN q ts
end
theorem keysN_mem {q : Int → Bool} {l : List Tm} {k : Nat} {t : Tm} (h : l[k]? = some t) (hs : keysN q l = true) : keyN q t = true := by
  induction l generalizing k with
  | nil => simp at h
  | cons u l ih =>
    simp only [keysN, Bool.and_eq_true] at hs
    cases k with
    | zero => simp at h; subst h; exact hs.1
    | succ k => exact ih (k := k) (by simpa using h) hs.2
theorem tgrounds_mem {l : List Tm} {k : Nat} {t : Tm} (h : l[k]? = some t) (hs : tgrounds l = true) : tground t = true := by
  induction l generalizing k with
  | nil => simp at h
  | cons u l ih =>
    simp only [tgrounds, Bool.and_eq_true] at hs
    cases k with
    | zero => simp at h; subst h; exact hs.1
    | succ k => exact ih (k := k) (by simpa using h) hs.2
theorem keysL_take {l : List Tm} {k : Nat} (hk : k < l.length) : keysL (l.take (k + 1)) = keysL (l.take k) ++ keyL l[k] := by
  induction l generalizing k with
  | nil => simp at hk
  | cons t l ih =>
    cases k with
    | zero => simp [keysL]
    | succ k =>
      simp only [List.length_cons] at hk
      have := ih (k := k) (by omega)
      simp only [List.take_succ_cons, List.getElem_cons_succ, keysL]
      rw [this, List.append_assoc]
theorem keysL_le (l : List Tm) (k : Nat) : (keysL (l.take k)).length ≤ (keysL l).length := by
  induction l generalizing k with
  | nil => simp
  | cons t l ih =>
    cases k with
    | zero => simp [keysL]
    | succ k =>
      have := ih k
      simp only [List.take_succ_cons, keysL, List.length_append]
      omega
/-- Itoa answers here. -/
def ItoaOK (w0 : World) (n : Int) : Prop := ∀ W, Below w0.heap.size w0 W → Calls Tryz.prog 78 #[.int .i64 n] W (TextIs W (itoaB n))
/-- What holds while a term's key is written. -/
structure KInv (w : World) (B b : Nat) (p : Parts) (l : List UInt8) (wr : World) : Prop where
  ib : Lib.IsBuilder 90 5 B b (Lib.byteCells l) wr
  below : Below B w wr
  kept : OthersKept 5 (some b) w wr
  row2 : wr.heap[w.heap.size]? = some (.cells #[.pointer (some ⟨b, 0, none⟩)] 87 (0, 0))
  row3 : wr.heap[w.heap.size + 1]? = some (.cells p.arr 26 (0, 0))
  bw : b < w.heap.size
theorem KInv.wrote {w W W' : World} {B b : Nat} {p : Parts} {l l' : List UInt8} (h : KInv w B b p l W) (hi : Lib.IsBuilder 90 5 B b (Lib.byteCells l') W') (hb : Below B W W') (hk : OthersKept 5 (some b) W W') : KInv w B b p l' W' :=
  ⟨hi, h.below.trans hb, h.kept.trans hk, row_kept5 h.row2 hk (by have := h.bw; omega) (by decide), row_kept5 h.row3 hk (by have := h.bw; omega) (by decide), h.bw⟩
theorem KInv.low {w W W' : World} {B b : Nat} {p : Parts} {l : List UInt8} (h : KInv w B b p l W) (hb : Below W.heap.size W W') : KInv w B b p l W' := by
  refine ⟨isBuilder_below h.ib hb, h.below.trans (hb.mono ?_), h.kept.trans (kept5_below hb), below_keeps hb h.row2, below_keeps hb h.row3, h.bw⟩
  have := (isBuilder_le h.ib)
  omega
theorem byte_cons (l : List UInt8) (c : UInt8) (n : Int) (h : n = c.toNat) : Lib.byteCells l ++ [.int .u8 n] = Lib.byteCells (l ++ [c]) := by subst h; simp [Lib.byteCells]
theorem byte_str (l : List UInt8) (n : Int) : Lib.byteCells l ++ Lib.strCells (itoaB n) = Lib.byteCells (l ++ Lib.itoa n) := by rw [strCells_itoa, byteCells_append]
/-- The writes, as they are told here. -/
theorem kbyte {w W : World} {B b : Nat} {p : Parts} {l : List UInt8} (h : KInv w B b p l W) (c : UInt8) (n : Int) (hn : n = c.toNat) (hl : l.length + 1 ≤ 140737488355328) : Calls Tryz.prog 79 #[.pointer (some ⟨b, 0, none⟩), .int .u8 n] W fun e w' => e = .returned .nilIface ∧ KInv w B b p (l ++ [c]) w' := by
  refine (writeByte_any B b _ n W h.ib (by rw [Lib.byteCells_length]; exact hl) (by have := isBuilder_le h.ib; omega)).mono ?_
  rintro e w' ⟨rfl, h1, h2, h3⟩
  refine ⟨rfl, h.wrote (.inr ?_) h2 h3⟩
  rw [← byte_cons l c n hn]
  exact h1
theorem kstr {w W : World} {B b : Nat} {p : Parts} {l : List UInt8} (h : KInv w B b p l W) (n : Int) (hl : l.length + (Lib.itoa n).length ≤ 140737488355328) : Calls Tryz.prog 65 #[.pointer (some ⟨b, 0, none⟩), .string (itoaB n)] W fun e w' => e = .returned (.tuple #[.int .i64 (itoaB n).size, .nilIface]) ∧ KInv w B b p (l ++ Lib.itoa n) w' := by
  refine (writeString_any B b _ (itoaB n) W h.ib (by rw [Lib.byteCells_length, itoaB_size]; exact hl) (by have := isBuilder_le h.ib; omega)).mono ?_
  rintro e w' ⟨rfl, h1, h2, h3⟩
  refine ⟨rfl, h.wrote (.inr ?_) h2 h3⟩
  rw [← byte_str]
  exact h1
theorem kput {w W : World} {B b : Nat} {p : Parts} {l : List UInt8} (h : KInv w B b p l W) (s : ByteArray) (hit : ItoaOK W s.size) (hl : l.length + (putL s).length ≤ 140737488355328) : Calls Tryz.prog 77 #[.string s, .pointer (some ⟨w.heap.size, 0, none⟩)] W fun e w' => e = .returned (.tuple #[]) ∧ KInv w B b p (l ++ putL s) w' := by
  refine (put1_any h.row2 (by have := h.bw; omega) h.ib hit hl (by have := isBuilder_le h.ib; omega)).mono ?_
  rintro e w' ⟨rfl, h1, h2, h3⟩
  exact ⟨rfl, h.wrote h1 h2 h3⟩
def KeyOK (w0 : World) (t : Tm) (v : Value) : Prop := ∀ (B b : Nat) (l : List UInt8) (w : World), w0.heap.size ≤ B → Below w0.heap.size w0 w → Lib.IsBuilder 90 5 B b (Lib.byteCells l) w → l.length + (keyL t).length ≤ 140737488355328 → Calls Tryz.prog 56 #[.pointer (some ⟨b, 0, none⟩), v] w (Wrote B b (l ++ keyL t) w)
end Go.Proofs.YtlgbepamnkfpjaaGreatDoor

/- Keys: applications. -/
set_option linter.unusedVariables false
set_option linter.unusedSimpArgs false
namespace Go.Proofs.YtlgbepamnkfpjaaGreatDoor
open Go.RowKit Go.Lib

set_option maxRecDepth 100000 in
set_option maxHeartbeats 4000000 in
theorem key_app {w0 : World} {op sort : Int} {name n : ByteArray} {ts pat : List Tm} {vs : Bd} {A V P : Option Addr} {ca cv cp : Nat} {f : Nat → Value} (hop : op = 17) (hf : RowCells w0 A 7 ts.length f) (hL : ∀ (j : Nat) (t : Tm), ts[j]? = some t → TmV w0 t (f j)) (hkey : ∀ (j : Nat) (t : Tm), ts[j]? = some t → KeyOK w0 t (f j))
    (hlen : ts.length ≤ 1000000) (hio : ItoaOK w0 op) (his : ItoaOK w0 name.size) : KeyOK w0 (.mk op name sort n ts vs pat) (.agg (Parts.arr ⟨op, name, sort, n, A, ts.length, ca, V, vs.length, cv, P, pat.length, cp⟩)) := by
  intro B b l w hB hb h hl
  have HE : Hid (keyL (.mk op name sort n ts vs pat) = Lib.itoa op ++ [32] ++ putL name ++ [40] ++ keysL ts ++ [41]) := Lib.hid (by simp [keyL, hop])
  have Hl : Hid (l.length + ((Lib.itoa op).length + 1 + (putL name).length + 1 + (keysL ts).length + 1) ≤ 140737488355328) := Lib.hid (by
    rw [HE.out] at hl
    simp only [List.length_append, List.length_singleton] at hl
    omega)
  obtain ⟨P0, hP0⟩ : ∃ P0 : Parts, P0 = ⟨op, name, sort, n, A, ts.length, ca, V, vs.length, cv, P, pat.length, cp⟩ := ⟨_, rfl⟩
  have HW1 : Hid (KInv w B b P0 l ((w.alloc (.cells #[.pointer (some ⟨b, 0, none⟩)] 87)).alloc (.cells P0.arr 26)).drew) := Lib.hid (by
    have hle := isBuilder_le h
    have hA : Below w.heap.size w (((w.alloc (.cells #[.pointer (some ⟨b, 0, none⟩)] 87)).alloc (.cells P0.arr 26)).drew) := (((Below.refl _ _).alloc (Nat.le_refl _) _).alloc (by simp) _).drew
    refine ⟨isBuilder_below h hA, hA.mono (by omega), kept5_below hA, ?_, ?_, hle.2⟩
    · show ((w.alloc (.cells #[.pointer (some ⟨b, 0, none⟩)] 87)).alloc (.cells P0.arr 26)).heap[w.heap.size]? = _
      rw [Below.heap_alloc _ _ _ (by simp)]
      exact heap_alloc_new w _
    · show ((w.alloc (.cells #[.pointer (some ⟨b, 0, none⟩)] 87)).alloc (.cells P0.arr 26)).heap[w.heap.size + 1]? = _
      simpa using heap_alloc_new (w.alloc (.cells #[.pointer (some ⟨b, 0, none⟩)] 87)) (.cells P0.arr 26))
  have HP0 : Hid (P0 = ⟨op, name, sort, n, A, ts.length, ca, V, vs.length, cv, P, pat.length, cp⟩) := Lib.hid hP0
  have HBw : Hid (B ≤ b ∧ b < w.heap.size ∧ w0.heap.size ≤ B ∧ Below w0.heap.size w0 w) := Lib.hid (And.intro (isBuilder_le h).1 (And.intro (isBuilder_le h).2 (And.intro hB hb)))
  have Hf := Lib.hid hf
  have HL := Lib.hid hL
  have Hkey := Lib.hid hkey
  have Hio : Hid (∀ W, Below w0.heap.size w0 W → Calls Tryz.prog 78 #[.int .i64 op] W (TextIs W (itoaB op))) := Lib.hid hio
  have His := Lib.hid his
  have hlen := hlen
  rw [hP0] at HW1
  simp only [Parts.arr] at HW1 ⊢
  obtain ⟨x2, _⟩ := row1 HW1.out.row2
  have x30 : ((w.alloc (.cells #[.pointer (some ⟨b, 0, none⟩)] 87)).alloc (.cells #[.int .i64 op, .string name, .int .i64 sort, .string n, .slice A ts.length ca, .slice V vs.length cv, .slice P pat.length cp] 26)).cell? ⟨w.heap.size + 1, 0, none⟩ = some (.int .i64 op) := (box_cells (p := ⟨op, name, sort, n, A, ts.length, ca, V, vs.length, cv, P, pat.length, cp⟩) HW1.out.row3).1
  have x20 : ((w.alloc (.cells #[.pointer (some ⟨b, 0, none⟩)] 87)).alloc (.cells #[.int .i64 op, .string name, .int .i64 sort, .string n, .slice A ts.length ca, .slice V vs.length cv, .slice P pat.length cp] 26)).cell? ⟨w.heap.size, 0, none⟩ = some (.pointer (some ⟨b, 0, none⟩)) := x2
  clear hf hL hkey hio his h hB hb hl hP0 x2 HP0
  clear P0
  subst hop
  go_enter Tryz.func56, Tryz.ntmps56
  go_wp2_with fail
  go_region_held3 (fun w' => w'.cell? ⟨w.heap.size, 0, none⟩ = some (.pointer (some ⟨b, 0, none⟩)) ∧ w'.cell? ⟨w.heap.size + 1, 0, none⟩ = some (.int .i64 17))
    (first
      | exact ⟨x20, x30⟩
      | (with_reducible exact ⟨y20, y30⟩)
      | (with_reducible exact ⟨z20, z30⟩))
    (first
      | (go_at_call 78; (with_reducible refine (Hio.out _ (HBw.out.2.2.2.trans (HW1.out.below.mono HBw.out.2.2.1))).mono ?_); rintro e w5 ⟨rfl, hb5⟩
         have HK5 := Lib.hid (HW1.out.low hb5)
         obtain ⟨y20, _⟩ := row1 HK5.out.row2
         obtain ⟨y30, _⟩ := box_cells HK5.out.row3
         dsimp only at y30
         clear hb5)
      | (go_at_call 65; (with_reducible refine (kstr HK5.out 17 (by have := Hl.out; omega)).mono ?_); rintro e w6 ⟨rfl, hk6⟩
         have HK6 := Lib.hid hk6
         obtain ⟨z20, _⟩ := row1 HK6.out.row2
         obtain ⟨z30, z31, z32, z33, z34, z35, z36⟩ := box_cells HK6.out.row3
         dsimp only at z30 z31 z32 z33 z34 z35 z36
         clear hk6))
  all_goals
    go_wp2_with (first
      | (go_at_call 79; (with_reducible refine (kbyte HK6.out 32 32 rfl (by rw [List.length_append]; have := Hl.out; omega)).mono ?_); rintro e w7 ⟨rfl, hk7⟩; have HK7 := Lib.hid hk7; obtain ⟨a20, _⟩ := row1 HK7.out.row2; obtain ⟨a30, a31, a32, a33, a34, a35, a36⟩ := box_cells HK7.out.row3; dsimp only at a30 a31 a32 a33 a34 a35 a36; clear hk7)
      | (go_at_call 77; have hit7 : ItoaOK w7 name.size := (fun W hW => His.out W (HBw.out.2.2.2.trans ((HK7.out.below.mono HBw.out.2.2.1).trans (hW.mono (by have := HBw.out; have := HK7.out.below.size; omega))))); (with_reducible refine (kput HK7.out name hit7 (by simp only [List.length_append, List.length_singleton]; have := Hl.out; omega)).mono ?_); clear hit7; rintro e w8 ⟨rfl, hk8⟩; have HKM := Lib.hid hk8; obtain ⟨b20, _⟩ := row1 HKM.out.row2; obtain ⟨b30, b31, b32, b33, b34, b35, b36⟩ := box_cells HKM.out.row3; dsimp only at b30 b31 b32 b33 b34 b35 b36; clear hk8)
      | (go_at_call 79; (with_reducible refine (kbyte HKM.out 40 40 rfl (by have h := Hl.out; simp only [List.length_append, List.length_singleton, List.length_nil] at h ⊢; omega)).mono ?_); rintro e w9 ⟨rfl, hk9⟩; have HK9 := Lib.hid hk9; obtain ⟨c20, _⟩ := row1 HK9.out.row2; obtain ⟨c30, c31, c32, c33, c34, c35, c36⟩ := box_cells HK9.out.row3; dsimp only at c30 c31 c32 c33 c34 c35 c36; clear hk9))
    have HKL := Lib.hid HK9.out
    clear HK5 HK6 HK7
    go_loopw [83] (fun i wr => ∃ k : Nat, k ≤ ts.length ∧ i = .int .i64 k ∧ Hid (KInv w B b ⟨17, name, sort, n, A, ts.length, ca, V, vs.length, cv, P, pat.length, cp⟩ (l ++ Lib.itoa 17 ++ [32] ++ putL name ++ [40] ++ keysL (ts.take k)) wr)) (fun i _ => ts.length - (Go.RowKit.intOf i).toNat)
    case atStart => exact ⟨0, Nat.zero_le _, rfl, Lib.hid (by simpa [keysL] using HK9.out)⟩
    case round =>
      obtain ⟨k, hk, rfl, HKr⟩ := hrel
      have hwr0 : Below w0.heap.size w0 wr := HBw.out.2.2.2.trans (HKr.out.below.mono HBw.out.2.2.1)
      by_cases hlt : k < ts.length
      · have Ht : Hid (ts[k]? = some ts[k]) := Lib.hid (List.getElem?_eq_getElem hlt)
        have Hv := Lib.hid (HL.out k _ Ht.out)
        obtain ⟨p, hp⟩ := Hv.out.parts
        obtain ⟨bb, o, rfl, h0, h1, h2, h3, h4, h5, h6⟩ := (Hf.out.below hwr0).get hlt hp
        have HKx : Hid (KInv w B b ⟨17, name, sort, n, some ⟨bb, o, none⟩, ts.length, ca, V, vs.length, cv, P, pat.length, cp⟩ (l ++ Lib.itoa 17 ++ [32] ++ putL name ++ [40] ++ keysL (ts.take k)) (boxT wr p)) := Lib.hid (HKr.out.low (below_boxT wr p))
        have Hst := Lib.hid (keysL_take hlt)
        have Hlk : Hid ((keysL (ts.take k)).length + (keyL ts[k]).length ≤ (keysL ts).length) := Lib.hid (by have := keysL_le ts (k + 1); rw [Hst.out, List.length_append] at this; exact this)
        have Hc : Hid (Calls Tryz.prog 56 #[.pointer (some ⟨b, 0, none⟩), .agg #[.int .i64 p.op, .string p.name, .int .i64 p.sort, .string p.n, .slice p.A p.la p.ca, .slice p.V p.lv p.cv, .slice p.P p.lp p.cp]] (wr.alloc (.cells #[.int .i64 p.op, .string p.name, .int .i64 p.sort, .string p.n, .slice p.A p.la p.ca, .slice p.V p.lv p.cv, .slice p.P p.lp p.cp] 26)) (Wrote B b (l ++ Lib.itoa 17 ++ [32] ++ putL name ++ [40] ++ keysL (ts.take k) ++ keyL ts[k]) (boxT wr p))) := Lib.hid (by
          have := Hkey.out k _ Ht.out B b (l ++ Lib.itoa 17 ++ [32] ++ putL name ++ [40] ++ keysL (ts.take k)) (boxT wr p) HBw.out.2.2.1 (hwr0.trans ((below_boxT wr p).mono hwr0.size)) HKx.out.ib (by have h := Hl.out; have := Hlk.out; simp only [List.length_append, List.length_singleton, List.length_nil] at h ⊢; omega)
          rw [hp] at this
          exact this)
        obtain ⟨d20, _⟩ := row1 HKr.out.row2
        have q1 : w.heap.size < wr.heap.size := (Array.getElem?_eq_some_iff.1 HKr.out.row2).1
        clear hp hwr0
        generalize ts[k] = t at *
        go_wp2_with (go_at_call 56; refine Calls.mono Hc.out ?_; rintro e wn ⟨rfl, hin, hbn, hkn⟩; have HKn := Lib.hid (HKx.out.wrote hin hbn hkn); clear hin hbn hkn)
        go_roundw
        case rel => exact ⟨k + 1, by omega, by go_num, Lib.hid (by rw [Hst.out, ← List.append_assoc]; exact HKn.out)⟩
        case measure => simp [Go.RowKit.intOf]; omega
      · have hkl : k = ts.length := by omega
        subst hkl
        obtain ⟨d20, _⟩ := row1 HKr.out.row2
        have Hfin : Hid (KInv w B b ⟨17, name, sort, n, A, ts.length, ca, V, vs.length, cv, P, pat.length, cp⟩ (l ++ Lib.itoa 17 ++ [32] ++ putL name ++ [40] ++ keysL ts) wr) := Lib.hid (by have := HKr.out; rwa [List.take_length] at this)
        clear hwr0
        go_wp2_with (go_at_call 79; refine (kbyte Hfin.out 41 41 rfl (by have h := Hl.out; simp only [List.length_append, List.length_singleton, List.length_nil] at h ⊢; omega)).mono ?_; rintro e wz ⟨rfl, hkz⟩; have HKz := Lib.hid hkz; clear hkz)
        go_end0
        refine ⟨rfl, ?_, HKz.out.below, HKz.out.kept⟩
        rw [HE.out]
        have := HKz.out.ib
        simpa only [List.append_assoc, List.nil_append, List.append_nil] using this
end Go.Proofs.YtlgbepamnkfpjaaGreatDoor

/- Keys: numbers. -/
set_option linter.unusedVariables false
set_option linter.unusedSimpArgs false
namespace Go.Proofs.YtlgbepamnkfpjaaGreatDoor
open Go.RowKit Go.Lib

set_option maxRecDepth 100000 in
set_option maxHeartbeats 4000000 in
theorem key_num {w0 : World} {op sort : Int} {name n : ByteArray} {ts pat : List Tm} {vs : Bd} {A V P : Option Addr} {ca cv cp : Nat} {f : Nat → Value} (hop : op = 1) (hf : RowCells w0 A 7 ts.length f) (hL : ∀ (j : Nat) (t : Tm), ts[j]? = some t → TmV w0 t (f j)) (hkey : ∀ (j : Nat) (t : Tm), ts[j]? = some t → KeyOK w0 t (f j))
    (hlen : ts.length ≤ 1000000) (hio : ItoaOK w0 op) (his : ItoaOK w0 n.size) : KeyOK w0 (.mk op name sort n ts vs pat) (.agg (Parts.arr ⟨op, name, sort, n, A, ts.length, ca, V, vs.length, cv, P, pat.length, cp⟩)) := by
  intro B b l w hB hb h hl
  have HE : Hid (keyL (.mk op name sort n ts vs pat) = Lib.itoa op ++ [32] ++ putL n ++ [40] ++ keysL ts ++ [41]) := Lib.hid (by simp [keyL, hop])
  have Hl : Hid (l.length + ((Lib.itoa op).length + 1 + (putL n).length + 1 + (keysL ts).length + 1) ≤ 140737488355328) := Lib.hid (by
    rw [HE.out] at hl
    simp only [List.length_append, List.length_singleton] at hl
    omega)
  obtain ⟨P0, hP0⟩ : ∃ P0 : Parts, P0 = ⟨op, name, sort, n, A, ts.length, ca, V, vs.length, cv, P, pat.length, cp⟩ := ⟨_, rfl⟩
  have HW1 : Hid (KInv w B b P0 l ((w.alloc (.cells #[.pointer (some ⟨b, 0, none⟩)] 87)).alloc (.cells P0.arr 26)).drew) := Lib.hid (by
    have hle := isBuilder_le h
    have hA : Below w.heap.size w (((w.alloc (.cells #[.pointer (some ⟨b, 0, none⟩)] 87)).alloc (.cells P0.arr 26)).drew) := (((Below.refl _ _).alloc (Nat.le_refl _) _).alloc (by simp) _).drew
    refine ⟨isBuilder_below h hA, hA.mono (by omega), kept5_below hA, ?_, ?_, hle.2⟩
    · show ((w.alloc (.cells #[.pointer (some ⟨b, 0, none⟩)] 87)).alloc (.cells P0.arr 26)).heap[w.heap.size]? = _
      rw [Below.heap_alloc _ _ _ (by simp)]
      exact heap_alloc_new w _
    · show ((w.alloc (.cells #[.pointer (some ⟨b, 0, none⟩)] 87)).alloc (.cells P0.arr 26)).heap[w.heap.size + 1]? = _
      simpa using heap_alloc_new (w.alloc (.cells #[.pointer (some ⟨b, 0, none⟩)] 87)) (.cells P0.arr 26))
  have HP0 : Hid (P0 = ⟨op, name, sort, n, A, ts.length, ca, V, vs.length, cv, P, pat.length, cp⟩) := Lib.hid hP0
  have HBw : Hid (B ≤ b ∧ b < w.heap.size ∧ w0.heap.size ≤ B ∧ Below w0.heap.size w0 w) := Lib.hid (And.intro (isBuilder_le h).1 (And.intro (isBuilder_le h).2 (And.intro hB hb)))
  have Hf := Lib.hid hf
  have HL := Lib.hid hL
  have Hkey := Lib.hid hkey
  have Hio : Hid (∀ W, Below w0.heap.size w0 W → Calls Tryz.prog 78 #[.int .i64 op] W (TextIs W (itoaB op))) := Lib.hid hio
  have His := Lib.hid his
  have hlen := hlen
  rw [hP0] at HW1
  simp only [Parts.arr] at HW1 ⊢
  obtain ⟨x2, _⟩ := row1 HW1.out.row2
  have x30 : ((w.alloc (.cells #[.pointer (some ⟨b, 0, none⟩)] 87)).alloc (.cells #[.int .i64 op, .string name, .int .i64 sort, .string n, .slice A ts.length ca, .slice V vs.length cv, .slice P pat.length cp] 26)).cell? ⟨w.heap.size + 1, 0, none⟩ = some (.int .i64 op) := (box_cells (p := ⟨op, name, sort, n, A, ts.length, ca, V, vs.length, cv, P, pat.length, cp⟩) HW1.out.row3).1
  have x20 : ((w.alloc (.cells #[.pointer (some ⟨b, 0, none⟩)] 87)).alloc (.cells #[.int .i64 op, .string name, .int .i64 sort, .string n, .slice A ts.length ca, .slice V vs.length cv, .slice P pat.length cp] 26)).cell? ⟨w.heap.size, 0, none⟩ = some (.pointer (some ⟨b, 0, none⟩)) := x2
  clear hf hL hkey hio his h hB hb hl hP0 x2 HP0
  clear P0
  subst hop
  go_enter Tryz.func56, Tryz.ntmps56
  go_wp2_with fail
  go_region_held3 (fun w' => w'.cell? ⟨w.heap.size, 0, none⟩ = some (.pointer (some ⟨b, 0, none⟩)) ∧ w'.cell? ⟨w.heap.size + 1, 0, none⟩ = some (.int .i64 1))
    (first
      | exact ⟨x20, x30⟩
      | (with_reducible exact ⟨y20, y30⟩)
      | (with_reducible exact ⟨z20, z30⟩))
    (first
      | (go_at_call 78; (with_reducible refine (Hio.out _ (HBw.out.2.2.2.trans (HW1.out.below.mono HBw.out.2.2.1))).mono ?_); rintro e w5 ⟨rfl, hb5⟩
         have HK5 := Lib.hid (HW1.out.low hb5)
         obtain ⟨y20, _⟩ := row1 HK5.out.row2
         obtain ⟨y30, _⟩ := box_cells HK5.out.row3
         dsimp only at y30
         clear hb5)
      | (go_at_call 65; (with_reducible refine (kstr HK5.out 1 (by have := Hl.out; omega)).mono ?_); rintro e w6 ⟨rfl, hk6⟩
         have HK6 := Lib.hid hk6
         obtain ⟨z20, _⟩ := row1 HK6.out.row2
         obtain ⟨z30, z31, z32, z33, z34, z35, z36⟩ := box_cells HK6.out.row3
         dsimp only at z30 z31 z32 z33 z34 z35 z36
         clear hk6))
  all_goals
    go_wp2_with (first
      | (go_at_call 79; (with_reducible refine (kbyte HK6.out 32 32 rfl (by rw [List.length_append]; have := Hl.out; omega)).mono ?_); rintro e w7 ⟨rfl, hk7⟩; have HK7 := Lib.hid hk7; obtain ⟨a20, _⟩ := row1 HK7.out.row2; obtain ⟨a30, a31, a32, a33, a34, a35, a36⟩ := box_cells HK7.out.row3; dsimp only at a30 a31 a32 a33 a34 a35 a36; clear hk7)
      | (go_at_call 77; have hit7 : ItoaOK w7 n.size := (fun W hW => His.out W (HBw.out.2.2.2.trans ((HK7.out.below.mono HBw.out.2.2.1).trans (hW.mono (by have := HBw.out; have := HK7.out.below.size; omega))))); (with_reducible refine (kput HK7.out n hit7 (by simp only [List.length_append, List.length_singleton]; have := Hl.out; omega)).mono ?_); clear hit7; rintro e w8 ⟨rfl, hk8⟩; have HKM := Lib.hid hk8; obtain ⟨b20, _⟩ := row1 HKM.out.row2; obtain ⟨b30, b31, b32, b33, b34, b35, b36⟩ := box_cells HKM.out.row3; dsimp only at b30 b31 b32 b33 b34 b35 b36; clear hk8)
      | (go_at_call 79; (with_reducible refine (kbyte HKM.out 40 40 rfl (by have h := Hl.out; simp only [List.length_append, List.length_singleton, List.length_nil] at h ⊢; omega)).mono ?_); rintro e w9 ⟨rfl, hk9⟩; have HK9 := Lib.hid hk9; obtain ⟨c20, _⟩ := row1 HK9.out.row2; obtain ⟨c30, c31, c32, c33, c34, c35, c36⟩ := box_cells HK9.out.row3; dsimp only at c30 c31 c32 c33 c34 c35 c36; clear hk9))
    have HKL := Lib.hid HK9.out
    clear HK5 HK6 HK7
    go_loopw [83] (fun i wr => ∃ k : Nat, k ≤ ts.length ∧ i = .int .i64 k ∧ Hid (KInv w B b ⟨1, name, sort, n, A, ts.length, ca, V, vs.length, cv, P, pat.length, cp⟩ (l ++ Lib.itoa 1 ++ [32] ++ putL n ++ [40] ++ keysL (ts.take k)) wr)) (fun i _ => ts.length - (Go.RowKit.intOf i).toNat)
    case atStart => exact ⟨0, Nat.zero_le _, rfl, Lib.hid (by simpa [keysL] using HK9.out)⟩
    case round =>
      obtain ⟨k, hk, rfl, HKr⟩ := hrel
      have hwr0 : Below w0.heap.size w0 wr := HBw.out.2.2.2.trans (HKr.out.below.mono HBw.out.2.2.1)
      by_cases hlt : k < ts.length
      · have Ht : Hid (ts[k]? = some ts[k]) := Lib.hid (List.getElem?_eq_getElem hlt)
        have Hv := Lib.hid (HL.out k _ Ht.out)
        obtain ⟨p, hp⟩ := Hv.out.parts
        obtain ⟨bb, o, rfl, h0, h1, h2, h3, h4, h5, h6⟩ := (Hf.out.below hwr0).get hlt hp
        have HKx : Hid (KInv w B b ⟨1, name, sort, n, some ⟨bb, o, none⟩, ts.length, ca, V, vs.length, cv, P, pat.length, cp⟩ (l ++ Lib.itoa 1 ++ [32] ++ putL n ++ [40] ++ keysL (ts.take k)) (boxT wr p)) := Lib.hid (HKr.out.low (below_boxT wr p))
        have Hst := Lib.hid (keysL_take hlt)
        have Hlk : Hid ((keysL (ts.take k)).length + (keyL ts[k]).length ≤ (keysL ts).length) := Lib.hid (by have := keysL_le ts (k + 1); rw [Hst.out, List.length_append] at this; exact this)
        have Hc : Hid (Calls Tryz.prog 56 #[.pointer (some ⟨b, 0, none⟩), .agg #[.int .i64 p.op, .string p.name, .int .i64 p.sort, .string p.n, .slice p.A p.la p.ca, .slice p.V p.lv p.cv, .slice p.P p.lp p.cp]] (wr.alloc (.cells #[.int .i64 p.op, .string p.name, .int .i64 p.sort, .string p.n, .slice p.A p.la p.ca, .slice p.V p.lv p.cv, .slice p.P p.lp p.cp] 26)) (Wrote B b (l ++ Lib.itoa 1 ++ [32] ++ putL n ++ [40] ++ keysL (ts.take k) ++ keyL ts[k]) (boxT wr p))) := Lib.hid (by
          have := Hkey.out k _ Ht.out B b (l ++ Lib.itoa 1 ++ [32] ++ putL n ++ [40] ++ keysL (ts.take k)) (boxT wr p) HBw.out.2.2.1 (hwr0.trans ((below_boxT wr p).mono hwr0.size)) HKx.out.ib (by have h := Hl.out; have := Hlk.out; simp only [List.length_append, List.length_singleton, List.length_nil] at h ⊢; omega)
          rw [hp] at this
          exact this)
        obtain ⟨d20, _⟩ := row1 HKr.out.row2
        have q1 : w.heap.size < wr.heap.size := (Array.getElem?_eq_some_iff.1 HKr.out.row2).1
        clear hp hwr0
        generalize ts[k] = t at *
        go_wp2_with (go_at_call 56; refine Calls.mono Hc.out ?_; rintro e wn ⟨rfl, hin, hbn, hkn⟩; have HKn := Lib.hid (HKx.out.wrote hin hbn hkn); clear hin hbn hkn)
        go_roundw
        case rel => exact ⟨k + 1, by omega, by go_num, Lib.hid (by rw [Hst.out, ← List.append_assoc]; exact HKn.out)⟩
        case measure => simp [Go.RowKit.intOf]; omega
      · have hkl : k = ts.length := by omega
        subst hkl
        obtain ⟨d20, _⟩ := row1 HKr.out.row2
        have Hfin : Hid (KInv w B b ⟨1, name, sort, n, A, ts.length, ca, V, vs.length, cv, P, pat.length, cp⟩ (l ++ Lib.itoa 1 ++ [32] ++ putL n ++ [40] ++ keysL ts) wr) := Lib.hid (by have := HKr.out; rwa [List.take_length] at this)
        clear hwr0
        go_wp2_with (go_at_call 79; refine (kbyte Hfin.out 41 41 rfl (by have h := Hl.out; simp only [List.length_append, List.length_singleton, List.length_nil] at h ⊢; omega)).mono ?_; rintro e wz ⟨rfl, hkz⟩; have HKz := Lib.hid hkz; clear hkz)
        go_end0
        refine ⟨rfl, ?_, HKz.out.below, HKz.out.kept⟩
        rw [HE.out]
        have := HKz.out.ib
        simpa only [List.append_assoc, List.nil_append, List.append_nil] using this
end Go.Proofs.YtlgbepamnkfpjaaGreatDoor

/- Keys: other operators. -/
set_option linter.unusedVariables false
set_option linter.unusedSimpArgs false
namespace Go.Proofs.YtlgbepamnkfpjaaGreatDoor
open Go.RowKit Go.Lib

set_option maxRecDepth 100000 in
set_option maxHeartbeats 4000000 in
theorem key_oth {w0 : World} {op sort : Int} {name n : ByteArray} {ts pat : List Tm} {vs : Bd} {A V P : Option Addr} {ca cv cp : Nat} {f : Nat → Value} (hop : op ≠ 1 ∧ op ≠ 17 ∧ op ≠ 18 ∧ op ≠ 19) (hf : RowCells w0 A 7 ts.length f) (hL : ∀ (j : Nat) (t : Tm), ts[j]? = some t → TmV w0 t (f j)) (hkey : ∀ (j : Nat) (t : Tm), ts[j]? = some t → KeyOK w0 t (f j))
    (hlen : ts.length ≤ 1000000) (hio : ItoaOK w0 op) (his : True) : KeyOK w0 (.mk op name sort n ts vs pat) (.agg (Parts.arr ⟨op, name, sort, n, A, ts.length, ca, V, vs.length, cv, P, pat.length, cp⟩)) := by
  intro B b l w hB hb h hl
  have HE : Hid (keyL (.mk op name sort n ts vs pat) = Lib.itoa op ++ [32] ++ ([] : List UInt8) ++ [40] ++ keysL ts ++ [41]) := Lib.hid (by simp [keyL, hop.1, hop.2.1])
  have Hl : Hid (l.length + ((Lib.itoa op).length + 1 + (([] : List UInt8)).length + 1 + (keysL ts).length + 1) ≤ 140737488355328) := Lib.hid (by
    rw [HE.out] at hl
    simp only [List.length_append, List.length_singleton] at hl
    omega)
  obtain ⟨P0, hP0⟩ : ∃ P0 : Parts, P0 = ⟨op, name, sort, n, A, ts.length, ca, V, vs.length, cv, P, pat.length, cp⟩ := ⟨_, rfl⟩
  have HW1 : Hid (KInv w B b P0 l ((w.alloc (.cells #[.pointer (some ⟨b, 0, none⟩)] 87)).alloc (.cells P0.arr 26)).drew) := Lib.hid (by
    have hle := isBuilder_le h
    have hA : Below w.heap.size w (((w.alloc (.cells #[.pointer (some ⟨b, 0, none⟩)] 87)).alloc (.cells P0.arr 26)).drew) := (((Below.refl _ _).alloc (Nat.le_refl _) _).alloc (by simp) _).drew
    refine ⟨isBuilder_below h hA, hA.mono (by omega), kept5_below hA, ?_, ?_, hle.2⟩
    · show ((w.alloc (.cells #[.pointer (some ⟨b, 0, none⟩)] 87)).alloc (.cells P0.arr 26)).heap[w.heap.size]? = _
      rw [Below.heap_alloc _ _ _ (by simp)]
      exact heap_alloc_new w _
    · show ((w.alloc (.cells #[.pointer (some ⟨b, 0, none⟩)] 87)).alloc (.cells P0.arr 26)).heap[w.heap.size + 1]? = _
      simpa using heap_alloc_new (w.alloc (.cells #[.pointer (some ⟨b, 0, none⟩)] 87)) (.cells P0.arr 26))
  have HP0 : Hid (P0 = ⟨op, name, sort, n, A, ts.length, ca, V, vs.length, cv, P, pat.length, cp⟩) := Lib.hid hP0
  have HBw : Hid (B ≤ b ∧ b < w.heap.size ∧ w0.heap.size ≤ B ∧ Below w0.heap.size w0 w) := Lib.hid (And.intro (isBuilder_le h).1 (And.intro (isBuilder_le h).2 (And.intro hB hb)))
  have Hf := Lib.hid hf
  have HL := Lib.hid hL
  have Hkey := Lib.hid hkey
  have Hio : Hid (∀ W, Below w0.heap.size w0 W → Calls Tryz.prog 78 #[.int .i64 op] W (TextIs W (itoaB op))) := Lib.hid hio
  have His := Lib.hid his
  have hlen := hlen
  rw [hP0] at HW1
  simp only [Parts.arr] at HW1 ⊢
  obtain ⟨x2, _⟩ := row1 HW1.out.row2
  have x30 : ((w.alloc (.cells #[.pointer (some ⟨b, 0, none⟩)] 87)).alloc (.cells #[.int .i64 op, .string name, .int .i64 sort, .string n, .slice A ts.length ca, .slice V vs.length cv, .slice P pat.length cp] 26)).cell? ⟨w.heap.size + 1, 0, none⟩ = some (.int .i64 op) := (box_cells (p := ⟨op, name, sort, n, A, ts.length, ca, V, vs.length, cv, P, pat.length, cp⟩) HW1.out.row3).1
  have x20 : ((w.alloc (.cells #[.pointer (some ⟨b, 0, none⟩)] 87)).alloc (.cells #[.int .i64 op, .string name, .int .i64 sort, .string n, .slice A ts.length ca, .slice V vs.length cv, .slice P pat.length cp] 26)).cell? ⟨w.heap.size, 0, none⟩ = some (.pointer (some ⟨b, 0, none⟩)) := x2
  clear hf hL hkey hio his h hB hb hl hP0 x2 HP0
  clear P0
  have q1 : (op == 1) = false := by simpa using hop.1
  have q17 : (op == 17) = false := by simpa using hop.2.1
  have q18 : (op == 18) = false := by simpa using hop.2.2.1
  have q19 : (op == 19) = false := by simpa using hop.2.2.2
  clear hop
  go_enter Tryz.func56, Tryz.ntmps56
  go_wp2_with fail
  go_region_held3 (fun w' => w'.cell? ⟨w.heap.size, 0, none⟩ = some (.pointer (some ⟨b, 0, none⟩)) ∧ w'.cell? ⟨w.heap.size + 1, 0, none⟩ = some (.int .i64 op))
    (first
      | exact ⟨x20, x30⟩
      | (with_reducible exact ⟨y20, y30⟩)
      | (with_reducible exact ⟨z20, z30⟩))
    (first
      | (go_at_call 78; (with_reducible refine (Hio.out _ (HBw.out.2.2.2.trans (HW1.out.below.mono HBw.out.2.2.1))).mono ?_); rintro e w5 ⟨rfl, hb5⟩
         have HK5 := Lib.hid (HW1.out.low hb5)
         obtain ⟨y20, _⟩ := row1 HK5.out.row2
         obtain ⟨y30, _⟩ := box_cells HK5.out.row3
         dsimp only at y30
         clear hb5)
      | (go_at_call 65; (with_reducible refine (kstr HK5.out op (by have := Hl.out; omega)).mono ?_); rintro e w6 ⟨rfl, hk6⟩
         have HK6 := Lib.hid hk6
         obtain ⟨z20, _⟩ := row1 HK6.out.row2
         obtain ⟨z30, z31, z32, z33, z34, z35, z36⟩ := box_cells HK6.out.row3
         dsimp only at z30 z31 z32 z33 z34 z35 z36
         clear hk6))
  all_goals
    go_wp2_with (first
      | (go_at_call 79; (with_reducible refine (kbyte HK6.out 32 32 rfl (by rw [List.length_append]; have := Hl.out; omega)).mono ?_); rintro e w7 ⟨rfl, hk7⟩; have HK7 := Lib.hid hk7; obtain ⟨a20, _⟩ := row1 HK7.out.row2; obtain ⟨a30, a31, a32, a33, a34, a35, a36⟩ := box_cells HK7.out.row3; dsimp only at a30 a31 a32 a33 a34 a35 a36; clear hk7)
      | fail
      | (go_at_call 79; (with_reducible refine (kbyte HK7.out 40 40 rfl (by have h := Hl.out; simp only [List.length_append, List.length_singleton, List.length_nil] at h ⊢; omega)).mono ?_); rintro e w9 ⟨rfl, hk9⟩; have HK9 := Lib.hid hk9; obtain ⟨c20, _⟩ := row1 HK9.out.row2; obtain ⟨c30, c31, c32, c33, c34, c35, c36⟩ := box_cells HK9.out.row3; dsimp only at c30 c31 c32 c33 c34 c35 c36; clear hk9))
    have HKL := Lib.hid HK9.out
    clear HK5 HK6 HK7
    go_loopw [83] (fun i wr => ∃ k : Nat, k ≤ ts.length ∧ i = .int .i64 k ∧ Hid (KInv w B b ⟨op, name, sort, n, A, ts.length, ca, V, vs.length, cv, P, pat.length, cp⟩ (l ++ Lib.itoa op ++ [32] ++ ([] : List UInt8) ++ [40] ++ keysL (ts.take k)) wr)) (fun i _ => ts.length - (Go.RowKit.intOf i).toNat)
    case atStart => exact ⟨0, Nat.zero_le _, rfl, Lib.hid (by simpa [keysL] using HK9.out)⟩
    case round =>
      obtain ⟨k, hk, rfl, HKr⟩ := hrel
      have hwr0 : Below w0.heap.size w0 wr := HBw.out.2.2.2.trans (HKr.out.below.mono HBw.out.2.2.1)
      by_cases hlt : k < ts.length
      · have Ht : Hid (ts[k]? = some ts[k]) := Lib.hid (List.getElem?_eq_getElem hlt)
        have Hv := Lib.hid (HL.out k _ Ht.out)
        obtain ⟨p, hp⟩ := Hv.out.parts
        obtain ⟨bb, o, rfl, h0, h1, h2, h3, h4, h5, h6⟩ := (Hf.out.below hwr0).get hlt hp
        have HKx : Hid (KInv w B b ⟨op, name, sort, n, some ⟨bb, o, none⟩, ts.length, ca, V, vs.length, cv, P, pat.length, cp⟩ (l ++ Lib.itoa op ++ [32] ++ ([] : List UInt8) ++ [40] ++ keysL (ts.take k)) (boxT wr p)) := Lib.hid (HKr.out.low (below_boxT wr p))
        have Hst := Lib.hid (keysL_take hlt)
        have Hlk : Hid ((keysL (ts.take k)).length + (keyL ts[k]).length ≤ (keysL ts).length) := Lib.hid (by have := keysL_le ts (k + 1); rw [Hst.out, List.length_append] at this; exact this)
        have Hc : Hid (Calls Tryz.prog 56 #[.pointer (some ⟨b, 0, none⟩), .agg #[.int .i64 p.op, .string p.name, .int .i64 p.sort, .string p.n, .slice p.A p.la p.ca, .slice p.V p.lv p.cv, .slice p.P p.lp p.cp]] (wr.alloc (.cells #[.int .i64 p.op, .string p.name, .int .i64 p.sort, .string p.n, .slice p.A p.la p.ca, .slice p.V p.lv p.cv, .slice p.P p.lp p.cp] 26)) (Wrote B b (l ++ Lib.itoa op ++ [32] ++ ([] : List UInt8) ++ [40] ++ keysL (ts.take k) ++ keyL ts[k]) (boxT wr p))) := Lib.hid (by
          have := Hkey.out k _ Ht.out B b (l ++ Lib.itoa op ++ [32] ++ ([] : List UInt8) ++ [40] ++ keysL (ts.take k)) (boxT wr p) HBw.out.2.2.1 (hwr0.trans ((below_boxT wr p).mono hwr0.size)) HKx.out.ib (by have h := Hl.out; have := Hlk.out; simp only [List.length_append, List.length_singleton, List.length_nil] at h ⊢; omega)
          rw [hp] at this
          exact this)
        obtain ⟨d20, _⟩ := row1 HKr.out.row2
        have q1 : w.heap.size < wr.heap.size := (Array.getElem?_eq_some_iff.1 HKr.out.row2).1
        clear hp hwr0
        generalize ts[k] = t at *
        go_wp2_with (go_at_call 56; refine Calls.mono Hc.out ?_; rintro e wn ⟨rfl, hin, hbn, hkn⟩; have HKn := Lib.hid (HKx.out.wrote hin hbn hkn); clear hin hbn hkn)
        go_roundw
        case rel => exact ⟨k + 1, by omega, by go_num, Lib.hid (by rw [Hst.out, ← List.append_assoc]; exact HKn.out)⟩
        case measure => simp [Go.RowKit.intOf]; omega
      · have hkl : k = ts.length := by omega
        subst hkl
        obtain ⟨d20, _⟩ := row1 HKr.out.row2
        have Hfin : Hid (KInv w B b ⟨op, name, sort, n, A, ts.length, ca, V, vs.length, cv, P, pat.length, cp⟩ (l ++ Lib.itoa op ++ [32] ++ ([] : List UInt8) ++ [40] ++ keysL ts) wr) := Lib.hid (by have := HKr.out; rwa [List.take_length] at this)
        clear hwr0
        go_wp2_with (go_at_call 79; refine (kbyte Hfin.out 41 41 rfl (by have h := Hl.out; simp only [List.length_append, List.length_singleton, List.length_nil] at h ⊢; omega)).mono ?_; rintro e wz ⟨rfl, hkz⟩; have HKz := Lib.hid hkz; clear hkz)
        go_end0
        refine ⟨rfl, ?_, HKz.out.below, HKz.out.kept⟩
        rw [HE.out]
        have := HKz.out.ib
        simpa only [List.append_assoc, List.nil_append, List.append_nil] using this
end Go.Proofs.YtlgbepamnkfpjaaGreatDoor

/- Key. -/
set_option linter.unusedVariables false
set_option linter.unusedSimpArgs false
namespace Go.Proofs.YtlgbepamnkfpjaaGreatDoor
open Go.RowKit Go.Lib

set_option maxHeartbeats 1000000 in
theorem key_any {w0 : World} {t : Tm} {v : Value} (h : TmV w0 t v) {q : Int → Bool} (hit : ∀ n, q n = true → ItoaOK w0 n) : tground t = true → keyN q t = true → tw t ≤ 1000000 → KeyOK w0 t v := by
  induction h with
  | @mk op name sort n ts vs pat A V P ca cv cp f g hbd hl hf hL hv hV hp hg hP ihL _ =>
    intro hgr hq htw
    simp only [tground, Bool.and_eq_true, Bool.not_eq_true', beq_eq_false_iff_ne, ne_eq] at hgr
    simp only [keyN, Bool.and_eq_true] at hq
    simp only [tw] at htw
    have l1 := length_tws ts
    have hk : ∀ (j : Nat) (t : Tm), ts[j]? = some t → KeyOK w0 t (f j) := fun j t ht => ihL j t ht (tgrounds_mem ht hgr.2) (keysN_mem ht hq.2) (by have := tws_mem ht; omega)
    by_cases h1 : op = 1
    · exact key_num h1 hf hL hk (by omega) (hit _ hq.1.1) (hit _ (by have := hq.1.2; rwa [if_pos h1] at this))
    · by_cases h17 : op = 17
      · exact key_app h17 hf hL hk (by omega) (hit _ hq.1.1) (hit _ (by have := hq.1.2; rwa [if_neg h1, if_pos h17] at this))
      · exact key_oth ⟨h1, h17, hgr.1.1, hgr.1.2⟩ hf hL hk (by omega) (hit _ hq.1.1) trivial
def keyB (t : Tm) : ByteArray := ⟨(keyL t).toArray⟩
set_option maxRecDepth 100000 in
set_option maxHeartbeats 1000000 in
theorem Key_any {w0 : World} {t : Tm} {v : Value} (h : TmV w0 t v) (hk : KeyOK w0 t v) (hl : (keyL t).length ≤ 140737488355328) (w : World) (hb : Below w0.heap.size w0 w) : Calls Tryz.prog 28 #[v] w (TextIs w (keyB t)) := by
  obtain ⟨p, rfl⟩ := h.parts
  have HB1 : Hid (Below w.heap.size w (boxT w p)) := Lib.hid (below_boxT w p)
  have hfr := Lib.fresh_isBuilder 90 5 (boxT w p)
  have hA : Below (boxT w p).heap.size (boxT w p) ((boxT w p).alloc (.cells #[.pointer none, .slice none 0 0] 90)) := (Below.refl _ _).alloc (Nat.le_refl _) _
  have Hc : Hid (Calls Tryz.prog 56 #[.pointer (some ⟨(boxT w p).heap.size, 0, none⟩), .agg p.arr] ((boxT w p).alloc (.cells #[.pointer none, .slice none 0 0] 90)) (Wrote (boxT w p).heap.size (boxT w p).heap.size (keyL t) ((boxT w p).alloc (.cells #[.pointer none, .slice none 0 0] 90)))) := Lib.hid (by
    have := hk (boxT w p).heap.size (boxT w p).heap.size [] ((boxT w p).alloc (.cells #[.pointer none, .slice none 0 0] 90)) (by have := hb.size; rw [boxT_size]; omega) (hb.trans ((HB1.out.trans (hA.mono HB1.out.size)).mono hb.size)) hfr (by simpa using hl)
    simpa using this)
  have HB2 : Hid (Below w.heap.size w ((boxT w p).alloc (.cells #[.pointer none, .slice none 0 0] 90))) := Lib.hid (HB1.out.trans (hA.mono HB1.out.size))
  rw [boxT_size] at Hc
  have Hs : Hid ((boxT w p).heap.size = w.heap.size + 1) := Lib.hid (boxT_size w p)
  clear hfr hA h hk hl hb HB1
  unfold boxT at Hc HB2
  simp only [Parts.arr] at Hc ⊢
  go_enter Tryz.func28, Tryz.ntmps28
  go_wp2_with (first
    | (go_at_call 56; (with_reducible refine Calls.mono Hc.out ?_); rintro e w5 ⟨rfl, hi5, hb5, _⟩; have HI5 := Lib.hid hi5; have Hb5 : Hid (Below w.heap.size w w5) := Lib.hid (HB2.out.trans (hb5.mono (by omega))); clear hi5 hb5)
    | (go_at_call 57; refine (Tryz.Builder_String_any _ _ (keyL t) _ HI5.out (by have := isBuilder_le HI5.out; omega)).mono ?_; rintro e w6 ⟨rfl, hb6⟩; have Hb6 : Hid (Below w.heap.size w w6) := Lib.hid (Hb5.out.trans (hb6.mono (by omega))); clear hb6))
  go_ret
  exact ⟨rfl, Hb6.out⟩
theorem itoa_small {n : Int} (h : 0 ≤ n ∧ n < 100) (w0 : World) : ItoaOK w0 n := fun W _ => by
  obtain ⟨k, rfl⟩ := Int.eq_ofNat_of_zero_le h.1
  refine (Tryz.strconv_Itoa_small k (by omega) W).mono ?_
  rintro e w' ⟨rfl, rfl⟩
  refine ⟨?_, Below.refl _ _⟩
  have : Lib.itoa (k : Int) = Lib.decDigits k := by simp [Lib.itoa]
  unfold itoaB
  rw [this]
end Go.Proofs.YtlgbepamnkfpjaaGreatDoor
