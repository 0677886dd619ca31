/- Memory that an evaluation leaves alone: all but its own stacks. -/
import Derived.Test.YtbnonccmlildnaaGreatM21
import Derived.OneCell
set_option linter.unusedSimpArgs false
set_option linter.unusedVariables false
namespace Go.Proofs.YtbnonccmlildnaaGreat
open Go.RowKit Go.Lib

/-- All blocks but those of K stand; those of K' are of K, or new. -/
structure Fr (K K' : Nat → Prop) (w w' : World) : Prop where
  os : w'.os = w.os
  tape : w'.tape = w.tape
  output : w'.output = w.output
  size : w.heap.size ≤ w'.heap.size
  block : ∀ k, k < w.heap.size → ¬ K k → w'.heap[k]? = w.heap[k]?
  newer : ∀ k, K' k → K k ∨ w.heap.size ≤ k
theorem Fr.refl (K : Nat → Prop) (w : World) : Fr K K w w := ⟨rfl, rfl, rfl, Nat.le_refl _, fun _ _ _ => rfl, fun _ h => .inl h⟩
theorem Fr.trans {K K' K'' : Nat → Prop} {a b c : World} (h : Fr K K' a b) (h2 : Fr K' K'' b c) : Fr K K'' a c :=
  ⟨h2.os.trans h.os, h2.tape.trans h.tape, h2.output.trans h.output, Nat.le_trans h.size h2.size,
    fun k hk hn => (h2.block k (by have := h.size; omega) (fun hk' => (h.newer k hk').elim hn (fun h3 => by omega))).trans (h.block k hk hn),
    fun k hk => (h2.newer k hk).elim (fun h3 => h.newer k h3) (fun h3 => .inr (by have := h.size; omega))⟩
theorem Fr.of_below {K : Nat → Prop} {w w' : World} (h : Below w.heap.size w w') : Fr K K w w' := ⟨h.os, h.tape, h.output, h.size, fun k hk _ => h.block k hk, fun _ h => .inl h⟩
theorem Fr.then {K K' : Nat → Prop} {a b c : World} (h : Fr K K' a b) (h2 : Below b.heap.size b c) : Fr K K' a c := h.trans (.of_below h2)
theorem Fr.below {K K' : Nat → Prop} {w w' : World} {B : Nat} (h : Fr K K' w w') (hK : ∀ k, K k → B ≤ k) (hB : B ≤ w.heap.size) : Below B w w' :=
  ⟨h.os, h.tape, h.output, h.size, fun k hk => h.block k (by omega) (fun hk' => by have := hK k hk'; omega)⟩

theorem own_below {w w' : World} {base : Nat} {e : TypeId} {size : Nat} {v : Value} {n : Nat} {xs : List Value} (h : w.ownsRow base e size v n xs) {K K' : Nat → Prop} (hf : Fr K K' w w') (hne : ∀ k, v.ownBlock = some k → ¬ K k) : w'.ownsRow base e size v n xs := by
  refine ⟨h.1, ?_⟩
  rcases h.2 with h0 | ⟨g, cap, cur, rfl, hg, hh, r⟩
  · exact .inl h0
  · exact .inr ⟨g, cap, cur, rfl, hg, (hf.block g (Array.getElem?_eq_some_iff.1 hh).1 (hne g rfl)).trans hh, r⟩
theorem own_kept {w w' : World} {base : Nat} {e : TypeId} {size : Nat} {v : Value} {n : Nat} {xs : List Value} (h : w.ownsRow base e size v n xs) (hb : Below w.heap.size w w') : w'.ownsRow base e size v n xs :=
  own_below h (Fr.of_below (K := fun _ => False) hb) (fun _ _ h => h)
/-- An object, as a value. -/
def obV (k : Nat) : Value := .iface 175 (.int .i64 k)
/-- What is looked into: a signature, tables, how many objects; where they lie. -/
structure Mdl where
  sig : List Fn
  tbs : List Tb
  o0 : Int
  objs : Nat
  S : Option Addr
  cs : Nat
  T : Option Addr
  ct : Nat
  w0 : World
/-- The blocks of the stacks. -/
def stK (a : Nat) (nv bv : Value) : Nat → Prop := fun k => k = a ∨ nv.ownBlock = some k ∨ bv.ownBlock = some k
structure St (M : Mdl) (a : Nat) (ns : List ByteArray) (bs : List Nat) (nv bv : Value) (w : World) : Prop where
  below : Below M.w0.heap.size M.w0 w
  lo : M.w0.heap.size ≤ a
  row : w.heap[a]? = some (.cells #[.slice M.S M.sig.length M.cs, .slice M.T M.tbs.length M.ct, .int .i64 M.o0, .int .i64 M.objs, nv, bv] 66 (0, 0))
  names : w.ownsRow M.w0.heap.size 9 1 nv ns.length (ns.map Value.string)
  bound : w.ownsRow M.w0.heap.size 71 1 bv bs.length (bs.map obV)
variable {M : Mdl} {a : Nat} {ns : List ByteArray} {bs : List Nat} {nv bv : Value} {w w' : World}
theorem St.next (h : St M a ns bs nv bv w) (hb : Below w.heap.size w w') : St M a ns bs nv bv w' :=
  ⟨h.below.trans (hb.mono h.below.size), h.lo, (hb.block a (Array.getElem?_eq_some_iff.1 h.row).1).trans h.row, own_kept h.names hb, own_kept h.bound hb⟩
theorem St.lt (h : St M a ns bs nv bv w) {k : Nat} (hk : stK a nv bv k) : M.w0.heap.size ≤ k ∧ k < w.heap.size := by
  rcases hk with rfl | hk | hk
  · exact ⟨h.lo, (Array.getElem?_eq_some_iff.1 h.row).1⟩
  · obtain ⟨h1, h2, _⟩ := own_block h.names hk
    exact ⟨h1, h2⟩
  · obtain ⟨h1, h2, _⟩ := own_block h.bound hk
    exact ⟨h1, h2⟩
/-- A block of another type is none of the stacks'. -/
theorem St.other (h : St M a ns bs nv bv w) {g e : Nat} {cur : Array Value} {fz : Nat × Nat} (hg : w.heap[g]? = some (.cells cur e fz)) (h1 : e ≠ 66) (h2 : e ≠ 9) (h3 : e ≠ 71) : ¬ stK a nv bv g := by
  rintro (rfl | hk | hk)
  · rw [h.row] at hg
    cases hg
    exact h1 rfl
  · obtain ⟨_, _, cur', hh⟩ := own_block h.names hk
    rw [hh] at hg
    cases hg
    exact h2 rfl
  · obtain ⟨_, _, cur', hh⟩ := own_block h.bound hk
    rw [hh] at hg
    cases hg
    exact h3 rfl
theorem St.frame (h : St M a ns bs nv bv w) {K' : Nat → Prop} (hf : Fr (stK a nv bv) K' w w') : Below M.w0.heap.size M.w0 w' :=
  h.below.trans (hf.below (fun k hk => (h.lt hk).1) h.below.size)
theorem DigAt.fr {A : Option Addr} {ds : List Nat} (h : DigAt w A ds) (hs : St M a ns bs nv bv w) {K' : Nat → Prop} (hf : Fr (stK a nv bv) K' w w') : DigAt w' A ds := by
  rcases h with h | ⟨g, hA, ⟨cur, fz, hh⟩, h⟩
  · exact .inl h
  · have hg := (Array.getElem?_eq_some_iff.1 hh).1
    have hb := hf.block g hg (hs.other hh (by decide) (by decide) (by decide))
    exact .inr ⟨g, hA, ⟨cur, fz, hb.trans hh⟩, fun k x hk => (World.cell?_of_block (w := w) (a := ⟨g, k, none⟩) hb).trans (h k x hk)⟩
theorem NumAt.fr {v : Value} {z : Int} (h : NumAt w v z) (hs : St M a ns bs nv bv w) {K' : Nat → Prop} (hf : Fr (stK a nv bv) K' w w') : NumAt w' v z := by
  obtain ⟨A, c, ds, e, hc, hd, h1, h2, h3⟩ := h
  exact ⟨A, c, ds, e, hc, hd.fr hs hf, h1, h2, h3⟩
/-- A value in memory. -/
def ValAt (w : World) (v : Value) : Vl → Prop
  | .num z => ∃ u, v = .iface 93 u ∧ NumAt w u z
  | .tr b => v = .iface 100 (.bool b)
  | .ob k => v = obV k
theorem ValAt.fr {v : Value} {x : Vl} (h : ValAt w v x) (hs : St M a ns bs nv bv w) {K' : Nat → Prop} (hf : Fr (stK a nv bv) K' w w') : ValAt w' v x := by
  cases x with
  | num z => obtain ⟨u, e, h⟩ := h; exact ⟨u, e, h.fr hs hf⟩
  | tr b => exact h
  | ob k => exact h
theorem ValAt.mono {v : Value} {x : Vl} (h : ValAt w v x) (hb : Below w.heap.size w w') : ValAt w' v x := by
  cases x with
  | num z => obtain ⟨u, e, h⟩ := h; exact ⟨u, e, h.mono (Nat.le_refl _) hb⟩
  | tr b => exact h
  | ob k => exact h
/-- The panic of what can't be told. -/
def failP : List PanicEntry := [{ v := .iface 69 (.agg #[.int .i64 40]), recovered := false }]
/-- What is asked and what is told: a value, or that it can't be told. -/
def VOk (M : Mdl) (a : Nat) (ns : List ByteArray) (bs : List Nat) (nv bv : Value) (w : World) (x : Vl) (e : Ending) (w' : World) : Prop :=
  ∃ v nv' bv', e = .returned v ∧ ValAt w' v x ∧ St M a ns bs nv' bv' w' ∧ Fr (stK a nv bv) (stK a nv' bv') w w'
def VErr (M : Mdl) (e : Ending) (w' : World) : Prop := e = .panicked failP ∧ Below M.w0.heap.size M.w0 w'
/-- Names with objects. -/
def envOf (ns : List ByteArray) (bs : List Nat) : Env := ns.zip (bs.map Vl.ob)
theorem envOf_snoc {x : ByteArray} {k : Nat} (h : ns.length = bs.length) : envOf (ns ++ [x]) (bs ++ [k]) = envOf ns bs ++ [(x, .ob k)] := by
  unfold envOf
  rw [List.map_append, List.zip_append (by simpa using h)]
  rfl
theorem envOf_obs (ns : List ByteArray) (bs : List Nat) : obsE (envOf ns bs) := by
  intro x hx
  obtain ⟨k, _, hk⟩ := List.mem_map.1 (List.of_mem_zip hx).2
  exact ⟨k, hk.symm⟩
end Go.Proofs.YtbnonccmlildnaaGreat

/- Tables in memory; the first function, the first table of a name. -/
namespace Go.Proofs.YtbnonccmlildnaaGreat
open Go.RowKit

/-- Strings in a row. -/
def StrsAt (w : World) (A : Option Addr) (xs : List ByteArray) : Prop := xs = [] ∨ ∃ b o, A = some ⟨b, o, none⟩ ∧ ∀ (j : Nat) (x : ByteArray), xs[j]? = some x → w.cell? ⟨b, o + j, none⟩ = some (.string x)
theorem StrsAt.mono {w w' : World} {A : Option Addr} {xs : List ByteArray} (h : StrsAt w A xs) (hb : Below w.heap.size w w') : StrsAt w' A xs := by
  rcases h with h | ⟨b, o, hA, h⟩
  · exact .inl h
  · exact .inr ⟨b, o, hA, fun j x hj => cell_of_below hb (Nat.le_refl _) (h j x hj)⟩
def small (s : ByteArray) : Prop := s.size ≤ 140737488355328
abbrev Rw := List ByteArray × ByteArray
structure RwAt (w : World) (r : Rw) (v : Value) : Prop where
  is : ∃ B c, v = .agg #[.slice B r.1.length c, .string r.2] ∧ StrsAt w B r.1 ∧ r.1.length ≤ c
  out : small r.2
  len : r.1.length ≤ 140737488355328
  args : ∀ x ∈ r.1, small x
def RwsAt (w : World) (A : Option Addr) (rs : List Rw) : Prop := ∃ g : Nat → Value, RowCells w A 2 rs.length g ∧ ∀ (j : Nat) (r : Rw), rs[j]? = some r → RwAt w r (g j)
theorem RwsAt.mono {w w' : World} {A : Option Addr} {rs : List Rw} (h : RwsAt w A rs) (hb : Below w.heap.size w w') : RwsAt w' A rs := by
  obtain ⟨g, h1, h2⟩ := h
  refine ⟨g, h1.below hb, fun j r hj => ?_⟩
  obtain ⟨⟨B, c, e, hi, hc⟩, a, b, d⟩ := h2 j r hj
  exact ⟨⟨B, c, e, hi.mono hb, hc⟩, a, b, d⟩
theorem RwsAt.get {w : World} {A : Option Addr} {rs : List Rw} (h : RwsAt w A rs) {j : Nat} {r : Rw} (hj : rs[j]? = some r) :
    ∃ b o B c, A = some ⟨b, o, none⟩ ∧ w.cell? ⟨b, o + j * 2, none⟩ = some (.slice B r.1.length c) ∧ w.cell? ⟨b, o + j * 2 + 1, none⟩ = some (.string r.2) ∧ StrsAt w B r.1 := by
  obtain ⟨g, h1, h2⟩ := h
  have hl : j < rs.length := (List.getElem?_eq_some_iff.1 hj).1
  obtain ⟨⟨B, c, e, hi, _⟩, _⟩ := h2 j r hj
  rcases h1 with h | ⟨b, o, hA, h⟩
  · omega
  · have h3 := (h j hl).2
    rw [e] at h3
    exact ⟨b, o, B, c, hA, by simpa [Value.cells] using h3 0 (by omega), by simpa [Value.cells] using h3 1 (by omega), hi⟩
structure TbAt (w : World) (t : Tb) (v : Value) : Prop where
  is : ∃ B c, v = .agg #[.string t.name, .slice B t.rows.length c, .string t.els] ∧ RwsAt w B t.rows ∧ t.rows.length ≤ c
  name : small t.name
  els : small t.els
  len : t.rows.length ≤ 140737488355328
def TbsAt (w : World) (A : Option Addr) (tbs : List Tb) : Prop := ∃ g : Nat → Value, RowCells w A 3 tbs.length g ∧ ∀ (j : Nat) (t : Tb), tbs[j]? = some t → TbAt w t (g j)
theorem TbsAt.mono {w w' : World} {A : Option Addr} {tbs : List Tb} (h : TbsAt w A tbs) (hb : Below w.heap.size w w') : TbsAt w' A tbs := by
  obtain ⟨g, h1, h2⟩ := h
  refine ⟨g, h1.below hb, fun j t hj => ?_⟩
  obtain ⟨⟨B, c, e, hi, hc⟩, a, b, d⟩ := h2 j t hj
  exact ⟨⟨B, c, e, hi.mono hb, hc⟩, a, b, d⟩
theorem TbsAt.get {w : World} {A : Option Addr} {tbs : List Tb} (h : TbsAt w A tbs) {j : Nat} {t : Tb} (hj : tbs[j]? = some t) :
    ∃ b o B c, A = some ⟨b, o, none⟩ ∧ w.cell? ⟨b, o + j * 3, none⟩ = some (.string t.name) ∧ w.cell? ⟨b, o + j * 3 + 1, none⟩ = some (.slice B t.rows.length c) ∧ w.cell? ⟨b, o + j * 3 + 2, none⟩ = some (.string t.els) ∧ RwsAt w B t.rows := by
  obtain ⟨g, h1, h2⟩ := h
  have hl : j < tbs.length := (List.getElem?_eq_some_iff.1 hj).1
  obtain ⟨⟨B, c, e, hi, _⟩, _⟩ := h2 j t hj
  rcases h1 with h | ⟨b, o, hA, h⟩
  · omega
  · have h3 := (h j hl).2
    rw [e] at h3
    exact ⟨b, o, B, c, hA, by simpa [Value.cells] using h3 0 (by omega), by simpa [Value.cells] using h3 1 (by omega), by simpa [Value.cells] using h3 2 (by omega), hi⟩
/-- The first table of that name. -/
def firstTb (tbs : List Tb) (x : ByteArray) : Option Nat := tbs.findIdx? fun t => t.name.toList == x.toList
theorem firstTb_none {sig : List Tb} {x : ByteArray} : firstTb sig x = none ↔ ∀ f ∈ sig, (f.name.toList == x.toList) = false := by
  unfold firstTb
  rw [List.findIdx?_eq_none_iff]
theorem firstTb_some {sig : List Tb} {x : ByteArray} {k : Nat} (hk : k < sig.length) (h : (sig[k].name.toList == x.toList) = true) (hno : firstTb (sig.take k) x = none) : firstTb sig x = some k := by
  unfold firstTb
  rw [List.findIdx?_eq_some_iff_getElem]
  refine ⟨hk, h, fun j hj => ?_⟩
  have := firstTb_none.1 hno (sig[j]'(by omega)) (by rw [List.mem_take_iff_getElem]; exact ⟨j, by omega, rfl⟩)
  rw [this]
  simp
theorem firstTb_table {tbs : List Tb} {x : ByteArray} : (firstTb tbs x = none ∧ tableOf tbs x = none) ∨ ∃ k t, firstTb tbs x = some k ∧ tbs[k]? = some t ∧ tableOf tbs x = some t := by
  unfold firstTb tableOf
  induction tbs with
  | nil => exact .inl ⟨rfl, rfl⟩
  | cons t tbs ih =>
    rw [List.findIdx?_cons, List.find?_cons]
    cases h : (t.name.toList == x.toList) with
    | true => exact .inr ⟨0, t, by simp, rfl, rfl⟩
    | false =>
      rcases ih with ⟨h1, h2⟩ | ⟨k, u, h1, h2, h3⟩
      · exact .inl ⟨by simp [h1], by simp [h2]⟩
      · exact .inr ⟨k + 1, u, by simp [h1], by simpa using h2, by simp [h3]⟩
theorem appFn_name (nm x : ByteArray) (B : Option Addr) (n c : Nat) (out : Int) (w : World) (q : Nat) (hq : w.cell? ⟨q, 1, none⟩ = some (.string x)) :
    Calls Tryz.prog 69 #[.agg #[.string nm, .slice B n c, .int .i64 out], .pointer (some ⟨q, 0, none⟩)] w fun e w' => e = .returned (.bool (nm.toList == x.toList)) ∧ Below w.heap.size w w' := by
  have hq2 : (w.alloc (.cells #[.string nm, .slice B n c, .int .i64 out] 50)).cell? ⟨q, 1, none⟩ = some (.string x) := cell_of_below ((Below.refl _ _).alloc (Nat.le_refl _) _) (Nat.le_refl _) hq
  clear hq
  go_enter Tryz.func69, Tryz.ntmps69
  go_wp2_with fail
  go_ret
  exact ⟨rfl, (Below.refl _ _).alloc (Nat.le_refl _) _⟩
set_option maxHeartbeats 1000000 in
theorem appFn_index {w : World} {A : Option Addr} {c : Nat} {sig : List Fn} {x : ByteArray} {q : Nat} (hn : sig.length ≤ 140737488355328) (hf : FnsAt w A sig) (hq : w.cell? ⟨q, 1, none⟩ = some (.string x)) :
    Calls Tryz.prog 68 #[.slice A sig.length c, .func (.func 69) #[] #[.pointer (some ⟨q, 0, none⟩)]] w fun e w' => e = .returned (.int .i64 (idxOf (firstFn sig x))) ∧ Below w.heap.size w w' := by
  have Hf := Lib.hid hf
  have Hq := Lib.hid hq
  clear hf hq
  go_enter Tryz.func68, Tryz.ntmps68
  go_wp2_with fail
  go_loopw [8] (fun i wr => ∃ k : Nat, k ≤ sig.length ∧ i = .int .i64 k ∧ Hid (firstFn (sig.take k) x = none) ∧ Below w.heap.size w wr) (fun i _ => sig.length - (intOf i).toNat)
  case atStart => exact ⟨0, Nat.zero_le _, rfl, Lib.hid rfl, Below.refl _ _⟩
  case round =>
    obtain ⟨k, hk, rfl, Hno, hbr⟩ := hrel
    have Hbr := Lib.hid hbr
    clear hbr
    by_cases hlt : k < sig.length
    · have hx : sig[k]? = some sig[k] := List.getElem?_eq_getElem hlt
      obtain ⟨b, o, B, cB, rfl, h0, h1, h2, _⟩ := (Hf.out.mono Hbr.out).get hx
      have Hs : Hid ((sig[k].name.toList == x.toList) = true → firstFn sig x = some k) := Lib.hid (fun h => firstFn_some hlt h Hno.out)
      have Hs2 : Hid ((sig[k].name.toList == x.toList) = false → firstFn (sig.take (k + 1)) x = none) := Lib.hid (fun h => by
        rw [firstFn_none]
        intro f hf
        rw [List.take_succ_eq_append_getElem hlt, List.mem_append, List.mem_singleton] at hf
        rcases hf with hf | rfl
        · exact firstFn_none.1 Hno.out f hf
        · exact h)
      have Hcall := Lib.hid (appFn_name sig[k].name x B sig[k].args.length cB sig[k].out wr q (cell_of_below Hbr.out (Nat.le_refl _) Hq.out))
      clear hx
      generalize sig[k] = f at *
      cases hqq : (f.name.toList == x.toList) with
      | true =>
        have Hr := Lib.hid (Hs.out hqq)
        rw [hqq] at Hcall
        clear hqq Hs Hs2
        go_wp2_with (go_at_call 69; refine Calls.mono Hcall.out ?_; rintro e w3 ⟨rfl, hb3⟩; have Hb3 := Lib.hid hb3; clear hb3)
        go_ret
        exact ⟨by rw [Hr.out]; rfl, Hbr.out.trans (Hb3.out.mono Hbr.out.size)⟩
      | false =>
        have Hr := Lib.hid (Hs2.out hqq)
        rw [hqq] at Hcall
        clear hqq Hs Hs2
        go_wp2_with (go_at_call 69; refine Calls.mono Hcall.out ?_; rintro e w3 ⟨rfl, hb3⟩; have Hb3 := Lib.hid hb3; clear hb3)
        go_roundw
        case rel => exact ⟨k + 1, by omega, by go_num, Hr, Hbr.out.trans (Hb3.out.mono Hbr.out.size)⟩
        case measure => simp [intOf]; omega
    · have Hr : Hid (firstFn sig x = none) := Lib.hid (by have := Hno.out; rwa [List.take_of_length_le (by omega)] at this)
      go_wp2_with fail
      go_ret
      exact ⟨by rw [Hr.out]; rfl, Hbr.out⟩
theorem appTb_name (nm x : ByteArray) (B : Option Addr) (n c : Nat) (out : ByteArray) (w : World) (q : Nat) (hq : w.cell? ⟨q, 1, none⟩ = some (.string x)) :
    Calls Tryz.prog 71 #[.agg #[.string nm, .slice B n c, .string out], .pointer (some ⟨q, 0, none⟩)] w fun e w' => e = .returned (.bool (nm.toList == x.toList)) ∧ Below w.heap.size w w' := by
  have hq2 : (w.alloc (.cells #[.string nm, .slice B n c, .string out] 47)).cell? ⟨q, 1, none⟩ = some (.string x) := cell_of_below ((Below.refl _ _).alloc (Nat.le_refl _) _) (Nat.le_refl _) hq
  clear hq
  go_enter Tryz.func71, Tryz.ntmps71
  go_wp2_with fail
  go_ret
  exact ⟨rfl, (Below.refl _ _).alloc (Nat.le_refl _) _⟩
set_option maxHeartbeats 1000000 in
theorem appTb_index {w : World} {A : Option Addr} {c : Nat} {sig : List Tb} {x : ByteArray} {q : Nat} (hn : sig.length ≤ 140737488355328) (hf : TbsAt w A sig) (hq : w.cell? ⟨q, 1, none⟩ = some (.string x)) :
    Calls Tryz.prog 70 #[.slice A sig.length c, .func (.func 71) #[] #[.pointer (some ⟨q, 0, none⟩)]] w fun e w' => e = .returned (.int .i64 (idxOf (firstTb sig x))) ∧ Below w.heap.size w w' := by
  have Hf := Lib.hid hf
  have Hq := Lib.hid hq
  clear hf hq
  go_enter Tryz.func70, Tryz.ntmps70
  go_wp2_with fail
  go_loopw [8] (fun i wr => ∃ k : Nat, k ≤ sig.length ∧ i = .int .i64 k ∧ Hid (firstTb (sig.take k) x = none) ∧ Below w.heap.size w wr) (fun i _ => sig.length - (intOf i).toNat)
  case atStart => exact ⟨0, Nat.zero_le _, rfl, Lib.hid rfl, Below.refl _ _⟩
  case round =>
    obtain ⟨k, hk, rfl, Hno, hbr⟩ := hrel
    have Hbr := Lib.hid hbr
    clear hbr
    by_cases hlt : k < sig.length
    · have hx : sig[k]? = some sig[k] := List.getElem?_eq_getElem hlt
      obtain ⟨b, o, B, cB, rfl, h0, h1, h2, _⟩ := (Hf.out.mono Hbr.out).get hx
      have Hs : Hid ((sig[k].name.toList == x.toList) = true → firstTb sig x = some k) := Lib.hid (fun h => firstTb_some hlt h Hno.out)
      have Hs2 : Hid ((sig[k].name.toList == x.toList) = false → firstTb (sig.take (k + 1)) x = none) := Lib.hid (fun h => by
        rw [firstTb_none]
        intro f hf
        rw [List.take_succ_eq_append_getElem hlt, List.mem_append, List.mem_singleton] at hf
        rcases hf with hf | rfl
        · exact firstTb_none.1 Hno.out f hf
        · exact h)
      have Hcall := Lib.hid (appTb_name sig[k].name x B sig[k].rows.length cB sig[k].els wr q (cell_of_below Hbr.out (Nat.le_refl _) Hq.out))
      clear hx
      generalize sig[k] = f at *
      cases hqq : (f.name.toList == x.toList) with
      | true =>
        have Hr := Lib.hid (Hs.out hqq)
        rw [hqq] at Hcall
        clear hqq Hs Hs2
        go_wp2_with (go_at_call 71; refine Calls.mono Hcall.out ?_; rintro e w3 ⟨rfl, hb3⟩; have Hb3 := Lib.hid hb3; clear hb3)
        go_ret
        exact ⟨by rw [Hr.out]; rfl, Hbr.out.trans (Hb3.out.mono Hbr.out.size)⟩
      | false =>
        have Hr := Lib.hid (Hs2.out hqq)
        rw [hqq] at Hcall
        clear hqq Hs Hs2
        go_wp2_with (go_at_call 71; refine Calls.mono Hcall.out ?_; rintro e w3 ⟨rfl, hb3⟩; have Hb3 := Lib.hid hb3; clear hb3)
        go_roundw
        case rel => exact ⟨k + 1, by omega, by go_num, Hr, Hbr.out.trans (Hb3.out.mono Hbr.out.size)⟩
        case measure => simp [intOf]; omega
    · have Hr : Hid (firstTb sig x = none) := Lib.hid (by have := Hno.out; rwa [List.take_of_length_le (by omega)] at this)
      go_wp2_with fail
      go_ret
      exact ⟨by rw [Hr.out]; rfl, Hbr.out⟩
end Go.Proofs.YtbnonccmlildnaaGreat
