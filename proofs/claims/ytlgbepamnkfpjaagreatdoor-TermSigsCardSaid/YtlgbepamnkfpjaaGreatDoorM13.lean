/- What a term comes to, made ground: plainly; its size. -/
import Derived.Test.YtlgbepamnkfpjaaGreatDoorM12
import Derived.Deep.RegionHeld3
set_option linter.unusedSimpArgs false
set_option linter.unusedVariables false
set_option linter.unusedVariables false
set_option linter.unusedSimpArgs false
namespace Go.Proofs.YtlgbepamnkfpjaaGreatDoor
open Go.RowKit Go.Lib

mutual
def tput (vars : Bd) (l : List Tm) : Tm → Tm
  | .mk op name s n ts vs ps => match (if op = 18 then instOf vars l name else none) with
    | some y => y
    | none => .mk op name s n (tputs vars l ts) vs (tputs vars l ps)
def tputs (vars : Bd) (l : List Tm) : List Tm → List Tm
  | [] => []
  | t :: ts => tput vars l t :: tputs vars l ts
end
mutual
def noAll : Tm → Bool
  | .mk op _ _ _ l _ pat => !(op == 19) && noAlls l && noAlls pat
def noAlls : List Tm → Bool
  | [] => true
  | t :: ts => noAll t && noAlls ts
end
def OkIn (vars : Bd) (t : Tm) : Prop := noAll t = true ∨ vars = []
theorem noAlls_mem {l : List Tm} {k : Nat} {t : Tm} (h : l[k]? = some t) (hs : noAlls l = true) : noAll t = true := by
  induction l generalizing k with
  | nil => simp at h
  | cons u l ih =>
    simp only [noAlls, Bool.and_eq_true] at hs
    cases k with
    | zero => simp at h; subst h; exact hs.1
    | succ k => exact ih (k := k) (by simpa using h) hs.2
theorem OkIn.sub {vars : Bd} {op s : Int} {name n : ByteArray} {l pat : List Tm} {vs : Bd} (h : OkIn vars (.mk op name s n l vs pat)) : (op ≠ 19 ∨ vars = []) ∧ (∀ (k : Nat) (t : Tm), l[k]? = some t → OkIn vars t) ∧ (∀ (k : Nat) (t : Tm), pat[k]? = some t → OkIn vars t) := by
  rcases h with h | h
  · simp only [noAll, Bool.and_eq_true, Bool.not_eq_true', beq_eq_false_iff_ne, ne_eq] at h
    exact ⟨.inl h.1.1, fun k t ht => .inl (noAlls_mem ht h.1.2), fun k t ht => .inl (noAlls_mem ht h.2)⟩
  · exact ⟨.inr h, fun _ _ _ => .inr h, fun _ _ _ => .inr h⟩
theorem tputs_map (vars : Bd) (l ts : List Tm) : tputs vars l ts = ts.map (tput vars l) := by
  induction ts with
  | nil => rfl
  | cons t ts ih => simp only [tputs, List.map_cons, ih]
theorem tput_var {vars : Bd} {l : List Tm} {op s : Int} {name n : ByteArray} {ts ps : List Tm} {vs : Bd} {y : Tm} (h18 : op = 18) (h : instOf vars l name = some y) : tput vars l (.mk op name s n ts vs ps) = y := by
  simp [tput, h18, h]
theorem tput_not {vars : Bd} {l : List Tm} {op s : Int} {name n : ByteArray} {ts ps : List Tm} {vs : Bd} (h : op = 18 → instOf vars l name = none) : tput vars l (.mk op name s n ts vs ps) = .mk op name s n (tputs vars l ts) vs (tputs vars l ps) := by
  by_cases h18 : op = 18
  · simp [tput, h18, h h18]
  · simp [tput, h18]
def psizes (vars : Bd) (l ts : List Tm) : Nat := tsizes (tputs vars l ts)
theorem psizes_take {vars : Bd} {l ts : List Tm} {k : Nat} (hk : k < ts.length) : psizes vars l (ts.take (k + 1)) = psizes vars l (ts.take k) + tsize (tput vars l ts[k]) := by
  unfold psizes
  rw [tputs_map, tputs_map, List.map_take, List.map_take, tsizes_take (by simpa using hk)]
  simp
theorem psizes_le (vars : Bd) (l ts : List Tm) (k : Nat) : psizes vars l (ts.take k) ≤ psizes vars l ts := by
  unfold psizes
  rw [tputs_map, tputs_map, List.map_take]
  exact tsizes_le _ _
/-- A variable that is replaced: its size. -/
def SizeIs (w : World) (n : Nat) (e : Ending) (w' : World) : Prop := e = .returned (.int .i64 n) ∧ Below w.heap.size w w'
set_option maxRecDepth 100000 in
set_option maxHeartbeats 2000000 in
theorem isize_var {w0 : World} {vars : Bd} {l : List Tm} {ip : IParts} (hi : InsV w0 vars l ip) {p : Parts} {y : Tm} (h18 : p.op = 18) (hy : instOf vars l p.name = some y) (most : Nat) (hm : most ≤ 1000000) (w : World) (hb : Below w0.heap.size w0 w) :
    Calls Tryz.prog 33 #[.agg ip.arr, .agg p.arr, .int .i64 most] w (SizeIs w (min (tsize y) (most + 1))) := by
  have HB : Hid (Below w.heap.size w ((w.alloc (.cells ip.arr 64)).alloc (.cells p.arr 26))) := Lib.hid (((Below.refl _ _).alloc (Nat.le_refl _) _).alloc (by simp) _)
  have Hof : Hid (Calls Tryz.prog 58 #[.agg ip.arr, .string p.name] ((w.alloc (.cells ip.arr 64)).alloc (.cells p.arr 26)) (OfName w0 ((w.alloc (.cells ip.arr 64)).alloc (.cells p.arr 26)) (some y))) := Lib.hid (by
    rw [← hy]
    exact instOf_any hi (hb.trans (HB.out.mono hb.size)) p.name)
  have Hsz : Hid (∀ (pp : Parts) (W : World), TmV w0 y (.agg pp.arr) → Below w0.heap.size w0 W → Calls Tryz.prog 22 #[.agg pp.arr, .int .i64 most] W (SizeIs W (min (tsize y) (most + 1)))) := Lib.hid (fun pp W h hW => size_any h most hm W hW)
  have Hb := Lib.hid hb
  obtain ⟨V, nv, cv, L, nl, cl⟩ := ip
  obtain ⟨op, nm, so, n, A, la, ca, V2, lv, cvv, P, lp, cp⟩ := p
  dsimp only at h18
  subst h18
  clear hi hy hb
  unfold IParts.arr Parts.arr at HB Hof ⊢
  dsimp only at HB Hof ⊢
  go_enter Tryz.func33, Tryz.ntmps33
  go_wp2_with (first
    | (go_at_call 58; refine Calls.mono Hof.out ?_; rintro e w5 ⟨⟨op5, nm5, so5, n5, A5, la5, ca5, V5, lv5, cv5, P5, lp5, cp5⟩, rfl, hb5, ht5⟩; unfold Parts.arr; dsimp only; have Ht5 := Lib.hid (ht5 y rfl); have H5 : Hid (Below w.heap.size w w5) := Lib.hid (HB.out.trans (hb5.mono HB.out.size)); clear hb5 ht5)
    | (go_at_call 22; refine Calls.mono (Hsz.out ⟨op5, nm5, so5, n5, A5, la5, ca5, V5, lv5, cv5, P5, lp5, cp5⟩ _ Ht5.out ((Hb.out.trans (H5.out.mono Hb.out.size)).alloc (by have := Hb.out.size; have := H5.out.size; omega) _)) ?_; rintro e w6 ⟨rfl, hb6⟩; have H6 : Hid (Below w.heap.size w w6) := Lib.hid ((H5.out.alloc H5.out.size _).trans (hb6.mono (by have := H5.out.size; simp; omega))); clear hb6))
  go_ret
  exact ⟨rfl, H6.out⟩
end Go.Proofs.YtlgbepamnkfpjaaGreatDoor
