/- slices.Backward over bound variables: from the last one to the first. -/
import Derived.RangeFuncNested
import Derived.RangeFuncBound
import Derived.RangeFuncCalls
import Derived.RangeFuncLeaves
import Derived.RangeFuncBox
import Derived.Shelf.Abstract
import Derived.Shelf.RegionOpen
import Derived.OwnWalkIn
import Derived.TacticsInMore
import Derived.LoopNIn
import Derived.LoopIn
import Derived.Test.YtbnonccmlildnaaGreatM6
set_option linter.unusedSimpArgs false
set_option linter.unusedVariables false
namespace Go.Proofs.YtbnonccmlildnaaGreat
open Go.RowKit Go.Shelf

attribute [local go_sem] Oper.semAt_some

/-- The first k of those from the last one on, with their places. -/
def dn (vars : List (ByteArray × Int)) (k : Nat) : List (Nat × ByteArray × Int) := (List.range k).map fun j => (vars.length - 1 - j, vars[vars.length - 1 - j]?.getD (.empty, 0))
theorem dn_succ (vars : List (ByteArray × Int)) {j : Nat} (hj : j < vars.length) : dn vars (vars.length - j) = dn vars (vars.length - (j + 1)) ++ [(j, vars[j])] := by
  have e : vars.length - j = vars.length - (j + 1) + 1 := by omega
  rw [e, dn, dn, List.range_succ, List.map_append]
  have e2 : vars.length - 1 - (vars.length - (j + 1)) = j := by omega
  simp [e2, hj]
theorem dn_length (vars : List (ByteArray × Int)) (k : Nat) : (dn vars k).length = k := by simp [dn]
def encB (x : Nat × ByteArray × Int) : Array Value := #[.int .i64 (x.1 : Int), .agg #[.string x.2.1, .int .i64 x.2.2]]

set_option maxRecDepth 100000 in
set_option maxHeartbeats 2000000 in
theorem backward1_in (F : Fence) (n : Nat) (h7 : F.fn 111) (hro : F.round = none) (hn : 1 ≤ n) (l Bs n₀ c : Nat) (A : Option Addr) (vars : List (ByteArray × Int)) (hlen : vars.length ≤ 140737488355328) (J Jx : List (Nat × ByteArray × Int) → World → Prop)
    (hY : ∀ pre x W, J pre W → pre.length < vars.length → YieldAt F (n - 1) Tryz.prog l #[.int .i64 (x.1 : Int), .agg #[.string x.2.1, .int .i64 x.2.2]] W fun e W' =>
      (e = .returned (.bool true) ∧ J (pre ++ [x]) W' ∧ Below n₀ W W') ∨ (e = .returned (.bool false) ∧ Jx (pre ++ [x]) W'))
    (W : World) (hBs0 : Bs < n₀) (hBs : W.cell? ⟨Bs, 0, none⟩ = some (.slice A vars.length c)) (hn₀ : ∀ b o, A = some ⟨b, o, none⟩ → b < n₀) (hf : RowCells W A 2 vars.length (bval vars)) (h0 : J [] W) :
    CallsIn F n Tryz.prog 111 #[.func (.yield l) #[] #[], .pointer (some ⟨Bs, 0, none⟩)] W fun e W' => (∃ v, e = .returned v) ∧
      ((∃ ys, ys = dn vars vars.length ∧ J ys W') ∨ (∃ pre, (∃ j, j < vars.length ∧ pre = dn vars (vars.length - j)) ∧ Jx pre W')) := by
  refine callsIn_of_wp Tryz.func111 rfl h7 ?_ hro
  simp only [Tryz.ntmps111, List.size_toArray, List.length_cons, List.length_nil, Nat.reduceAdd, Nat.reduceSub, Array.replicate_succ, Array.replicate_zero, List.push_toArray, List.append_toArray, List.nil_append, List.cons_append]
  have Hf := Lib.hid hf
  have Hn := Lib.hid hn₀
  clear hf hn₀
  gi_wp2
  gi_loopw [3] (fun i wr => ∃ m : Nat, m ≤ vars.length ∧ i = .int .i64 ((m : Int) - 1) ∧ J (dn vars (vars.length - m)) wr ∧ Below n₀ W wr)
    (fun i _ => (intOf i + 1).toNat)
  case atStart => exact ⟨vars.length, Nat.le_refl _, rfl, by rw [Nat.sub_self]; exact h0, Below.refl _ _⟩
  case round =>
    obtain ⟨m, hm, rfl, hJs, hnx⟩ := hrel
    have hBs2 : wr.cell? ⟨Bs, 0, none⟩ = some (.slice A vars.length c) := (hnx.cell (p := ⟨Bs, 0, none⟩) hBs0).trans hBs
    cases m with
    | succ j =>
      have e1 : ((j + 1 : Nat) : Int) - 1 = (j : Int) := by omega
      rw [e1]
      clear e1
      obtain ⟨b, o, hA, h1, h2⟩ := Hf.out.bound (List.getElem?_eq_getElem (show j < vars.length by omega))
      have hb := Hn.out b o hA
      subst hA
      have h1' : wr.cell? ⟨b, o + j * 2, none⟩ = some (.string vars[j].1) := (hnx.cell (p := ⟨b, o + j * 2, none⟩) hb).trans h1
      have h2' : wr.cell? ⟨b, o + j * 2 + 1, none⟩ = some (.int .i64 vars[j].2) := (hnx.cell (p := ⟨b, o + j * 2 + 1, none⟩) hb).trans h2
      have Hds := Lib.hid (dn_succ vars (show j < vars.length by omega))
      obtain ⟨fn, tmps, assign, body, hy, hR⟩ := hY _ (j, vars[j]) wr hJs (by rw [dn_length]; omega)
      dsimp only at hy
      have hlt : j < vars.length := by omega
      have Hjx := Lib.hid (show ∃ i, i < vars.length ∧ dn vars (vars.length - j) = dn vars (vars.length - i) from ⟨j, hlt, rfl⟩)
      gi_wp2
      refine hR.mono ?_
      rintro e W3 (⟨rfl, hJ3, hk3⟩ | ⟨rfl, hJx3⟩)
      · rw [← Hds.out] at hJ3
        gi_wp2
        go_roundw
        case rel => exact ⟨j, by omega, rfl, hJ3, hnx.trans hk3⟩
        case measure => simp [intOf]
      · rw [← Hds.out] at hJx3
        gi_wp2
        refine bodyPost_ret (results_none rfl _ _ _) rfl ?_
        exact ⟨⟨_, rfl⟩, .inr ⟨_, Hjx.out, hJx3⟩⟩
    | zero =>
      rw [Nat.sub_zero] at hJs
      have e0 : ((0 : Nat) : Int) - 1 = -1 := rfl
      rw [e0]
      gi_wp2
      go_end0
      exact ⟨⟨_, rfl⟩, .inl ⟨_, rfl, hJs⟩⟩

theorem backward_in (F : Fence) (n : Nat) (h5 : F.fn 96) (hro : F.round = none) (a : Option Addr) (len cap : Nat) (w : World) :
    CallsIn F n Tryz.prog 96 #[.slice a len cap] w fun e w' => e = .returned (.func (.func 111) #[] #[.pointer (some ⟨w.heap.size, 0, none⟩)]) ∧ w' = w.alloc (.cells #[.slice a len cap] 27) := by
  refine callsIn_of_wp Tryz.func96 rfl h5 ?_ hro
  simp only [Tryz.ntmps96, List.size_toArray, List.length_cons, List.length_nil, Nat.reduceAdd, Nat.reduceSub, Array.replicate_succ, Array.replicate_zero, List.push_toArray, List.append_toArray, List.nil_append, List.cons_append]
  gi_wp2
  go_ret
  exact ⟨rfl, rfl⟩
end Go.Proofs.YtbnonccmlildnaaGreat

/- What a variable asks: the innermost one of its name. -/
namespace Go.Proofs.YtbnonccmlildnaaGreat
open Go.RowKit Go.Shelf
attribute [local go_sem] Oper.semAt_some

theorem backward_stops (F : Fence) (n : Nat) (h7 : F.fn 111) (hro : F.round = none) (hn : 1 ≤ n) (Bs n₀ c : Nat) (A : Option Addr) (vars : List (ByteArray × Int)) (hlen : vars.length ≤ 140737488355328) (w : World) (hBs0 : Bs < n₀) (hn0 : n₀ ≤ w.heap.size)
    (hBs : w.cell? ⟨Bs, 0, none⟩ = some (.slice A vars.length c)) (hA : ∀ b o, A = some ⟨b, o, none⟩ → b < n₀) (hf : RowCells w A 2 vars.length (bval vars)) :
    SeqStopsK F n Tryz.prog 111 #[.pointer (some ⟨Bs, 0, none⟩)] (fun x : Nat × ByteArray × Int => #[.int .i64 (x.1 : Int), .agg #[.string x.2.1, .int .i64 x.2.2]]) (Below n₀) (fun ys => ys = dn vars vars.length) (fun pre => ∃ j, j < vars.length ∧ pre = dn vars (vars.length - j)) vars.length w := fun l J Jx W hW _ _ hY h0 =>
  backward1_in F n h7 hro hn l Bs n₀ c A vars hlen J Jx hY W hBs0 ((hW.cell (p := ⟨Bs, 0, none⟩) (show Bs < w.heap.size by omega)).trans hBs) hA (hf.below hW) h0

/-- The checker's own cells. -/
def CheckerAt (w : World) (K : Nat) (S : Option Addr) (ns cs : Nat) (B : Option Addr) (nb cb : Nat) : Prop :=
  w.heap[K]? = some (.cells #[.slice S ns cs, .slice B nb cb] 84 (0, 0))
theorem CheckerAt.cells {w : World} {K : Nat} {S : Option Addr} {ns cs : Nat} {B : Option Addr} {nb cb : Nat} (h : CheckerAt w K S ns cs B nb cb) :
    w.cell? ⟨K, 0, none⟩ = some (.slice S ns cs) ∧ w.cell? ⟨K, 1, none⟩ = some (.slice B nb cb) := by
  unfold CheckerAt at h
  simp [World.cell?, h]
/-- The world where what a term asks is looked up. -/
def ofW (w : World) (p : Parts) : World := (((boxT w p).alloc (.cells #[.nilIface] 117)).alloc (.cells #[.int .i64 0] 32)).alloc (.cells #[.int .i64 2, .int .i64 2] 121)
theorem ofW_below (w : World) (p : Parts) : Below w.heap.size w (ofW w p) :=
  (((below_boxT w p).alloc (by rw [boxT_size]; omega) _).alloc (by simp [boxT]; omega) _).alloc (by simp [boxT]; omega) _
/-- The innermost variable of a name. -/
def lastVar (vars : List (ByteArray × Int)) (x : ByteArray) : Option (ByteArray × Int) := vars.reverse.find? fun v => v.1.toList == x.toList
def varV (vars : List (ByteArray × Int)) (x : ByteArray) (s : Int) : Value × Int := match lastVar vars x with
  | none => (.nilIface, 32)
  | some v => if v.2 = s then (.iface 157 (.agg #[.int .i64 v.2]), 0) else (.nilIface, 31)
theorem dn_all (vars : List (ByteArray × Int)) : (dn vars vars.length).map (·.2) = vars.reverse := by
  apply List.ext_getElem
  · simp [dn]
  · intro i h1 h2
    simp only [List.length_reverse] at h2
    simp [dn, List.getElem_reverse]
    rw [List.getElem?_eq_getElem (by omega)]
    rfl
theorem lastVar_none {vars : List (ByteArray × Int)} {x : ByteArray} (h : ∀ p ∈ dn vars vars.length, (p.2.1.toList == x.toList) = false) : lastVar vars x = none := by
  unfold lastVar
  rw [← dn_all, List.find?_eq_none]
  intro v hv
  obtain ⟨p, hp, rfl⟩ := List.mem_map.1 hv
  rw [h p hp]
  simp
theorem lastVar_some {vars : List (ByteArray × Int)} {x : ByteArray} {j : Nat} (hj : j < vars.length) {ini : List (Nat × ByteArray × Int)} {last : Nat × ByteArray × Int} (he : dn vars (vars.length - j) = ini ++ [last]) (h : ∀ p ∈ ini, (p.2.1.toList == x.toList) = false) (hl : (last.2.1.toList == x.toList) = true) : lastVar vars x = some last.2 := by
  have hp : dn vars vars.length = dn vars (vars.length - j) ++ (dn vars vars.length).drop (vars.length - j) := by
    have : dn vars (vars.length - j) = (dn vars vars.length).take (vars.length - j) := by
      unfold dn
      rw [← List.map_take, List.take_range, Nat.min_eq_left (by omega)]
    rw [this, List.take_append_drop]
  unfold lastVar
  rw [← dn_all, hp, he, List.map_append, List.map_append, List.find?_append, List.find?_append]
  have hn : (ini.map (·.2)).find? (fun v => v.1.toList == x.toList) = none := by
    rw [List.find?_eq_none]
    intro v hv
    obtain ⟨p, hp, rfl⟩ := List.mem_map.1 hv
    rw [h p hp]
    simp
  rw [hn]
  simp [List.find?, hl]

def BoundAt (W : World) (Bx : Nat) (x : Nat × ByteArray × Int) : Prop := W.heap[Bx]? = some (.cells #[.string x.2.1, .int .i64 x.2.2] 53 (0, 0))
theorem BoundAt.cells {W : World} {Bx : Nat} {x : Nat × ByteArray × Int} (h : BoundAt W Bx x) : W.cell? ⟨Bx, 0, none⟩ = some (.string x.2.1) ∧ W.cell? ⟨Bx, 1, none⟩ = some (.int .i64 x.2.2) := by
  unfold BoundAt at h
  simp [World.cell?, h]
theorem row_kept {A B : World} {row : Option Nat} {k : Nat} {c : Array Value} {t : TypeId} (h : A.heap[k]? = some (.cells c t (0, 0))) (hg : A.grownBy B row) (hr : ∀ r, row = some r → ∃ o : Obj, A.heap[r]? = some o ∧ o.isCells = false) : B.heap[k]? = some (.cells c t (0, 0)) := by
  refine (hg.block k (Array.getElem?_eq_some_iff.1 h).1 (fun e => ?_)).trans h
  obtain ⟨o, ho, hc⟩ := hr k e.symm
  rw [h] at ho
  cases ho
  cases hc
def notIn (nm : ByteArray) (pre : List (Nat × ByteArray × Int)) : Prop := ∀ p ∈ pre, (p.2.1.toList == nm.toList) = false
/-- What has been told when a round has left. -/
def Told (w : World) (nm : ByteArray) (ts : Int) (pre : List (Nat × ByteArray × Int)) (W : World) : Prop :=
  ∃ ini last, pre = ini ++ [last] ∧ notIn nm ini ∧ (last.2.1.toList == nm.toList) = true ∧
    ∃ v : Value, ∃ e : Int, v = (if last.2.2 = ts then .iface 157 (.agg #[.int .i64 last.2.2]) else .nilIface) ∧ e = (if last.2.2 = ts then 0 else 31) ∧ Boxed W (w.heap.size + 1) 117 v ∧ Boxed W (w.heap.size + 1 + 1) 32 (.int .i64 e)

theorem told_own (w : World) (nm : ByteArray) (ts : Int) (c : Code) : Own (fun (pre : List (Nat × ByteArray × Int)) W => c = .ret ∧ Told w nm ts pre W) := fun pre A B row hs hg hr => by
  obtain ⟨hc, ini, last, e1, e2, e3, v, e, e4, e5, b1, b2⟩ := hs
  exact ⟨hc, ini, last, e1, e2, e3, v, e, e4, e5, row_kept b1 hg hr, row_kept b2 hg hr⟩

/-- The end, behind the loop. -/
theorem var_ends {F : Fence} {n : Nat} {w W : World} {D : Nat} {B0 : Nat} (hD : B0 ≤ D) (hK : W.heap[D]? = some (.deferred (some []))) {v : Value} {e : Int} (hR : Boxed W (w.heap.size + 1) 117 v) (hE : Boxed W (w.heap.size + 1 + 1) 32 (.int .i64 e)) {r : Value × Int} (hr : r = (v, e)) (hb : Below w.heap.size w W) (h0 : w.heap.size ≤ B0) {a : Act} (hd : a.defers = [{ target := .collected D, args := #[] }]) (h4 : a.eval (.tmp 4) = .pointer (some ⟨w.heap.size + 1, 0, none⟩)) (h5 : a.eval (.tmp 5) = .pointer (some ⟨w.heap.size + 1 + 1, 0, none⟩)) :
    bodyPostM F n Tryz.prog Tryz.f62 (fun e w' => e = .returned (.tuple #[r.1, .int .i64 r.2]) ∧ Below w.heap.size w w') .ret a W := by
  subst hr
  have hg := grownBy_putObj' W D (.deferred none)
  have hn : ∀ r, some D = some r → ∃ o : Obj, W.heap[r]? = some o ∧ o.isCells = false := fun r e => by cases e; exact ⟨_, hK, rfl⟩
  have r1 : Boxed _ _ 117 v := row_kept hR hg hn
  have r2 : Boxed _ _ 32 (.int .i64 e) := row_kept hE hg hn
  show LeavesInM F n Tryz.prog Tryz.f62 a.tmps _ a.defers .returning W
  rw [hd]
  refine ⟨by simp, .inl ⟨_, _, rfl, run_takeDeferred hK, ?_⟩⟩
  refine ⟨.tuple #[v, .int .i64 e], ?_, rfl, hb.trans (belowK_b (w := w) (Nat.le_refl _) W D _ _ (by omega) hK rfl rfl)⟩
  have c1 := r1.cell
  have c2 := r2.cell
  have h4' : a.tmps[4]?.getD undef = .pointer (some ⟨w.heap.size + 1, 0, none⟩) := by rw [← Array.getD_eq_getD_getElem?]; exact h4
  have h5' : a.tmps[5]?.getD undef = .pointer (some ⟨w.heap.size + 1 + 1, 0, none⟩) := by rw [← Array.getD_eq_getD_getElem?]; exact h5
  simp [results, Tryz.f62, go_sem, h4', h5', c1, c2]

set_option maxRecDepth 100000 in
set_option maxHeartbeats 4000000 in
theorem of_var_in (F : Fence) (n : Nat) (h42 : F.fn 62) (h60 : F.fn 96) (h77 : F.fn 111) (hro : F.round = none) (hn : 3 ≤ n) {w : World} {K : Nat} {nm tn : ByteArray} {ts : Int} {A V P S B : Option Addr} {la ca lv cv lp cp ns cs cb : Nat} {vars : List (ByteArray × Int)} (hK : CheckerAt w K S ns cs B vars.length cb) (hlen : vars.length ≤ 140737488355328) (hf : RowCells w B 2 vars.length (bval vars)) (hA : ∀ b o, B = some ⟨b, o, none⟩ → b < w.heap.size) :
    CallsIn F n Tryz.prog 62 #[.pointer (some ⟨K, 0, none⟩), .agg #[.int .i64 18, .string nm, .int .i64 ts, .string tn, .slice A la ca, .slice V lv cv, .slice P lp cp]] w fun e w' => e = .returned (.tuple #[(varV vars nm ts).1, .int .i64 (varV vars nm ts).2]) ∧ Below w.heap.size w w' := by
  have h1 : 1 ≤ n := by omega
  have hsig : ((((w.alloc (.cells #[.int .i64 18, .string nm, .int .i64 ts, .string tn, .slice A la ca, .slice V lv cv, .slice P lp cp] 29)).alloc (.cells #[.nilIface] 117)).alloc (.cells #[.int .i64 0] 32)).alloc (.cells #[.int .i64 2, .int .i64 2] 121)).cell? ⟨K, 1, none⟩ = some (.slice B vars.length cb) :=
    cell_of_below (ofW_below w ⟨18, nm, ts, tn, A, la, ca, V, lv, cv, P, lp, cp⟩) (Nat.le_refl _) hK.cells.2
  have HB0 : Hid (Below w.heap.size w (((((w.alloc (.cells #[.int .i64 18, .string nm, .int .i64 ts, .string tn, .slice A la ca, .slice V lv cv, .slice P lp cp] 29)).alloc (.cells #[.nilIface] 117)).alloc (.cells #[.int .i64 0] 32)).alloc (.cells #[.int .i64 2, .int .i64 2] 121)).alloc (.cells #[.slice B vars.length cb] 27))) := Lib.hid ((ofW_below w ⟨18, nm, ts, tn, A, la, ca, V, lv, cv, P, lp, cp⟩).alloc (by have := (ofW_below w ⟨18, nm, ts, tn, A, la, ca, V, lv, cv, P, lp, cp⟩).size; omega) _)
  refine callsIn_of_wp_marks Tryz.func62 rfl h42 ?_ hro
  simp only [Tryz.ntmps62, List.size_toArray, List.length_cons, List.length_nil, Nat.reduceAdd, Nat.reduceSub, Array.replicate_succ, Array.replicate_zero, List.push_toArray, List.append_toArray, List.nil_append, List.cons_append]
  gi_wp2_with (gi_at_call 96; refine (backward_in F (n - 1) h60 hro _ _ _ _).mono ?_; rintro e w' ⟨rfl, rfl⟩)
  have Hsz : Hid ((((((w.alloc (.cells #[.int .i64 18, .string nm, .int .i64 ts, .string tn, .slice A la ca, .slice V lv cv, .slice P lp cp] 29)).alloc (.cells #[.nilIface] 117)).alloc (.cells #[.int .i64 0] 32)).alloc (.cells #[.int .i64 2, .int .i64 2] 121)).alloc (.cells #[.slice B vars.length cb] 27)).heap.size = w.heap.size + 5) := Lib.hid (by simp)
  have HbT : Hid ((((((w.alloc (.cells #[.int .i64 18, .string nm, .int .i64 ts, .string tn, .slice A la ca, .slice V lv cv, .slice P lp cp] 29)).alloc (.cells #[.nilIface] 117)).alloc (.cells #[.int .i64 0] 32)).alloc (.cells #[.int .i64 2, .int .i64 2] 121)).alloc (.cells #[.slice B vars.length cb] 27)).heap[w.heap.size]? = some (.cells #[.int .i64 18, .string nm, .int .i64 ts, .string tn, .slice A la ca, .slice V lv cv, .slice P lp cp] 29 (0, 0))) := Lib.hid (by
    rw [Below.heap_alloc _ _ _ (by simp; omega), Below.heap_alloc _ _ _ (by simp; omega), Below.heap_alloc _ _ _ (by simp; omega), Below.heap_alloc _ _ _ (by simp)]
    exact heap_alloc_new _ _)
  have HbR : Hid (Boxed (((((w.alloc (.cells #[.int .i64 18, .string nm, .int .i64 ts, .string tn, .slice A la ca, .slice V lv cv, .slice P lp cp] 29)).alloc (.cells #[.nilIface] 117)).alloc (.cells #[.int .i64 0] 32)).alloc (.cells #[.int .i64 2, .int .i64 2] 121)).alloc (.cells #[.slice B vars.length cb] 27)) (w.heap.size + 1) 117 .nilIface) := Lib.hid (((by simpa using Boxed.new (w.alloc (.cells #[.int .i64 18, .string nm, .int .i64 ts, .string tn, .slice A la ca, .slice V lv cv, .slice P lp cp] 29)) 117 .nilIface : Boxed _ (w.heap.size + 1) 117 .nilIface).alloc _).alloc _ |>.alloc _)
  have HbE : Hid (Boxed (((((w.alloc (.cells #[.int .i64 18, .string nm, .int .i64 ts, .string tn, .slice A la ca, .slice V lv cv, .slice P lp cp] 29)).alloc (.cells #[.nilIface] 117)).alloc (.cells #[.int .i64 0] 32)).alloc (.cells #[.int .i64 2, .int .i64 2] 121)).alloc (.cells #[.slice B vars.length cb] 27)) (w.heap.size + 1 + 1) 32 (.int .i64 0)) := Lib.hid ((by simpa using Boxed.new ((w.alloc (.cells #[.int .i64 18, .string nm, .int .i64 ts, .string tn, .slice A la ca, .slice V lv cv, .slice P lp cp] 29)).alloc (.cells #[.nilIface] 117)) 32 (.int .i64 0) : Boxed _ (w.heap.size + 1 + 1) 32 (.int .i64 0)).alloc _ |>.alloc _)
  have HbS : Hid (Boxed (((((w.alloc (.cells #[.int .i64 18, .string nm, .int .i64 ts, .string tn, .slice A la ca, .slice V lv cv, .slice P lp cp] 29)).alloc (.cells #[.nilIface] 117)).alloc (.cells #[.int .i64 0] 32)).alloc (.cells #[.int .i64 2, .int .i64 2] 121)).alloc (.cells #[.slice B vars.length cb] 27)) (w.heap.size + 1 + 1 + 1 + 1) 27 (.slice B vars.length cb)) := Lib.hid (by simpa using Boxed.new ((((w.alloc (.cells #[.int .i64 18, .string nm, .int .i64 ts, .string tn, .slice A la ca, .slice V lv cv, .slice P lp cp] 29)).alloc (.cells #[.nilIface] 117)).alloc (.cells #[.int .i64 0] 32)).alloc (.cells #[.int .i64 2, .int .i64 2] 121)) 27 (.slice B vars.length cb))
  obtain ⟨W0, hW0⟩ : ∃ W0, (((((w.alloc (.cells #[.int .i64 18, .string nm, .int .i64 ts, .string tn, .slice A la ca, .slice V lv cv, .slice P lp cp] 29)).alloc (.cells #[.nilIface] 117)).alloc (.cells #[.int .i64 0] 32)).alloc (.cells #[.int .i64 2, .int .i64 2] 121)).alloc (.cells #[.slice B vars.length cb] 27)) = W0 := ⟨_, rfl⟩
  rw [hW0] at Hsz HbT HbR HbE HbS HB0 ⊢
  have hsz := Hsz.out
  clear hsig Hsz
  have Hf2 := Lib.hid (hf.below HB0.out)
  have HA := Lib.hid hA
  clear hf hA hW0
  have hn5 : n - 1 - 1 + 1 = n - 1 := by omega
  have h2 : 1 ≤ n - 1 := by omega
  refine wpIn_rangeFunc_ownH hro h1 (gf := 111) (lb := #[.pointer (some ⟨w.heap.size + 1 + 1 + 1 + 1, 0, none⟩)]) rfl h77 (enters_of Tryz.func111 (by kernel_rfl) rfl)
    (backward_stops F (n - 1) h77 hro (by omega) (w.heap.size + 1 + 1 + 1 + 1) W0.heap.size cb B vars hlen W0 (by omega) (Nat.le_refl _) HbS.out.cell (fun b o e => by have := HA.out b o e; omega) Hf2.out) belowK_t (belowK_b (Nat.le_refl _)) (Below.refl _ _) (fun _ => rfl)
    (fun pre W => notIn nm pre ∧ Below W0.heap.size W0 W)
    (fun c pre W => (c = .ret ∧ Told w nm ts pre W) ∧ Below w.heap.size w W)
    (OwnFrom.and (ownFrom_pure _ _) (ownFrom_below (Nat.le_refl _) (Nat.le_refl _)))
    (fun c => OwnFrom.and (Own.from (told_own w nm ts c) _) (ownFrom_below (Nat.le_refl _) (by omega)))
    ⟨fun p hp => (by cases hp), Below.refl _ _⟩
    (fun x a' W => ∃ Bx, W0.heap.size ≤ Bx ∧ BoundAt W Bx x ∧ a' = { tmps := #[.pointer (some ⟨K, 0, none⟩), .agg #[.int .i64 18, .string nm, .int .i64 ts, .string tn, .slice A la ca, .slice V lv cv, .slice P lp cp], undef, .pointer (some ⟨w.heap.size, 0, none⟩), .pointer (some ⟨w.heap.size + 1, 0, none⟩), .pointer (some ⟨w.heap.size + 1 + 1, 0, none⟩), .pointer (some ⟨w.heap.size + 1 + 1 + 1, 0, none⟩), undef, .pointer (some ⟨Bx, 0, none⟩), undef, .agg #[.int .i64 2, .int .i64 2], .pointer (some ⟨w.heap.size, 0, none⟩), .int .i64 18, .bool false, .bool false, undef, undef, .bool false, .bool false, .bool false, undef, undef, .bool false, .bool false, undef, undef, .bool false, .bool false, .bool false, undef, undef, .bool false, .bool false, .bool false, .bool false, .bool false, undef, undef, .bool false, .bool false, undef, undef, .bool false, .bool false, undef, undef, undef, .bool true, .bool true, .pointer (some ⟨K, 0, none⟩), .pointer (some ⟨K, 0, none⟩), .pointer (some ⟨K, 1, none⟩), .slice B vars.length cb, .func (.func 111) #[] #[.pointer (some ⟨w.heap.size + 1 + 1 + 1 + 1, 0, none⟩)], .int .i64 (x.1 : Int), .agg #[.string x.2.1, .int .i64 x.2.2], undef, undef, undef, undef, undef, undef, undef, undef, undef, undef, undef, undef, undef, undef, undef, undef, undef, undef, undef, undef, undef, undef, undef, undef, undef, undef, undef, undef, undef, undef, undef, undef, undef, undef, undef, undef, undef, undef, undef, undef, undef, undef, undef, undef, undef, undef, undef, undef], defers := [] })
    (fun x a' => Own.from (fun _ A B row hs hg hr => by
      obtain ⟨Bx, e1, e2, e3⟩ := hs
      exact ⟨Bx, e1, row_kept e2 hg hr, e3⟩) _) ?assign ?body ?done ?stop
  case assign =>
    rintro l pre x W K' ⟨hi, hB⟩ hK'
    obtain ⟨i, s, k⟩ := x
    gi_wp2
    exact hK' _ _ ((KeepsOthers.alloc _ _).from _) ((Below.refl _ W).alloc hB.size _) ⟨hi, hB.alloc hB.size _⟩ ⟨W.heap.size, hB.size, heap_alloc_new _ _, rfl⟩
  case body =>
    rintro l pre x a' W hl ⟨r, hr⟩ ⟨hi, hB⟩ ⟨Bx, hBx, bX, rfl⟩ hlt
    obtain ⟨i, s, k⟩ := x
    obtain ⟨c0, c1⟩ := bX.cells
    have hT := (hB.block w.heap.size (by omega)).trans HbT.out
    have hR : Boxed W (w.heap.size + 1) 117 .nilIface := (hB.block (w.heap.size + 1) (by omega)).trans HbR.out
    have hE : Boxed W (w.heap.size + 1 + 1) 32 (.int .i64 0) := (hB.block (w.heap.size + 1 + 1) (by omega)).trans HbE.out
    have HB := Lib.hid hB
    have Hi := Lib.hid hi
    have hc1 : W.cell? ⟨w.heap.size, 1, none⟩ = some (.string nm) := by simp [World.cell?, hT]
    have hc2 : W.cell? ⟨w.heap.size, 2, none⟩ = some (.int .i64 ts) := by simp [World.cell?, hT]
    have hr0 := hR.cell
    have hr1 := hR.frozen
    have he0 := hE.cell
    have he1 := hE.frozen
    have HR := Lib.hid hR
    have HE := Lib.hid hE
    have HWw : Hid (Below w.heap.size w W) := Lib.hid (HB0.out.trans (hB.mono (by omega)))
    clear hB hi hT hR hE
    dsimp only at c0 c1
    cases hq : (s.toList == nm.toList) with
    | false =>
      have Hq := Lib.hid hq
      gi_wp2
      exact ⟨KeepsFrom.refl _ _, Below.refl _ _, fun p hp => (List.mem_append.1 hp).elim (Hi.out p) (fun e => by simp at e; subst e; exact Hq.out), HB.out⟩
    | true =>
      have Hq := Lib.hid hq
      by_cases hk : k = ts
      · subst hk
        gi_wp2
        exact ⟨((KeepsOthers.setCell _ _ _).trans (KeepsOthers.setCell _ _ _)).from _, ⟨rfl, pre, (i, s, k), rfl, Hi.out, Hq.out, _, _, (if_pos rfl).symm, (if_pos rfl).symm, (HR.out.set _).other (by simp) _, (HE.out.other (by simp) _).set _⟩, (HWw.out.setCell (p := ⟨w.heap.size + 1, 0, none⟩) (Nat.le_succ _) _).setCell (p := ⟨w.heap.size + 1 + 1, 0, none⟩) (Nat.le_succ_of_le (Nat.le_succ _)) _⟩
      · have hk1 : (k != ts) = true := by simpa using hk
        have Hk := Lib.hid hk
        clear hk
        gi_wp2
        exact ⟨((KeepsOthers.setCell _ _ _).trans (KeepsOthers.setCell _ _ _)).from _, ⟨rfl, pre, (i, s, k), rfl, Hi.out, Hq.out, _, _, (if_neg Hk.out).symm, (if_neg Hk.out).symm, (HR.out.set _).other (by simp) _, (HE.out.other (by simp) _).set _⟩, (HWw.out.setCell (p := ⟨w.heap.size + 1, 0, none⟩) (Nat.le_succ _) _).setCell (p := ⟨w.heap.size + 1 + 1, 0, none⟩) (Nat.le_succ_of_le (Nat.le_succ _)) _⟩
  case done =>
    rintro D ys W hD rfl ⟨hi, hB⟩ hK'
    have hR : Boxed W (w.heap.size + 1) 117 .nilIface := (hB.block (w.heap.size + 1) (by omega)).trans HbR.out
    have hE : Boxed W (w.heap.size + 1 + 1) 32 (.int .i64 0) := (hB.block (w.heap.size + 1 + 1) (by omega)).trans HbE.out
    have Hv : Hid (varV vars nm ts = (.nilIface, 32)) := Lib.hid (by unfold varV; rw [lastVar_none hi])
    have HWw : Hid (Below w.heap.size w W) := Lib.hid (HB0.out.trans (hB.mono (by omega)))
    have HK := Lib.hid hK'
    have HD := Lib.hid hD
    have hr0 := hR.cell
    have hr1 := hR.frozen
    have he0 := hE.cell
    have he1 := hE.frozen
    clear hK' hB hi hD
    gi_wp2
    have hK2 := ((KeepsOthers.setCell W ⟨w.heap.size + 1, 0, none⟩ .nilIface).trans (KeepsOthers.setCell _ ⟨w.heap.size + 1 + 1, 0, none⟩ (.int .i64 32))).same D _ HK.out rfl
    have bR := (hR.set .nilIface).other (B' := w.heap.size + 1 + 1) (by simp) (.int .i64 32)
    have bE := (hE.other (B' := w.heap.size + 1) (by simp) .nilIface).set (.int .i64 32)
    exact var_ends HD.out hK2 bR bE Hv.out ((HWw.out.setCell (p := ⟨w.heap.size + 1, 0, none⟩) (Nat.le_succ _) _).setCell (p := ⟨w.heap.size + 1 + 1, 0, none⟩) (Nat.le_succ_of_le (Nat.le_succ _)) _) (by omega) rfl rfl rfl
  case stop =>
    rintro D c pre W hD ⟨j, hj, rfl⟩ ⟨⟨rfl, ini, last, e1, e2, e3, v, e, e4, e5, bR, bE⟩, hB⟩ hK'
    have Hv : Hid (varV vars nm ts = (v, e)) := Lib.hid (by
      unfold varV
      rw [lastVar_some hj e1 e2 e3, e4, e5]
      dsimp only
      split <;> rfl)
    have HK := Lib.hid hK'
    have HD := Lib.hid hD
    have HB := Lib.hid hB
    have HR := Lib.hid bR
    have HE := Lib.hid bE
    clear hK' hD hB e1 e2 e3 e4 e5 bR bE hj
    gi_wp2
    exact var_ends HD.out HK.out HR.out HE.out Hv.out HB.out (by omega) rfl rfl rfl
end Go.Proofs.YtbnonccmlildnaaGreat

/- What every other operator asks. -/
namespace Go.Proofs.YtbnonccmlildnaaGreat
open Go.RowKit

/-- What an operator asks for, whatever is known by name. -/
def opV (op : Int) : Value :=
  if op = 1 then .iface 157 (.agg #[.int .i64 1])
  else if op = 2 ∨ op = 3 then .iface 157 (.agg #[.int .i64 2])
  else if op = 9 then .iface 159 (.agg #[])
  else if op = 10 ∨ op = 11 then .iface 121 (.agg #[.int .i64 1, .int .i64 2])
  else if op = 12 ∨ op = 13 ∨ op = 14 ∨ op = 15 then .iface 121 (.agg #[.int .i64 1, .int .i64 1])
  else if op = 16 then .iface 160 (.agg #[])
  else if op = 19 then .iface 123 (.agg #[.int .i64 2, .int .i64 2])
  else .iface 121 (.agg #[.int .i64 2, .int .i64 2])
set_option maxRecDepth 100000 in
set_option maxHeartbeats 2000000 in
theorem of_plain {w : World} {q : Option Addr} {op ts : Int} {nm tn : ByteArray} {A V P : Option Addr} {la ca lv cv lp cp : Nat} (ho : op ∈ [1, 2, 3, 4, 5, 6, 7, 8, 9, 10, 11, 12, 13, 14, 15, 16, 19]) :
    Calls Tryz.prog 62 #[.pointer q, .agg #[.int .i64 op, .string nm, .int .i64 ts, .string tn, .slice A la ca, .slice V lv cv, .slice P lp cp]] w fun e w' => e = .returned (.tuple #[opV op, .int .i64 0]) ∧ Below w.heap.size w w' := by
  simp only [List.mem_cons, List.not_mem_nil, or_false] at ho
  rcases ho with rfl | rfl | rfl | rfl | rfl | rfl | rfl | rfl | rfl | rfl | rfl | rfl | rfl | rfl | rfl | rfl | rfl
  all_goals
    go_enter Tryz.func62, Tryz.ntmps62
    go_wp2_with fail
    exact bodyPost_ret (by simp [results, Tryz.f62, go_sem]; rfl) rfl ⟨by simp [opV], ((((Below.refl _ _).alloc (Nat.le_refl _) _).alloc (by simp) _).alloc (by simp; omega) _).alloc (by simp; omega) _⟩
end Go.Proofs.YtbnonccmlildnaaGreat

/- What an application asks: its function's. -/
namespace Go.Proofs.YtbnonccmlildnaaGreat
open Go.RowKit

/-- A function that was found: its value, where its arguments' sorts lie. -/
def FunIs (w : World) (f : Fn) (v : Value) : Prop := ∃ B c, v = .iface 165 (.agg #[.string f.name, .slice B f.args.length c, .int .i64 f.out]) ∧ IntsAt w B c f.args
def appE (sig : List Fn) (nm : ByteArray) (n : Nat) : Int := match firstFn sig nm with
  | none => 32
  | some k => match sig[k]? with
    | none => 32
    | some f => if n = f.args.length then 0 else 30
theorem firstFn_lt {sig : List Fn} {nm : ByteArray} {k : Nat} (h : firstFn sig nm = some k) : k < sig.length := by
  unfold firstFn at h
  exact (List.findIdx?_eq_some_iff_getElem.1 h).1
theorem below_keeps {W w3 : World} (h : Below W.heap.size W w3) {k : Nat} {c : Array Value} {t : TypeId} (hc : W.heap[k]? = some (.cells c t (0, 0))) : w3.heap[k]? = some (.cells c t (0, 0)) :=
  (h.block k (Array.getElem?_eq_some_iff.1 hc).1).trans hc
theorem row1 {W : World} {k : Nat} {v : Value} {t : TypeId} (h : W.heap[k]? = some (.cells #[v] t (0, 0))) : W.cell? ⟨k, 0, none⟩ = some v ∧ W.frozen? ⟨k, 0, none⟩ = false := by simp [World.cell?, World.frozen?, h]
theorem row_at {W : World} {k : Nat} {c : Array Value} {t : TypeId} (h : W.heap[k]? = some (.cells c t (0, 0))) (i : Nat) : W.cell? ⟨k, i, none⟩ = c[i]? := by simp [World.cell?, h]

theorem of_ends {w W : World} {v : Value} {e : Int} {R : Ending → World → Prop} (hR : Boxed W (w.heap.size + 1) 117 v) (hE : Boxed W (w.heap.size + 1 + 1) 32 (.int .i64 e)) (hP : R (.returned (.tuple #[v, .int .i64 e])) W) {a : Act} (hd : a.defers = []) (h4 : a.eval (.tmp 4) = .pointer (some ⟨w.heap.size + 1, 0, none⟩)) (h5 : a.eval (.tmp 5) = .pointer (some ⟨w.heap.size + 1 + 1, 0, none⟩)) :
    bodyPost Tryz.prog Tryz.f62 R .ret a W := by
  have c1 := hR.cell
  have c2 := hE.cell
  have h4' : a.tmps[4]?.getD undef = .pointer (some ⟨w.heap.size + 1, 0, none⟩) := by rw [← Array.getD_eq_getD_getElem?]; exact h4
  have h5' : a.tmps[5]?.getD undef = .pointer (some ⟨w.heap.size + 1 + 1, 0, none⟩) := by rw [← Array.getD_eq_getD_getElem?]; exact h5
  exact ⟨hd, _, by simp [results, Tryz.f62, go_sem, h4', h5', c1, c2], hP⟩
/-- Behind two stores into the results' cells. -/
theorem two_sets {w W : World} {v u x y : Value} (hR : Boxed W (w.heap.size + 1) 117 v) (hE : Boxed W (w.heap.size + 1 + 1) 32 u) : Boxed ((W.setCell ⟨w.heap.size + 1, 0, none⟩ x).setCell ⟨w.heap.size + 1 + 1, 0, none⟩ y) (w.heap.size + 1) 117 x ∧ Boxed ((W.setCell ⟨w.heap.size + 1, 0, none⟩ x).setCell ⟨w.heap.size + 1 + 1, 0, none⟩ y) (w.heap.size + 1 + 1) 32 y :=
  ⟨(hR.set _).other (by simp) _, (hE.other (by simp) _).set _⟩
theorem below_two {w W : World} {x y : Value} (h : Below w.heap.size w W) : Below w.heap.size w ((W.setCell ⟨w.heap.size + 1, 0, none⟩ x).setCell ⟨w.heap.size + 1 + 1, 0, none⟩ y) :=
  (h.setCell (p := ⟨w.heap.size + 1, 0, none⟩) (Nat.le_succ _) _).setCell (p := ⟨w.heap.size + 1 + 1, 0, none⟩) (Nat.le_succ_of_le (Nat.le_succ _)) _
theorem Boxed.drewN {W : World} {B : Nat} {t : TypeId} {v : Value} (h : Boxed W B t v) (n : Nat) : Boxed (W.drewN n) B t v := h

set_option maxRecDepth 100000 in
set_option maxHeartbeats 2000000 in
theorem of_app {w0 w : World} {K : Nat} {nm tn : ByteArray} {ts : Int} {A V P S B : Option Addr} {la ca lv cv lp cp cs nb cb : Nat} {sig : List Fn} (hK : CheckerAt w K S sig.length cs B nb cb) (hn : sig.length ≤ 140737488355328) (hw0 : Below w0.heap.size w0 w) (hS : FnsAt w0 S sig) (hla : la ≤ 140737488355328) :
    Calls Tryz.prog 62 #[.pointer (some ⟨K, 0, none⟩), .agg #[.int .i64 17, .string nm, .int .i64 ts, .string tn, .slice A la ca, .slice V lv cv, .slice P lp cp]] w fun e w' => ∃ v, e = .returned (.tuple #[v, .int .i64 (appE sig nm la)]) ∧ (appE sig nm la = 0 → ∃ k f, firstFn sig nm = some k ∧ sig[k]? = some f ∧ la = f.args.length ∧ FunIs w0 f v) ∧ Below w.heap.size w w' := by
  have HofW := Lib.hid (ofW_below w ⟨17, nm, ts, tn, A, la, ca, V, lv, cv, P, lp, cp⟩)
  obtain ⟨W, hW⟩ : ∃ W, W = (((w.alloc (.cells #[.int .i64 17, .string nm, .int .i64 ts, .string tn, .slice A la ca, .slice V lv cv, .slice P lp cp] 29)).alloc (.cells #[.nilIface] 117)).alloc (.cells #[.int .i64 0] 32)).alloc (.cells #[.int .i64 2, .int .i64 2] 121) := ⟨_, rfl⟩
  have HB : Hid (Below w.heap.size w W) := Lib.hid (by rw [hW]; exact HofW.out)
  have HT : Hid (W.heap[w.heap.size]? = some (.cells #[.int .i64 17, .string nm, .int .i64 ts, .string tn, .slice A la ca, .slice V lv cv, .slice P lp cp] 29 (0, 0))) := Lib.hid (by
    rw [hW, Below.heap_alloc _ _ _ (by simp; omega), Below.heap_alloc _ _ _ (by simp; omega), Below.heap_alloc _ _ _ (by simp)]
    exact heap_alloc_new _ _)
  have HR : Hid (W.heap[w.heap.size + 1]? = some (.cells #[.nilIface] 117 (0, 0))) := Lib.hid (by
    rw [hW, Below.heap_alloc _ _ _ (by simp), Below.heap_alloc _ _ _ (by simp)]
    simpa using heap_alloc_new (w.alloc (.cells #[.int .i64 17, .string nm, .int .i64 ts, .string tn, .slice A la ca, .slice V lv cv, .slice P lp cp] 29)) (.cells #[.nilIface] 117))
  have HE : Hid (W.heap[w.heap.size + 1 + 1]? = some (.cells #[.int .i64 0] 32 (0, 0))) := Lib.hid (by
    rw [hW, Below.heap_alloc _ _ _ (by simp)]
    simpa using heap_alloc_new ((w.alloc (.cells #[.int .i64 17, .string nm, .int .i64 ts, .string tn, .slice A la ca, .slice V lv cv, .slice P lp cp] 29)).alloc (.cells #[.nilIface] 117)) (.cells #[.int .i64 0] 32))
  have Hcall := Lib.hid (fnIndex_any (c := cs) (q := w.heap.size) (x := nm) hn (hS.mono (hw0.trans (HB.out.mono hw0.size))) (by rw [row_at HT.out]; rfl))
  have hk0 : ((((w.alloc (.cells #[.int .i64 17, .string nm, .int .i64 ts, .string tn, .slice A la ca, .slice V lv cv, .slice P lp cp] 29)).alloc (.cells #[.nilIface] 117)).alloc (.cells #[.int .i64 0] 32)).alloc (.cells #[.int .i64 2, .int .i64 2] 121)).cell? ⟨K, 0, none⟩ = some (.slice S sig.length cs) := by
    rw [← hW]
    exact cell_of_below HB.out (Nat.le_refl _) hK.cells.1
  have HK := Lib.hid hK
  have HS := Lib.hid hS
  have HW := Lib.hid hW
  clear hK hS hW
  cases hff : firstFn sig nm with
  | none =>
    have Hr : Hid (appE sig nm la = 32) := Lib.hid (by unfold appE; rw [hff])
    rw [hff] at Hcall
    clear hff
    go_enter Tryz.func62, Tryz.ntmps62
    go_wp2_with (go_at_call 68; rw [← HW.out]; refine Calls.mono Hcall.out ?_; rintro e w3 ⟨rfl, hb3⟩; simp only [idxOf]; have Hb3 := Lib.hid hb3; obtain ⟨hr0, hr1⟩ := row1 (below_keeps hb3 HR.out); obtain ⟨he0, he1⟩ := row1 (below_keeps hb3 HE.out); clear hb3)
    obtain ⟨b1, b2⟩ := two_sets (w := w) (x := .nilIface) (y := .int .i64 32) (below_keeps Hb3.out HR.out) (below_keeps Hb3.out HE.out)
    exact of_ends b1 b2 ⟨_, by rw [Hr.out], fun h => (by rw [Hr.out] at h; cases h), below_two (HB.out.trans (Hb3.out.mono HB.out.size))⟩ rfl rfl rfl
  | some k =>
    have hk := firstFn_lt hff
    obtain ⟨b, o, C, cC, rfl, g0, g1, g2, hI⟩ := HS.out.get (List.getElem?_eq_getElem hk)
    rw [hff] at Hcall
    have g0' := cell_of_below (hw0.trans (HB.out.mono hw0.size)) (Nat.le_refl _) g0
    have g1' := cell_of_below (hw0.trans (HB.out.mono hw0.size)) (Nat.le_refl _) g1
    have g2' := cell_of_below (hw0.trans (HB.out.mono hw0.size)) (Nat.le_refl _) g2
    have HI := Lib.hid hI
    have Hff : Hid (firstFn sig nm = some k ∧ sig[k]? = some sig[k]) := Lib.hid ⟨hff, List.getElem?_eq_getElem hk⟩
    clear g0 g1 g2 hI
    have G : Hid (∀ w3, Below W.heap.size W w3 → w3.cell? ⟨b, o + k * 3, none⟩ = some (.string sig[k].name) ∧ w3.cell? ⟨b, o + k * 3 + 1, none⟩ = some (.slice C sig[k].args.length cC) ∧ w3.cell? ⟨b, o + k * 3 + 2, none⟩ = some (.int .i64 sig[k].out) ∧ w3.cell? ⟨w.heap.size, 4, none⟩ = some (.slice A la ca) ∧ w3.cell? ⟨K, 0, none⟩ = some (.slice (some ⟨b, o, none⟩) sig.length cs)) := Lib.hid (fun w3 h =>
      ⟨cell_of_below h (Nat.le_refl _) g0', cell_of_below h (Nat.le_refl _) g1', cell_of_below h (Nat.le_refl _) g2', cell_of_below h (Nat.le_refl _) (by rw [row_at HT.out]; rfl), cell_of_below h (Nat.le_refl _) (cell_of_below HB.out (Nat.le_refl _) HK.out.cells.1)⟩)
    clear g0' g1' g2'
    have Hap : Hid (appE sig nm la = if la = sig[k].args.length then 0 else 30) := Lib.hid (by unfold appE; rw [hff]; simp only [List.getElem?_eq_getElem hk])
    clear hff
    generalize sig[k] = f at *
    obtain ⟨fname, fargs, fout⟩ := f
    dsimp only at G Hap HI
    by_cases hl : la = fargs.length
    · have Hr : Hid (appE sig nm la = 0) := Lib.hid (by rw [Hap.out, if_pos hl])
      have Hl := Lib.hid hl
      subst hl
      have hne : ((fargs.length : Int) != (fargs.length : Int)) = false := by simp
      clear Hap
      have H0 : (0 : Int) ≤ (k : Int) := by omega
      have HD : Hid (∀ w3, Below W.heap.size W w3 → ∀ n, (w3.drewN n).cell? ⟨b, o + k * 3, none⟩ = some (.string fname) ∧ (w3.drewN n).cell? ⟨b, o + k * 3 + 1, none⟩ = some (.slice C fargs.length cC) ∧ (w3.drewN n).cell? ⟨b, o + k * 3 + 2, none⟩ = some (.int .i64 fout) ∧ (w3.drewN n).cell? ⟨K, 0, none⟩ = some (.slice (some ⟨b, o, none⟩) sig.length cs)) := Lib.hid (fun w3 h n =>
        have g := G.out _ (below_drewN h n)
        ⟨g.1, g.2.1, g.2.2.1, g.2.2.2.2⟩)
      go_enter Tryz.func62, Tryz.ntmps62
      go_wp2_with (go_at_call 68; rw [← HW.out]; refine Calls.mono Hcall.out ?_; rintro e w3 ⟨rfl, hb3⟩; simp only [idxOf]; have Hb3 := Lib.hid hb3; obtain ⟨hr0, hr1⟩ := row1 (below_keeps hb3 HR.out); obtain ⟨he0, he1⟩ := row1 (below_keeps hb3 HE.out); obtain ⟨gg0, gg1, gg2, gg3, gg4⟩ := G.out w3 hb3; clear hb3)
      go_quiet (fail)
      obtain ⟨d0, d1, d2, d3⟩ := HD.out w3 Hb3.out nq
      go_wp2_with fail
      obtain ⟨b1, b2⟩ := two_sets (w := w) (x := .iface 165 (.agg #[.string fname, .slice C fargs.length cC, .int .i64 fout])) (y := .int .i64 0) (Boxed.drewN (below_keeps Hb3.out HR.out) nq) (Boxed.drewN (below_keeps Hb3.out HE.out) nq)
      have hbw := below_two (x := .iface 165 (.agg #[.string fname, .slice C fargs.length cC, .int .i64 fout])) (y := .int .i64 0) (below_drewN (HB.out.trans (Hb3.out.mono HB.out.size)) nq)
      exact of_ends b1 b2 ⟨_, by rw [Hr.out], fun _ => ⟨k, _, rfl, Hff.out.2, rfl, C, cC, rfl, HI.out⟩, hbw⟩ rfl rfl rfl
    · have Hr : Hid (appE sig nm la = 30) := Lib.hid (by rw [Hap.out, if_neg hl])
      have hne : ((la : Int) != (fargs.length : Int)) = true := by simpa using (fun h => hl (by omega) : (la : Int) ≠ fargs.length)
      clear hl Hap
      have H0 : (0 : Int) ≤ (k : Int) := by omega
      go_enter Tryz.func62, Tryz.ntmps62
      go_wp2_with (go_at_call 68; rw [← HW.out]; refine Calls.mono Hcall.out ?_; rintro e w3 ⟨rfl, hb3⟩; simp only [idxOf]; have Hb3 := Lib.hid hb3; obtain ⟨hr0, hr1⟩ := row1 (below_keeps hb3 HR.out); obtain ⟨he0, he1⟩ := row1 (below_keeps hb3 HE.out); obtain ⟨gg0, gg1, gg2, gg3, gg4⟩ := G.out w3 hb3; clear hb3)
      go_quiet (fail)
      go_wp2_with fail
      obtain ⟨b1, b2⟩ := two_sets (w := w) (x := .nilIface) (y := .int .i64 30) (Boxed.drewN (below_keeps Hb3.out HR.out) nq) (Boxed.drewN (below_keeps Hb3.out HE.out) nq)
      exact of_ends b1 b2 ⟨_, by rw [Hr.out], fun h => (by rw [Hr.out] at h; cases h), below_two (below_drewN (HB.out.trans (Hb3.out.mono HB.out.size)) nq)⟩ rfl rfl rfl
end Go.Proofs.YtbnonccmlildnaaGreat
