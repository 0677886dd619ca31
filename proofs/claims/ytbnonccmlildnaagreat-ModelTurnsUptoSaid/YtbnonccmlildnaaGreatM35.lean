/- Value's deferred closure: what can't be told is caught. -/
import Derived.Test.YtbnonccmlildnaaGreatM34
import Derived.Defers
import Derived.Recover
set_option linter.unusedSimpArgs false
set_option linter.unusedVariables false
namespace Go.Proofs.YtbnonccmlildnaaGreat
open Go.RowKit

/-- Two results are laid anew; all else stands. -/
structure Caught (ko ke : Nat) (w w' : World) : Prop where
  out : w'.heap[ko]? = some (.cells #[.string .empty] 9 (0, 0))
  err : w'.heap[ke]? = some (.cells #[.int .i64 40] 32 (0, 0))
  fr : Fr (fun k => k = ko ∨ k = ke) (fun _ => False) w w'
def caughtP : List PanicEntry := [{ v := .iface 69 (.agg #[.int .i64 40]), recovered := true }]
theorem res22 (t : Array Value) (w : World) : (results Tryz.f22 t).run Tryz.prog w = .ok (.tuple #[]) w := by simp [results, Tryz.results22, go_sem]
set_option maxRecDepth 100000 in
set_option maxHeartbeats 2000000 in
theorem catch_fail {w : World} {ko ke : Nat} {s : ByteArray} {z : Int} (ho : w.heap[ko]? = some (.cells #[.string s] 9 (0, 0))) (he : w.heap[ke]? = some (.cells #[.int .i64 z] 32 (0, 0))) :
    CallsD Tryz.prog 22 #[.pointer (some ⟨ko, 0, none⟩), .pointer (some ⟨ke, 0, none⟩)] (.panicking failP) w fun e u' w' => e = .returned (.tuple #[]) ∧ u' = .panicking caughtP ∧ Caught ko ke w w' := by
  have hta : ∀ w : World, (Instr.typeAssert (.iface 69 (.agg #[.int .i64 40])) 20 69 true).run Tryz.prog w = .ok (.tuple #[.agg #[.int .i64 40], .bool true]) w := fun w => by kernel_rfl
  refine callsD_of_wpS Tryz.func22 rfl fun c₀ cs hu => ?_
  apply wpS_seq
  apply wpS_region
  show wpOpsS _ _ _ [0] _ _ _
  simp [wpOpsS, go_sem, recoverD, hu, failP, Tryz.ntmps22, Exit.thenS]
  refine wpS_of_wp ?_
  refine wp_mono (Q := fun e a' w' => e = .normal ∧ a'.defers = [] ∧ Caught ko ke w w') ?_ ?_
  · change Code.wp _ _ _ { tmps := #[.pointer (some ⟨ko, 0, none⟩), .pointer (some ⟨ke, 0, none⟩), undef, undef, undef, .iface 69 (.agg #[.int .i64 40]), undef, undef, undef, undef, undef, undef, undef], defers := [] } w
    have q0 : ko < w.heap.size := (Array.getElem?_eq_some_iff.1 ho).1
    have q1 : ke < w.heap.size := (Array.getElem?_eq_some_iff.1 he).1
    have c0 := cell_of_row w ko 0 _ 9 (0, 0) ho
    have c1 := cell_of_row w ke 0 _ 32 (0, 0) he
    have d0 := frozen_of_row w ko 0 _ 9 ho
    have d1 := frozen_of_row w ke 0 _ 32 he
    have Ho := Lib.hid ho
    have He := Lib.hid he
    clear ho he hu
    have c0 : w.cell? ⟨ko, 0, none⟩ = some (.string s) := c0
    have c1 : w.cell? ⟨ke, 0, none⟩ = some (.int .i64 z) := c1
    have hne : ¬ ko = ke := by rintro rfl; rw [c0] at c1; cases c1
    have hne2 : ¬ ke = ko := fun e => hne e.symm
    go_wp2
    go_region
    have hr0 : (w.setCell ⟨ko, 0, none⟩ (.string .empty)).heap[ko]? = some (.cells #[.string .empty] 9 (0, 0)) := heap_setCell_same w ko 0 _ 9 (.string .empty) Ho.out
    have hr1 : (w.setCell ⟨ko, 0, none⟩ (.string .empty)).heap[ke]? = some (.cells #[.int .i64 z] 32 (0, 0)) := by rw [Below.heap_setCell _ _ _ _ hne2]; exact He.out
    have hr2 := heap_setCell_same (w.setCell ⟨ko, 0, none⟩ (.string .empty)) ke 0 _ 32 (.int .i64 40) hr1
    have hr3 : ((w.setCell ⟨ko, 0, none⟩ (.string .empty)).setCell ⟨ke, 0, none⟩ (.int .i64 40)).heap[ko]? = some (.cells #[.string .empty] 9 (0, 0)) := by rw [Below.heap_setCell _ _ _ _ hne]; exact hr0
    refine ⟨rfl, rfl, ?_, ?_, ⟨rfl, rfl, rfl, ?_, ?_, fun k h => h.elim⟩⟩
    · exact (Below.heap_alloc _ _ ko (by simp; omega)).trans hr3
    · exact (Below.heap_alloc _ _ ke (by simp; omega)).trans hr2
    · simp
    · intro k hk hn
      refine (Below.heap_alloc _ _ k (by simp; omega)).trans ?_
      rw [Below.heap_setCell _ _ _ _ (fun e => hn (.inr e)), Below.heap_setCell _ _ _ _ (fun e => hn (.inl e))]
  · rintro e a' w' ⟨rfl, hd, hc⟩
    exact ⟨hd, _, rfl, _, res22 _ _, rfl, rfl, hc⟩
set_option maxRecDepth 100000 in
set_option maxHeartbeats 2000000 in
theorem catch_none {w : World} {p q : Value} :
    CallsD Tryz.prog 22 #[p, q] .returning w fun e u' w' => e = .returned (.tuple #[]) ∧ u' = .returning ∧ w = w' := by
  refine callsD_of_wpS Tryz.func22 rfl fun c₀ cs hu => ?_
  apply wpS_seq
  apply wpS_region
  show wpOpsS _ _ _ [0] _ _ _
  simp [wpOpsS, go_sem, recoverD, hu, Tryz.ntmps22, Exit.thenS]
  refine wpS_of_wp ?_
  refine wp_mono (Q := fun e a' w' => e = .normal ∧ a'.defers = [] ∧ w = w') ?_ ?_
  · change Code.wp _ _ _ { tmps := #[p, q, undef, undef, undef, .nilIface, undef, undef, undef, undef, undef, undef, undef], defers := [] } w
    clear hu
    go_wp2
    all_goals exact ⟨rfl, rfl, rfl⟩
  · rintro e a' w' ⟨rfl, hd, hc⟩
    refine ⟨hd, .returning, ?_, _, res22 _ _, rfl, rfl, hc⟩
    cases c₀
    simp_all
end Go.Proofs.YtbnonccmlildnaaGreat
