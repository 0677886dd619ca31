/- Holds, where all hold. -/
import Derived.Test.YtbnonccmlildnaaGreatM36
set_option linter.unusedSimpArgs false
set_option linter.unusedVariables false
namespace Go.Proofs.YtbnonccmlildnaaGreat
open Go.RowKit

/-- True, with no error. -/
def TrueIs (w : World) (e : Ending) (w' : World) : Prop := e = .returned (.tuple #[.string ⟨#[116, 114, 117, 101]⟩, .int .i64 0]) ∧ Below w.heap.size w w'
def HoldsIs (w : World) (e : Ending) (w' : World) : Prop := e = .returned (.tuple #[.bool true, .int .i64 0]) ∧ Below w.heap.size w w'
set_option maxRecDepth 100000 in
set_option maxHeartbeats 4000000 in
theorem holds_true {w0 : World} {len : Nat} {A T : Option Addr} {c ct nt : Nat} {o0 : Int} {sv : Value} {f : Nat → Value} (hf : RowCells w0 A 7 len f) (hp : ∀ j, j < len → ∃ p : Parts, f j = .agg p.arr) (hl : len ≤ 140737488355328)
    (hV : ∀ j, j < len → ∀ w, Below w0.heap.size w0 w → Calls Tryz.prog 9 #[sv, .agg #[.slice T nt ct, .int .i64 o0], f j] w (TrueIs w))
    (hC : ∀ j, j < len → ∀ w, Below w0.heap.size w0 w → Calls Tryz.prog 20 #[sv, f j] w (SortIs w (2, 0))) (W : World) (hW : Below w0.heap.size w0 W) :
    Calls Tryz.prog 11 #[sv, .agg #[.slice T nt ct, .int .i64 o0], .slice A len c] W (HoldsIs W) := by
  have Hf := Lib.hid hf
  have Hp := Lib.hid hp
  have HV := Lib.hid hV
  have HC := Lib.hid hC
  obtain ⟨W1, hW1⟩ : ∃ W1, W1 = W.alloc (.cells #[.slice T nt ct, .int .i64 o0] 25) := ⟨_, rfl⟩
  have Hb1 : Hid (Below W.heap.size W W1) := Lib.hid (by rw [hW1]; exact (Below.refl _ _).alloc (Nat.le_refl _) _)
  have Hr1 : Hid (W1.heap[W.heap.size]? = some (.cells #[.slice T nt ct, .int .i64 o0] 25 (0, 0)) ∧ W.heap.size < W1.heap.size) := Lib.hid (by rw [hW1]; exact ⟨heap_alloc_new W _, by simp⟩)
  have HW := Lib.hid hW
  have HW1 := Lib.hid hW1
  clear hf hp hV hC hW hW1
  go_enter Tryz.func11, Tryz.ntmps11
  go_wp2_with fail
  go_loopw [8, 9, 18] (fun ok fm i wr => ∃ k : Nat, k ≤ len ∧ i = .int .i64 k ∧ ok = .bool true ∧ fm = .bool true ∧ Hid (Below W1.heap.size W1 wr)) (fun _ _ i _ => len - (intOf i).toNat)
  case atStart => exact ⟨0, Nat.zero_le _, rfl, rfl, rfl, Lib.hid (by rw [HW1.out]; exact Below.refl _ _)⟩
  case round =>
    obtain ⟨k, hk, rfl, rfl, rfl, Hbr⟩ := hrel
    have Hbw : Hid (Below w0.heap.size w0 wr) := Lib.hid ((HW.out.trans (Hb1.out.mono HW.out.size)).trans (Hbr.out.mono (by have := HW.out.size; have := Hb1.out.size; omega)))
    have hrow := (Hbr.out.block _ Hr1.out.2).trans Hr1.out.1
    have c0 : wr.cell? ⟨W.heap.size, 0, none⟩ = some (.slice T nt ct) := by rw [cell_of_row _ _ 0 _ _ _ hrow]; rfl
    have c1 : wr.cell? ⟨W.heap.size, 1, none⟩ = some (.int .i64 o0) := by rw [cell_of_row _ _ 1 _ _ _ hrow]; rfl
    have q0 : W.heap.size < wr.heap.size := by have := Hr1.out.2; have := Hbr.out.size; omega
    by_cases hlt : k < len
    · obtain ⟨p, hpp⟩ := Hp.out k hlt
      obtain ⟨b, o, rfl, h0, h1, h2, h3, h4, h5, h6⟩ := (Hf.out.below Hbw.out).get hlt hpp
      have hV1 := HV.out k hlt
      have hC1 := HC.out k hlt
      rw [hpp] at hV1 hC1
      have HV1 := Lib.hid hV1
      have HC1 := Lib.hid hC1
      have Hbx := Lib.hid (below_boxT wr p)
      have Hbox : Hid ((boxT wr p).heap[wr.heap.size]? = some (.cells p.arr 29 (0, 0)) ∧ wr.heap.size < (boxT wr p).heap.size) := Lib.hid ⟨heap_alloc_new wr _, by rw [boxT_size]; omega⟩
      have HB : Hid (boxT wr p = wr.alloc (.cells #[.int .i64 p.op, .string p.name, .int .i64 p.sort, .string p.n, .slice p.A p.la p.ca, .slice p.V p.lv p.cv, .slice p.P p.lp p.cp] 29)) := Lib.hid rfl
      clear hpp hV1 hC1 hrow
      go_wp2_with (first
        | (go_at_call 9; rw [← HB.out]; refine Calls.mono (HV1.out _ (Hbw.out.trans (Hbx.out.mono Hbw.out.size))) ?_; rintro e w3 ⟨rfl, hb3⟩; obtain ⟨d0, d1, d2, d3, d4, d5, d6⟩ := box_cells ((hb3.block _ Hbox.out.2).trans Hbox.out.1); have Hb3 := Lib.hid hb3; clear hb3)
        | (go_at_call 20; refine Calls.mono (HC1.out w3 ((Hbw.out.trans (Hbx.out.mono Hbw.out.size)).trans (Hb3.out.mono (by have := Hbw.out.size; have := Hbx.out.size; omega)))) ?_; rintro e w4 ⟨rfl, hb4⟩; have Hb4 := Lib.hid hb4; clear hb4))
      go_roundw
      case rel => exact ⟨k + 1, by omega, by go_num, rfl, rfl, Lib.hid (Hbr.out.trans ((Hbx.out.trans ((Hb3.out.trans (Hb4.out.mono Hb3.out.size)).mono Hbx.out.size)).mono Hbr.out.size))⟩
      case measure => simp [intOf]; omega
    · clear hrow
      go_wp2_with fail
      go_ret2
      exact ⟨rfl, Hb1.out.trans (Hbr.out.mono Hb1.out.size)⟩
end Go.Proofs.YtbnonccmlildnaaGreat

/- known: the chapter's example. -/
namespace Go.Proofs.YtbnonccmlildnaaGreat
open Go.RowKit

def fB : ByteArray := ⟨#[102]⟩
def eB : ByteArray := ⟨#[]⟩
theorem bds_small {op : Int} {name n : ByteArray} {ll lp : Nat} (ho : 0 ≤ op ∧ op ≤ 100) (hn : name.size ≤ 1000000) (hk : n.size ≤ 1000000) (hl : ll ≤ 100) (hp : lp ≤ 100) : Bds op 0 name n ll [] lp :=
  ⟨by unfold i64; omega, by unfold i64; omega, by omega, by omega, by omega, by simp, by omega, by simp⟩
/-- f of a numeral. -/
def appF (s : ByteArray) : Tm := .mk 17 fB 0 eB [.mk 1 eB 0 s [] [] []] [] []
def TmIs (t : Tm) (w : World) (e : Ending) (w' : World) : Prop := ∃ v, e = .returned v ∧ TmV w' t v ∧ Below w.heap.size w w'
set_option maxRecDepth 100000 in
set_option maxHeartbeats 2000000 in
theorem appF_any (s : ByteArray) (hs : s.size ≤ 100) (w : World) : Calls Tryz.prog 17 #[.string s] w (TmIs (appF s) w) := by
  go_enter Tryz.func17, Tryz.ntmps17
  go_wp2_with fail
  have hone : ∀ w : World, TmV w (.mk 1 eB 0 s [] [] []) (.agg (Parts.arr ⟨1, eB, 0, s, none, 0, 0, none, 0, 0, none, 0, 0⟩)) := fun w =>
    TmV.make (bds_small (by omega) (by decide) (by omega) (by simp) (by simp)) (TsV.nil w) (BsV.nil w) (TsV.nil w)
  obtain ⟨W, hW⟩ : ∃ W, W = w.alloc (.cells #[.int .i64 17, .string fB, .int .i64 0, .string eB, .slice (some ⟨w.heap.size + 1, 0, none⟩) 1 1, .slice none 0 0, .slice none 0 0] 29) := ⟨_, rfl⟩
  have hz : W.heap.size = w.heap.size + 1 := by rw [hW]; simp
  have h1 := TsV.one (hone W) 29
  rw [hz] at h1
  have hrow : (W.alloc (.cells (Parts.arr ⟨1, eB, 0, s, none, 0, 0, none, 0, 0, none, 0, 0⟩) 29)).heap[w.heap.size]? = some (.cells #[.int .i64 17, .string fB, .int .i64 0, .string eB, .slice (some ⟨w.heap.size + 1, 0, none⟩) 1 1, .slice none 0 0, .slice none 0 0] 29 (0, 0)) := by
    rw [Below.heap_alloc _ _ _ (by omega), hW]; exact heap_alloc_new w _
  have hb : Below w.heap.size w (W.alloc (.cells (Parts.arr ⟨1, eB, 0, s, none, 0, 0, none, 0, 0, none, 0, 0⟩) 29)) := by
    have h0 : Below w.heap.size w W := by rw [hW]; exact (Below.refl _ _).alloc (Nat.le_refl _) _
    exact h0.alloc h0.size _
  have ht : TmV (W.alloc (.cells (Parts.arr ⟨1, eB, 0, s, none, 0, 0, none, 0, 0, none, 0, 0⟩) 29)) (appF s) (.agg #[.int .i64 17, .string fB, .int .i64 0, .string eB, .slice (some ⟨w.heap.size + 1, 0, none⟩) 1 1, .slice none 0 0, .slice none 0 0]) :=
    TmV.make (bds_small (by omega) (by decide) (by decide) (by simp) (by simp)) h1 (BsV.nil _) (TsV.nil _)
  subst hW
  exact bodyPost_ret (results_cell_row rfl _ _ w.heap.size 29 #[.int .i64 17, .string fB, .int .i64 0, .string eB, .slice (some ⟨w.heap.size + 1, 0, none⟩) 1 1, .slice none 0 0, .slice none 0 0] (0, 0) _ rfl hrow Tryz.underlying29 rfl (by kernel_rfl)) rfl ⟨_, rfl, ht, hb⟩
end Go.Proofs.YtbnonccmlildnaaGreat

/- The chapter's example, plainly. -/
namespace Go.Proofs.YtbnonccmlildnaaGreat
open Go.RowKit Go.Lib

def nB (k : UInt8) : ByteArray := ⟨#[k]⟩
def exSig : List Fn := [⟨fB, [1], 1⟩]
def exTbs : List Tb := [⟨fB, [([nB 49], nB 53)], nB 48⟩]
def exT : Tm := .mk 11 eB 0 eB [appF (nB 50), appF (nB 49)] [] []
def tT : Tm := .mk 2 eB 0 eB [] [] []
theorem itoa1 : itoa 1 = [49] := by unfold itoa; rw [if_neg (by decide), show (1 : Int).toNat = 1 from rfl, decDigits, dif_pos (by decide)]; rfl
theorem itoa2 : itoa 2 = [50] := by unfold itoa; rw [if_neg (by decide), show (2 : Int).toNat = 2 from rfl, decDigits, dif_pos (by decide)]; rfl
theorem ex_check : checkTop exSig exT = (2, 0) := by kernel_rfl
theorem ex_checkT : checkTop exSig tT = (2, 0) := by kernel_rfl
theorem ex_asks : asksT 0 exT = false := by kernel_rfl
theorem ex_asksT : asksT 0 tT = false := by kernel_rfl
theorem val_n (k : UInt8) (z : Int) (h : valB (nB k) = z) (τ : Nat → List UInt8) (tbs : List Tb) : evalT τ exSig tbs 0 (.mk 1 eB 0 (nB k) [] [] []) [] = .ok (.num z) := by
  subst h
  rw [evalT_op (by decide) (by decide) (by decide)]
  rfl
theorem val_f (k : UInt8) (z : Int) (h : valB (nB k) = z) (τ : Nat → List UInt8) (tbs : List Tb) : evalT τ exSig tbs 0 (appF (nB k)) [] = appV τ exSig tbs 0 fB [.num z] := by
  unfold appF
  simp only [evalT, evals]
  rw [if_neg (by decide)]
  have := val_n k z h τ tbs
  simp only [evalT, evals] at this
  rw [this]
  rfl
theorem ex_app2 (τ : Nat → List UInt8) : appV τ exSig exTbs 0 fB [.num 2] = .ok (.num 0) := by
  have ht : tableOf exTbs fB = some ⟨fB, [([nB 49], nB 53)], nB 48⟩ := by kernel_rfl
  have ho : outOf exSig fB = 1 := by kernel_rfl
  have hx : [Vl.num 2].map (textV τ) = [⟨#[50]⟩] := by show [(⟨(itoa 2).toArray⟩ : ByteArray)] = _; rw [itoa2]
  have hr : readV (rowOf [([nB 49], nB 53)] [⟨#[50]⟩] (nB 48)) 1 0 = some (.num 0) := by kernel_rfl
  unfold appV
  rw [ht, ho, hx]
  dsimp only
  rw [hr]
theorem ex_app1 (τ : Nat → List UInt8) : appV τ exSig exTbs 0 fB [.num 1] = .ok (.num 5) := by
  have ht : tableOf exTbs fB = some ⟨fB, [([nB 49], nB 53)], nB 48⟩ := by kernel_rfl
  have ho : outOf exSig fB = 1 := by kernel_rfl
  have hx : [Vl.num 1].map (textV τ) = [⟨#[49]⟩] := by show [(⟨(itoa 1).toArray⟩ : ByteArray)] = _; rw [itoa1]
  have hr : readV (rowOf [([nB 49], nB 53)] [⟨#[49]⟩] (nB 48)) 1 0 = some (.num 5) := by kernel_rfl
  unfold appV
  rw [ht, ho, hx]
  dsimp only
  rw [hr]
theorem ex_value (τ : Nat → List UInt8) : valueS τ exSig exTbs 0 exT = .ok (.tr true) := by
  unfold valueS
  rw [ex_check, if_neg (by decide), ex_asks]
  show evalT τ exSig exTbs 0 exT [] = _
  unfold exT
  rw [evalT_op (by decide) (by decide) (by decide)]
  rw [evals_two ((val_f 50 2 (by kernel_rfl) τ exTbs).trans (ex_app2 τ)) ((val_f 49 1 (by kernel_rfl) τ exTbs).trans (ex_app1 τ))]
  rfl
theorem ex_valueT (τ : Nat → List UInt8) : valueS τ exSig exTbs 0 tT = .ok (.tr true) := by
  unfold valueS
  rw [ex_checkT, if_neg (by decide), ex_asksT]
  rfl
theorem ex_none (τ : Nat → List UInt8) : valueS τ exSig [] 0 exT = .error 40 := by
  unfold valueS
  rw [ex_check, if_neg (by decide), ex_asks]
  show evalT τ exSig [] 0 exT [] = _
  unfold exT
  rw [evalT_op (by decide) (by decide) (by decide)]
  simp only [evals]
  rw [val_f 50 2 (by kernel_rfl) τ []]
  rfl
end Go.Proofs.YtbnonccmlildnaaGreat

/- The example's structure: what Value tells. -/
namespace Go.Proofs.YtbnonccmlildnaaGreat
open Go.RowKit

def tau0 : Nat → List UInt8 := fun _ => []
theorem ex_call {w0 : World} {S T : Option Addr} {tbs : List Tb} {n c : Nat} (hn : n = tbs.length) (hl : tbs.length ≤ 140737488355328) (hS : FnsAt w0 S exSig) (hT : TbsAt w0 T tbs) (ho : tabsL 1000000 tbs) {t : Tm} {v : Value} (ht : TmV w0 t v) (h1 : numsT 1000000 t = true) (h2 : tw t ≤ 1000000) (h3 : shortT t = true) (w : World) (hw : Below w0.heap.size w0 w) :
    Calls Tryz.prog 9 #[.slice S 1 1, .agg #[.slice T n c, .int .i64 0], v] w (ValueIs tau0 (valueS tau0 exSig tbs 0 t) w) := by
  subst hn
  have hM : MOk ⟨exSig, tbs, 0, 0, S, 1, T, c, w0⟩ tau0 1000000 := ⟨hS, hT, Nat.zero_le _, fun k hk => by exact absurd hk (Nat.not_lt_zero k), ho, by decide, (show exSig.length ≤ 140737488355328 by decide), hl⟩
  exact Value_any (M := ⟨exSig, tbs, 0, 0, S, 1, T, c, w0⟩) hM (fun f hf => by simp [exSig] at hf; subst hf; unfold i64; decide) (show ((0 : Nat) : Int) = min (max 0 0) 1000 by decide) ht h1 h2 h3 w hw
theorem ex_true {w0 : World} {S T : Option Addr} (hS : FnsAt w0 S exSig) (hT : TbsAt w0 T exTbs) {v : Value} (ht : TmV w0 exT v) (w : World) (hw : Below w0.heap.size w0 w) :
    Calls Tryz.prog 9 #[.slice S 1 1, .agg #[.slice T 1 1, .int .i64 0], v] w (TrueIs w) :=
  (ex_call (c := 1) rfl (by decide) hS hT (by intro tb h; simp [exTbs] at h; subst h; exact ⟨by decide, fun r hr => by simp at hr; subst hr; decide⟩) ht (by kernel_rfl) (by decide) (by kernel_rfl) w hw).mono fun e w' hp => by
    obtain ⟨hp, hb⟩ := hp
    rw [ex_value] at hp
    rcases hp with ⟨x, hx, he⟩ | ⟨er, z, hx, _⟩
    · cases hx; exact ⟨he, hb⟩
    · cases hx
theorem ex_trueT {w0 : World} {S T : Option Addr} (hS : FnsAt w0 S exSig) (hT : TbsAt w0 T exTbs) {v : Value} (ht : TmV w0 tT v) (w : World) (hw : Below w0.heap.size w0 w) :
    Calls Tryz.prog 9 #[.slice S 1 1, .agg #[.slice T 1 1, .int .i64 0], v] w (TrueIs w) :=
  (ex_call (c := 1) rfl (by decide) hS hT (by intro tb h; simp [exTbs] at h; subst h; exact ⟨by decide, fun r hr => by simp at hr; subst hr; decide⟩) ht (by kernel_rfl) (by decide) (by kernel_rfl) w hw).mono fun e w' hp => by
    obtain ⟨hp, hb⟩ := hp
    rw [ex_valueT] at hp
    rcases hp with ⟨x, hx, he⟩ | ⟨er, z, hx, _⟩
    · cases hx; exact ⟨he, hb⟩
    · cases hx
/-- That a table is missing. -/
def FortyIs (w : World) (e : Ending) (w' : World) : Prop := e = .returned (.tuple #[.string .empty, .int .i64 40]) ∧ Below w.heap.size w w'
theorem ex_forty {w0 : World} {S : Option Addr} (hS : FnsAt w0 S exSig) {v : Value} (ht : TmV w0 exT v) (w : World) (hw : Below w0.heap.size w0 w) :
    Calls Tryz.prog 9 #[.slice S 1 1, .agg #[.slice none 0 0, .int .i64 0], v] w (FortyIs w) :=
  (ex_call (tbs := []) (c := 0) rfl (by decide) hS ⟨fun _ => .nilFunc, .inl rfl, fun j t h => by simp at h⟩ (by intro tb h; simp at h) ht (by kernel_rfl) (by decide) (by kernel_rfl) w hw).mono fun e w' hp => by
    obtain ⟨hp, hb⟩ := hp
    rw [ex_none] at hp
    rcases hp with ⟨x, hx, _⟩ | ⟨er, z, hx, hz, _, he⟩
    · cases hx
    · cases hx
      have : z = 40 := by rcases hz with h | h <;> exact h
      subst this
      exact ⟨he, hb⟩
theorem arr_two (p q : Parts) : p.arr ++ q.arr = #[.int .i64 p.op, .string p.name, .int .i64 p.sort, .string p.n, .slice p.A p.la p.ca, .slice p.V p.lv p.cv, .slice p.P p.lp p.cp, .int .i64 q.op, .string q.name, .int .i64 q.sort, .string q.n, .slice q.A q.la q.ca, .slice q.V q.lv q.cv, .slice q.P q.lp q.cp] := by
  simp [Parts.arr]
theorem ex_made {w4 : World} {p q : Parts} (h : TmV w4 (appF (nB 50)) (.agg p.arr)) (h' : TmV w4 (appF (nB 49)) (.agg q.arr)) :
    TmV (w4.alloc (.cells #[.int .i64 p.op, .string p.name, .int .i64 p.sort, .string p.n, .slice p.A p.la p.ca, .slice p.V p.lv p.cv, .slice p.P p.lp p.cp, .int .i64 q.op, .string q.name, .int .i64 q.sort, .string q.n, .slice q.A q.la q.ca, .slice q.V q.lv q.cv, .slice q.P q.lp q.cp] 29)) exT (.agg #[.int .i64 11, .string eB, .int .i64 0, .string eB, .slice (some ⟨w4.heap.size, 0, none⟩) 2 2, .slice none 0 0, .slice none 0 0]) := by
  rw [← arr_two]
  exact TmV.make (bds_small (by omega) (by decide) (by decide) (by simp) (by simp)) (TsV.two h h' 29) (BsV.nil _) (TsV.nil _)
end Go.Proofs.YtbnonccmlildnaaGreat

/- The example's structure: what Holds tells. -/
namespace Go.Proofs.YtbnonccmlildnaaGreat
open Go.RowKit

theorem ex_sig {w : World} {S : Option Addr} (hS : FnsAt w S exSig) : SigAt w S 1 exSig := ⟨hS, by decide, fun f hf => by simp [exSig] at hf; subst hf; unfold i64; decide⟩
theorem ex_sort {w0 : World} {S : Option Addr} (hS : FnsAt w0 S exSig) {t : Tm} {v : Value} (ht : TmV w0 t v) (h1 : tw t ≤ 1000000) (h2 : shortT t = true) (hc : checkTop exSig t = (2, 0)) (w : World) (hw : Below w0.heap.size w0 w) : Calls Tryz.prog 20 #[.slice S 1 1, v] w (SortIs w (2, 0)) := by
  have := Check_any (cs := 1) (ex_sig hS) ht h1 h2 w hw
  rw [hc] at this
  exact this
theorem ex_holds {w6 : World} {S T : Option Addr} (hS : FnsAt w6 S exSig) (hT : TbsAt w6 T exTbs) {p q : Parts} (h : TmV w6 exT (.agg p.arr)) (h' : TmV w6 tT (.agg q.arr)) :
    Calls Tryz.prog 11 #[.slice S 1 1, .agg #[.slice T 1 1, .int .i64 0], .slice (some ⟨w6.heap.size, 0, none⟩) 2 2] (w6.alloc (.cells (p.arr ++ q.arr) 29)) (HoldsIs (w6.alloc (.cells (p.arr ++ q.arr) 29))) := by
  obtain ⟨A, c2, e, _, f, hf, hL⟩ := TsV.two h h' 29
  have hb : Below w6.heap.size w6 (w6.alloc (.cells (p.arr ++ q.arr) 29)) := (Below.refl _ _).alloc (Nat.le_refl _) _
  have hS' := hS.mono hb
  have hT' := hT.mono hb
  have hA : A = some ⟨w6.heap.size, 0, none⟩ := by cases e; rfl
  subst hA
  have h0 := hL 0 exT rfl
  have h1 := hL 1 tT rfl
  have hj : ∀ j, j < 2 → j = 0 ∨ j = 1 := fun j hj => by omega
  refine holds_true (len := 2) hf (fun j hlt => ?_) (by omega) (fun j hlt w hw => ?_) (fun j hlt w hw => ?_) _ (Below.refl _ _)
  · rcases hj j hlt with rfl | rfl
    · exact h0.parts
    · exact h1.parts
  · rcases hj j hlt with rfl | rfl
    · exact ex_true hS' hT' h0 w hw
    · exact ex_trueT hS' hT' h1 w hw
  · rcases hj j hlt with rfl | rfl
    · exact ex_sort hS' h0 (by decide) (by kernel_rfl) ex_check w hw
    · exact ex_sort hS' h1 (by decide) (by kernel_rfl) ex_checkT w hw
end Go.Proofs.YtbnonccmlildnaaGreat

/- known. -/
namespace Go.Proofs.YtbnonccmlildnaaGreat
open Go.RowKit

def BoolIs (b : Bool) (w : World) (e : Ending) (w' : World) : Prop := e = .returned (.bool b) ∧ Below w.heap.size w w'
theorem six_rows (w : World) (a b c d e f : Obj) : ∀ W, W = (((((w.alloc a).alloc b).alloc c).alloc d).alloc e).alloc f →
    W.heap[w.heap.size]? = some a ∧ W.heap[w.heap.size + 1]? = some b ∧ W.heap[w.heap.size + 1 + 1]? = some c ∧ W.heap[w.heap.size + 1 + 1 + 1]? = some d ∧ W.heap[w.heap.size + 1 + 1 + 1 + 1]? = some e ∧ W.heap[w.heap.size + 1 + 1 + 1 + 1 + 1]? = some f ∧ W.heap.size = w.heap.size + 6 ∧ Below w.heap.size w W := by
  rintro W rfl
  obtain ⟨h0, h1, h2, h3, h4⟩ := four_rows w a b c d
  have s5 : (((((w.alloc a).alloc b).alloc c).alloc d).alloc e).heap.size = w.heap.size + 1 + 1 + 1 + 1 + 1 := by simp
  have s4 : ((((w.alloc a).alloc b).alloc c).alloc d).heap.size = w.heap.size + 1 + 1 + 1 + 1 := by simp
  have hb : Below w.heap.size w (((((w.alloc a).alloc b).alloc c).alloc d).alloc e) :=
    (((((Below.refl _ _).alloc (Nat.le_refl _) _).alloc (by simp) _).alloc (by simp; omega) _).alloc (by simp; omega) _).alloc (by omega) _
  refine ⟨?_, ?_, ?_, ?_, ?_, ?_, by simp, hb.alloc hb.size _⟩
  · rw [Below.heap_alloc _ _ _ (by omega), Below.heap_alloc _ _ _ (by omega)]; exact h0
  · rw [Below.heap_alloc _ _ _ (by omega), Below.heap_alloc _ _ _ (by omega)]; exact h1
  · rw [Below.heap_alloc _ _ _ (by omega), Below.heap_alloc _ _ _ (by omega)]; exact h2
  · rw [Below.heap_alloc _ _ _ (by omega), Below.heap_alloc _ _ _ (by omega)]; exact h3
  · rw [Below.heap_alloc _ _ _ (by omega), ← s4]; exact heap_alloc_new _ e
  · rw [← s5]; exact heap_alloc_new _ f
/-- A row of one element of one, two, three cells. -/
theorem rowCells_one {w : World} {k t n : Nat} {cs : Array Value} (h : w.heap[k]? = some (.cells cs t (0, 0))) (hn : cs.size = n) : RowCells w (some ⟨k, 0, none⟩) n 1 (fun _ => .agg cs) := by
  refine .inr ⟨k, 0, rfl, fun j hj => ?_⟩
  obtain rfl : j = 0 := by omega
  refine ⟨hn, fun i hi => ?_⟩
  rw [cell_of_row w k _ _ t (0, 0) h]
  simp [Value.cells]
theorem ex_fns {W : World} {k0 k1 : Nat} (h0 : W.heap[k0]? = some (.cells #[.int .i64 1] 3 (0, 0))) (h1 : W.heap[k1]? = some (.cells #[.string fB, .slice (some ⟨k0, 0, none⟩) 1 1, .int .i64 1] 50 (0, 0))) : FnsAt W (some ⟨k1, 0, none⟩) exSig := by
  refine ⟨_, rowCells_one h1 rfl, fun j f hj => ?_⟩
  match j, hj with
  | 0, hj =>
    cases hj
    refine ⟨⟨_, 1, rfl, Nat.le_refl _, .inr (.inr ⟨k0, 0, rfl, fun i u hi => ?_⟩)⟩, by decide, by decide, by unfold i64; decide⟩
    match i, hi with
    | 0, hi => cases hi; rw [cell_of_row W k0 _ _ 3 (0, 0) h0]; rfl
    | i + 1, hi => simp at hi
  | j + 1, hj => simp [exSig] at hj
theorem ex_tbs {W : World} {k2 k3 k4 : Nat} (h2 : W.heap[k2]? = some (.cells #[.string (nB 49)] 9 (0, 0))) (h3 : W.heap[k3]? = some (.cells #[.slice (some ⟨k2, 0, none⟩) 1 1, .string (nB 53)] 57 (0, 0))) (h4 : W.heap[k4]? = some (.cells #[.string fB, .slice (some ⟨k3, 0, none⟩) 1 1, .string (nB 48)] 47 (0, 0))) : TbsAt W (some ⟨k4, 0, none⟩) exTbs := by
  refine ⟨_, rowCells_one h4 rfl, fun j t hj => ?_⟩
  match j, hj with
  | 0, hj =>
    cases hj
    refine ⟨⟨_, 1, rfl, ⟨_, rowCells_one h3 rfl, fun i r hi => ?_⟩, Nat.le_refl _⟩, by unfold small; decide, by unfold small; decide, by decide⟩
    match i, hi with
    | 0, hi =>
      cases hi
      refine ⟨⟨_, 1, rfl, .inr ⟨k2, 0, rfl, fun m x hm => ?_⟩, Nat.le_refl _⟩, by unfold small; decide, by decide, fun x hx => ?_⟩
      · match m, hm with
        | 0, hm => cases hm; rw [cell_of_row W k2 _ _ 9 (0, 0) h2]; rfl
        | m + 1, hm => simp at hm
      · simp at hx; subst hx; unfold small; decide
    | i + 1, hi => simp at hi
  | j + 1, hj => simp [exTbs] at hj
/-- The model's box, later. -/
theorem box25 {w w' : World} {k : Nat} {a b : Value} (h : w.heap[k]? = some (.cells #[a, b] 25 (0, 0))) (hb : Below w.heap.size w w') : w'.cell? ⟨k, 0, none⟩ = some a ∧ w'.cell? ⟨k, 1, none⟩ = some b ∧ k < w'.heap.size := by
  have hk := (Array.getElem?_eq_some_iff.1 h).1
  have h2 := (hb.block k hk).trans h
  exact ⟨by rw [cell_of_row _ _ 0 _ _ _ h2]; rfl, by rw [cell_of_row _ _ 1 _ _ _ h2]; rfl, (Array.getElem?_eq_some_iff.1 h2).1⟩
theorem box_after {w4 w5 : World} {cs ts : Array Value} (hb : Below ((w4.alloc (.cells cs 29)).alloc (.cells ts 29)).heap.size ((w4.alloc (.cells cs 29)).alloc (.cells ts 29)) w5) : w5.heap[w4.heap.size + 1]? = some (.cells ts 29 (0, 0)) ∧ w4.heap.size + 1 < w5.heap.size ∧ Below w4.heap.size w4 w5 := by
  have s1 : (w4.alloc (.cells cs 29)).heap.size = w4.heap.size + 1 := by simp
  have h1 := heap_alloc_new (w4.alloc (.cells cs 29)) (.cells ts 29)
  rw [s1] at h1
  have hlt := (Array.getElem?_eq_some_iff.1 h1).1
  have h2 := (hb.block _ hlt).trans h1
  have hb0 : Below w4.heap.size w4 ((w4.alloc (.cells cs 29)).alloc (.cells ts 29)) := ((Below.refl _ _).alloc (Nat.le_refl _) _).alloc (by omega) _
  exact ⟨h2, (Array.getElem?_eq_some_iff.1 h2).1, hb0.trans (hb.mono hb0.size)⟩
set_option maxRecDepth 100000 in
set_option maxHeartbeats 2000000 in
theorem known_any (w : World) : Calls Tryz.prog 7 #[] w (BoolIs true w) := by
  obtain ⟨W, hW⟩ : ∃ W, W = (((((w.alloc (.cells #[.int .i64 1] 3)).alloc (.cells #[.string ⟨#[102]⟩, .slice (some ⟨w.heap.size, 0, none⟩) 1 1, .int .i64 1] 50)).alloc (.cells #[.string ⟨#[49]⟩] 9)).alloc (.cells #[.slice (some ⟨w.heap.size + 1 + 1, 0, none⟩) 1 1, .string ⟨#[53]⟩] 57)).alloc (.cells #[.string ⟨#[102]⟩, .slice (some ⟨w.heap.size + 1 + 1 + 1, 0, none⟩) 1 1, .string ⟨#[48]⟩] 47)).alloc (.cells #[.slice (some ⟨w.heap.size + 1 + 1 + 1 + 1, 0, none⟩) 1 1, .int .i64 0] 25) := ⟨_, rfl⟩
  obtain ⟨r0, r1, r2, r3, r4, r5, hsz, hbW⟩ := six_rows w _ _ _ _ _ _ W hW
  have HW := Lib.hid hW
  have HbW := Lib.hid hbW
  have Hfns := Lib.hid (ex_fns r0 r1)
  have Htbs := Lib.hid (ex_tbs r2 r3 r4)
  have Hr5 := Lib.hid r5
  have Hsz := Lib.hid hsz
  clear hW hbW r0 r1 r2 r3 r4 r5 hsz
  go_enter Tryz.func7, Tryz.ntmps7
  go_wp2_with (first
    | (go_at_call 17; rw [← HW.out]; refine Calls.mono (appF_any ⟨#[50]⟩ (by decide) W) ?_; rintro e w3 ⟨v3, rfl, ht3, hb3⟩; obtain ⟨p3, rfl⟩ := ht3.parts; unfold Parts.arr at *; have Ht3 := Lib.hid ht3; have Hb3 := Lib.hid hb3; clear ht3 hb3)
    | (go_at_call 17; refine Calls.mono (appF_any ⟨#[49]⟩ (by decide) w3) ?_; rintro e w4 ⟨v4, rfl, ht4, hb4⟩; obtain ⟨p4, rfl⟩ := ht4.parts; unfold Parts.arr at *; obtain ⟨m0, m1, q0⟩ := box25 Hr5.out (Hb3.out.trans (hb4.mono Hb3.out.size)); have q1 : w.heap.size + 1 + 1 + 1 + 1 + 1 < w4.heap.size + 1 := (by omega); have n0 : ¬ w.heap.size + 1 + 1 + 1 + 1 + 1 = w4.heap.size := (by omega); have n1 : ¬ w.heap.size + 1 + 1 + 1 + 1 + 1 = w4.heap.size + 1 := (by omega); have Ht4 := Lib.hid ht4; have Hb4 := Lib.hid hb4; have HB4 := Lib.hid ((Hb3.out.trans (hb4.mono Hb3.out.size))); clear ht4 hb4))
  go_at_call 9
  refine Calls.mono (ex_true (Hfns.out.mono (HB4.out.alloc HB4.out.size _)) (Htbs.out.mono (HB4.out.alloc HB4.out.size _)) (ex_made (p := p3) (q := p4) (Ht3.out.mono Hb4.out) Ht4.out) _ ((Below.refl _ _).alloc (Nat.le_refl _) _)) ?_
  rintro e w5 ⟨rfl, hb5⟩
  obtain ⟨hr5, q5, hb45⟩ := box_after hb5
  obtain ⟨d0, d1, d2, d3, d4, d5, d6⟩ := box_cells (p := ⟨11, ⟨#[]⟩, 0, ⟨#[]⟩, some ⟨w4.heap.size, 0, none⟩, 2, 2, none, 0, 0, none, 0, 0⟩) hr5
  obtain ⟨m0, m1, q0⟩ := box25 Hr5.out (HB4.out.trans (hb45.mono HB4.out.size))
  have Hb5 := Lib.hid hb45
  have Hx5 := Lib.hid (TmV.mono (ex_made (p := p3) (q := p4) (Ht3.out.mono Hb4.out) Ht4.out) (((Below.refl _ _).alloc (Nat.le_refl _) _).trans (hb5.mono (by simp))))
  have Hr5t := Lib.hid hr5
  have HB5 := Lib.hid (HB4.out.trans (Hb5.out.mono HB4.out.size))
  clear hb5 hb45 hr5
  go_wp2_with fail
  go_at_call 9
  refine Calls.mono (ex_forty (Hfns.out.mono HB5.out) Hx5.out _ (Below.refl _ _)) ?_
  rintro e w6 ⟨rfl, hb6⟩
  clear d0 d1 d2 d3 d4 d5 d6 m0 m1
  obtain ⟨d0, d1, d2, d3, d4, d5, d6⟩ := box_cells (p := ⟨11, ⟨#[]⟩, 0, ⟨#[]⟩, some ⟨w4.heap.size, 0, none⟩, 2, 2, none, 0, 0, none, 0, 0⟩) ((hb6.block _ q5).trans Hr5t.out)
  obtain ⟨m0, m1, q6⟩ := box25 Hr5.out (HB5.out.trans (hb6.mono HB5.out.size))
  have HB6 := Lib.hid (HB5.out.trans (hb6.mono HB5.out.size))
  have Hx6 := Lib.hid (Hx5.out.mono hb6)
  clear hb6
  go_wp2_with fail
  go_at_call 11
  refine Calls.mono (ex_holds (p := ⟨11, ⟨#[]⟩, 0, ⟨#[]⟩, some ⟨w4.heap.size, 0, none⟩, 2, 2, none, 0, 0, none, 0, 0⟩) (q := ⟨2, ⟨#[]⟩, 0, ⟨#[]⟩, none, 0, 0, none, 0, 0, none, 0, 0⟩) (Hfns.out.mono HB6.out) (Htbs.out.mono HB6.out) Hx6.out (TmV.make (bds_small (by omega) (by decide) (by decide) (by simp) (by simp)) (TsV.nil _) (BsV.nil _) (TsV.nil _))) ?_
  rintro e w7 ⟨rfl, hb7⟩
  have Hb7 := Lib.hid hb7
  clear hb7
  go_wp2_with fail
  go_ret
  refine ⟨rfl, ?_⟩
  have hbA := HbW.out.trans (HB6.out.mono HbW.out.size)
  have hbC := hbA.trans (((Below.refl w6.heap.size w6).alloc (Nat.le_refl _) _ |>.trans (Hb7.out.mono (by simp))).mono hbA.size)
  exact hbC
end Go.Proofs.YtbnonccmlildnaaGreat
