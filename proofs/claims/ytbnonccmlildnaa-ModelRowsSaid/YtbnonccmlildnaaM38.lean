/- ModelRows: the table in memory. -/
import Derived.Test.YtbnonccmlildnaaM37
set_option linter.unusedSimpArgs false
set_option linter.unusedVariables false
namespace Go.Proofs.Ytbnonccmlildnaa
open Go.RowKit Go.Lib

/-- Pairs of eight bits, in memory. -/
def PairsAt (w : World) (A : Option Addr) (rows : List (Int × Int)) : Prop := RowCells w A 2 rows.length fun j => match rows[j]? with | some (a, b) => .agg #[.int .i8 a, .int .i8 b] | none => .nilFunc
theorem PairsAt.get {w : World} {A : Option Addr} {rows : List (Int × Int)} (h : PairsAt w A rows) {j : Nat} {r : Int × Int} (hj : rows[j]? = some r) : ∃ b o, A = some ⟨b, o, none⟩ ∧ w.cell? ⟨b, o + j * 2, none⟩ = some (.int .i8 r.1) ∧ w.cell? ⟨b, o + j * 2 + 1, none⟩ = some (.int .i8 r.2) := by
  have hl := (List.getElem?_eq_some_iff.1 hj).1
  rcases h with h | ⟨b, o, hA, h⟩
  · omega
  · have h2 := (h j hl).2
    dsimp only at h2
    rw [hj] at h2
    refine ⟨b, o, hA, ?_, ?_⟩
    · have := h2 0 (by omega); rw [Nat.add_zero] at this; rw [this]; rfl
    · have := h2 1 (by omega); rw [this]; rfl
/-- The rows that were appended so far. -/
structure TabL (B : Nat) (w : World) (rows : List (Int × Int)) (A : Option Addr) (k c : Nat) (us : List Value) : Prop where
  len : us.length = k
  le : k ≤ rows.length
  own : w.ownsRow B 32 2 (.slice A k c) k (cellsOf us)
  data : ∀ (j : Nat) (r : Int × Int), j < k → rows[j]? = some r → ∃ b, us.getD j .nilFunc = .agg #[.slice (some ⟨b, 0, none⟩) 1 1, .string (n8B r.2)] ∧ w.heap[b]? = some (.cells #[.string (n8B r.1)] 9 (0, 0)) ∧ (Value.slice A k c).ownBlock ≠ some b
  base : B ≤ w.heap.size
theorem TabL.below {B : Nat} {w w' : World} {rows : List (Int × Int)} {A : Option Addr} {k c : Nat} {us : List Value} (h : TabL B w rows A k c us) (hb : Below w.heap.size w w') : TabL B w' rows A k c us :=
  ⟨h.len, h.le, ownsRow_same h.own fun g hg => hb.block g (by obtain ⟨_, cur, hc⟩ := ownsRow_lt h.own g hg; exact (Array.getElem?_eq_some_iff.1 hc).1), fun j r hj hr => by
    obtain ⟨b, h1, h2, h3⟩ := h.data j r hj hr
    exact ⟨b, h1, (hb.block b (Array.getElem?_eq_some_iff.1 h2).1).trans h2, h3⟩, Nat.le_trans h.base hb.size⟩
theorem TabL.seven {B : Nat} {w : World} {rows : List (Int × Int)} {A : Option Addr} {k c : Nat} {us : List Value} (h : TabL B w rows A k c us) : ∀ u ∈ us, u.cells.size = 2 := fun u hu => by
  obtain ⟨j, hj, rfl⟩ := List.getElem_of_mem hu
  have hjk : j < k := by have := h.len; omega
  have hr : rows[j]? = some (rows[j]'(by have := h.le; omega)) := List.getElem?_eq_getElem _
  obtain ⟨b, h1, _⟩ := h.data j _ hjk hr
  have e : us.getD j .nilFunc = us[j] := by simp [hj]
  rw [← e, h1]
  rfl
theorem TabL.append {B : Nat} {W w9 : World} {rows : List (Int × Int)} {A : Option Addr} {k c g cap b : Nat} {us : List Value} {r : Int × Int} (h : TabL B W rows A k c us) (hr : rows[k]? = some r) (hb : W.heap[b]? = some (.cells #[.string (n8B r.1)] 9 (0, 0))) (hne : (Value.slice A k c).ownBlock ≠ some b)
    (hq : w9.ownsRow B 32 2 (.slice (some ⟨g, 0, none⟩) (k + 1) cap) (k + 1) (cellsOf us ++ [.slice (some ⟨b, 0, none⟩) 1 1, .string (n8B r.2)])) (hg : W.grownBy w9 (Value.slice A k c).ownBlock) (hat : (Value.slice A k c).ownBlock = some g ∨ g = W.heap.size) :
    TabL B w9 rows (some ⟨g, 0, none⟩) (k + 1) cap (us ++ [.agg #[.slice (some ⟨b, 0, none⟩) 1 1, .string (n8B r.2)]]) := by
  have hk := (List.getElem?_eq_some_iff.1 hr).1
  have key : ∀ x, ∀ s, W.heap[x]? = some (.cells #[.string s] 9 (0, 0)) → (Value.slice A k c).ownBlock ≠ some x → w9.heap[x]? = some (.cells #[.string s] 9 (0, 0)) ∧ (Value.slice (some ⟨g, 0, none⟩) (k + 1) cap).ownBlock ≠ some x := fun x s hx hn => by
    have hlt := (Array.getElem?_eq_some_iff.1 hx).1
    refine ⟨(hg.block x hlt (fun e => hn e.symm)).trans hx, fun e => ?_⟩
    have e2 : g = x := by simpa [Value.ownBlock] using e
    rcases hat with h1 | h1
    · exact hn (e2 ▸ h1)
    · omega
  refine ⟨by simp [h.len], by omega, ?_, fun j r2 hj hr2 => ?_, Nat.le_trans h.base hg.size⟩
  · have : cellsOf (us ++ [.agg #[.slice (some ⟨b, 0, none⟩) 1 1, .string (n8B r.2)]]) = cellsOf us ++ [.slice (some ⟨b, 0, none⟩) 1 1, .string (n8B r.2)] := by simp [cellsOf, Value.cells]
    rw [this]
    exact hq
  · by_cases hjk : j < k
    · obtain ⟨b2, h1, h2, h3⟩ := h.data j r2 hjk hr2
      have e : (us ++ [Value.agg #[.slice (some ⟨b, 0, none⟩) 1 1, .string (n8B r.2)]]).getD j .nilFunc = us.getD j .nilFunc := by simp [List.getElem?_append_left (show j < us.length by rw [h.len]; exact hjk)]
      exact ⟨b2, e.trans h1, key b2 _ h2 h3⟩
    · have hjk2 : j = k := by omega
      subst hjk2
      rw [hr] at hr2
      cases hr2
      have e : (us ++ [Value.agg #[.slice (some ⟨b, 0, none⟩) 1 1, .string (n8B r.2)]]).getD us.length .nilFunc = .agg #[.slice (some ⟨b, 0, none⟩) 1 1, .string (n8B r.2)] := by simp
      rw [h.len] at e
      exact ⟨b, e, key b _ hb hne⟩
theorem TabL.done {B : Nat} {w : World} {rows : List (Int × Int)} {A : Option Addr} {c : Nat} {us : List Value} (h : TabL B w rows A rows.length c us) (hrs : ∀ r ∈ rows, (-128 ≤ r.1 ∧ r.1 ≤ 127) ∧ (-128 ≤ r.2 ∧ r.2 ≤ 127)) : RwsAt w A (rowsT rows) ∧ rows.length ≤ c := by
  obtain ⟨h1, h2, _⟩ := ownsRow_cells h.own h.seven h.len (by decide)
  refine ⟨⟨fun j => us.getD j .nilFunc, by rw [rowsT, List.length_map]; exact h1, fun j r hj => ?_⟩, h2⟩
  rw [rowsT, List.getElem?_map] at hj
  cases hr : rows[j]? with
  | none => rw [hr] at hj; cases hj
  | some r0 =>
    rw [hr] at hj
    cases hj
    have hm := hrs r0 (List.mem_of_getElem? hr)
    obtain ⟨b, e1, e2, _⟩ := h.data j r0 (List.getElem?_eq_some_iff.1 hr).1 hr
    have s1 := n8_size hm.1.1 hm.1.2
    have s2 := n8_size hm.2.1 hm.2.2
    refine ⟨⟨_, 1, e1, .inr ⟨b, 0, rfl, fun m x hx => ?_⟩, Nat.le_refl _⟩, by unfold small; dsimp only; omega, by simp, fun x hx => ?_⟩
    · match m, hx with
      | 0, hx => cases hx; rw [cell_of_row w b _ _ 9 (0, 0) e2]; rfl
      | m + 1, hx => simp at hx
    · simp at hx
      subst hx
      unfold small
      omega
theorem rows_tbs {W : World} {A2 : Option Addr} {c2 k4 : Nat} {rows : List (Int × Int)} {o : Int} (hr : RwsAt W A2 (rowsT rows)) (hc : rows.length ≤ c2) (hl : rows.length ≤ 30) (ho : -128 ≤ o ∧ o ≤ 127)
    (h4 : W.heap[k4]? = some (.cells #[.string fB, .slice A2 rows.length c2, .string (n8B o), .string fB, .slice none 0 0, .string ⟨#[55, 55]⟩] 28 (0, 0))) : TbsAt W (some ⟨k4, 0, none⟩) (rowsTbs rows o) := by
  have hs := n8_size ho.1 ho.2
  refine ⟨fun j => if j = 0 then .agg #[.string fB, .slice A2 rows.length c2, .string (n8B o)] else .agg #[.string fB, .slice none 0 0, .string ⟨#[55, 55]⟩], .inr ⟨k4, 0, rfl, fun j hj => ?_⟩, fun j t hj => ?_⟩
  · have h2 : j = 0 ∨ j = 1 := by simp [rowsTbs] at hj; omega
    rcases h2 with rfl | rfl
    · refine ⟨rfl, fun i hi => ?_⟩
      rw [cell_of_row W k4 _ _ 28 (0, 0) h4]
      have h3 : i = 0 ∨ i = 1 ∨ i = 2 := by omega
      rcases h3 with rfl | rfl | rfl <;> rfl
    · refine ⟨rfl, fun i hi => ?_⟩
      rw [cell_of_row W k4 _ _ 28 (0, 0) h4]
      have h3 : i = 0 ∨ i = 1 ∨ i = 2 := by omega
      rcases h3 with rfl | rfl | rfl <;> rfl
  · match j, hj with
    | 0, hj =>
      cases hj
      exact ⟨⟨A2, c2, by rw [rowsT, List.length_map]; rfl, hr, by rw [rowsT, List.length_map]; exact hc⟩, (show fB.size ≤ 140737488355328 by decide), by unfold small; dsimp only; omega, by dsimp only; rw [rowsT, List.length_map]; omega⟩
    | 1, hj =>
      cases hj
      exact ⟨⟨none, 0, rfl, ⟨fun _ => .nilFunc, .inl rfl, by simp⟩, by simp⟩, by unfold small; decide, by unfold small; decide, by simp⟩
    | j + 2, hj => simp [rowsTbs] at hj
end Go.Proofs.Ytbnonccmlildnaa

/- ModelRows: what Value tells. -/
namespace Go.Proofs.Ytbnonccmlildnaa
open Go.RowKit Go.Lib

theorem five_rows (w : World) (a b c d e : Obj) : ∀ W, W = ((((w.alloc a).alloc b).alloc c).alloc d).alloc e →
    W.heap[w.heap.size]? = some a ∧ W.heap[w.heap.size + 1]? = some b ∧ W.heap[w.heap.size + 1 + 1]? = some c ∧ W.heap[w.heap.size + 1 + 1 + 1 + 1]? = some e ∧ Below w.heap.size w W := by
  rintro W rfl
  obtain ⟨h0, h1, h2, h3, h4⟩ := four_rows w a b c d
  have s4 : ((((w.alloc a).alloc b).alloc c).alloc d).heap.size = w.heap.size + 1 + 1 + 1 + 1 := by simp
  have hb : Below w.heap.size w ((((w.alloc a).alloc b).alloc c).alloc d) := ((((Below.refl _ _).alloc (Nat.le_refl _) _).alloc (by simp) _).alloc (by simp; omega) _).alloc (by simp; omega) _
  refine ⟨?_, ?_, ?_, ?_, hb.alloc hb.size _⟩
  · rw [Below.heap_alloc _ _ _ (by omega)]; exact h0
  · rw [Below.heap_alloc _ _ _ (by omega)]; exact h1
  · rw [Below.heap_alloc _ _ _ (by omega)]; exact h2
  · rw [← s4]; exact heap_alloc_new _ e
theorem numsT_app {s : ByteArray} (h : s.size ≤ 100) : numsT 1000000 (appF s) = true := by
  simp only [appF, numsT, numsTs, Bool.and_eq_true, decide_eq_true_eq, and_true]
  exact ⟨by decide, by omega⟩
theorem shortT_app {s : ByteArray} (h : s.size ≤ 100) : shortT (appF s) = true := by
  simp only [appF, shortT, shortTs, Bool.and_eq_true, decide_eq_true_eq, and_true]
  exact ⟨by decide, by omega⟩
theorem rows_call {wr : World} {rows : List (Int × Int)} {A2 : Option Addr} {c2 : Nat} {at_ other want : Int} (hr : RwsAt wr A2 (rowsT rows)) (hc : rows.length ≤ c2) (hl : rows.length ≤ 30) (hrs : ∀ r ∈ rows, (-128 ≤ r.1 ∧ r.1 ≤ 127) ∧ (-128 ≤ r.2 ∧ r.2 ≤ 127)) (ha : -128 ≤ at_ ∧ at_ ≤ 127) (ho : -128 ≤ other ∧ other ≤ 127)
    (hv : valueS tau0 exSig (rowsTbs rows other) 0 (appF (n8B at_)) = .ok (.num want) ∧ textV tau0 (.num want) = n8B want) {o4 : Obj} {W : World}
    (hW : W = ((((wr.alloc (.cells #[.int .i64 1] 3)).alloc (.cells #[.string ⟨#[102]⟩, .slice (some ⟨wr.heap.size, 0, none⟩) 1 1, .int .i64 1] 35)).alloc (.cells #[.int .i64 1, .string ⟨#[]⟩, .int .i64 0, .string (n8B at_), .slice none 0 0, .slice none 0 0, .slice none 0 0] 40)).alloc o4).alloc (.cells #[.string ⟨#[102]⟩, .slice A2 rows.length c2, .string (n8B other), .string ⟨#[102]⟩, .slice none 0 0, .string ⟨#[55, 55]⟩] 28)) :
    Calls Try.prog 6 #[.slice (some ⟨wr.heap.size + 1, 0, none⟩) 1 1, .agg #[.slice (some ⟨wr.heap.size + 1 + 1 + 1 + 1, 0, none⟩) 2 2, .int .i64 0], .agg #[.int .i64 17, .string ⟨#[102]⟩, .int .i64 0, .string ⟨#[]⟩, .slice (some ⟨wr.heap.size + 1 + 1, 0, none⟩) 1 1, .slice none 0 0, .slice none 0 0]] W fun e w' => e = .returned (.tuple #[.string (n8B want), .int .i64 0]) ∧ Below wr.heap.size wr w' := by
  obtain ⟨r0, r1, r2, r4, hb⟩ := five_rows wr _ _ _ _ _ W hW
  clear hW
  have hs := n8_size ha.1 ha.2
  have hso := n8_size ho.1 ho.2
  have hone : TmV W (.mk 1 eB 0 (n8B at_) [] [] []) (.agg (Parts.arr ⟨1, eB, 0, n8B at_, none, 0, 0, none, 0, 0, none, 0, 0⟩)) := TmV.make (bds_small (by omega) (by decide) (by omega) (by simp) (by simp)) (TsV.nil W) (BsV.nil W) (TsV.nil W)
  have hts : TsV W [.mk 1 eB 0 (n8B at_) [] [] []] (.slice (some ⟨wr.heap.size + 1 + 1, 0, none⟩) 1 1) := by
    refine ⟨_, 1, rfl, Nat.le_refl _, fun _ => .agg (Parts.arr ⟨1, eB, 0, n8B at_, none, 0, 0, none, 0, 0, none, 0, 0⟩), .inr ⟨_, 0, rfl, fun j hj => ⟨rfl, fun i hi => ?_⟩⟩, fun j t ht => ?_⟩
    · have hj0 : j = 0 := by simp at hj; omega
      subst hj0
      rw [cell_of_row W _ _ _ 40 (0, 0) r2]
      simp [Value.cells, Parts.arr, eB]
    · match j, ht with
      | 0, ht => cases ht; exact hone
      | j + 1, ht => simp at ht
  have ht : TmV W (appF (n8B at_)) (.agg #[.int .i64 17, .string ⟨#[102]⟩, .int .i64 0, .string ⟨#[]⟩, .slice (some ⟨wr.heap.size + 1 + 1, 0, none⟩) 1 1, .slice none 0 0, .slice none 0 0]) :=
    TmV.make (bds_small (by omega) (by decide) (by decide) (by simp) (by simp)) hts (BsV.nil W) (TsV.nil W)
  have hT := rows_tbs (hr.mono hb) hc hl ho r4
  have hlr : rowsT rows = rowsT rows := rfl
  refine (ex_call (c := 2) (n := 2) rfl (by simp [rowsTbs]) (ex_fns r0 r1) hT (fun tb htb => ?_) ht (numsT_app (by omega)) (show tw (appF (n8B at_)) ≤ 1000000 from by simp [appF, tw, tws]) (shortT_app (by omega)) W (Below.refl _ _)).mono ?_
  · simp only [rowsTbs, List.mem_cons, List.not_mem_nil, or_false] at htb
    rcases htb with rfl | rfl
    · refine ⟨by dsimp only; omega, fun r hr => ?_⟩
      simp only [rowsT, List.mem_map] at hr
      obtain ⟨r0, hr0, rfl⟩ := hr
      have := n8_size (hrs r0 hr0).2.1 (hrs r0 hr0).2.2
      dsimp only
      omega
    · exact ⟨by dsimp only; decide, fun r hr => by simp at hr⟩
  · rintro e w' ⟨hp, hb'⟩
    rw [hv.1] at hp
    rcases hp with ⟨x, hx, he⟩ | ⟨er, z, hx, _⟩
    · cases hx
      rw [hv.2] at he
      exact ⟨he, hb.trans (hb'.mono hb.size)⟩
    · cases hx
end Go.Proofs.Ytbnonccmlildnaa

/- ModelRows: the walk. -/
namespace Go.Proofs.Ytbnonccmlildnaa
open Go.RowKit Go.Lib

theorem wantI_drop {rows : List (Int × Int)} {k : Nat} {r : Int × Int} (h : rows[k]? = some r) (a o : Int) : wantI (rows.drop k) a o = if r.1 = a then r.2 else wantI (rows.drop (k + 1)) a o := by
  obtain ⟨hk, he⟩ := List.getElem?_eq_some_iff.1 h
  rw [List.drop_eq_getElem_cons hk, he]
  rfl
theorem TabL.set {B K i : Nat} {w : World} {rows : List (Int × Int)} {A : Option Addr} {k c : Nat} {us : List Value} {cs : Array Value} (h : TabL B w rows A k c us) (hK : w.heap[K]? = some (.cells cs 28 (0, 0))) (hB : K < B) (v : Value) : TabL B (w.setCell ⟨K, i, none⟩ v) rows A k c us := by
  have key : ∀ x, x ≠ K → (w.setCell ⟨K, i, none⟩ v).heap[x]? = w.heap[x]? := fun x hx => Below.heap_setCell w ⟨K, i, none⟩ v x hx
  refine ⟨h.len, h.le, ownsRow_same h.own fun g hg => key g fun e => ?_, fun j r hj hr => ?_, by simp; exact h.base⟩
  · have := (ownsRow_lt h.own g hg).1
    omega
  · obtain ⟨b, h1, h2, h3⟩ := h.data j r hj hr
    refine ⟨b, h1, (key b fun e => ?_).trans h2, h3⟩
    rw [e, hK] at h2
    cases h2
theorem info32 : (Try.prog.info? 32).map (fun i => (i.zero, i.size, i.bytes)) = some (some (.agg #[.slice none 0 0, .string .empty]), 2, 40) := by kernel_rfl
def rowSpec (B0 K k n c c2 : Nat) (A A2 : Option Addr) (ea eb : Addr) (r : Int × Int) : Nat → World → Value → Prop
  | 0, _, v => v = .pointer (some ⟨K, 1, none⟩)
  | 1, _, v => v = .slice A2 k c2
  | 2, _, v => v = .func (.func 5) #[] #[]
  | 3, _, v => v = .slice A n c
  | 4, _, v => v = .int .i64 k
  | 5, _, v => v = .pointer (some ea)
  | 6, _, v => v = .pointer (some ea)
  | 7, _, v => v = .int .i8 r.1
  | 8, _, v => v = .string (n8B r.1)
  | 9, w, v => ∃ g, v = .slice (some ⟨g, 0, none⟩) 1 1 ∧ w.heap[g]? = some (.cells #[.string (n8B r.1)] 9 (0, 0)) ∧ B0 ≤ g
  | 10, _, v => v = .func (.func 5) #[] #[]
  | 11, _, v => v = .slice A n c
  | 12, _, v => v = .int .i64 k
  | 13, _, v => v = .pointer (some ea)
  | 14, _, v => v = .pointer (some eb)
  | 15, _, v => v = .int .i8 r.2
  | 16, _, v => v = .string (n8B r.2)
  | 17, w, v => ∃ g, v = .agg #[.slice (some ⟨g, 0, none⟩) 1 1, .string (n8B r.2)] ∧ w.heap[g]? = some (.cells #[.string (n8B r.1)] 9 (0, 0)) ∧ B0 ≤ g
  | 18, w, v => ∃ g h, v = .slice (some ⟨h, 0, none⟩) 1 1 ∧ w.heap[h]? = some (.cells #[.slice (some ⟨g, 0, none⟩) 1 1, .string (n8B r.2)] 32 (0, 0)) ∧ w.heap[g]? = some (.cells #[.string (n8B r.1)] 9 (0, 0)) ∧ B0 ≤ g
  | _, _, _ => True
theorem rowSpec_keep (B0 K k n c c2 : Nat) (A A2 : Option Addr) (ea eb : Addr) (r : Int × Int) (i : Nat) (w w' : World) (v : Value) (h : rowSpec B0 K k n c c2 A A2 ea eb r i w v) (hb : Below w.heap.size w w') : rowSpec B0 K k n c c2 A A2 ea eb r i w' v :=
  match i, h with
  | 0, h => h
  | 1, h => h
  | 2, h => h
  | 3, h => h
  | 4, h => h
  | 5, h => h
  | 6, h => h
  | 7, h => h
  | 8, h => h
  | 9, ⟨g, h1, h2, h3⟩ => ⟨g, h1, (hb.block g (Array.getElem?_eq_some_iff.1 h2).1).trans h2, h3⟩
  | 10, h => h
  | 11, h => h
  | 12, h => h
  | 13, h => h
  | 14, h => h
  | 15, h => h
  | 16, h => h
  | 17, ⟨g, h1, h2, h3⟩ => ⟨g, h1, (hb.block g (Array.getElem?_eq_some_iff.1 h2).1).trans h2, h3⟩
  | 18, ⟨g, h, h1, h2, h3, h4⟩ => ⟨g, h, h1, (hb.block h (Array.getElem?_eq_some_iff.1 h2).1).trans h2, (hb.block g (Array.getElem?_eq_some_iff.1 h3).1).trans h3, h4⟩
  | n + 19, _ => trivial
set_option maxRecDepth 100000 in
set_option maxHeartbeats 4000000 in
theorem modelRows_any {w : World} {rows : List (Int × Int)} {A : Option Addr} {c : Nat} {at_ other : Int} (hA : PairsAt w A rows) (hlen : rows.length ≤ 140737488355328) (hrs : ∀ r ∈ rows, (-128 ≤ r.1 ∧ r.1 ≤ 127) ∧ (-128 ≤ r.2 ∧ r.2 ≤ 127)) (ha : -128 ≤ at_ ∧ at_ ≤ 127) (ho : -128 ≤ other ∧ other ≤ 127) :
    Calls Try.prog 3 #[.slice A rows.length c, .int .i8 at_, .int .i8 other] w fun e w' => e = .returned (.bool true) ∧ Below w.heap.size w w' := by
  have HA := Lib.hid hA
  have Hrs := Lib.hid hrs
  have Ha := Lib.hid ha
  have Ho := Lib.hid ho
  clear hA hrs ha ho
  by_cases h30 : 30 < rows.length
  · have h30i : (30 : Int) < (rows.length : Int) := by omega
    go_enter Try.func3, Try.ntmps3
    go_wp2_with (go_at_call 4; refine Calls.mono (known_any _) ?_; rintro e w1 ⟨rfl, hb1⟩; have Hb1 := Lib.hid hb1; clear hb1)
    go_ret
    exact ⟨rfl, Hb1.out⟩
  · have h30i : ¬ (30 : Int) < (rows.length : Int) := by omega
    obtain ⟨i32, hi32, hz0, hz1, hz2⟩ := info_parts info32
    go_enter Try.func3, Try.ntmps3
    go_wp2_with (first
      | (go_at_call 4; refine Calls.mono (known_any _) ?_; rintro e w1 ⟨rfl, hb1⟩; have Hb1 := Lib.hid hb1; clear hb1)
      | (go_at_call 5; refine Calls.mono (num_any Ho.out.1 Ho.out.2 _) ?_; rintro e w3 ⟨rfl, rfl⟩))
    have HA1 := Lib.hid (HA.out.below Hb1.out)
    have hbox : Below w1.heap.size w1 (w1.alloc (.cells #[.string ⟨#[102]⟩, .slice none 0 0, .string (n8B other)] 28)) := (Below.refl _ _).alloc (Nat.le_refl _) _
    have HA2 := Lib.hid (HA1.out.below (hbox))
    have Hbox := Lib.hid hbox
    clear hbox
    go_loop [9, 10] (fun wv iv => ∃ k : Nat, k ≤ rows.length ∧ iv = .int .i64 ((k : Int) - 1) ∧ wv = .string (n8B (wantI (rows.drop k) at_ other))) (fun _ iv => (Go.RowKit.intOf iv + 1).toNat)
    case atStart => exact ⟨rows.length, Nat.le_refl _, rfl, by rw [List.drop_length]; rfl⟩
    case round =>
      obtain ⟨k, hk, rfl, rfl⟩ := hrel
      cases k with
      | succ j =>
        have hj : ((j + 1 : Nat) : Int) - 1 = (j : Int) := by omega
        have hr : rows[j]? = some rows[j] := List.getElem?_eq_getElem (by omega)
        obtain ⟨b, o, rfl, e1, e2⟩ := PairsAt.get HA2.out hr
        have Hrb := Lib.hid (Hrs.out _ (List.mem_of_getElem? hr))
        have Hw := Lib.hid (wantI_drop hr at_ other)
        have hjl : (j : Int) < (rows.length : Int) := by omega
        clear hr
        generalize rows[j] = r at *
        obtain ⟨r1, r2⟩ := r
        dsimp only at e1 e2
        rw [hj]
        by_cases hat : r1 = at_
        · have heq : (r1 == at_) = true := by simpa using hat
          go_wp2_with (go_at_call 5; refine Calls.mono (num_any Hrb.out.2.1 Hrb.out.2.2 _) ?_; rintro e w3 ⟨rfl, rfl⟩)
          go_round
          case rel => exact ⟨j, by omega, rfl, by rw [Hw.out, if_pos hat]⟩
          case measure => simp [Go.RowKit.intOf]
        · have heq : (r1 == at_) = false := by simpa using hat
          go_wp2_with fail
          go_round
          case rel => exact ⟨j, by omega, rfl, by rw [Hw.out, if_neg hat]⟩
          case measure => simp [Go.RowKit.intOf]
      | zero =>
        have hw0 : wantI (rows.drop 0) at_ other = wantI rows at_ other := rfl
        rw [hw0]
        clear hw0
        have Hval := Lib.hid (rows_value tau0 Hrs.out Ha.out Ho.out)
        generalize wantI rows at_ other = want at *
        go_wp2_with fail
        go_loopw [11] (fun iv wr => ∃ (k c2 : Nat) (A2 : Option Addr), k ≤ rows.length ∧ iv = .int .i64 k ∧ Hid (∃ us, TabL (w1.heap.size + 1) wr rows A2 k c2 us) ∧ Hid (wr.heap[w1.heap.size]? = some (.cells #[.string ⟨#[102]⟩, .slice A2 k c2, .string (n8B other)] 28 (0, 0))) ∧ Hid (Below w1.heap.size w1 wr)) (fun iv _ => rows.length - (Go.RowKit.intOf iv).toNat)
        case atStart => exact ⟨0, 0, none, Nat.zero_le _, rfl, Lib.hid ⟨[], rfl, Nat.zero_le _, World.ownsRow_nil _ _ _ _, fun j r hj => absurd hj (Nat.not_lt_zero _), by simp⟩, Lib.hid (heap_alloc_new _ _), Hbox⟩
        case round =>
          obtain ⟨k, c2, A2, hk, rfl, HT, HR, HB⟩ := hrel
          by_cases hlt : k < rows.length
          · have hr : rows[k]? = some rows[k] := List.getElem?_eq_getElem hlt
            have HAr := Lib.hid (HA1.out.below HB.out)
            obtain ⟨b, o, rfl, e1, e2⟩ := PairsAt.get HAr.out hr
            have Hrb := Hrs.out _ (List.mem_of_getElem? hr)
            have Hr1 := Lib.hid Hrb.1
            have Hr2 := Lib.hid Hrb.2
            have Hr := Lib.hid hr
            have hkl : (k : Int) < (rows.length : Int) := by omega
            have hwl : w1.heap.size < wr.heap.size := (Array.getElem?_eq_some_iff.1 HR.out).1
            have He1 := Lib.hid e1
            have He2 := Lib.hid e2
            clear Hrb hr e1 e2
            generalize rows[k] = r at *
            go_wp2_with fail
            refine wp_region_makesF [0,1,2,3,4,5,6,7,8,9,10,11,12,13,14,15,16,17,18] [19,20,21] (by kernel_rfl) (by kernel_rfl) (rowSpec_keep wr.heap.size w1.heap.size k rows.length c c2 (some ⟨b, o, none⟩) A2 ⟨b, o + k * 2, none⟩ ⟨b, o + k * 2 + 1, none⟩ r) ?_ ?_
            · generalize Exit.then _ _ = Q2
              intro i o9 ho hi a' w' hb hfr hd K hK
              have hbd : Below wr.heap.size wr w' := (Below.refl wr.heap.size wr).drew.trans hb
              have hR' := (hbd.block _ hwl).trans HR.out
              have e1 := cell_of_below hbd (Nat.le_refl _) He1.out
              have e2 := cell_of_below hbd (Nat.le_refl _) He2.out
              have x1 : w'.cell? ⟨w1.heap.size, 1, none⟩ = some (.slice A2 k c2) := by rw [cell_of_row _ _ 1 _ _ _ hR']; rfl
              have hv0 : a'.tmps.getD 0 undef = .slice (some ⟨b, o, none⟩) rows.length c := hfr 0 (by kernel_rfl)
              have hv7 : a'.tmps.getD 7 undef = .func (.func 5) #[] #[] := hfr 7 (by kernel_rfl)
              have hv8 : a'.tmps.getD 8 undef = .pointer (some ⟨w1.heap.size, 0, none⟩) := hfr 8 (by kernel_rfl)
              have hv11 : a'.tmps.getD 11 undef = .int .i64 k := hfr 11 (by kernel_rfl)
              rw [Array.getD_eq_getD_getElem?] at hv0 hv7 hv8 hv11
              have HK := Lib.hid hK
              have Hbs : Hid (wr.heap.size ≤ w'.heap.size) := Lib.hid hbd.size
              clear hb hK hfr hbd hR'
              match i, ho with
          | 0, ho =>
            cases ho
            clear hd
            go_simp
            exact HK.out _ _ rfl (Below.refl _ _)
          | 1, ho =>
            cases ho
            have f1 := hd ⟨0, .data⟩ (by simp) rfl _ _ rfl rfl
            simp only [rowSpec, Array.getD_eq_getD_getElem?] at f1
            clear hd
            go_simp
            exact HK.out _ _ rfl (Below.refl _ _)
          | 2, ho =>
            cases ho
            clear hd
            go_simp
            exact HK.out _ _ rfl (Below.refl _ _)
          | 3, ho =>
            cases ho
            clear hd
            go_simp
            exact HK.out _ _ rfl (Below.refl _ _)
          | 4, ho =>
            cases ho
            clear hd
            go_simp
            exact HK.out _ _ rfl (Below.refl _ _)
          | 5, ho =>
            cases ho
            have f1 := hd ⟨3, .data⟩ (by simp) rfl _ _ rfl rfl
            have f2 := hd ⟨4, .data⟩ (by simp) rfl _ _ rfl rfl
            simp only [rowSpec, Array.getD_eq_getD_getElem?] at f1 f2
            clear hd
            go_simp
            exact HK.out _ _ rfl (Below.refl _ _)
          | 6, ho =>
            cases ho
            have f1 := hd ⟨5, .data⟩ (by simp) rfl _ _ rfl rfl
            simp only [rowSpec, Array.getD_eq_getD_getElem?] at f1
            clear hd
            go_simp
            exact HK.out _ _ rfl (Below.refl _ _)
          | 7, ho =>
            cases ho
            have f1 := hd ⟨6, .data⟩ (by simp) rfl _ _ rfl rfl
            simp only [rowSpec, Array.getD_eq_getD_getElem?] at f1
            clear hd
            go_simp
            exact HK.out _ _ rfl (Below.refl _ _)
          | 8, ho =>
            cases ho
            have f1 := hd ⟨2, .data⟩ (by simp) rfl _ _ rfl rfl
            have f2 := hd ⟨7, .data⟩ (by simp) rfl _ _ rfl rfl
            simp only [rowSpec, Array.getD_eq_getD_getElem?] at f1 f2
            clear hd
            go_simp
            refine (num_any Hr1.out.1 Hr1.out.2 _).mono ?_
            rintro e8 w8 ⟨rfl, rfl⟩
            exact HK.out _ _ rfl (Below.refl _ _)
          | 9, ho =>
            cases ho
            have f1 := hd ⟨8, .data⟩ (by simp) rfl _ _ rfl rfl
            simp only [rowSpec, Array.getD_eq_getD_getElem?] at f1
            clear hd
            go_simp
            exact HK.out _ _ ⟨w'.heap.size, rfl, heap_alloc_new w' _, Hbs.out⟩ ((Below.refl _ _).alloc (Nat.le_refl _) _)
          | 10, ho =>
            cases ho
            clear hd
            go_simp
            exact HK.out _ _ rfl (Below.refl _ _)
          | 11, ho =>
            cases ho
            clear hd
            go_simp
            exact HK.out _ _ rfl (Below.refl _ _)
          | 12, ho =>
            cases ho
            clear hd
            go_simp
            exact HK.out _ _ rfl (Below.refl _ _)
          | 13, ho =>
            cases ho
            have f1 := hd ⟨11, .data⟩ (by simp) rfl _ _ rfl rfl
            have f2 := hd ⟨12, .data⟩ (by simp) rfl _ _ rfl rfl
            simp only [rowSpec, Array.getD_eq_getD_getElem?] at f1 f2
            clear hd
            go_simp
            exact HK.out _ _ rfl (Below.refl _ _)
          | 14, ho =>
            cases ho
            have f1 := hd ⟨13, .data⟩ (by simp) rfl _ _ rfl rfl
            simp only [rowSpec, Array.getD_eq_getD_getElem?] at f1
            clear hd
            go_simp
            exact HK.out _ _ rfl (Below.refl _ _)
          | 15, ho =>
            cases ho
            have f1 := hd ⟨14, .data⟩ (by simp) rfl _ _ rfl rfl
            simp only [rowSpec, Array.getD_eq_getD_getElem?] at f1
            clear hd
            go_simp
            exact HK.out _ _ rfl (Below.refl _ _)
          | 16, ho =>
            cases ho
            have f1 := hd ⟨10, .data⟩ (by simp) rfl _ _ rfl rfl
            have f2 := hd ⟨15, .data⟩ (by simp) rfl _ _ rfl rfl
            simp only [rowSpec, Array.getD_eq_getD_getElem?] at f1 f2
            clear hd
            go_simp
            refine (num_any Hr2.out.1 Hr2.out.2 _).mono ?_
            rintro e8 w8 ⟨rfl, rfl⟩
            exact HK.out _ _ rfl (Below.refl _ _)
          | 17, ho =>
            cases ho
            obtain ⟨g, f1, f2, f3⟩ := hd ⟨9, .data⟩ (by simp) rfl _ _ rfl rfl
            have f4 := hd ⟨16, .data⟩ (by simp) rfl _ _ rfl rfl
            simp only [rowSpec, Array.getD_eq_getD_getElem?] at f1 f4
            have F2 := Lib.hid f2
            have F3 := Lib.hid f3
            clear hd f2 f3
            go_simp
            exact HK.out _ _ ⟨g, rfl, F2.out, F3.out⟩ (Below.refl _ _)
          | 18, ho =>
            cases ho
            obtain ⟨g, f1, f2, f3⟩ := hd ⟨17, .data⟩ (by simp) rfl _ _ rfl rfl
            simp only [rowSpec, Array.getD_eq_getD_getElem?] at f1
            have F2 := Lib.hid f2
            have F3 := Lib.hid f3
            clear hd f2 f3
            go_simp
            exact HK.out _ _ ⟨g, w'.heap.size, rfl, heap_alloc_new w' _, ((((Below.refl w'.heap.size w').alloc (Nat.le_refl _) _).block g (Array.getElem?_eq_some_iff.1 F2.out).1).trans F2.out), F3.out⟩ ((Below.refl _ _).alloc (Nat.le_refl _) _)
          | 19, ho => exact absurd (by simp) hi
          | 20, ho => exact absurd (by simp) hi
          | 21, ho => exact absurd (by simp) hi
          | n + 22, ho => simp at ho
            · intro fuel listed a' w8 hc hm hall
              obtain ⟨gg, ha, hh⟩ := hm.act (ds := [55,56,57,58,59,60,61,62,63,64,65,66,67,68,69,70,71,72,73]) (by kernel_rfl)
              have hl : listed = #[true,true,true,true,true,true,true,true,true,true,true,true,true,true,true,true,true,true,true,false,false,false] := by
                have hs : listed.size = 22 := hm.size
                have n19 := getD_both (hm.rest 19 (by simp))
                have n20 := getD_both (hm.rest 20 (by simp))
                have n21 := getD_both (hm.rest 21 (by simp))
                rw [listed_all listed, hs]
                simp only [List.range, List.range.loop, List.map, n19, n20, n21, hall 0 (by simp), hall 1 (by simp), hall 2 (by simp), hall 3 (by simp), hall 4 (by simp), hall 5 (by simp), hall 6 (by simp), hall 7 (by simp), hall 8 (by simp), hall 9 (by simp), hall 10 (by simp), hall 11 (by simp), hall 12 (by simp), hall 13 (by simp), hall 14 (by simp), hall 15 (by simp), hall 16 (by simp), hall 17 (by simp), hall 18 (by simp)]
              have eL : gg 56 = .slice A2 k c2 := hh 1 _ _ (hall 1 (by simp)) rfl rfl
              obtain ⟨gs, gh, e18, hh18, hs18, hge⟩ := hh 18 _ _ (hall 18 (by simp)) rfl rfl
              have hbd : Below wr.heap.size wr w8 := (Below.refl wr.heap.size wr).drew.trans hm.inv
              have HB8 := Lib.hid hbd
              have HH := Lib.hid hh18
              have HS := Lib.hid hs18
              have HG := Lib.hid hge
              subst hl
              clear hm hall hh hh18 hs18 hge hbd
              subst ha
              simp only [setAll]
              rw [eL, e18]
              clear eL e18
              generalize gg 55 = g55, gg 57 = g57, gg 58 = g58, gg 59 = g59, gg 60 = g60, gg 61 = g61, gg 62 = g62, gg 63 = g63, gg 64 = g64, gg 65 = g65, gg 66 = g66, gg 67 = g67, gg 68 = g68, gg 69 = g69, gg 70 = g70, gg 71 = g71, gg 72 = g72
              simp only [Act.put, List.setIfInBounds_toArray, List.set_cons_zero, List.set_cons_succ]
              obtain ⟨f2, rfl⟩ : ∃ f2, fuel = f2 + 3 := ⟨fuel - 3, by simp at hc; omega⟩
              clear hc
              obtain ⟨us, HU⟩ : ∃ us, Hid (TabL (w1.heap.size + 1) wr rows A2 k c2 us) := by obtain ⟨us, hu⟩ := HT.out; exact ⟨us, Lib.hid hu⟩
              have HU8 := Lib.hid (HU.out.below HB8.out)
              have hR8 := (HB8.out.block _ hwl).trans HR.out
              have hs8 := HB8.out.size
              refine wpAny_ready (rs := [19]) (by kernel_rfl) (by simp) ?_
              refine AllReady.cons rfl (fun K3 hK3 => ?_) AllReady.nil
              refine step_append_row _ (by rfl) _ _ 26 (by rfl) (w1.heap.size + 1) 32 i32 _ 2 40 Try.underlying26 hi32 hz0 hz1 hz2 rfl (by decide) (.slice A2 k c2) k (cellsOf us) (by rfl) HU8.out.own ⟨gh, 0, none⟩ 1 #[.slice (some ⟨gs, 0, none⟩) 1 1, .string (n8B r.2)] (by rfl) rfl HH.out rfl rfl (by intro y hy; simp at hy; rcases hy with rfl | rfl <;> rfl) (by simp only [maxLen]; omega) (by omega) HU8.out.base ?_
              intro g9 cap9 w9 hq9 hg9 hat9
              have hold : ∀ j, (Value.slice A2 k c2).ownBlock = some j → w1.heap.size + 1 ≤ j ∧ j < wr.heap.size := fun j hj => ⟨(ownsRow_lt HU8.out.own j hj).1, by obtain ⟨_, cur, hcu⟩ := ownsRow_lt HU.out.own j hj; exact (Array.getElem?_eq_some_iff.1 hcu).1⟩
              have HU9 := Lib.hid (HU8.out.append Hr.out HS.out (fun e => by have := (hold _ e).2; have := HG.out; omega) hq9 hg9 hat9)
              have hR9 : w9.heap[w1.heap.size]? = some (.cells #[.string ⟨#[102]⟩, .slice A2 k c2, .string (n8B other)] 28 (0, 0)) := (hg9.block _ (by omega) (fun e => by have := (hold _ e.symm).1; omega)).trans hR8
              have hz9 := hg9.size
              have HBx : Hid (Below w1.heap.size w1 w9) := Lib.hid ((HB.out.trans (HB8.out.mono HB.out.size)).grown hg9 (by omega) (fun j hj => by have := (hold j hj).1; omega))
              have HR9 := Lib.hid hR9
              have c9 : w9.cell? ⟨w1.heap.size, 1, none⟩ = some (.slice A2 k c2) := by rw [cell_of_row _ _ 1 _ _ _ hR9]; rfl
              have fz9 : w9.frozen? ⟨w1.heap.size, 1, none⟩ = false := frozen_of_row w9 w1.heap.size 1 _ 28 hR9
              have hv8 : w1.heap.size < w9.heap.size := by omega
              clear hq9 hg9 hat9 hR9 hold
              refine hK3 _ _ ?_
              clear hK3 K3
              try simp only [Act.put, List.setIfInBounds_toArray, List.set_cons_zero, List.set_cons_succ]
              refine wpAny_ready (rs := [20]) (by kernel_rfl) (by simp) ?_
              refine AllReady.cons rfl (fun K3 hK3 => ?_) AllReady.nil
              go_simp
              refine hK3 _ _ ?_
              clear hK3 K3
              try simp only [Act.put, List.setIfInBounds_toArray, List.set_cons_zero, List.set_cons_succ]
              refine wpAny_ready (rs := [21]) (by kernel_rfl) (by simp) ?_
              refine AllReady.cons rfl (fun K3 hK3 => ?_) AllReady.nil
              go_simp
              refine hK3 _ _ (wpAny_done (by kernel_rfl) ?_ _)
              clear hK3 K3
              try dsimp only [Exit.then]
              go_wp2_with fail
              go_roundw
              case rel => exact ⟨k + 1, cap9, some ⟨g9, 0, none⟩, by omega, by go_num, Lib.hid ⟨_, HU9.out.set HR9.out (by omega) _⟩, Lib.hid (heap_setCell_same w9 w1.heap.size 1 _ 28 _ HR9.out), Lib.hid (HBx.out.setCell (p := ⟨w1.heap.size, 1, none⟩) (Nat.le_refl _) _)⟩
              case measure => simp [Go.RowKit.intOf]; omega
          · have hkl : k = rows.length := by omega
            subst hkl
            have hR0 := HR.out
            have x0 : wr.cell? ⟨w1.heap.size, 0, none⟩ = some (.string ⟨#[102]⟩) := by rw [cell_of_row _ _ 0 _ _ _ hR0]; rfl
            have x1 : wr.cell? ⟨w1.heap.size, 1, none⟩ = some (.slice A2 rows.length c2) := by rw [cell_of_row _ _ 1 _ _ _ hR0]; rfl
            have x2 : wr.cell? ⟨w1.heap.size, 2, none⟩ = some (.string (n8B other)) := by rw [cell_of_row _ _ 2 _ _ _ hR0]; rfl
            have hwl : w1.heap.size < wr.heap.size := (Array.getElem?_eq_some_iff.1 hR0).1
            clear hR0
            have q1 : w1.heap.size < wr.heap.size + 1 := by omega
            have q2 : w1.heap.size < wr.heap.size + 1 + 1 := by omega
            have q3 : w1.heap.size < wr.heap.size + 1 + 1 + 1 := by omega
            have q4 : w1.heap.size < wr.heap.size + 1 + 1 + 1 + 1 := by omega
            have n0 : ¬ w1.heap.size = wr.heap.size := by omega
            have n1 : ¬ w1.heap.size = wr.heap.size + 1 := by omega
            have n2 : ¬ w1.heap.size = wr.heap.size + 1 + 1 := by omega
            have n3 : ¬ w1.heap.size = wr.heap.size + 1 + 1 + 1 := by omega
            have n4 : ¬ w1.heap.size = wr.heap.size + 1 + 1 + 1 + 1 := by omega
            obtain ⟨us, hus⟩ := HT.out
            obtain ⟨hrw, hcap⟩ := hus.done Hrs.out
            obtain ⟨W5, hW5⟩ : ∃ W5, W5 = ((((wr.alloc (.cells #[.int .i64 1] 3)).alloc (.cells #[.string ⟨#[102]⟩, .slice (some ⟨wr.heap.size, 0, none⟩) 1 1, .int .i64 1] 35)).alloc (.cells #[.int .i64 1, .string ⟨#[]⟩, .int .i64 0, .string (n8B at_), .slice none 0 0, .slice none 0 0, .slice none 0 0] 40)).alloc (.cells #[.int .i64 17, .string ⟨#[102]⟩, .int .i64 0, .string ⟨#[]⟩, .slice (some ⟨wr.heap.size + 1 + 1, 0, none⟩) 1 1, .slice none 0 0, .slice none 0 0] 40)).alloc (.cells #[.string ⟨#[102]⟩, .slice A2 rows.length c2, .string (n8B other), .string ⟨#[102]⟩, .slice none 0 0, .string ⟨#[55, 55]⟩] 28) := ⟨_, rfl⟩
            have Hcall := Lib.hid (rows_call hrw hcap (by omega) Hrs.out Ha.out Ho.out Hval.out hW5)
            have HW5 := Lib.hid hW5
            clear hrw hcap hus hW5 HT
            go_wp2_with (first
              | (go_at_call 5; refine Calls.mono (num_any Ha.out.1 Ha.out.2 _) ?_; rintro e w3 ⟨rfl, rfl⟩)
              | (go_at_call 6; rw [← HW5.out]; refine Calls.mono Hcall.out ?_; rintro e w6 ⟨rfl, hb6⟩; have Hb6 := Lib.hid hb6; clear hb6))
            go_ret
            exact ⟨rfl, Hb1.out.trans ((HB.out.trans (Hb6.out.mono HB.out.size)).mono Hb1.out.size)⟩
end Go.Proofs.Ytbnonccmlildnaa
