/- Lists that the call itself owns, wherever they begin in their row: appended to, cut from the left. -/
import Derived.Test.YtbnonccmlildnaaGreatM7
import Derived.ArgAppend
import Derived.Maps.AppendAt
import Derived.Deep.RegionLaw
set_option linter.unusedSimpArgs false
set_option linter.unusedVariables false
namespace Go.Proofs.YtbnonccmlildnaaGreat
open Go.RowKit

/-- The slice v owns the one-cell elements xs. -/
def OwnQ (w : World) (base : Nat) (e : TypeId) (v : Value) (xs : List Value) : Prop :=
  (v = .slice none 0 0 ∧ xs = []) ∨
  ∃ g o cap cur, v = .slice (some ⟨g, o, none⟩) xs.length cap ∧ base ≤ g ∧ w.heap[g]? = some (.cells cur e (0, 0)) ∧ xs.length ≤ cap ∧ cap ≤ maxLen ∧ o + cap ≤ cur.size ∧
    ∀ j u, xs[j]? = some u → cur[o + j]? = some u

theorem OwnQ.nil (w : World) (base : Nat) (e : TypeId) : OwnQ w base e (.slice none 0 0) [] := .inl ⟨rfl, rfl⟩
theorem OwnQ.lt {w : World} {base : Nat} {e : TypeId} {v : Value} {xs : List Value} (h : OwnQ w base e v xs) : ∀ g, v.ownBlock = some g → base ≤ g ∧ g < w.heap.size := by
  intro g hg
  rcases h with ⟨rfl, _⟩ | ⟨g', o, cap, cur, rfl, hb, hh, _⟩
  · simp [Value.ownBlock] at hg
  · simp [Value.ownBlock] at hg
    subst hg
    exact ⟨hb, (Array.getElem?_eq_some_iff.1 hh).1⟩
theorem OwnQ.typed {w : World} {base : Nat} {e : TypeId} {v : Value} {xs : List Value} (h : OwnQ w base e v xs) : ∀ g, v.ownBlock = some g → ∃ cur, w.heap[g]? = some (.cells cur e (0, 0)) := by
  intro g hg
  rcases h with ⟨rfl, _⟩ | ⟨g', o, cap, cur, rfl, hb, hh, _⟩
  · simp [Value.ownBlock] at hg
  · simp [Value.ownBlock] at hg
    subst hg
    exact ⟨cur, hh⟩
theorem OwnQ.same {w w' : World} {base : Nat} {e : TypeId} {v : Value} {xs : List Value} (h : OwnQ w base e v xs) (hs : ∀ g, v.ownBlock = some g → w'.heap[g]? = w.heap[g]?) : OwnQ w' base e v xs := by
  rcases h with h | ⟨g, o, cap, cur, rfl, hb, hh, r⟩
  · exact .inl h
  · exact .inr ⟨g, o, cap, cur, rfl, hb, (hs g (by simp [Value.ownBlock])).trans hh, r⟩
theorem OwnQ.lower {w : World} {base base' : Nat} {e : TypeId} {v : Value} {xs : List Value} (h : OwnQ w base e v xs) (hb' : base' ≤ base) : OwnQ w base' e v xs := by
  rcases h with h | ⟨g, o, cap, cur, rfl, hb, r⟩
  · exact .inl h
  · exact .inr ⟨g, o, cap, cur, rfl, by omega, r⟩
theorem OwnQ.cells {w : World} {base : Nat} {e : TypeId} {v : Value} {xs : List Value} (h : OwnQ w base e v xs) : ∃ A c, v = .slice A xs.length c ∧ xs.length ≤ c ∧ Cells w A xs := by
  rcases h with ⟨rfl, rfl⟩ | ⟨g, o, cap, cur, rfl, hb, hh, h1, h2, h3, h4⟩
  · exact ⟨none, 0, rfl, Nat.le_refl _, .inl ⟨rfl, rfl⟩⟩
  · exact ⟨_, _, rfl, h1, .inr ⟨g, o, rfl, fun j u hj => by rw [cell_of_row w g (o + j) cur e (0, 0) hh]; exact h4 j u hj⟩⟩
/-- All but the first one. -/
theorem OwnQ.tail {w : World} {base : Nat} {e : TypeId} {g o n cap : Nat} {x : Value} {xs : List Value} (h : OwnQ w base e (.slice (some ⟨g, o, none⟩) n cap) (x :: xs)) :
    OwnQ w base e (.slice (some (if cap = 1 then ⟨g, o, none⟩ else ⟨g, o + 1, none⟩)) (n - 1) (cap - 1)) xs := by
  rcases h with ⟨h, _⟩ | ⟨g', o', cap', cur, hv, hb, hh, h1, h2, h3, h4⟩
  · cases h
  · simp only [Value.slice.injEq, Option.some.injEq, Addr.mk.injEq, and_true] at hv
    obtain ⟨⟨rfl, rfl⟩, rfl, rfl⟩ := hv
    simp only [List.length_cons] at h1
    by_cases hc : cap = 1
    · have hx : xs = [] := List.eq_nil_of_length_eq_zero (by omega)
      subst hx
      refine .inr ⟨g, o, cap - 1, cur, by simp [hc], hb, hh, by simp, by omega, by omega, by simp⟩
    · refine .inr ⟨g, o + 1, cap - 1, cur, by simp [hc], hb, hh, by omega, by omega, by omega, fun j u hj => ?_⟩
      have := h4 (j + 1) u (by simpa using hj)
      rw [← this]
      congr 1
      omega

theorem setCells_heap (w : World) (g : Nat) : ∀ (vs : List Value) (o : Nat) (k : Nat), k ≠ g → (w.setCells g o vs).heap[k]? = w.heap[k]? := by
  intro vs
  induction vs generalizing w with
  | nil => intro o k _; rfl
  | cons v vs ih =>
    intro o k hk
    unfold World.setCells
    rw [ih _ _ _ hk]
    exact Below.heap_setCell w _ _ k hk

/-- One element appended: some value, in some world. -/
theorem run_append_q {P : Program} (w : World) (base : Nat) (t ty e : TypeId) (i : TypeInfo) (z : Value) (bytes : Nat) (ht : P.underlying t = some (.slice e)) (hi : P.info? e = some i) (hz : i.zero = some z)
    (hsize : i.size = 1) (hby : i.bytes = bytes) (hzs : z.cells.size = 1)
    (v : Value) (xs : List Value) (hown : OwnQ w base e v xs) (ad : Addr) (c : Nat) (x : Value) (hx : w.cell? ad = some x) (h1 : x.oneCell' = true)
    (h63 : xs.length + 1 ≤ maxLen) (hbytes : (xs.length + 1) * bytes ≤ 140737488355328) (hbase : base ≤ w.heap.size) :
    ∃ v' w', (Builtin.append_ #[t, t] ty #[v, .slice (some ad) 1 c]).run P w = .ok v' w' ∧ OwnQ w' base e v' (xs ++ [x]) ∧ w.grownBy w' v.ownBlock ∧ (v'.ownBlock = v.ownBlock ∨ v'.ownBlock = some w.heap.size) := by
  have hnews : ∀ j u, [x][j]? = some u → w.cell? (ad.add j) = some u := by
    intro j u hj
    match j, hj with
    | 0, hj =>
      simp at hj
      subst hj
      simpa [Addr.add] using hx
  have own_of : ∀ (v' : Value) (w' : World), w'.ownsRow w.heap.size e 1 v' (xs.length + 1) (xs ++ [x]) → OwnQ w' base e v' (xs ++ [x]) ∧ ∃ g, v'.ownBlock = some g ∧ w.heap.size ≤ g := by
    intro v' w' ho
    rcases ho.2 with ⟨_, h0⟩ | ⟨g, cap, cur, rfl, hb, hh, hn, hc, hcs, htake⟩
    · omega
    · refine ⟨.inr ⟨g, 0, cap, cur, by simp, by omega, hh, by simpa using hn, hc, by omega, fun j u hj => ?_⟩, g, by simp [Value.ownBlock], hb⟩
      rw [← htake, List.getElem?_take] at hj
      split at hj
      · simpa using hj
      · cases hj
  rcases hown with ⟨rfl, rfl⟩ | ⟨g, o, cap, cur, rfl, hb, hh, hn, hc, hcs, hcells⟩
  · obtain ⟨v', w', hr, h2, h3, _, h4⟩ := run_append_own_at (P := P) w w.heap.size t ty e i z 1 bytes ht hi hz hsize hby hzs (by omega) (.slice none 0 0) 0 [] (World.ownsRow_nil w _ e 1) ad 1 c [x] (by simp) hnews (by simpa using h1) (by simpa using h63) (by simpa using hbytes) (Nat.le_refl _)
    obtain ⟨h5, g, h6, h7⟩ := own_of v' w' (by simpa using h2)
    exact ⟨v', w', hr, h5, h3, h4⟩
  · by_cases hroom : xs.length + 1 ≤ cap
    · have hr := run_append_room_cells (P := P) w t ty e i ht hi g o xs.length cap ad 1 c [x] (by simp [hsize]) hnews (by simpa using h1) hroom
        (fun j hj => by
          have : j = 0 := by simpa using hj
          subst this
          rw [cell_of_row w g _ cur e (0, 0) hh, hsize]
          simp
          omega)
        (fun j hj => by simp [World.frozen?, hh])
      rw [hsize] at hr
      refine ⟨_, _, hr, .inr ⟨g, o, cap, cur.setIfInBounds (o + xs.length) x, by simp, hb, ?_, by simpa using hroom, hc, by simpa using hcs, fun j u hj => ?_⟩, ⟨rfl, rfl, rfl, by simp [World.setCells, World.setCell], fun k hk hne => setCells_heap w g _ _ k (fun e1 => hne (by simp [Value.ownBlock, e1]))⟩, .inl rfl⟩
      · simp [World.setCells, World.setCell, Array.getElem?_modify, hh]
      · rw [List.getElem?_append] at hj
        split at hj
        · rename_i hlt
          rw [Array.getElem?_setIfInBounds_ne (by omega)]
          exact hcells j u hj
        · rename_i hge
          have hj0 : j - xs.length = 0 := by
            rcases Nat.eq_zero_or_pos (j - xs.length) with h | h
            · exact h
            · rw [List.getElem?_eq_none (by simp; omega)] at hj
              cases hj
          rw [hj0] at hj
          simp at hj
          subst hj
          have : j = xs.length := by omega
          subst this
          rw [Array.getElem?_setIfInBounds_self_of_lt (by omega)]
    · have hr := run_append_grow (P := P) w t ty e i z ht hi hz ⟨g, o, none⟩ xs.length cap xs (by simp [hsize]) (fun j u hj => by rw [Addr.add_lit, cell_of_row w g _ cur e (0, 0) hh]; exact hcells j u hj) ad 1 c [x] (by simp [hsize]) hnews (by omega)
        (by simp only [maxLen] at h63; omega) (growslice_fits (by omega) (by rw [hby]; exact hbytes))
      have hge := grownCap_ge w (xs.length + 1) cap e
      refine ⟨_, _, hr, .inr ⟨w.heap.size, 0, _, _, by simp, hbase, heap_alloc_new w.drew _, by simpa using hge, grownCap_le_maxLen w _ cap e h63, ?_, fun j u hj => ?_⟩, ⟨rfl, rfl, rfl, by simp, fun k hk _ => Below.heap_alloc w.drew _ k hk⟩, .inr rfl⟩
      · simp only [Array.size_append, List.size_toArray, size_zeroCells, hzs]
        simp only [List.length_cons, List.length_nil]
        omega
      · have hlt : j < (xs ++ [x]).length := by
          rcases Nat.lt_or_ge j (xs ++ [x]).length with h | h
          · exact h
          · rw [List.getElem?_eq_none h] at hj
            cases hj
        rw [Nat.zero_add, ← Array.getElem?_toList]
        simp only [Array.toList_append]
        rw [List.getElem?_append_left (by simpa using hlt)]
        simpa using hj

/-- .. with the new slice written out. -/
theorem run_append_qq {P : Program} (w : World) (base : Nat) (t ty e : TypeId) (i : TypeInfo) (z : Value) (bytes : Nat) (ht : P.underlying t = some (.slice e)) (hi : P.info? e = some i) (hz : i.zero = some z)
    (hsize : i.size = 1) (hby : i.bytes = bytes) (hzs : z.cells.size = 1)
    (v : Value) (xs : List Value) (hown : OwnQ w base e v xs) (ad : Addr) (c : Nat) (x : Value) (hx : w.cell? ad = some x) (h1 : x.oneCell' = true)
    (h63 : xs.length + 1 ≤ maxLen) (hbytes : (xs.length + 1) * bytes ≤ 140737488355328) (hbase : base ≤ w.heap.size) :
    ∃ g o cap w', (Builtin.append_ #[t, t] ty #[v, .slice (some ad) 1 c]).run P w = .ok (.slice (some ⟨g, o, none⟩) (xs.length + 1) cap) w' ∧ OwnQ w' base e (.slice (some ⟨g, o, none⟩) (xs.length + 1) cap) (xs ++ [x]) ∧ w.grownBy w' v.ownBlock ∧ (v.ownBlock = some g ∨ g = w.heap.size) := by
  obtain ⟨v', w', hr, h2, h3, h4⟩ := run_append_q (P := P) w base t ty e i z bytes ht hi hz hsize hby hzs v xs hown ad c x hx h1 h63 hbytes hbase
  rcases h2 with ⟨_, h2⟩ | ⟨g, o, cap, cur, rfl, r⟩
  · simp at h2
  · simp only [List.length_append, List.length_cons, List.length_nil] at hr
    refine ⟨g, o, cap, w', hr, .inr ⟨g, o, cap, cur, by simp, r⟩, h3, ?_⟩
    rcases h4 with h4 | h4
    · exact .inl (by rw [← h4]; rfl)
    · exact .inr (by simpa [Value.ownBlock] using h4)

/-- At the operation, in a walk. -/
theorem wpList_append_q {P : Program} (w : World) {ops : Array Oper} {rest : List Oper} {o : Oper} {a : Act} {Q : Exit → Act → World → Prop} (hgd : o.guard = none) (s x : Operand) (t : TypeId)
    (ho : o.op = .call { callee := .builtin .append, args := #[s, x], argTypes := #[t, t] })
    (base : Nat) (e : TypeId) (i : TypeInfo) (z : Value) (bytes : Nat) (ht : P.underlying t = some (.slice e)) (hi : P.info? e = some i) (hz : i.zero = some z)
    (hsize : i.size = 1) (hby : i.bytes = bytes) (hzs : z.cells.size = 1)
    (v : Value) (xs : List Value) (hs : a.eval s = v) (hown : OwnQ w base e v xs) (ad : Addr) (c : Nat) (u : Value) (hx : a.eval x = .slice (some ad) 1 c) (hc : w.cell? ad = some u) (h1 : u.oneCell' = true)
    (h63 : xs.length + 1 ≤ maxLen) (hbytes : (xs.length + 1) * bytes ≤ 140737488355328) (hbase : base ≤ w.heap.size)
    (h : ∀ g of cap w', OwnQ w' base e (.slice (some ⟨g, of, none⟩) (xs.length + 1) cap) (xs ++ [u]) → w.grownBy w' v.ownBlock → (v.ownBlock = some g ∨ g = w.heap.size) → wpList P ops Q rest (a.put o.dst (.slice (some ⟨g, of, none⟩) (xs.length + 1) cap)) w') :
    wpList P ops Q (o :: rest) a w := by
  refine wpList_plain hgd fun K hK => ?_
  obtain ⟨g, of, cap, w', hr, h2, h3, h4⟩ := run_append_qq (P := P) w base t o.type e i z bytes ht hi hz hsize hby hzs v xs hown ad c u hc h1 h63 hbytes hbase
  unfold Oper.wp execOp
  simp only [ho, resolve, invoke, builtin, Sem.run_bind, Sem.run_pure, Result.andThen_ok, List.map_toArray, List.map_cons, List.map_nil, hs, hx, hr]
  exact hK _ _ (h g of cap w' h2 h3 h4)
/-- As one step of a region that draws. -/
theorem step_append_q {P : Program} (w : World) {ops : Array Oper} {o : Oper} {a : Act} {K : Act → World → Prop} {Q : Exit → Act → World → Prop} {E : Prop} (hgd : o.guard = none) (s x : Operand) (t : TypeId)
    (ho : o.op = .call { callee := .builtin .append, args := #[s, x], argTypes := #[t, t] })
    (base : Nat) (e : TypeId) (i : TypeInfo) (z : Value) (bytes : Nat) (ht : P.underlying t = some (.slice e)) (hi : P.info? e = some i) (hz : i.zero = some z)
    (hsize : i.size = 1) (hby : i.bytes = bytes) (hzs : z.cells.size = 1)
    (v : Value) (xs : List Value) (hs : a.eval s = v) (hown : OwnQ w base e v xs) (ad : Addr) (c : Nat) (u : Value) (hx : a.eval x = .slice (some ad) 1 c) (hc : w.cell? ad = some u) (h1 : u.oneCell' = true)
    (h63 : xs.length + 1 ≤ maxLen) (hbytes : (xs.length + 1) * bytes ≤ 140737488355328) (hbase : base ≤ w.heap.size)
    (h : ∀ g of cap w', OwnQ w' base e (.slice (some ⟨g, of, none⟩) (xs.length + 1) cap) (xs ++ [u]) → w.grownBy w' v.ownBlock → (v.ownBlock = some g ∨ g = w.heap.size) → K (a.put o.dst (.slice (some ⟨g, of, none⟩) (xs.length + 1) cap)) w') :
    if Region.wanted o (yielded ops a.tmps) = true then Oper.wp P o a w K Q else E := by
  have hw : Region.wanted o (yielded ops a.tmps) = true := by simp [Region.wanted, hgd]
  rw [if_pos hw]
  obtain ⟨g, of, cap, w', hr, h2, h3, h4⟩ := run_append_qq (P := P) w base t o.type e i z bytes ht hi hz hsize hby hzs v xs hown ad c u hc h1 h63 hbytes hbase
  unfold Oper.wp execOp
  simp only [ho, resolve, invoke, builtin, Sem.run_bind, Sem.run_pure, Result.andThen_ok, List.map_toArray, List.map_cons, List.map_nil, hs, hx, hr]
  exact h g of cap w' h2 h3 h4
end Go.Proofs.YtbnonccmlildnaaGreat
