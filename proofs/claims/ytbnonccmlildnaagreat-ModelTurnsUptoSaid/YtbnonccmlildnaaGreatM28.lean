/- The stacks: pushed, taken back. -/
import Derived.Test.YtbnonccmlildnaaGreatM27
import Derived.Deep.RegionLaw
import Derived.Maps.AppendAt
set_option linter.unusedSimpArgs false
set_option linter.unusedVariables false
namespace Go.Proofs.YtbnonccmlildnaaGreat
open Go.RowKit

/-- append of one element, as a step of a region that draws. -/
theorem step_append_one {P : Program} (w : World) {ops : Array Oper} {o : Oper} {a : Act} {K : Act → World → Prop} {Q : Exit → Act → World → Prop} {E : Prop} (hgd : o.guard = none) (s x : Operand) (t : TypeId)
    (ho : o.op = .call { callee := .builtin .append, args := #[s, x], argTypes := #[t, t] }) (base : Nat) (e : TypeId) (i : TypeInfo) (z : Value) (bytes : Nat) (ht : P.underlying t = some (.slice e)) (hi : P.info? e = some i) (hz : i.zero = some z)
    (hsize : i.size = 1) (hby : i.bytes = bytes) (hzs : z.cells.size = 1) (v : Value) (n : Nat) (xs : List Value) (hs : a.eval s = v) (hown : w.ownsRow base e 1 v n xs) (ad : Addr) (c : Nat) (u : Value) (hx : a.eval x = .slice (some ad) 1 c)
    (hc : w.cell? ad = some u) (h1 : u.oneCell' = true) (h63 : n + 1 ≤ maxLen) (hbytes : (n + 1) * bytes ≤ 140737488355328) (hbase : base ≤ w.heap.size)
    (h : ∀ g cap w', w'.ownsRow base e 1 (.slice (some ⟨g, 0, none⟩) (n + 1) cap) (n + 1) (xs ++ [u]) → w.grownBy w' v.ownBlock → (v.ownBlock = some g ∨ g = w.heap.size) → K (a.put o.dst (.slice (some ⟨g, 0, none⟩) (n + 1) cap)) w') :
    if Region.wanted o (yielded ops a.tmps) = true then Oper.wp P o a w K Q else E := by
  have hw : Region.wanted o (yielded ops a.tmps) = true := by simp [Region.wanted, hgd]
  rw [if_pos hw]
  obtain ⟨v', w', hr, hq, hg, hnil, hat⟩ := run_append_own_at (P := P) w base t o.type e i z 1 bytes ht hi hz hsize hby hzs (by decide) v n xs hown ad 1 c [u] rfl (fun j y hj => by
    match j, hj with
    | 0, hj =>
      simp at hj
      subst hj
      have : ad.add 0 = ad := by unfold Addr.add; cases h : ad.spot <;> simp_all
      rw [this]
      exact hc) (fun y hy => by simp at hy; subst hy; exact h1) h63 hbytes hbase
  rcases hq.2 with ⟨_, hn⟩ | ⟨g, cap, cur, rfl, r⟩
  · omega
  · unfold Oper.wp execOp
    simp only [ho, resolve, invoke, builtin, Sem.run_bind, Sem.run_pure, Result.andThen_ok, List.map_toArray, List.map_cons, List.map_nil, hs, hx, hr]
    refine h g cap w' hq hg ?_
    rcases hat with hat | hat
    · exact .inl hat.symm
    · exact .inr (by simpa [Value.ownBlock] using hat)
section
variable {M : Mdl} {a : Nat} {ns : List ByteArray} {bs : List Nat} {nv bv : Value} {w w9 : World}
theorem row_set {w : World} {g : Nat} {cs cs' : Array Value} {T i : Nat} {v : Value} (h : w.heap[g]? = some (.cells cs T (0, 0))) (he : cs.setIfInBounds i v = cs') : (w.setCell ⟨g, i, none⟩ v).heap[g]? = some (.cells cs' T (0, 0)) := by
  rw [← he]
  exact heap_setCell_same w g i _ T v h
theorem St.pushN (h : St M a ns bs nv bv w) {x : ByteArray} {g cap : Nat} (hq : w9.ownsRow M.w0.heap.size 9 1 (.slice (some ⟨g, 0, none⟩) (ns.length + 1) cap) (ns.length + 1) (ns.map Value.string ++ [.string x])) (hg : w.grownBy w9 nv.ownBlock) (hat : nv.ownBlock = some g ∨ w.heap.size ≤ g) :
    St M a (ns ++ [x]) bs (.slice (some ⟨g, 0, none⟩) (ns.length + 1) cap) bv (w9.setCell ⟨a, 4, none⟩ (.slice (some ⟨g, 0, none⟩) (ns.length + 1) cap)) ∧ Fr (stK a nv bv) (stK a (.slice (some ⟨g, 0, none⟩) (ns.length + 1) cap) bv) w (w9.setCell ⟨a, 4, none⟩ (.slice (some ⟨g, 0, none⟩) (ns.length + 1) cap)) := by
  have hna : nv.ownBlock ≠ some a := fun e => by
    obtain ⟨_, _, cur, hc⟩ := own_block h.names e
    rw [h.row] at hc
    cases hc
  have hnb : ∀ k, bv.ownBlock = some k → nv.ownBlock ≠ some k := fun k hk e => by
    obtain ⟨_, _, cur, hc⟩ := own_block h.names e
    obtain ⟨_, _, cur', hc'⟩ := own_block h.bound hk
    rw [hc] at hc'
    cases hc'
  have hal : a < w.heap.size := (Array.getElem?_eq_some_iff.1 h.row).1
  have hra : w9.heap[a]? = some _ := (hg.block a hal (fun e => hna e.symm)).trans h.row
  have hga : g ≠ a := fun e => by
    subst e
    obtain ⟨_, _, cur, hc⟩ := own_block hq rfl
    rw [hra] at hc
    cases hc
  have hbd : w9.ownsRow M.w0.heap.size 71 1 bv bs.length (bs.map obV) := h.bound.kept hg (by
    cases e : bv.ownBlock with
    | none => exact .inl rfl
    | some k => exact .inr (fun e2 => hnb k e e2.symm))
  have hbr : ∀ k, nv.ownBlock = some k → M.w0.heap.size ≤ k := fun k hk => (own_block h.names hk).1
  refine ⟨⟨(h.below.grown hg h.below.size hbr).setCell (p := ⟨a, 4, none⟩) h.lo _, h.lo, row_set hra rfl, ?_, ownsRow_setCell_other hbd (fun e => ?_) _⟩, ⟨hg.os, hg.tape, hg.output, by simpa [World.setCell] using hg.size, fun k hk hn => ?_, fun k hk => ?_⟩⟩
  · rw [List.length_append, List.map_append]
    exact ownsRow_setCell_other hq (fun e => hga (by simpa [Value.ownBlock] using e)) _
  · obtain ⟨_, _, cur, hc⟩ := own_block hbd e
    rw [hra] at hc
    cases hc
  · rw [Below.heap_setCell _ _ _ _ (fun e => hn (.inl e))]
    exact hg.block k hk (fun e => hn (.inr (.inl e.symm)))
  · rcases hk with rfl | hk | hk
    · exact .inl (.inl rfl)
    · simp [Value.ownBlock] at hk
      subst hk
      rcases hat with e | e
      · exact .inl (.inr (.inl e))
      · exact .inr e
    · exact .inl (.inr (.inr hk))
theorem St.pushB (h : St M a ns bs nv bv w) {x : Nat} {g cap : Nat} (hq : w9.ownsRow M.w0.heap.size 71 1 (.slice (some ⟨g, 0, none⟩) (bs.length + 1) cap) (bs.length + 1) (bs.map obV ++ [obV x])) (hg : w.grownBy w9 bv.ownBlock) (hat : bv.ownBlock = some g ∨ w.heap.size ≤ g) :
    St M a ns (bs ++ [x]) nv (.slice (some ⟨g, 0, none⟩) (bs.length + 1) cap) (w9.setCell ⟨a, 5, none⟩ (.slice (some ⟨g, 0, none⟩) (bs.length + 1) cap)) ∧ Fr (stK a nv bv) (stK a nv (.slice (some ⟨g, 0, none⟩) (bs.length + 1) cap)) w (w9.setCell ⟨a, 5, none⟩ (.slice (some ⟨g, 0, none⟩) (bs.length + 1) cap)) := by
  have hna : bv.ownBlock ≠ some a := fun e => by
    obtain ⟨_, _, cur, hc⟩ := own_block h.bound e
    rw [h.row] at hc
    cases hc
  have hnb : ∀ k, nv.ownBlock = some k → bv.ownBlock ≠ some k := fun k hk e => by
    obtain ⟨_, _, cur, hc⟩ := own_block h.bound e
    obtain ⟨_, _, cur', hc'⟩ := own_block h.names hk
    rw [hc] at hc'
    cases hc'
  have hal : a < w.heap.size := (Array.getElem?_eq_some_iff.1 h.row).1
  have hra : w9.heap[a]? = some _ := (hg.block a hal (fun e => hna e.symm)).trans h.row
  have hga : g ≠ a := fun e => by
    subst e
    obtain ⟨_, _, cur, hc⟩ := own_block hq rfl
    rw [hra] at hc
    cases hc
  have hbd : w9.ownsRow M.w0.heap.size 9 1 nv ns.length (ns.map Value.string) := h.names.kept hg (by
    cases e : nv.ownBlock with
    | none => exact .inl rfl
    | some k => exact .inr (fun e2 => hnb k e e2.symm))
  have hbr : ∀ k, bv.ownBlock = some k → M.w0.heap.size ≤ k := fun k hk => (own_block h.bound hk).1
  refine ⟨⟨(h.below.grown hg h.below.size hbr).setCell (p := ⟨a, 5, none⟩) h.lo _, h.lo, row_set hra rfl, ownsRow_setCell_other hbd (fun e => ?_) _, ?_⟩, ⟨hg.os, hg.tape, hg.output, by simpa [World.setCell] using hg.size, fun k hk hn => ?_, fun k hk => ?_⟩⟩
  · obtain ⟨_, _, cur, hc⟩ := own_block hbd e
    rw [hra] at hc
    cases hc
  · rw [List.length_append, List.map_append]
    exact ownsRow_setCell_other hq (fun e => hga (by simpa [Value.ownBlock] using e)) _
  · rw [Below.heap_setCell _ _ _ _ (fun e => hn (.inl e))]
    exact hg.block k hk (fun e => hn (.inr (.inr e.symm)))
  · rcases hk with rfl | hk | hk
    · exact .inl (.inl rfl)
    · exact .inl (.inr (.inl hk))
    · simp [Value.ownBlock] at hk
      subst hk
      rcases hat with e | e
      · exact .inl (.inr (.inr e))
      · exact .inr e
theorem St.popN {g n c : Nat} {x : ByteArray} (h : St M a (ns ++ [x]) bs (.slice (some ⟨g, 0, none⟩) (n + 1) c) bv w) (hn : ns.length = n) :
    St M a ns bs (.slice (some ⟨g, 0, none⟩) n c) bv (w.setCell ⟨a, 4, none⟩ (.slice (some ⟨g, 0, none⟩) n c)) ∧ Fr (stK a (.slice (some ⟨g, 0, none⟩) (n + 1) c) bv) (stK a (.slice (some ⟨g, 0, none⟩) n c) bv) w (w.setCell ⟨a, 4, none⟩ (.slice (some ⟨g, 0, none⟩) n c)) := by
  have hnm := h.names
  rw [List.length_append, hn] at hnm
  have hga : g ≠ a := fun e => by
    subst e
    obtain ⟨_, _, cur, hc⟩ := own_block hnm rfl
    rw [h.row] at hc
    cases hc
  refine ⟨⟨h.below.setCell (p := ⟨a, 4, none⟩) h.lo _, h.lo, row_set h.row rfl, ?_, ownsRow_setCell_other h.bound (fun e => ?_) _⟩, ⟨rfl, rfl, rfl, by simp [World.setCell], fun k hk hk2 => Below.heap_setCell _ _ _ _ (fun e => hk2 (.inl e)), fun k hk => .inl ?_⟩⟩
  · rw [hn]
    refine ownsRow_setCell_other (a := ⟨a, 4, none⟩) ?_ (fun e => hga (by simpa [Value.ownBlock] using e)) _
    have := own_take hnm (k := n) (by omega)
    rwa [List.map_append, List.take_append_of_le_length (by simp [hn]), List.take_of_length_le (by simp [hn])] at this
  · obtain ⟨_, _, cur, hc⟩ := own_block h.bound e
    rw [h.row] at hc
    cases hc
  · rcases hk with rfl | hk | hk
    · exact .inl rfl
    · exact .inr (.inl (by simpa [Value.ownBlock] using hk))
    · exact .inr (.inr hk)
theorem St.popB {g n c : Nat} {x : Nat} (h : St M a ns (bs ++ [x]) nv (.slice (some ⟨g, 0, none⟩) (n + 1) c) w) (hn : bs.length = n) :
    St M a ns bs nv (.slice (some ⟨g, 0, none⟩) n c) (w.setCell ⟨a, 5, none⟩ (.slice (some ⟨g, 0, none⟩) n c)) ∧ Fr (stK a nv (.slice (some ⟨g, 0, none⟩) (n + 1) c)) (stK a nv (.slice (some ⟨g, 0, none⟩) n c)) w (w.setCell ⟨a, 5, none⟩ (.slice (some ⟨g, 0, none⟩) n c)) := by
  have hnm := h.bound
  rw [List.length_append, hn] at hnm
  have hga : g ≠ a := fun e => by
    subst e
    obtain ⟨_, _, cur, hc⟩ := own_block hnm rfl
    rw [h.row] at hc
    cases hc
  refine ⟨⟨h.below.setCell (p := ⟨a, 5, none⟩) h.lo _, h.lo, row_set h.row rfl, ownsRow_setCell_other h.names (fun e => ?_) _, ?_⟩, ⟨rfl, rfl, rfl, by simp [World.setCell], fun k hk hk2 => Below.heap_setCell _ _ _ _ (fun e => hk2 (.inl e)), fun k hk => .inl ?_⟩⟩
  · obtain ⟨_, _, cur, hc⟩ := own_block h.names e
    rw [h.row] at hc
    cases hc
  · rw [hn]
    refine ownsRow_setCell_other (a := ⟨a, 5, none⟩) ?_ (fun e => hga (by simpa [Value.ownBlock] using e)) _
    have := own_take hnm (k := n) (by omega)
    rwa [List.map_append, List.take_append_of_le_length (by simp [hn]), List.take_of_length_le (by simp [hn])] at this
  · rcases hk with rfl | hk | hk
    · exact .inl rfl
    · exact .inr (.inl hk)
    · exact .inr (.inr (by simpa [Value.ownBlock] using hk))
end
/-- What is found so far, and the rest. -/
def andR (b : Bool) : Except Int Bool → Except Int Bool
  | .error e => .error e
  | .ok c => .ok (b && c)
theorem andR_ok {b c : Bool} : andR b (.ok c) = .ok (b && c) := rfl
theorem andR_err {b : Bool} {e : Int} : andR b (.error e) = .error e := rfl
theorem allObs_next {f : Nat → Except Int Bool} {k n : Nat} {b : Bool} : (∀ c, f k = .ok c → andR b (allObs f k (n + 1)) = andR (c && b) (allObs f (k + 1) n)) ∧ (∀ e, f k = .error e → andR b (allObs f k (n + 1)) = .error e) := by
  refine ⟨fun c h => ?_, fun e h => ?_⟩
  · simp only [allObs, h]
    cases allObs f (k + 1) n with
    | error e => rfl
    | ok d => simp only [andR]; cases b <;> cases c <;> simp
  · simp only [allObs, h, andR]
end Go.Proofs.YtbnonccmlildnaaGreat
