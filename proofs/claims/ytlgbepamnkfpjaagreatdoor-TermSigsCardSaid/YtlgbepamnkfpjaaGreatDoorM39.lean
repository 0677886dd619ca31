/- Appending a list to one of the call's own, wherever the list lies. -/
import Derived.Test.YtlgbepamnkfpjaaGreatDoorM17
import Derived.Laws.OwnMore
set_option linter.unusedSimpArgs false
set_option linter.unusedVariables false
set_option linter.unusedVariables false
set_option linter.unusedSimpArgs false
namespace Go.Proofs.YtlgbepamnkfpjaaGreatDoor
open Go.RowKit Go.Lib

/-- A list of m elements of so many cells, which lie somewhere. -/
structure SrcAt (w : World) (size m : Nat) (src : Value) (news : List Value) : Prop where
  len : news.length = m * size
  at_ : (src = .slice none 0 0 ∧ m = 0) ∨ ∃ ad c, src = .slice (some ad) m c ∧ ∀ j u, news[j]? = some u → w.cell? (ad.add j) = some u
  one : ∀ u ∈ news, u.oneCell' = true
theorem SrcAt.mono {w w' : World} {size m : Nat} {src : Value} {news : List Value} (h : SrcAt w size m src news) (hb : Below w.heap.size w w') : SrcAt w' size m src news := by
  refine ⟨h.len, ?_, h.one⟩
  rcases h.at_ with h1 | ⟨ad, c, h1, h2⟩
  · exact .inl h1
  · exact .inr ⟨ad, c, h1, fun j u hj => cell_of_below hb (Nat.le_refl _) (h2 j u hj)⟩
theorem run_append_src {P : Program} {w : World} (base : Nat) (t ty e : TypeId) (i : TypeInfo) (z : Value) (size bytes : Nat) (ht : P.underlying t = some (.slice e)) (hi : P.info? e = some i) (hz : i.zero = some z)
    (hsize : i.size = size) (hby : i.bytes = bytes) (hzs : z.cells.size = size) (hsz : 0 < size) (v : Value) (n : Nat) (xs : List Value) (hown : w.ownsRow base e size v n xs) {src : Value} {m : Nat} {news : List Value} (hs : SrcAt w size m src news)
    (h63 : n + m ≤ maxLen) (hbytes : (n + m) * bytes ≤ 140737488355328) (hbase : base ≤ w.heap.size) :
    ∃ v' w', (Builtin.append_ #[t, t] ty #[v, src]).run P w = .ok v' w' ∧ w'.ownsRow base e size v' (n + m) (xs ++ news) ∧ w.grownBy w' v.ownBlock := by
  rcases hs.at_ with ⟨rfl, rfl⟩ | ⟨ad, c, rfl, h2⟩
  · have hn : news = [] := List.eq_nil_of_length_eq_zero (by rw [hs.len]; simp)
    subst hn
    exact ⟨v, w, run_append_owned_none w base t ty e i size ht hi v n xs hown, by simpa using hown, ⟨rfl, rfl, rfl, Nat.le_refl _, fun _ _ _ => rfl⟩⟩
  · obtain ⟨v', w', hr, h3, h4, _⟩ := run_append_own (P := P) w base t ty e i z size bytes ht hi hz hsize hby hzs hsz v n xs hown ad m c news hs.len h2 hs.one h63 hbytes hbase
    exact ⟨v', w', hr, h3, h4⟩
/-- A new list: nil, and the elements of another. -/
theorem run_append_new {P : Program} {w : World} (t ty e : TypeId) (i : TypeInfo) (z : Value) (size bytes : Nat) (ht : P.underlying t = some (.slice e)) (hi : P.info? e = some i) (hz : i.zero = some z)
    (hsize : i.size = size) (hby : i.bytes = bytes) (hzs : z.cells.size = size) (hsz : 0 < size) {src : Value} {m : Nat} {news : List Value} (hs : SrcAt w size m src news)
    (h63 : m ≤ maxLen) (hbytes : m * bytes ≤ 140737488355328) :
    ∃ v' w', (Builtin.append_ #[t, t] ty #[.slice none 0 0, src]).run P w = .ok v' w' ∧ w'.ownsRow w.heap.size e size v' m news ∧ Below w.heap.size w w' := by
  obtain ⟨v', w', hr, h3, h4⟩ := run_append_src (P := P) (w := w) w.heap.size t ty e i z size bytes ht hi hz hsize hby hzs hsz (.slice none 0 0) 0 [] (World.ownsRow_nil w _ e size) hs (by omega) (by simpa using hbytes) (Nat.le_refl _)
  refine ⟨v', w', hr, by simpa using h3, ⟨h4.os, h4.tape, h4.output, h4.size, fun k hk => h4.block k hk (by simp [Value.ownBlock])⟩⟩
/-- A call of append, as an operation. -/
theorem wp_append_call {P : Program} {o : Oper} {a : Act} {w : World} {K : Act → World → Prop} {Q : Exit → Act → World → Prop} (s x : Operand) (t : TypeId) (ho : o.op = .call { callee := .builtin .append, args := #[s, x], argTypes := #[t, t] })
    {v' : Value} {w' : World} (hr : (Builtin.append_ #[t, t] o.type #[a.eval s, a.eval x]).run P w = .ok v' w') (h : K (a.put o.dst v') w') : Oper.wp P o a w K Q := by
  unfold Oper.wp execOp
  simp only [ho, resolve, invoke, builtin, Sem.run_bind, Sem.run_pure, Result.andThen_ok, List.map_toArray, List.map_cons, List.map_nil, hr]
  exact h
end Go.Proofs.YtlgbepamnkfpjaaGreatDoor
