/- Lists joined by two appends. -/
import Derived.Test.YtmfgdemgepkggaaA17
namespace Go.Proofs.Ytmfgdemgepkggaa
open Go.RowKit Go.Maps Go.ChangeMaps

/-- What stands behind an append of many clauses. -/
theorem have_append {w0 w : World} (ty : TypeId) {v : Value} {hs : List (List Int)} (hh : Have w0 w w0.heap.size v hs) (hb : Below w0.heap.size w0 w) {A : Option Addr} {c : Nat} {ds : List (List Int)} {us : List Value} (hus : us.length = ds.length) (hA : Cells w A us)
    (hr : ∀ (j : Nat) (u : Value) (d : List Int), us[j]? = some u → ds[j]? = some d → Ints w0 u d) (hn : hs.length + ds.length ≤ 100000) :
    ∃ A' cap w', (Builtin.append_ #[22, 22] ty #[v, .slice A ds.length c]).run Try.prog w = .ok (.slice A' (hs ++ ds).length cap) w' ∧ Have w0 w' w0.heap.size (.slice A' (hs ++ ds).length cap) (hs ++ ds) ∧ Below w0.heap.size w0 w' := by
  obtain ⟨i23, hi23, hz0, hz1, hz2⟩ := info_parts info23
  obtain ⟨vs, hq, hvs, hvr⟩ := hh
  have h1 : ∀ u ∈ us, u.oneCell' = true := fun u hu => by
    obtain ⟨j, hj, rfl⟩ := List.getElem_of_mem hu
    obtain ⟨B, d, hv, _⟩ := hr j us[j] (ds[j]'(by omega)) (by simp [hj]) (by simp [show j < ds.length by omega])
    rw [hv]
    rfl
  obtain ⟨A', cap, w', h2, h3, h4, h5⟩ := run_append_many (P := Try.prog) w w0.heap.size 22 ty 23 i23 (.slice none 0 0) 24 Try.underlying22 hi23 hz0 hz1 hz2 rfl v vs hq A c us hA h1 (by simp [maxLen]; omega) (by omega) hb.size
  have he : vs.length + us.length = (hs ++ ds).length := by simp [hvs, hus]
  rw [he] at h2 h3
  rw [hus] at h2
  refine ⟨A', cap, w', h2, ⟨vs ++ us, h3, by simp [hvs, hus], fun j u d hu hd => ?_⟩, hb.grown h4 hb.size fun g hg => (hq.lt g hg).1⟩
  rw [List.getElem?_append] at hu hd
  rw [hvs] at hu
  split at hu
  · rename_i hlt
    rw [if_pos hlt] at hd
    exact hvr j u d hu hd
  · rename_i hlt
    rw [if_neg hlt] at hd
    exact hr _ u d hu hd
theorem Have.nil (w0 w : World) : Have w0 w w0.heap.size (.slice none 0 0) [] := ⟨[], OwnQ.nil _ _ _, rfl, by simp⟩
theorem wpList_append_have (w0 w : World) {ops : Array Oper} {rest : List Oper} {o : Oper} {a : Act} {Q : Exit → Act → World → Prop} (hgd : o.guard = none) (s x : Operand)
    (ho : o.op = .call { callee := .builtin .append, args := #[s, x], argTypes := #[22, 22] })
    (v : Value) (hs : List (List Int)) (hv : a.eval s = v) (hh : Have w0 w w0.heap.size v hs) (hb : Below w0.heap.size w0 w) (A : Option Addr) (c : Nat) (ds : List (List Int)) (hx : a.eval x = .slice A ds.length c) (us : List Value) (hus : us.length = ds.length) (hA : Cells w A us)
    (hr : ∀ (j : Nat) (u : Value) (d : List Int), us[j]? = some u → ds[j]? = some d → Ints w0 u d) (hn : hs.length + ds.length ≤ 100000)
    (h : ∀ A' cap w', Have w0 w' w0.heap.size (.slice A' (hs ++ ds).length cap) (hs ++ ds) → Below w0.heap.size w0 w' → wpList Try.prog ops Q rest (a.put o.dst (.slice A' (hs ++ ds).length cap)) w') :
    wpList Try.prog ops Q (o :: rest) a w := by
  refine wpList_plain hgd fun K hK => ?_
  obtain ⟨A', cap, w', h2, h3, h4⟩ := have_append o.type hh hb hus hA hr hn (c := c)
  unfold Oper.wp execOp
  simp only [ho, resolve, invoke, builtin, Sem.run_bind, Sem.run_pure, Result.andThen_ok, List.map_toArray, List.map_cons, List.map_nil, hv, hx, h2]
  exact hK _ _ (h A' cap w' h3 h4)
theorem step_append_have (w0 w : World) {ops : Array Oper} {o : Oper} {a : Act} {K : Act → World → Prop} {Q : Exit → Act → World → Prop} {E : Prop} (hgd : o.guard = none) (s x : Operand)
    (ho : o.op = .call { callee := .builtin .append, args := #[s, x], argTypes := #[22, 22] })
    (v : Value) (hs : List (List Int)) (hv : a.eval s = v) (hh : Have w0 w w0.heap.size v hs) (hb : Below w0.heap.size w0 w) (A : Option Addr) (c : Nat) (ds : List (List Int)) (n : Nat) (hnd : n = ds.length) (hx : a.eval x = .slice A n c) (us : List Value) (hus : us.length = ds.length) (hA : Cells w A us)
    (hr : ∀ (j : Nat) (u : Value) (d : List Int), us[j]? = some u → ds[j]? = some d → Ints w0 u d) (hn : hs.length + ds.length ≤ 100000)
    (h : ∀ A' cap w', Have w0 w' w0.heap.size (.slice A' (hs ++ ds).length cap) (hs ++ ds) → Below w0.heap.size w0 w' → K (a.put o.dst (.slice A' (hs ++ ds).length cap)) w') :
    if Region.wanted o (yielded ops a.tmps) = true then Oper.wp Try.prog o a w K Q else E := by
  subst hnd
  have hw : Region.wanted o (yielded ops a.tmps) = true := by simp [Region.wanted, hgd]
  rw [if_pos hw]
  obtain ⟨A', cap, w', h2, h3, h4⟩ := have_append o.type hh hb hus hA hr hn (c := c)
  unfold Oper.wp execOp
  simp only [ho, resolve, invoke, builtin, Sem.run_bind, Sem.run_pure, Result.andThen_ok, List.map_toArray, List.map_cons, List.map_nil, hv, hx, h2]
  exact h A' cap w' h3 h4
/-- What the rows of a list of clauses hold. -/
theorem RowsAt.open {w : World} {A : Option Addr} {c : Nat} {xss : List (List Int)} (h : RowsAt w A c xss) : ∃ vs : List Value, vs.length = xss.length ∧ Cells w A vs ∧ ∀ (j : Nat) (v : Value) (xs : List Int), vs[j]? = some v → xss[j]? = some xs → Ints w v xs := h.2
theorem Cells.nil (w : World) (A : Option Addr) (hA : A = none ∨ ∃ b o, A = some ⟨b, o, none⟩) : Cells w A [] := by
  rcases hA with rfl | ⟨b, o, rfl⟩
  · exact .inl rfl
  · exact .inr ⟨b, o, rfl, by simp⟩
theorem Have.rows' {w0 w : World} {A : Option Addr} {c n : Nat} {hs : List (List Int)} (h : Have w0 w w0.heap.size (.slice A n c) hs) (hb : Below w0.heap.size w0 w) : RowsAt w A c hs := by
  obtain ⟨A', c', hv, h⟩ := h.rows hb
  simp only [Value.slice.injEq] at hv
  obtain ⟨rfl, _, rfl⟩ := hv
  exact h

theorem empty_follows {l : List (List Int)} {c : List Int} (h : [] ∈ l) (hn : none0 c = false) : Fol l c :=
  ⟨hn, .inr ⟨[], h, by simp [none0, hasI], by simp⟩⟩
/-- With an empty clause in front. -/
theorem empty_check {l tr : List (List Int)} {n e : Int} (h : CheckIs (l ++ [[]]) tr n e) :
    (e = 0 ∧ n = tr.length) ∨ e = 70 ∧ ∃ i : Nat, ∃ hi : i < tr.length, n = i ∧ none0 tr[i] = true := by
  rcases h with ⟨i, hi, h1, h2, _, h3⟩ | ⟨h1, _, h3⟩
  · refine .inr ⟨h2, i, hi, h1, ?_⟩
    cases hn : none0 tr[i] with
    | true => rfl
    | false => exact absurd (empty_follows (by simp) hn) (h3 _ (List.getElem?_eq_getElem hi))
  · refine .inl ⟨?_, h1⟩
    rw [h3, if_pos (by simp [hasEmpty])]
end Go.Proofs.Ytmfgdemgepkggaa
