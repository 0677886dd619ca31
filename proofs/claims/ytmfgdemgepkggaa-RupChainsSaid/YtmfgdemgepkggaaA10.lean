/- Lists of clauses that the call makes: many appended at once; what the library's small functions do with them. -/
import Derived.Test.YtmfgdemgepkggaaA9
namespace Go.Proofs.Ytmfgdemgepkggaa
open Go.RowKit Go.Maps Go.ChangeMaps

theorem setCells_keep (g : Nat) : ∀ (vs : List Value) (w : World) (o : Nat), (w.setCells g o vs).os = w.os ∧ (w.setCells g o vs).tape = w.tape ∧ (w.setCells g o vs).output = w.output ∧ (w.setCells g o vs).heap.size = w.heap.size := by
  intro vs
  induction vs with
  | nil => intro w o; exact ⟨rfl, rfl, rfl, rfl⟩
  | cons v vs ih =>
    intro w o
    obtain ⟨h1, h2, h3, h4⟩ := ih (w.setCell ⟨g, o, none⟩ v) (o + 1)
    unfold World.setCells
    exact ⟨h1, h2, h3, by rw [h4]; simp [World.setCell]⟩
/-- Many elements appended, out of any slice that reads. -/
theorem run_append_many {P : Program} (w : World) (base : Nat) (t ty e : TypeId) (i : TypeInfo) (z : Value) (bytes : Nat) (ht : P.underlying t = some (.slice e)) (hi : P.info? e = some i) (hz : i.zero = some z)
    (hsize : i.size = 1) (hby : i.bytes = bytes) (hzs : z.cells.size = 1)
    (v : Value) (xs : List Value) (hown : OwnQ w base e v xs) (A : Option Addr) (c : Nat) (news : List Value) (hA : Cells w A news) (h1 : ∀ u ∈ news, u.oneCell' = true)
    (h63 : xs.length + news.length ≤ maxLen) (hbytes : (xs.length + news.length) * bytes ≤ 140737488355328) (hbase : base ≤ w.heap.size) :
    ∃ A' cap w', (Builtin.append_ #[t, t] ty #[v, .slice A news.length c]).run P w = .ok (.slice A' (xs.length + news.length) cap) w' ∧ OwnQ w' base e (.slice A' (xs.length + news.length) cap) (xs ++ news) ∧ w.grownBy w' v.ownBlock ∧
      ((Value.slice A' (xs.length + news.length) cap).ownBlock = v.ownBlock ∨ (Value.slice A' (xs.length + news.length) cap).ownBlock = some w.heap.size) := by
  cases news with
  | nil =>
    obtain ⟨A0, c0, rfl, hc0⟩ := hown.shape
    refine ⟨A0, c0, w, ?_, by simpa using hown, ⟨rfl, rfl, rfl, Nat.le_refl _, fun _ _ _ => rfl⟩, .inl rfl⟩
    cases A0 with
    | none => cases A <;> simp [Builtin.append_, run_underlying ht, sizeOf, typeInfo, hi, Builtin.lenOf, hc0, Builtin.firstCells, loadCells, loadCellsFrom]
    | some a0 => cases A <;> simp [Builtin.append_, run_underlying ht, sizeOf, typeInfo, hi, Builtin.lenOf, hc0, Builtin.firstCells, loadCells, loadCellsFrom, storeCells]
  | cons y ys =>
    generalize hnw : y :: ys = news at *
    have hpos : 0 < news.length := by rw [← hnw]; simp
    rcases hA with hA | ⟨b, o, rfl, hA⟩
    · rw [hA] at hpos; simp at hpos
    have hnews : ∀ j u, news[j]? = some u → w.cell? ((⟨b, o, none⟩ : Addr).add j) = some u := fun j u hj => by rw [Addr.add_lit]; exact hA j u hj
    rcases hown with ⟨rfl, rfl⟩ | ⟨g, o', cap, cur, rfl, hb, hh, hn, hc, hcs, hcells⟩
    · obtain ⟨v', w', hr, h2, h3, _, h4⟩ := run_append_own_at (P := P) w w.heap.size t ty e i z 1 bytes ht hi hz hsize hby hzs (by omega) (.slice none 0 0) 0 [] (World.ownsRow_nil w _ e 1) ⟨b, o, none⟩ news.length c news (by simp) hnews h1 (by simpa using h63) (by simpa using hbytes) (Nat.le_refl _)
      rcases h2.2 with ⟨_, h0⟩ | ⟨g, cap, cur, rfl, hb, hh, hn, hc, hcs, htake⟩
      · omega
      · refine ⟨some ⟨g, 0, none⟩, cap, w', by simpa using hr, .inr ⟨g, 0, cap, cur, by simp, by omega, hh, by simpa using hn, hc, by omega, fun j u hj => ?_⟩, h3, by simpa [Value.ownBlock] using h4⟩
        simp only [List.nil_append] at htake hj
        rw [← htake, List.getElem?_take] at hj
        split at hj
        · simpa using hj
        · cases hj
    · by_cases hroom : xs.length + news.length ≤ cap
      · have hr := run_append_room_cells (P := P) w t ty e i ht hi g o' xs.length cap ⟨b, o, none⟩ news.length c news (by simp [hsize]) hnews h1 hroom
          (fun j hj => by rw [cell_of_row w g _ cur e (0, 0) hh, hsize]; simp; omega)
          (fun j hj => by simp [World.frozen?, hh])
        rw [hsize] at hr
        obtain ⟨cur', hcur, hsz, hold, hnew⟩ : ∃ cur', (w.setCells g (o' + xs.length * 1) news).heap[g]? = some (.cells cur' e (0, 0)) ∧ cur'.size = cur.size ∧ (∀ j, j < o' + xs.length → cur'[j]? = cur[j]?) ∧ ∀ j u, news[j]? = some u → cur'[o' + xs.length + j]? = some u := by
          have hbig : o' + xs.length + news.length ≤ cur.size := by omega
          clear hr hnews hA h1 hroom hpos hnw h63 hbytes hcells
          rw [Nat.mul_one]
          have gen : ∀ (l : List Value) (k : Nat) (W : World) (C : Array Value), W.heap[g]? = some (.cells C e (0, 0)) → k + l.length ≤ C.size → ∃ C', (W.setCells g k l).heap[g]? = some (.cells C' e (0, 0)) ∧ C'.size = C.size ∧ (∀ j, j < k → C'[j]? = C[j]?) ∧ ∀ j u, l[j]? = some u → C'[k + j]? = some u := by
            intro l
            induction l with
            | nil => intro k W C hW _; exact ⟨C, hW, rfl, fun _ _ => rfl, by simp⟩
            | cons a l ih =>
              intro k W C hW hk
              simp only [List.length_cons] at hk
              obtain ⟨C', e1, e2, e3, e4⟩ := ih (k + 1) (W.setCell ⟨g, k, none⟩ a) (C.setIfInBounds k a) (by simp [World.setCell, Array.getElem?_modify, hW]) (by simp; omega)
              refine ⟨C', by unfold World.setCells; exact e1, by simpa using e2, fun j hj => ?_, fun j u hj => ?_⟩
              · rw [e3 j (by omega), Array.getElem?_setIfInBounds_ne (by omega)]
              · cases j with
                | zero =>
                  simp at hj
                  subst hj
                  rw [Nat.add_zero, e3 k (by omega), Array.getElem?_setIfInBounds_self_of_lt (by omega)]
                | succ j =>
                  have := e4 j u (by simpa using hj)
                  rw [← this]
                  congr 1
                  omega
          exact gen news (o' + xs.length) w cur hh hbig
        refine ⟨_, _, _, hr, .inr ⟨g, o', cap, cur', by simp, hb, hcur, by simpa using hroom, hc, by omega, fun j u hj => ?_⟩, ⟨(setCells_keep g news w _).1, (setCells_keep g news w _).2.1, (setCells_keep g news w _).2.2.1, Nat.le_of_eq (setCells_keep g news w _).2.2.2.symm, fun k hk hne => setCells_heap w g _ _ k (fun e1 => hne (by simp [Value.ownBlock, e1]))⟩, .inl rfl⟩
        rw [List.getElem?_append] at hj
        split at hj
        · rename_i hlt
          rw [hold _ (by omega)]
          exact hcells j u hj
        · rename_i hge
          have := hnew (j - xs.length) u hj
          rw [← this]
          congr 1
          omega
      · have hr := run_append_grow (P := P) w t ty e i z ht hi hz ⟨g, o', none⟩ xs.length cap xs (by simp [hsize]) (fun j u hj => by rw [Addr.add_lit, cell_of_row w g _ cur e (0, 0) hh]; exact hcells j u hj) ⟨b, o, none⟩ news.length c news (by simp [hsize]) hnews (by omega)
          (by simp only [maxLen] at h63; omega) (growslice_fits (by omega) (by rw [hby]; exact hbytes))
        have hge := grownCap_ge w (xs.length + news.length) cap e
        refine ⟨_, _, _, hr, .inr ⟨w.heap.size, 0, _, _, by simp, hbase, heap_alloc_new w.drew _, by simpa using hge, grownCap_le_maxLen w _ cap e h63, ?_, fun j u hj => ?_⟩, ⟨rfl, rfl, rfl, by simp, fun k hk _ => Below.heap_alloc w.drew _ k hk⟩, .inr rfl⟩
        · simp only [Array.size_append, List.size_toArray, size_zeroCells, hzs]
          omega
        · have hlt : j < (xs ++ news).length := by
            rcases Nat.lt_or_ge j (xs ++ news).length with h | h
            · exact h
            · rw [List.getElem?_eq_none h] at hj
              cases hj
          rw [Nat.zero_add, ← Array.getElem?_toList]
          simp only [Array.toList_append]
          rw [List.getElem?_append_left (by simpa using hlt)]
          simpa using hj

/-- At the operation, in a walk. -/
theorem wpList_append_many {P : Program} (w : World) {ops : Array Oper} {rest : List Oper} {o : Oper} {a : Act} {Q : Exit → Act → World → Prop} (hgd : o.guard = none) (s x : Operand) (t : TypeId)
    (ho : o.op = .call { callee := .builtin .append, args := #[s, x], argTypes := #[t, t] })
    (base : Nat) (e : TypeId) (i : TypeInfo) (z : Value) (bytes : Nat) (ht : P.underlying t = some (.slice e)) (hi : P.info? e = some i) (hz : i.zero = some z)
    (hsize : i.size = 1) (hby : i.bytes = bytes) (hzs : z.cells.size = 1)
    (v : Value) (xs : List Value) (hs : a.eval s = v) (hown : OwnQ w base e v xs) (A : Option Addr) (c : Nat) (news : List Value) (hx : a.eval x = .slice A news.length c) (hA : Cells w A news) (h1 : ∀ u ∈ news, u.oneCell' = true)
    (h63 : xs.length + news.length ≤ maxLen) (hbytes : (xs.length + news.length) * bytes ≤ 140737488355328) (hbase : base ≤ w.heap.size)
    (h : ∀ A' cap w', OwnQ w' base e (.slice A' (xs.length + news.length) cap) (xs ++ news) → w.grownBy w' v.ownBlock →
      ((Value.slice A' (xs.length + news.length) cap).ownBlock = v.ownBlock ∨ (Value.slice A' (xs.length + news.length) cap).ownBlock = some w.heap.size) → wpList P ops Q rest (a.put o.dst (.slice A' (xs.length + news.length) cap)) w') :
    wpList P ops Q (o :: rest) a w := by
  refine wpList_plain hgd fun K hK => ?_
  obtain ⟨A', cap, w', hr, h2, h3, h4⟩ := run_append_many (P := P) w base t o.type e i z bytes ht hi hz hsize hby hzs v xs hown A c news hA h1 h63 hbytes hbase
  unfold Oper.wp execOp
  simp only [ho, resolve, invoke, builtin, Sem.run_bind, Sem.run_pure, Result.andThen_ok, List.map_toArray, List.map_cons, List.map_nil, hs, hx, hr]
  exact hK _ _ (h A' cap w' h2 h3 h4)

/-- A list of clauses of the call's own, whose clauses lie in w0. -/
def Have (w0 w : World) (base : Nat) (v : Value) (hs : List (List Int)) : Prop :=
  ∃ vs, OwnQ w base 23 v vs ∧ vs.length = hs.length ∧ ∀ (i : Nat) (u : Value) (d : List Int), vs[i]? = some u → hs[i]? = some d → Ints w0 u d
theorem Have.rows {w0 w : World} {base : Nat} {v : Value} {hs : List (List Int)} (h : Have w0 w base v hs) (hb : Below w0.heap.size w0 w) : ∃ A c, v = .slice A hs.length c ∧ RowsAt w A c hs := by
  obtain ⟨vs, h1, h2, h3⟩ := h
  obtain ⟨A, c, hv, hc, hcells⟩ := h1.cells
  rw [h2] at hv hc
  exact ⟨A, c, hv, hc, vs, h2, hcells, fun i u d hu hd => (h3 i u d hu hd).below hb⟩
theorem Have.same {w0 w w' : World} {base : Nat} {v : Value} {hs : List (List Int)} (h : Have w0 w base v hs) (hb : Below w.heap.size w w') : Have w0 w' base v hs := by
  obtain ⟨vs, h1, h2⟩ := h
  exact ⟨vs, h1.same (fun g hg => hb.block g (h1.lt g hg).2), h2⟩
theorem RowsAt.vals {w : World} {A : Option Addr} {c : Nat} {xss : List (List Int)} (h : RowsAt w A c xss) : ∃ vs : List Value, vs.length = xss.length ∧ Cells w A vs ∧ (∀ u ∈ vs, u.oneCell' = true) ∧ ∀ (j : Nat) (v : Value) (xs : List Int), vs[j]? = some v → xss[j]? = some xs → Ints w v xs := by
  obtain ⟨_, vs, h2, h3, h4⟩ := h
  refine ⟨vs, h2, h3, fun u hu => ?_, h4⟩
  obtain ⟨j, hj, rfl⟩ := List.getElem_of_mem hu
  obtain ⟨B, d, hv, _⟩ := h4 j vs[j] (xss[j]'(by omega)) (by simp [hj]) (by simp [show j < xss.length by omega])
  rw [hv]
  rfl
end Go.Proofs.Ytmfgdemgepkggaa
