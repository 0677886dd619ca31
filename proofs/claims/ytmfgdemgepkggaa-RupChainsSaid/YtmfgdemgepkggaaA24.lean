/- Lists of clauses whose clauses the call has laid too; chains, plainly. -/
import Derived.Test.YtmfgdemgepkggaaA23
namespace Go.Proofs.Ytmfgdemgepkggaa
open Go.RowKit Go.Maps Go.ChangeMaps

/-- A clause that lies in a block of its own. -/
def RowIn (w : World) (u : Value) (d : List Int) : Prop := ∃ b, u = .slice (some ⟨b, 0, none⟩) d.length d.length ∧ w.heap[b]? = some (.cells (d.map (Value.int .i64)).toArray 3 (0, 0))
theorem RowIn.ints {w : World} {u : Value} {d : List Int} (h : RowIn w u d) : Ints w u d := by
  obtain ⟨b, rfl, hb⟩ := h
  exact ⟨_, _, rfl, Nat.le_refl _, .inr ⟨b, 0, rfl, fun j u hj => by
    rw [cell_of_row _ b (0 + j) _ 3 (0, 0) hb]
    simpa using hj⟩⟩
theorem RowIn.new (w : World) (d : List Int) : RowIn (w.alloc (.cells (d.map (Value.int .i64)).toArray 3)) (.slice (some ⟨w.heap.size, 0, none⟩) d.length d.length) d := ⟨_, rfl, heap_alloc_new w _⟩
theorem RowIn.below {w w' : World} {u : Value} {d : List Int} (h : RowIn w u d) (hb : Below w.heap.size w w') : RowIn w' u d := by
  obtain ⟨b, rfl, h⟩ := h
  exact ⟨b, rfl, (hb.block b (Array.getElem?_eq_some_iff.1 h).1).trans h⟩
def Lay (w : World) (base : Nat) (v : Value) (hs : List (List Int)) : Prop :=
  ∃ vs, OwnQ w base 23 v vs ∧ vs.length = hs.length ∧ ∀ (j : Nat) (u : Value) (d : List Int), vs[j]? = some u → hs[j]? = some d → RowIn w u d
theorem Lay.nil (w : World) (base : Nat) : Lay w base (.slice none 0 0) [] := ⟨[], OwnQ.nil _ _ _, rfl, by simp⟩
theorem Lay.below {w w' : World} {base : Nat} {v : Value} {hs : List (List Int)} (h : Lay w base v hs) (hb : Below w.heap.size w w') : Lay w' base v hs := by
  obtain ⟨vs, h1, h2, h3⟩ := h
  exact ⟨vs, h1.same (fun g hg => hb.block g (h1.lt g hg).2), h2, fun j u d hu hd => (h3 j u d hu hd).below hb⟩
theorem Lay.alloc {w : World} {base : Nat} {v : Value} {hs : List (List Int)} (h : Lay w base v hs) (o : Obj) : Lay (w.alloc o) base v hs := h.below ((Below.refl _ _).alloc (Nat.le_refl _) o)
theorem Lay.rows {w : World} {base : Nat} {A : Option Addr} {n c : Nat} {hs : List (List Int)} (h : Lay w base (.slice A n c) hs) : n = hs.length ∧ RowsAt w A c hs := by
  obtain ⟨vs, h1, h2, h3⟩ := h
  obtain ⟨A', c', hv, hc, hcells⟩ := h1.cells
  simp only [Value.slice.injEq] at hv
  obtain ⟨rfl, rfl, rfl⟩ := hv
  exact ⟨h2, by omega, vs, h2, hcells, fun j u d hu hd => (h3 j u d hu hd).ints⟩
theorem Lay.shape {w : World} {base : Nat} {v : Value} {hs : List (List Int)} (h : Lay w base v hs) : ∃ A c, v = .slice A hs.length c := by
  obtain ⟨vs, h1, h2, h3⟩ := h
  obtain ⟨A', c', hv, _⟩ := h1.cells
  exact ⟨A', c', by rw [hv, h2]⟩
def Apart (v m : Value) : Prop := ∀ g, v.ownBlock = some g → m.ownBlock ≠ some g
theorem RowIn.grown {w w' : World} {u : Value} {d : List Int} {base : Nat} {v : Value} {vs : List Value} (h : RowIn w u d) (hq : OwnQ w base 23 v vs) (hg : w.grownBy w' v.ownBlock) : RowIn w' u d := by
  obtain ⟨b, rfl, h⟩ := h
  refine ⟨b, rfl, (hg.block b (Array.getElem?_eq_some_iff.1 h).1 fun e => ?_).trans h⟩
  obtain ⟨cur, hcur⟩ := hq.typed b e.symm
  rw [h] at hcur
  cases hcur
theorem lay_append {w : World} (ty : TypeId) {base : Nat} {v : Value} {hs : List (List Int)} (hh : Lay w base v hs) (hb : base ≤ w.heap.size) {A : Option Addr} {c : Nat} {ds : List (List Int)} {us : List Value} (hus : us.length = ds.length) (hA : Cells w A us)
    (hr : ∀ (j : Nat) (u : Value) (d : List Int), us[j]? = some u → ds[j]? = some d → RowIn w u d) (hn : hs.length + ds.length ≤ 100000) :
    ∃ A' cap w', (Builtin.append_ #[22, 22] ty #[v, .slice A ds.length c]).run Try.prog w = .ok (.slice A' (hs ++ ds).length cap) w' ∧ Lay w' base (.slice A' (hs ++ ds).length cap) (hs ++ ds) ∧ Below base w w' ∧
      ∀ mv ms, Lay w base mv ms → Apart v mv → Lay w' base mv ms ∧ Apart (.slice A' (hs ++ ds).length cap) mv := by
  obtain ⟨i23, hi23, hz0, hz1, hz2⟩ := info_parts info23
  obtain ⟨vs, hq, hvs, hvr⟩ := hh
  have h1 : ∀ u ∈ us, u.oneCell' = true := fun u hu => by
    obtain ⟨j, hj, rfl⟩ := List.getElem_of_mem hu
    obtain ⟨B, hv, _⟩ := hr j us[j] (ds[j]'(by omega)) (by simp [hj]) (by simp [show j < ds.length by omega])
    rw [hv]
    rfl
  obtain ⟨A', cap, w', h2, h3, h4, h5⟩ := run_append_many (P := Try.prog) w base 22 ty 23 i23 (.slice none 0 0) 24 Try.underlying22 hi23 hz0 hz1 hz2 rfl v vs hq A c us hA h1 (by simp [maxLen]; omega) (by omega) hb
  have he : vs.length + us.length = (hs ++ ds).length := by simp [hvs, hus]
  simp only [he] at h2 h3 h4 h5
  rw [hus] at h2
  refine ⟨A', cap, w', h2, ⟨vs ++ us, h3, by simp [hvs, hus], fun j u d hu hd => ?_⟩, (Below.refl _ _).grown h4 hb fun g hg => (hq.lt g hg).1, fun mv ms ⟨ws, k1, k2, k3⟩ ha => ⟨⟨ws, ?_, k2, fun j u d hu hd => (k3 j u d hu hd).grown hq h4⟩, ?_⟩⟩
  · rw [List.getElem?_append] at hu hd
    rw [hvs] at hu
    split at hu
    · rename_i hlt
      rw [if_pos hlt] at hd
      exact (hvr j u d hu hd).grown hq h4
    · rename_i hlt
      rw [if_neg hlt] at hd
      exact (hr _ u d hu hd).grown hq h4
  · exact k1.same fun g hg => h4.block g (k1.lt g hg).2 fun e => ha g e.symm hg
  · intro g hg hm
    rcases h5 with h5 | h5
    · rw [h5] at hg
      exact ha g hg hm
    · rw [h5] at hg
      cases hg
      have := (k1.lt _ hm).2
      omega
theorem wpList_append_lay (w : World) {ops : Array Oper} {rest : List Oper} {o : Oper} {a : Act} {Q : Exit → Act → World → Prop} (hw : Region.wanted o (yielded ops a.tmps) = true) (s x : Operand)
    (ho : o.op = .call { callee := .builtin .append, args := #[s, x], argTypes := #[22, 22] })
    (base : Nat) (v : Value) (hs : List (List Int)) (hv : a.eval s = v) (hh : Lay w base v hs) (hb : base ≤ w.heap.size) (A : Option Addr) (c : Nat) (ds : List (List Int)) (hx : a.eval x = .slice A ds.length c) (us : List Value) (hus : us.length = ds.length) (hA : Cells w A us)
    (hr : ∀ (j : Nat) (u : Value) (d : List Int), us[j]? = some u → ds[j]? = some d → RowIn w u d) (hn : hs.length + ds.length ≤ 100000)
    (h : ∀ A' cap w', Lay w' base (.slice A' (hs ++ ds).length cap) (hs ++ ds) → Below base w w' → (∀ mv ms, Lay w base mv ms → Apart v mv → Lay w' base mv ms ∧ Apart (.slice A' (hs ++ ds).length cap) mv) → wpList Try.prog ops Q rest (a.put o.dst (.slice A' (hs ++ ds).length cap)) w') :
    wpList Try.prog ops Q (o :: rest) a w := by
  refine Go.BigFrame.wpList_want hw fun K hK => ?_
  obtain ⟨A', cap, w', h2, h3, h4, h5⟩ := lay_append o.type hh hb hus hA hr hn (c := c)
  unfold Oper.wp execOp
  simp only [ho, resolve, invoke, builtin, Sem.run_bind, Sem.run_pure, Result.andThen_ok, List.map_toArray, List.map_cons, List.map_nil, hv, hx, h2]
  exact hK _ _ (h A' cap w' h3 h4 h5)

/-! Chains. -/
def kk (n t : Int) (i : Nat) : Int := 1 + ((i : Int) + t) % (n - 1)
def chain (n t : Int) : Nat → List (List Int)
  | 0 => []
  | r + 1 => chain n t r ++ [[-(kk n t (r + 1)), kk n t (r + 1) + 1]]
def broken (n t g : Int) : Nat → List (List Int)
  | 0 => []
  | r + 1 => if kk n t (r + 1) - 1 = g then broken n t g r else broken n t g r ++ [[kk n t (r + 1) + 1, -(kk n t (r + 1))]]
theorem kk_range {n t : Int} (hn : 2 ≤ n) (i : Nat) : 1 ≤ kk n t i ∧ kk n t i ≤ n - 1 := by
  have h1 := Int.emod_nonneg ((i : Int) + t) (show n - 1 ≠ 0 by omega)
  have h2 := Int.emod_lt_of_pos ((i : Int) + t) (show 0 < n - 1 by omega)
  unfold kk
  omega
theorem chain_len (n t : Int) (r : Nat) : (chain n t r).length = r := by
  induction r with
  | zero => rfl
  | succ r ih => simp [chain, ih]
theorem broken_len (n t g : Int) (r : Nat) : (broken n t g r).length ≤ r := by
  induction r with
  | zero => exact Nat.le_refl _
  | succ r ih =>
    unfold broken
    split
    · omega
    · simp; omega
theorem mem_chain {n t : Int} {r : Nat} {d : List Int} : d ∈ chain n t r ↔ ∃ i : Nat, 1 ≤ i ∧ i ≤ r ∧ d = [-(kk n t i), kk n t i + 1] := by
  induction r with
  | zero => simp [chain]; omega
  | succ r ih =>
    simp only [chain, List.mem_append, ih, List.mem_singleton]
    constructor
    · rintro (⟨i, h1, h2, h3⟩ | h)
      · exact ⟨i, h1, by omega, h3⟩
      · exact ⟨r + 1, by omega, by omega, h⟩
    · rintro ⟨i, h1, h2, h3⟩
      by_cases e : i = r + 1
      · subst e; exact .inr h3
      · exact .inl ⟨i, h1, by omega, h3⟩
theorem mem_broken {n t g : Int} {r : Nat} {d : List Int} (h : d ∈ broken n t g r) : ∃ i : Nat, kk n t i - 1 ≠ g ∧ d = [kk n t i + 1, -(kk n t i)] := by
  induction r with
  | zero => simp [broken] at h
  | succ r ih =>
    unfold broken at h
    split at h
    · exact ih h
    · rename_i hne
      simp only [List.mem_append, List.mem_singleton] at h
      rcases h with h | h
      · exact ih h
      · exact ⟨r + 1, hne, h⟩
theorem chain_flat (n t : Int) (r : Nat) : (chain n t r).flatten.length = 2 * r := by
  induction r with
  | zero => rfl
  | succ r ih => simp [chain, ih]; omega
theorem broken_flat (n t g : Int) (r : Nat) : (broken n t g r).flatten.length ≤ 2 * r := by
  induction r with
  | zero => exact Nat.le_refl _
  | succ r ih =>
    unfold broken
    split
    · omega
    · rw [List.flatten_append, List.length_append]
      simp only [List.flatten_cons, List.flatten_nil, List.append_nil, List.length_cons, List.length_nil]
      omega
theorem chain_wf {n t : Int} (hn : 2 ≤ n) (hn2 : n ≤ 1000) (r : Nat) : ∀ d ∈ chain n t r, ∀ x ∈ d, i64 x := by
  intro d hd x hx
  obtain ⟨i, _, _, rfl⟩ := mem_chain.1 hd
  have := kk_range (t := t) hn i
  simp at hx
  rcases hx with rfl | rfl <;> constructor <;> omega
theorem broken_wf {n t g : Int} (hn : 2 ≤ n) (hn2 : n ≤ 1000) (r : Nat) : ∀ d ∈ broken n t g r, ∀ x ∈ d, i64 x := by
  intro d hd x hx
  obtain ⟨i, _, rfl⟩ := mem_broken hd
  have := kk_range (t := t) hn i
  simp at hx
  rcases hx with rfl | rfl <;> constructor <;> omega
/-- Every link is there. -/
theorem kk_all {n t : Int} (hn : 2 ≤ n) {k : Int} (h1 : 1 ≤ k) (h2 : k ≤ n - 1) : ∃ i : Nat, 1 ≤ i ∧ (i : Int) ≤ n - 1 ∧ kk n t i = k := by
  have hN : n - 1 ≠ 0 := by omega
  have e1 := Int.emod_nonneg (k - 1 - t) hN
  have e2 := Int.emod_lt_of_pos (k - 1 - t) (show 0 < n - 1 by omega)
  have e3 : (k - 1 - t) % (n - 1) = k - 1 - t - (n - 1) * ((k - 1 - t) / (n - 1)) := Int.emod_def _ _
  have e4 : (k - 1) % (n - 1) = k - 1 := Int.emod_eq_of_lt (by omega) (by omega)
  generalize hq : (k - 1 - t) / (n - 1) = q at *
  by_cases h0 : (k - 1 - t) % (n - 1) = 0
  · refine ⟨(n - 1).toNat, by omega, by omega, ?_⟩
    unfold kk
    rw [show (((n - 1).toNat : Nat) : Int) + t = (k - 1) + (n - 1) * (1 - q) by rw [Int.mul_sub, Int.mul_one]; omega, Int.add_mul_emod_self_left, e4]
    omega
  · refine ⟨((k - 1 - t) % (n - 1)).toNat, by omega, by omega, ?_⟩
    unfold kk
    rw [show ((((k - 1 - t) % (n - 1)).toNat : Nat) : Int) + t = (k - 1) + (n - 1) * (-q) by rw [Int.mul_neg]; omega, Int.add_mul_emod_self_left, e4]
    omega
theorem none0_pair {a b : Int} (h1 : a ≠ 0) (h2 : a ≠ -9223372036854775808) (h3 : b ≠ 0) (h4 : b ≠ -9223372036854775808) : none0 [a, b] = false := by
  rw [← Bool.not_eq_true, none0_iff]
  simp
  omega
theorem chain_walk {n t : Int} (hn : 2 ≤ n) (hn2 : n ≤ 1000) {l : List (List Int)} {c : List Int} (hl : ∀ d ∈ chain n t (n - 1).toNat, d ∈ l) (h1 : Der l c 1) : ∀ k : Nat, (k : Int) + 1 ≤ n → Der l c ((k : Int) + 1) := by
  intro k
  induction k with
  | zero => intro _; simpa using h1
  | succ k ih =>
    intro hk
    obtain ⟨i, i1, i2, i3⟩ := kk_all (t := t) hn (k := (k : Int) + 1) (by omega) (by omega)
    have hd : [-((k : Int) + 1), (k : Int) + 1 + 1] ∈ l := hl _ (mem_chain.2 ⟨i, i1, by omega, by rw [i3]⟩)
    have := Der.unit (l := l) (c := c) (x := (k : Int) + 1 + 1) hd (none0_pair (by omega) (by omega) (by omega) (by omega)) (by simp) (fun y hy hne => by
      simp at hy
      rcases hy with rfl | rfl
      · rw [Int.neg_neg]; exact ih (by omega)
      · exact absurd rfl hne)
    push_cast
    exact this
theorem chain_fol {n t : Int} (hn : 2 ≤ n) (hn2 : n ≤ 1000) : Fol (chain n t (n - 1).toNat) [-1, n] := by
  refine ⟨none0_pair (by omega) (by omega) (by omega) (by omega), .inl ⟨n, ?_, .neg (by simp)⟩⟩
  have h1 : Der (chain n t (n - 1).toNat) [-1, n] 1 := by
    have := Der.neg (l := chain n t (n - 1).toNat) (c := [-1, n]) (x := -1) (by simp)
    simpa using this
  have := chain_walk hn hn2 (fun d h => h) h1 (n - 1).toNat (by omega)
  rwa [show (((n - 1).toNat : Nat) : Int) + 1 = n by omega] at this
theorem chain_fol2 {n t : Int} (hn : 2 ≤ n) (hn2 : n ≤ 1000) : Fol (chain n t (n - 1).toNat ++ [[1], [-n]]) [] := by
  refine ⟨by decide, .inl ⟨n, ?_, ?_⟩⟩
  · have h1 : Der (chain n t (n - 1).toNat ++ [[1], [-n]]) [] 1 := .unit (d := [1]) (by simp) (by decide) (by simp) (fun y hy hne => by simp at hy; exact absurd hy hne)
    have := chain_walk hn hn2 (fun d h => List.mem_append_left _ h) h1 (n - 1).toNat (by omega)
    rwa [show (((n - 1).toNat : Nat) : Int) + 1 = n by omega] at this
  · refine .unit (d := [-n]) (by simp) ?_ (by simp) (fun y hy hne => by simp at hy; exact absurd hy hne)
    rw [← Bool.not_eq_true, none0_iff]
    simp
    omega
theorem broken_not {n t g : Int} (hn : 2 ≤ n) (hn2 : n ≤ 1000) (hg : 0 ≤ g) (hg2 : g ≤ n - 2) (r : Nat) : ¬ Fol (broken n t g r) [-1, n] := by
  have hder : ∀ x, Der (broken n t g r) [-1, n] x → (1 ≤ x ∧ x ≤ g + 1) ∨ (-n ≤ x ∧ x ≤ -(g + 2)) := by
    intro x hx
    induction hx with
    | neg h => simp at h; omega
    | @unit d x hd _ hx _ ih =>
      obtain ⟨i, hne, rfl⟩ := mem_broken hd
      have hr := kk_range (t := t) hn i
      generalize kk n t i = k at *
      simp at hx
      rcases hx with rfl | rfl
      · have := ih (-k) (by simp) (by omega)
        omega
      · have := ih (k + 1) (by simp) (by omega)
        omega
  rintro ⟨_, ⟨x, h1, h2⟩ | ⟨d, hd, _, h3⟩⟩
  · have a := hder _ h1
    have b := hder _ h2
    omega
  · obtain ⟨i, hne, rfl⟩ := mem_broken hd
    have hr := kk_range (t := t) hn i
    generalize kk n t i = k at *
    have a := hder _ (h3 (k + 1) (by simp))
    have b := hder _ (h3 (-k) (by simp))
    omega
end Go.Proofs.Ytmfgdemgepkggaa
