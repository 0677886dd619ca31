/- Terms that came in: as they were handed in. -/
import Derived.Test.YtbnonccmlildnaaGreatM36
import Derived.Test.YtbnonccmlildnaaGreatRows
import Derived.ProofKit
import Derived.OpenShut
import Derived.SizedLaws
import Derived.ChangeOld
import Derived.Stop.Joined
import Derived.ShutString
import Derived.Deep.Slices
import Derived.Test.YtbnonccmlildnaaGreatM12
set_option linter.unusedSimpArgs false
set_option linter.unusedVariables false
namespace Go.Proofs.YtbnonccmlildnaaGreat
open Go.ChangeShapes Go.WideShapes Go.ChangeAt Go.RowKit

theorem own : ownKnob Tryz.prog.godebug = none := by kernel_rfl
theorem laidOut : laidOutB Tryz.prog = true := by kernel_rfl
theorem wf_i64 {x : Int} (h : (_root_.Go.Lit.int .i64 x).wf = true) : i64 x := by
  simpa [_root_.Go.Lit.wf, IntKind.min, IntKind.max, IntKind.signed, IntKind.bits, i64] using h
/-- The types of a term and of its parts. -/
structure TermTypes (P : Program) (tT tL tV tB tI tS : TypeId) where
  fs : Array Field
  gs : Array Field
  hT : P.underlying tT = some (.struct fs)
  fT : fs.toList.map (fun f => (f.offset, f.type)) = [(0, tI), (1, tS), (2, tI), (3, tS), (4, tL), (5, tV), (6, tL)]
  hB : P.underlying tB = some (.struct gs)
  fB : gs.toList.map (fun f => (f.offset, f.type)) = [(0, tS), (1, tI)]
  hL : P.underlying tL = some (.slice tT)
  hV : P.underlying tV = some (.slice tB)
  hI : P.underlying tI = some (.int .i64)
  hS : P.underlying tS = some .string
  cT : P.cellsOf tT = 7
  cB : P.cellsOf tB = 2
  cL : P.cellsOf tL = 1
  cV : P.cellsOf tV = 1
  cI : P.cellsOf tI = 1
  cS : P.cellsOf tS = 1
  bT : 1 ≤ P.bytesOf tT
  bB : 1 ≤ P.bytesOf tB
theorem spot_none {w : World} {ad : Addr} {u : Value} (h : w.cell? ad = some u) : ad = ⟨ad.block, ad.off, none⟩ := by
  cases ad with
  | mk b o s =>
    cases s with
    | none => rfl
    | some s => simp [World.cell?] at h; split at h <;> cases h
theorem weightsAll_mem {H : Type} {P : Program} {e : TypeId} : ∀ (ds : List (DataW H)) (x : DataW H) (n : Nat), x ∈ ds → n ∈ x.weights P e → n ∈ DataW.weightsAll P e ds := by
  intro ds
  induction ds with
  | nil => intro x n hx; cases hx
  | cons y ds ih =>
    intro x n hx hn
    simp only [DataW.weightsAll, List.mem_append]
    rcases List.mem_cons.1 hx with rfl | hx
    · exact .inl hn
    · exact .inr (ih x n hx hn)
theorem bulk_mem {H : Type} : ∀ (ds : List (DataW H)) (x : DataW H), x ∈ ds → Rows.uptoBulk x ≤ Rows.uptoBulkAll ds := by
  intro ds
  induction ds with
  | nil => intro x hx; cases hx
  | cons y ds ih =>
    intro x hx
    simp only [Rows.uptoBulkAll]
    rcases List.mem_cons.1 hx with rfl | hx
    · omega
    · have := ih x hx
      omega
mutual
theorem numsT_le {N M : Nat} (h : N ≤ M) : ∀ t : Tm, numsT N t = true → numsT M t = true
  | .mk _ _ _ _ l vars pat, ht => by
    simp only [numsT, Bool.and_eq_true, decide_eq_true_eq] at ht ⊢
    exact ⟨Nat.le_trans ht.1 h, numsTs_le h l ht.2⟩
theorem numsTs_le {N M : Nat} (h : N ≤ M) : ∀ l : List Tm, numsTs N l = true → numsTs M l = true
  | [], _ => rfl
  | t :: ts, ht => by
    simp only [numsTs, Bool.and_eq_true] at ht ⊢
    exact ⟨numsT_le h t ht.1, numsTs_le h ts ht.2⟩
end
theorem numsTs_all {N : Nat} : ∀ l : List Tm, (∀ t ∈ l, numsT N t = true) → numsTs N l = true
  | [], _ => rfl
  | t :: ts, h => by
    simp only [numsTs, Bool.and_eq_true]
    exact ⟨h t (by simp), numsTs_all ts fun u hu => h u (by simp [hu])⟩
instance : Inhabited Tm := ⟨.mk 0 .empty 0 .empty [] [] []⟩
section
variable {H : Type} {enc : TypeId × Value → H} {P : Program} {W : World} {held : Bool} {spare : Nat → Bool} {tT tL tV tB tI tS : TypeId}
def fits (P : Program) (t : TypeId) (d : DataW H) : Prop := ∀ n ∈ d.weights P t, n ≤ reachBytes
theorem fits_field {fs : Array Field} {t : TypeId} (ht : P.underlying t = some (.struct fs)) {ds : List (DataW H)} (h : fits P t (.agg ds)) {j : Nat} {f : Field} {d : DataW H} (hf : fs[j]? = some f) (hd : ds[j]? = some d) : fits P f.type d := fun n hn =>
  h n (by
    simp only [DataW.weights, ht]
    exact DataW.weights_mem_each (j := j) (by simp [hf]) hd n hn)
theorem fits_elem {t e : TypeId} (ht : P.underlying t = some (.slice e)) {ds rs : List (DataW H)} (h : fits P t (.slice ds rs)) {d : DataW H} (hd : d ∈ ds) : fits P e d := fun n hn =>
  h n (by
    simp only [DataW.weights, ht]
    exact List.mem_cons_of_mem _ (List.mem_append_left _ (weightsAll_mem _ _ _ hd hn)))
theorem fits_len {t e : TypeId} (ht : P.underlying t = some (.slice e)) (he : 1 ≤ P.bytesOf e) {ds rs : List (DataW H)} (h : fits P t (.slice ds rs)) : ds.length ≤ 140737488355328 := by
  have := h ((ds.length + rs.length) * P.bytesOf e) (by simp only [DataW.weights, ht]; exact List.mem_cons_self)
  have h1 : ds.length + rs.length ≤ (ds.length + rs.length) * P.bytesOf e := Nat.le_mul_of_pos_right _ he
  have := reachBytes_lt
  omega
theorem fits_string {t : TypeId} {l : List UInt8} (h : fits (H := H) P t (.lit (.string l))) : l.length ≤ 140737488355328 := by
  have := h l.length (by simp [DataW.weights])
  have := reachBytes_lt
  omega
/-- The elements of a slice, one by one. -/
theorem open_elems {t e : TypeId} {k fuel : Nat} {c : Value} {y : DataW H × List MemPlace} (ht : P.underlying t = some (.slice e)) (he : P.cellsOf e = k) (hk : 0 < k) (h : DataW.trod enc P W 0 spare held fuel t [c] = some y) :
    (c = .slice none 0 0 ∧ y.1 = .nil) ∨ ∃ (A : Option Addr) (len cap n : Nat) (ds rs : List (DataW H)) (G : Nat → List Value), fuel = n + 1 ∧ c = .slice A len cap ∧ len ≤ cap ∧ y.1 = .slice ds rs ∧ ds.length = len ∧
      (len = 0 ∨ ∃ b o, A = some ⟨b, o, none⟩ ∧ ∀ j, j < len → (G j).length = k ∧ ∀ i, i < k → W.cell? ⟨b, o + j * k + i, none⟩ = (G j)[i]?) ∧
      ∀ j, j < len → ∃ z, DataW.trod enc P W 0 spare held n e (G j) = some z ∧ ds[j]? = some z.1 := by
  rcases DataW.trod_slice ht h with ⟨h0, hx⟩ | ⟨a, len, cap, elems, rest, n, hfu, hcs, hx, hb, hl, hm, hlen, hel, _, _⟩
  · simp at h0
    exact .inl ⟨h0, by rw [hx]⟩
  · simp at hcs
    subst hcs
    have hall : ∀ j, j < len → ∃ cs' : List Value, W.cells? 0 (a.add (j * k)) k = some cs' ∧ ∃ z, DataW.trod enc P W 0 spare held n e cs' = some z ∧ (elems.map (·.1))[j]? = some z.1 := fun j hj => by
      have h1 := hel j hj
      rw [he] at h1
      have h2 : elems[j]? = some elems[j] := List.getElem?_eq_getElem (by omega)
      rw [h2] at h1
      obtain ⟨cs', h3, h4⟩ := Option.bind_eq_some_iff.1 h1
      exact ⟨cs', h3, _, h4, by simp [h2]⟩
    obtain ⟨G, hG⟩ := Go.Deep.choose_lt hall
    refine .inr ⟨some a, len, cap, n, _, _, G, hfu, rfl, hl, by rw [hx], by simpa using hlen, ?_, fun j hj => (hG j hj).2⟩
    by_cases hz : len = 0
    · exact .inl hz
    · have h0 := World.cells?_some (hG 0 (by omega)).1
      have ha : a = ⟨a.block, a.off, none⟩ := by
        have h1 := h0.2.2 0 hk
        have h2 : (G 0)[0]? = some (G 0)[0] := List.getElem?_eq_getElem (by rw [h0.2.1]; exact hk)
        rw [h2] at h1
        simp only [Nat.zero_mul, Addr.add, if_true] at h1
        exact spot_none h1
      refine .inr ⟨a.block, a.off, by rw [← ha], fun j hj => ?_⟩
      obtain ⟨_, h2, h3⟩ := World.cells?_some (hG j hj).1
      refine ⟨h2, fun i hi => ?_⟩
      have h4 := h3 i hi
      rw [ha, Addr.add_lit, Addr.add_lit] at h4
      exact h4
theorem take_one {cs : List Value} {k i : Nat} (hl : cs.length = k) (hi : i < k) : (cs.drop i).take 1 = [cs.getD i .nilFunc] := by
  have h : cs.getD i .nilFunc = cs[i]'(by omega) := by simp [List.getElem?_eq_getElem (show i < cs.length by omega)]
  rw [h, List.drop_eq_getElem_cons (show i < cs.length by omega), List.take_succ_cons, List.take_zero]
/-- Bound variables that came in. -/
theorem open_bounds (T : TermTypes P tT tL tV tB tI tS) {fuel : Nat} {c : Value} {y : DataW H × List MemPlace} (h : DataW.trod enc P W 0 spare held fuel tV [c] = some y) (hf : fits P tV y.1) :
    ∃ vars : Bd, BsV W vars c ∧ vars.length ≤ 140737488355328 ∧ (∀ x ∈ vars, x.1.size ≤ 140737488355328 ∧ i64 x.2) ∧ ∀ x ∈ vars, x.1.size ≤ Rows.uptoBulk y.1 := by
  rcases open_elems T.hV T.cB (by omega) h with ⟨rfl, _⟩ | ⟨A, len, cap, n, ds, rs, G, _, rfl, hl, hy, hds, hrow, hel⟩
  · exact ⟨[], BsV.nil _, by simp, by simp, by simp⟩
  · rw [hy] at hf
    have hone : ∀ j, j < len → ∃ v : ByteArray × Int, G j = [.string v.1, .int .i64 v.2] ∧ (v.1.size ≤ 140737488355328 ∧ i64 v.2) ∧ v.1.size ≤ Rows.uptoBulkAll ds := fun j hj => by
      obtain ⟨z, hz, hdj⟩ := hel j hj
      obtain ⟨xs, m, _, hzx, hlen, hxl, hfs⟩ := DataW.trod_struct T.hB hz
      have hgs : T.gs.size = 2 := by have := congrArg List.length T.fB; simpa using this
      rw [T.cB] at hlen
      rw [hgs] at hxl
      match xs, hxl with
      | [x0, x1], _ =>
        have g0 : T.gs[0]? = some T.gs[0] := Array.getElem?_eq_getElem (by omega)
        have g1 : T.gs[1]? = some T.gs[1] := Array.getElem?_eq_getElem (by omega)
        have e0 : (T.gs[0].offset, T.gs[0].type) = (0, tS) := by have := congrArg (fun l => l[0]?) T.fB; simpa [g0] using this
        have e1 : (T.gs[1].offset, T.gs[1].type) = (1, tI) := by have := congrArg (fun l => l[1]?) T.fB; simpa [g1] using this
        have f0 := hfs 0 _ g0
        have f1 := hfs 1 _ g1
        obtain ⟨o0, t0⟩ := Prod.mk.inj e0
        obtain ⟨o1, t1⟩ := Prod.mk.inj e1
        rw [o0, t0, T.cS, take_one hlen (by omega)] at f0
        rw [o1, t1, T.cI, take_one hlen (by omega)] at f1
        obtain ⟨s, hs, hx0, _⟩ := DataW.trod_string T.hS f0
        obtain ⟨q, hq, _, hw⟩ := DataW.trod_int T.hI f1
        have hft : fits P tB z.1 := fits_elem T.hV hf (List.mem_of_getElem? hdj)
        rw [hzx] at hft
        have hfn := fits_field T.hB hft (j := 0) g0 (d := x0.1) rfl
        rw [t0, hx0] at hfn
        have hbk : s.size ≤ Rows.uptoBulkAll ds := by
          have h1 := bulk_mem ds z.1 (List.mem_of_getElem? hdj)
          rw [hzx] at h1
          simp only [List.map_cons, List.map_nil, Rows.uptoBulk, Rows.uptoBulkAll, hx0, Array.length_toList] at h1
          show s.data.size ≤ _
          omega
        refine ⟨(s, q), ?_, ⟨by have := fits_string hfn; rw [Array.length_toList] at this; exact this, wf_i64 hw⟩, hbk⟩
        match hG : G j, hlen with
        | [c0, c1], _ =>
          rw [hG] at hs hq
          simp at hs hq
          rw [hs, hq]
    obtain ⟨V, hV⟩ := Go.Deep.choose_lt (α := ByteArray × Int) hone
    have hlen : ((List.range len).map V).length = len := by simp
    have hget : ∀ j, j < len → ((List.range len).map V)[j]? = some (V j) := fun j hj => by simp [hj]
    refine ⟨(List.range len).map V, ⟨A, cap, by rw [hlen], by rw [hlen]; exact hl, ?_⟩, ?_, ?_, ?_⟩
    · rw [hlen]
      rcases hrow with h0 | ⟨b, o, rfl, hr⟩
      · exact .inl h0
      · refine .inr ⟨b, o, rfl, fun j hj => ?_⟩
        dsimp only
        rw [hget j hj]
        refine ⟨rfl, fun i hi => ?_⟩
        rw [(hr j hj).2 i hi, (hV j hj).1]
        obtain ⟨s, q⟩ := V j
        simp [Value.cells]
    · rw [hlen, ← hds]
      exact fits_len T.hV T.bB hf
    · intro x hx
      obtain ⟨j, hj, rfl⟩ := List.mem_map.1 hx
      exact (hV j (List.mem_range.1 hj)).2.1
    · intro x hx
      obtain ⟨j, hj, rfl⟩ := List.mem_map.1 hx
      have := (hV j (List.mem_range.1 hj)).2.2
      rw [hy]
      simp only [Rows.uptoBulk]
      omega
/-- A slice of terms that came in, where its elements can be opened. -/
theorem open_terms (T : TermTypes P tT tL tV tB tI tS) {fuel : Nat} (ih : ∀ (m : Nat), m < fuel → ∀ (cs : List Value) (x : DataW H × List MemPlace), DataW.trod enc P W 0 spare held m tT cs = some x → fits P tT x.1 → ∃ t, TmV W t (.agg cs.toArray) ∧ numsT (Rows.uptoBulk x.1) t = true)
    {c : Value} {y : DataW H × List MemPlace} (h : DataW.trod enc P W 0 spare held fuel tL [c] = some y) (hf : fits P tL y.1) : ∃ l : List Tm, TsV W l c ∧ l.length ≤ 140737488355328 ∧ numsTs (Rows.uptoBulk y.1) l = true := by
  rcases open_elems T.hL T.cT (by omega) h with ⟨rfl, _⟩ | ⟨A, len, cap, n, ds, rs, G, hfu, rfl, hl, hy, hds, hrow, hel⟩
  · exact ⟨[], TsV.nil _, by simp, rfl⟩
  · rw [hy] at hf
    have hone : ∀ j, j < len → ∃ t : Tm, TmV W t (.agg (G j).toArray) ∧ numsT (Rows.uptoBulk (DataW.slice ds rs)) t = true := fun j hj => by
      obtain ⟨z, hz, hdj⟩ := hel j hj
      obtain ⟨t, h1, h2⟩ := ih n (by omega) _ _ hz (fits_elem T.hL hf (List.mem_of_getElem? hdj))
      refine ⟨t, h1, numsT_le ?_ t h2⟩
      have := bulk_mem ds z.1 (List.mem_of_getElem? hdj)
      simp only [Rows.uptoBulk]
      omega
    obtain ⟨V, hV⟩ := Go.Deep.choose_lt hone
    have hlen : ((List.range len).map V).length = len := by simp
    refine ⟨(List.range len).map V, ⟨A, cap, by rw [hlen], by rw [hlen]; exact hl, fun j => .agg (G j).toArray, ?_, fun j t ht => ?_⟩, ?_, ?_⟩
    · rw [hlen]
      rcases hrow with h0 | ⟨b, o, rfl, hr⟩
      · exact .inl h0
      · refine .inr ⟨b, o, rfl, fun j hj => ⟨by simp [Value.cells, (hr j hj).1], fun i hi => ?_⟩⟩
        rw [(hr j hj).2 i hi]
        simp [Value.cells]
    · have hj : j < len := by
        rcases Nat.lt_or_ge j len with h | h
        · exact h
        · rw [List.getElem?_eq_none (by omega)] at ht
          cases ht
      have : t = V j := by simpa [hj] using ht.symm
      rw [this]
      exact (hV j hj).1
    · rw [hlen, ← hds]
      exact fits_len T.hL T.bT hf
    · rw [hy]
      refine numsTs_all _ fun t ht => ?_
      obtain ⟨j, hj, rfl⟩ := List.mem_map.1 ht
      exact (hV j (List.mem_range.1 hj)).2
/-- A term that came in. -/
theorem open_tm (T : TermTypes P tT tL tV tB tI tS) : ∀ (fuel : Nat) (cs : List Value) (x : DataW H × List MemPlace), DataW.trod enc P W 0 spare held fuel tT cs = some x → fits P tT x.1 → ∃ t, TmV W t (.agg cs.toArray) ∧ numsT (Rows.uptoBulk x.1) t = true := by
  intro fuel
  induction fuel using Nat.strongRecOn with
  | _ fuel ih =>
    intro cs x h hf
    obtain ⟨xs, n, hfu, hzx, hlen, hxl, hfs⟩ := DataW.trod_struct T.hT h
    have hgs : T.fs.size = 7 := by have := congrArg List.length T.fT; simpa using this
    rw [T.cT] at hlen
    rw [hzx] at hf
    have key : ∀ (i : Nat) (hi : i < 7) (o : Nat) (t : TypeId), (T.fs.toList.map (fun f => (f.offset, f.type)))[i]? = some (o, t) → P.cellsOf t = 1 → o = i → ∃ y, DataW.trod enc P W 0 spare held n t [cs.getD i .nilFunc] = some y ∧ fits P t y.1 ∧ Rows.uptoBulk y.1 ≤ Rows.uptoBulk x.1 := fun i hi o t he hc ho => by
      have g : T.fs[i]? = some T.fs[i] := Array.getElem?_eq_getElem (by omega)
      have e : (T.fs[i].offset, T.fs[i].type) = (o, t) := by simpa [g] using he
      obtain ⟨eo, et⟩ := Prod.mk.inj e
      have f := hfs i _ g
      have hx : xs[i]? = some xs[i] := List.getElem?_eq_getElem (by omega)
      rw [eo, et, hc, ho, take_one hlen hi, hx] at f
      have hbk : Rows.uptoBulk xs[i].1 ≤ Rows.uptoBulk x.1 := by
        have h1 := bulk_mem (xs.map (·.1)) xs[i].1 (List.mem_of_getElem? (i := i) (by simp [hx]))
        rw [hzx]
        simp only [Rows.uptoBulk]
        omega
      refine ⟨_, f, ?_, hbk⟩
      have := fits_field T.hT hf (j := i) g (d := xs[i].1) (by simp [hx])
      rwa [et] at this
    obtain ⟨y0, h0, f0, g0⟩ := key 0 (by omega) 0 tI (by rw [T.fT]; rfl) T.cI rfl
    obtain ⟨y1, h1, f1, g1⟩ := key 1 (by omega) 1 tS (by rw [T.fT]; rfl) T.cS rfl
    obtain ⟨y2, h2, f2, g2⟩ := key 2 (by omega) 2 tI (by rw [T.fT]; rfl) T.cI rfl
    obtain ⟨y3, h3, f3, g3⟩ := key 3 (by omega) 3 tS (by rw [T.fT]; rfl) T.cS rfl
    obtain ⟨y4, h4, f4, g4⟩ := key 4 (by omega) 4 tL (by rw [T.fT]; rfl) T.cL rfl
    obtain ⟨y5, h5, f5, g5⟩ := key 5 (by omega) 5 tV (by rw [T.fT]; rfl) T.cV rfl
    obtain ⟨y6, h6, f6, g6⟩ := key 6 (by omega) 6 tL (by rw [T.fT]; rfl) T.cL rfl
    obtain ⟨c0, c1, c2, c3, c4, c5, c6, rfl⟩ : ∃ c0 c1 c2 c3 c4 c5 c6, cs = [c0, c1, c2, c3, c4, c5, c6] := by
      match cs, hlen with
      | [c0, c1, c2, c3, c4, c5, c6], _ => exact ⟨c0, c1, c2, c3, c4, c5, c6, rfl⟩
    obtain ⟨op, e0, _, w0⟩ := DataW.trod_int T.hI (show DataW.trod enc P W 0 spare held n tI [c0] = some y0 from h0)
    obtain ⟨name, e1, x1, _⟩ := DataW.trod_string T.hS (show DataW.trod enc P W 0 spare held n tS [c1] = some y1 from h1)
    obtain ⟨sort, e2, _, w2⟩ := DataW.trod_int T.hI (show DataW.trod enc P W 0 spare held n tI [c2] = some y2 from h2)
    obtain ⟨nn, e3, x3, _⟩ := DataW.trod_string T.hS (show DataW.trod enc P W 0 spare held n tS [c3] = some y3 from h3)
    have ih' : ∀ (m : Nat), m < n → ∀ (cs : List Value) (x : DataW H × List MemPlace), DataW.trod enc P W 0 spare held m tT cs = some x → fits P tT x.1 → ∃ t, TmV W t (.agg cs.toArray) ∧ numsT (Rows.uptoBulk x.1) t = true := fun m hm => ih m (by omega)
    obtain ⟨l, hl, ll, ml⟩ := open_terms T ih' (c := c4) h4 f4
    obtain ⟨vars, hv, lv, hvs, _⟩ := open_bounds T (c := c5) h5 f5
    obtain ⟨pat, hp, lp, mp⟩ := open_terms T ih' (c := c6) h6 f6
    simp at e0 e1 e2 e3
    subst e0 e1 e2 e3
    rw [x1] at f1
    rw [x3] at f3
    exact ⟨.mk op name sort nn l vars pat, TmV.make ⟨wf_i64 w0, wf_i64 w2, by have := fits_string f1; rw [Array.length_toList] at this; exact this, by have := fits_string f3; rw [Array.length_toList] at this; exact this, ll, lv, lp, hvs⟩ hl hv hp, by
      rw [x3] at g3
      simp only [Rows.uptoBulk, Array.length_toList] at g3
      simp only [numsT, Bool.and_eq_true, decide_eq_true_eq]
      exact ⟨by show nn.data.size ≤ _; omega, numsTs_le g4 l ml⟩⟩
end
end Go.Proofs.YtbnonccmlildnaaGreat

/- Signatures and models that came in. -/
namespace Go.Proofs.YtbnonccmlildnaaGreat
open Go.RowKit

/-- The types of a signature and of its parts. -/
structure FunTypes (P : Program) (tG tF tA tI tS : TypeId) where
  fs : Array Field
  hF : P.underlying tF = some (.struct fs)
  fF : fs.toList.map (fun f => (f.offset, f.type)) = [(0, tS), (1, tA), (2, tI)]
  hG : P.underlying tG = some (.slice tF)
  hA : P.underlying tA = some (.slice tI)
  hI : P.underlying tI = some (.int .i64)
  hS : P.underlying tS = some .string
  cF : P.cellsOf tF = 3
  cA : P.cellsOf tA = 1
  cI : P.cellsOf tI = 1
  cS : P.cellsOf tS = 1
  bF : 1 ≤ P.bytesOf tF
  bI : 1 ≤ P.bytesOf tI
instance : Inhabited Fn := ⟨⟨.empty, [], 0⟩⟩
section
variable {H : Type} {enc : TypeId × Value → H} {P : Program} {W : World} {held : Bool} {spare : Nat → Bool} {tG tF tA tI tS : TypeId}
theorem open_ints (T : FunTypes P tG tF tA tI tS) {fuel : Nat} {c : Value} {y : DataW H × List MemPlace} (h : DataW.trod enc P W 0 spare held fuel tA [c] = some y) (hf : fits P tA y.1) :
    ∃ (xs : List Int) (B : Option Addr) (cap : Nat), c = .slice B xs.length cap ∧ IntsAt W B cap xs ∧ xs.length ≤ 140737488355328 := by
  rcases open_elems T.hA T.cI (by omega) h with ⟨rfl, _⟩ | ⟨A, len, cap, n, ds, rs, G, _, rfl, hl, hy, hds, hrow, hel⟩
  · exact ⟨[], none, 0, rfl, ⟨by simp, .inl rfl⟩, by simp⟩
  · rw [hy] at hf
    rcases hrow with h0 | ⟨b, o, rfl, hr⟩
    · subst h0
      exact ⟨[], A, cap, rfl, ⟨by simp, .inl rfl⟩, by simp⟩
    have hone : ∀ j, j < len → ∃ v : Int, G j = [.int .i64 v] := fun j hj => by
      obtain ⟨z, hz, hdj⟩ := hel j hj
      obtain ⟨q, hq, _, hw⟩ := DataW.trod_int T.hI hz
      refine ⟨q, ?_⟩
      have hlen := (hr j hj).1
      match hG : G j, hlen with
      | [c0], _ => rw [hG] at hq; simp at hq; rw [hq]
    obtain ⟨V, hV⟩ := Go.Deep.choose_lt (α := Int) hone
    have hlen : ((List.range len).map V).length = len := by simp
    refine ⟨(List.range len).map V, some ⟨b, o, none⟩, cap, by rw [hlen], ⟨by rw [hlen]; exact hl, .inr (.inr ⟨b, o, rfl, fun j u hj => ?_⟩)⟩, by rw [hlen, ← hds]; exact fits_len T.hA T.bI hf⟩
    have hjl : j < len := by
      rcases Nat.lt_or_ge j len with h | h
      · exact h
      · rw [List.getElem?_eq_none (by simp; omega)] at hj
        cases hj
    have h1 := (hr j hjl).2 0 (by omega)
    rw [hV j hjl] at h1
    simp [hjl] at hj
    subst hj
    simpa using h1
/-- A signature that came in. -/
theorem open_fns (T : FunTypes P tG tF tA tI tS) {fuel : Nat} {c : Value} {y : DataW H × List MemPlace} (h : DataW.trod enc P W 0 spare held fuel tG [c] = some y) (hf : fits P tG y.1) :
    ∃ (sig : List Fn) (S : Option Addr) (cs : Nat), c = .slice S sig.length cs ∧ SigAt W S cs sig ∧ sig.length ≤ cs ∧ (S = none → cs = 0) := by
  rcases open_elems T.hG T.cF (by omega) h with ⟨rfl, _⟩ | ⟨A, len, cap, n, ds, rs, G, _, hc, hl, hy, hds, hrow, hel⟩
  · exact ⟨[], none, 0, rfl, ⟨⟨fun _ => .nilFunc, .inl rfl, by simp⟩, by simp, by simp⟩, by simp, fun _ => rfl⟩
  · rw [hy] at hf
    have hA0 : A = none → cap = 0 := fun e => by
      subst e
      subst hc
      rcases DataW.trod_slice T.hG h with ⟨h0, _⟩ | ⟨a, len', cap', _, _, _, _, h0, _⟩
      · simp at h0; exact h0.2
      · simp at h0
    have hone : ∀ j, j < len → ∃ f : Fn, FnAt W f (.agg (G j).toArray) := fun j hj => by
      obtain ⟨z, hz, hdj⟩ := hel j hj
      obtain ⟨xs, m, _, hzx, hlen, hxl, hfs⟩ := DataW.trod_struct T.hF hz
      have hgs : T.fs.size = 3 := by have := congrArg List.length T.fF; simpa using this
      rw [T.cF] at hlen
      rw [hgs] at hxl
      match xs, hxl with
      | [x0, x1, x2], _ =>
        have g0 : T.fs[0]? = some T.fs[0] := Array.getElem?_eq_getElem (by omega)
        have g1 : T.fs[1]? = some T.fs[1] := Array.getElem?_eq_getElem (by omega)
        have g2 : T.fs[2]? = some T.fs[2] := Array.getElem?_eq_getElem (by omega)
        have e0 : (T.fs[0].offset, T.fs[0].type) = (0, tS) := by have := congrArg (fun l => l[0]?) T.fF; simpa [g0] using this
        have e1 : (T.fs[1].offset, T.fs[1].type) = (1, tA) := by have := congrArg (fun l => l[1]?) T.fF; simpa [g1] using this
        have e2 : (T.fs[2].offset, T.fs[2].type) = (2, tI) := by have := congrArg (fun l => l[2]?) T.fF; simpa [g2] using this
        have f0 := hfs 0 _ g0
        have f1 := hfs 1 _ g1
        have f2 := hfs 2 _ g2
        obtain ⟨o0, t0⟩ := Prod.mk.inj e0
        obtain ⟨o1, t1⟩ := Prod.mk.inj e1
        obtain ⟨o2, t2⟩ := Prod.mk.inj e2
        rw [o0, t0, T.cS, take_one hlen (by omega)] at f0
        rw [o1, t1, T.cA, take_one hlen (by omega)] at f1
        rw [o2, t2, T.cI, take_one hlen (by omega)] at f2
        obtain ⟨s, hs, hx0, _⟩ := DataW.trod_string T.hS f0
        obtain ⟨q, hq, _, hw⟩ := DataW.trod_int T.hI f2
        have hft : fits P tF z.1 := fits_elem T.hG hf (List.mem_of_getElem? hdj)
        rw [hzx] at hft
        have hfn := fits_field T.hF hft (j := 0) g0 (d := x0.1) rfl
        rw [t0, hx0] at hfn
        have hfa := fits_field T.hF hft (j := 1) g1 (d := x1.1) rfl
        rw [t1] at hfa
        obtain ⟨args, B, ca, hB, hi, ha⟩ := open_ints T f1 hfa
        refine ⟨⟨s, args, q⟩, ⟨B, ca, ?_, hi⟩, ?_, ha, wf_i64 hw⟩
        · match hG : G j, hlen with
          | [c0, c1, c2], _ =>
            rw [hG] at hs hq hB
            simp at hs hq hB
            rw [hs, hq, hB]
        · have := fits_string hfn
          rw [Array.length_toList] at this
          exact this
    obtain ⟨V, hV⟩ := Go.Deep.choose_lt (α := Fn) (n := len) (p := fun j f => FnAt W f (.agg (G j).toArray)) hone
    have hlen : ((List.range len).map V).length = len := by simp
    subst hc
    refine ⟨(List.range len).map V, A, cap, by rw [hlen], ⟨⟨fun j => .agg (G j).toArray, ?_, fun j f hj => ?_⟩, by rw [hlen, ← hds]; exact fits_len T.hG T.bF hf, ?_⟩, by rw [hlen]; exact hl, hA0⟩
    · rw [hlen]
      rcases hrow with h0 | ⟨b, o, rfl, hr⟩
      · exact .inl h0
      · refine .inr ⟨b, o, rfl, fun j hj => ⟨by simpa [Value.cells] using (hr j hj).1, fun i hi => ?_⟩⟩
        rw [(hr j hj).2 i hi]
        simp [Value.cells]
    · have hjl : j < len := by
        rcases Nat.lt_or_ge j len with h | h
        · exact h
        · rw [List.getElem?_eq_none (by simp; omega)] at hj
          cases hj
      simp [hjl] at hj
      subst hj
      exact hV j hjl
    · intro f hf2
      obtain ⟨j, hj, rfl⟩ := List.mem_map.1 hf2
      exact (hV j (List.mem_range.1 hj)).out
end
theorem bulk_pos {H : Type} : ∀ d : DataW H, 1 ≤ Rows.uptoBulk d
  | .lit (.string b) => by simp only [Rows.uptoBulk]; omega
  | .lit (.int _ _) => by simp [Rows.uptoBulk]
  | .lit (.bool _) => by simp [Rows.uptoBulk]
  | .lit (.float _ _) => by simp [Rows.uptoBulk]
  | .lit .nil => by simp [Rows.uptoBulk]
  | .nil => by simp [Rows.uptoBulk]
  | .ptr d => by simp only [Rows.uptoBulk]; omega
  | .slice a b => by simp only [Rows.uptoBulk]; omega
  | .agg a => by simp only [Rows.uptoBulk]; omega
  | .iface _ d => by simp only [Rows.uptoBulk]; omega
  | .map e => by simp only [Rows.uptoBulk]; omega
  | .held _ => by simp [Rows.uptoBulk]
theorem bulk_len {H : Type} : ∀ ds : List (DataW H), ds.length ≤ Rows.uptoBulkAll ds
  | [] => Nat.zero_le _
  | d :: ds => by
    have h1 := bulk_pos d
    have h2 := bulk_len ds
    simp only [Rows.uptoBulkAll, List.length_cons]
    omega
theorem open_len {H : Type} {enc : TypeId × Value → H} {P : Program} {W : World} {held : Bool} {spare : Nat → Bool} {t e : TypeId} {k fuel : Nat} {B : Option Addr} {n c : Nat} {y : DataW H × List MemPlace} (ht : P.underlying t = some (.slice e)) (he : P.cellsOf e = k) (hk : 0 < k) (h : DataW.trod enc P W 0 spare held fuel t [.slice B n c] = some y) : n ≤ Rows.uptoBulk y.1 := by
  rcases open_elems ht he hk h with ⟨h0, _⟩ | ⟨A, len, cap, m, ds, rs, G, _, hc, _, hy, hds, _, _⟩
  · cases h0; exact Nat.zero_le _
  · cases hc
    rw [hy]
    have := bulk_len ds
    simp only [Rows.uptoBulk]
    omega
/-- The types of a model and of its parts. -/
structure ModelTypes (P : Program) (tM tTs tT tRs tR tSs tI tS : TypeId) where
  ms : Array Field
  ts : Array Field
  rs : Array Field
  hM : P.underlying tM = some (.struct ms)
  fM : ms.toList.map (fun f => (f.offset, f.type)) = [(0, tTs), (1, tI)]
  hT : P.underlying tT = some (.struct ts)
  fT : ts.toList.map (fun f => (f.offset, f.type)) = [(0, tS), (1, tRs), (2, tS)]
  hR : P.underlying tR = some (.struct rs)
  fR : rs.toList.map (fun f => (f.offset, f.type)) = [(0, tSs), (1, tS)]
  hTs : P.underlying tTs = some (.slice tT)
  hRs : P.underlying tRs = some (.slice tR)
  hSs : P.underlying tSs = some (.slice tS)
  hI : P.underlying tI = some (.int .i64)
  hS : P.underlying tS = some .string
  cM : P.cellsOf tM = 2
  cT : P.cellsOf tT = 3
  cR : P.cellsOf tR = 2
  cTs : P.cellsOf tTs = 1
  cRs : P.cellsOf tRs = 1
  cSs : P.cellsOf tSs = 1
  cI : P.cellsOf tI = 1
  cS : P.cellsOf tS = 1
  bT : 1 ≤ P.bytesOf tT
  bR : 1 ≤ P.bytesOf tR
  bS : 1 ≤ P.bytesOf tS
instance : Inhabited Tb := ⟨⟨.empty, [], .empty⟩⟩
section
variable {H : Type} {enc : TypeId × Value → H} {P : Program} {W : World} {held : Bool} {spare : Nat → Bool} {tM tTs tT tRs tR tSs tI tS : TypeId}
/-- A field of what came in. -/
theorem open_field {t : TypeId} {fs : Array Field} {k n : Nat} (hT : P.underlying t = some (.struct fs)) {L : List (Nat × TypeId)} (fT : fs.toList.map (fun f => (f.offset, f.type)) = L) {cs : List Value} {x : DataW H × List MemPlace} {xs : List (DataW H × List MemPlace)}
    (hzx0 : x = (.agg (xs.map (·.1)), xs.flatMap (·.2))) (hlen : cs.length = k) (hxl : xs.length = fs.size) (hf : fits P t x.1)
    (hfs : ∀ (j : Nat) (f : Field), fs[j]? = some f → DataW.trod enc P W 0 spare held n f.type ((cs.drop f.offset).take (P.cellsOf f.type)) = xs[j]?) (i : Nat) (o : Nat) (u : TypeId) (he : L[i]? = some (o, u)) (hc : P.cellsOf u = 1) (ho : o < k) :
    ∃ y, DataW.trod enc P W 0 spare held n u [cs.getD o .nilFunc] = some y ∧ fits P u y.1 ∧ Rows.uptoBulk y.1 + 1 ≤ Rows.uptoBulk x.1 := by
  have hzx : x.1 = .agg (xs.map (·.1)) := by rw [hzx0]
  have hi : i < fs.size := by
    have h1 := (List.getElem?_eq_some_iff.1 he).1
    rw [← fT] at h1
    simpa using h1
  have g : fs[i]? = some fs[i] := Array.getElem?_eq_getElem hi
  have e : (fs[i].offset, fs[i].type) = (o, u) := by
    have := congrArg (fun l => l[i]?) fT
    simpa [g, he] using this
  obtain ⟨eo, et⟩ := Prod.mk.inj e
  have hx : xs[i]? = some xs[i] := List.getElem?_eq_getElem (by omega)
  have f := hfs i _ g
  rw [eo, et, hc, take_one hlen ho, hx] at f
  have hbk : Rows.uptoBulk xs[i].1 + 1 ≤ Rows.uptoBulk x.1 := by
    have h1 := bulk_mem (xs.map (·.1)) xs[i].1 (List.mem_of_getElem? (i := i) (by simp [hx]))
    rw [hzx]
    simp only [Rows.uptoBulk]
    omega
  refine ⟨_, f, ?_, hbk⟩
  rw [hzx] at hf
  have := fits_field hT hf (j := i) g (d := xs[i].1) (by simp [hx])
  rwa [et] at this
/-- A list of strings. -/
theorem open_strs (T : ModelTypes P tM tTs tT tRs tR tSs tI tS) {fuel : Nat} {c : Value} {y : DataW H × List MemPlace} (h : DataW.trod enc P W 0 spare held fuel tSs [c] = some y) (hf : fits P tSs y.1) :
    ∃ (xs : List ByteArray) (B : Option Addr) (cap : Nat), c = .slice B xs.length cap ∧ StrsAt W B xs ∧ xs.length ≤ cap ∧ xs.length ≤ 140737488355328 ∧ ∀ x ∈ xs, small x := by
  rcases open_elems T.hSs T.cS (by omega) h with ⟨rfl, _⟩ | ⟨A, len, cap, n, ds, rs, G, _, rfl, hl, hy, hds, hrow, hel⟩
  · exact ⟨[], none, 0, rfl, .inl rfl, by simp, by simp, by simp⟩
  · rw [hy] at hf
    rcases hrow with h0 | ⟨b, o, rfl, hr⟩
    · subst h0
      exact ⟨[], A, cap, rfl, .inl rfl, by simp, by simp, by simp⟩
    have hone : ∀ j, j < len → ∃ v : ByteArray, G j = [.string v] ∧ small v := fun j hj => by
      obtain ⟨z, hz, hdj⟩ := hel j hj
      obtain ⟨s, hs, hx, _⟩ := DataW.trod_string T.hS hz
      refine ⟨s, ?_, ?_⟩
      · have hlen := (hr j hj).1
        match hG : G j, hlen with
        | [c0], _ => rw [hG] at hs; simp at hs; rw [hs]
      · have hft : fits P tS z.1 := fits_elem T.hSs hf (List.mem_of_getElem? hdj)
        rw [hx] at hft
        have := fits_string hft
        rw [Array.length_toList] at this
        exact this
    obtain ⟨V, hV⟩ := Go.Deep.choose_lt (α := ByteArray) hone
    have hlen : ((List.range len).map V).length = len := by simp
    refine ⟨(List.range len).map V, some ⟨b, o, none⟩, cap, by rw [hlen], .inr ⟨b, o, rfl, fun j u hj => ?_⟩, by rw [hlen]; exact hl, by rw [hlen, ← hds]; exact fits_len T.hSs T.bS hf, fun x hx => ?_⟩
    · have hjl : j < len := by
        rcases Nat.lt_or_ge j len with h | h
        · exact h
        · rw [List.getElem?_eq_none (by simp; omega)] at hj
          cases hj
      have h1 := (hr j hjl).2 0 (by omega)
      rw [(hV j hjl).1] at h1
      simp [hjl] at hj
      subst hj
      simpa using h1
    · obtain ⟨j, hj, rfl⟩ := List.mem_map.1 hx
      exact (hV j (List.mem_range.1 hj)).2
/-- The rows of a table. -/
theorem open_rws (T : ModelTypes P tM tTs tT tRs tR tSs tI tS) {fuel : Nat} {c : Value} {y : DataW H × List MemPlace} (h : DataW.trod enc P W 0 spare held fuel tRs [c] = some y) (hf : fits P tRs y.1) :
    ∃ (xs : List Rw) (B : Option Addr) (cap : Nat), c = .slice B xs.length cap ∧ RwsAt W B xs ∧ xs.length ≤ cap ∧ xs.length ≤ 140737488355328 ∧ ∀ x ∈ xs, x.2.size ≤ Rows.uptoBulk y.1 := by
  rcases open_elems T.hRs T.cR (by omega) h with ⟨rfl, _⟩ | ⟨A, len, cap, n, ds, rs, G, _, rfl, hl, hy, hds, hrow, hel⟩
  · exact ⟨[], none, 0, rfl, ⟨fun _ => .nilFunc, .inl rfl, by simp⟩, by simp, by simp, by simp⟩
  · rw [hy] at hf
    have hone : ∀ j, j < len → ∃ r : Rw, RwAt W r (.agg (G j).toArray) ∧ r.2.size ≤ Rows.uptoBulk y.1 := fun j hj => by
      obtain ⟨z, hz, hdj⟩ := hel j hj
      obtain ⟨xs, m, _, hzx, hlen, hxl, hfs⟩ := DataW.trod_struct T.hR hz
      rw [T.cR] at hlen
      have hft : fits P tR z.1 := fits_elem T.hRs hf (List.mem_of_getElem? hdj)
      obtain ⟨y0, h0, f0, g0⟩ := open_field T.hR T.fR hzx hlen hxl hft hfs 0 0 tSs rfl T.cSs (by omega)
      obtain ⟨y1, h1, f1, g1⟩ := open_field T.hR T.fR hzx hlen hxl hft hfs 1 1 tS rfl T.cS (by omega)
      obtain ⟨as', B, ca, e0, i0, l0, n0, q0⟩ := open_strs T h0 f0
      obtain ⟨s, e1, x1, _⟩ := DataW.trod_string T.hS h1
      rw [x1] at f1 g1
      have hs := fits_string f1
      rw [Array.length_toList] at hs
      simp only [Rows.uptoBulk, Array.length_toList] at g1
      have hbz := bulk_mem ds z.1 (List.mem_of_getElem? hdj)
      refine ⟨(as', s), ⟨⟨B, ca, ?_, i0, l0⟩, hs, n0, q0⟩, ?_⟩
      · match hG : G j, hlen with
        | [c0, c1], _ =>
          rw [hG] at e0 e1
          simp at e0 e1
          rw [e0, e1]
      · rw [hy]
        simp only [Rows.uptoBulk]
        show s.data.size ≤ _
        omega
    obtain ⟨V, hV⟩ := Go.Deep.choose_lt (α := Rw) (n := len) (p := fun j r => RwAt W r (.agg (G j).toArray) ∧ r.2.size ≤ Rows.uptoBulk y.1) hone
    have hlen : ((List.range len).map V).length = len := by simp
    refine ⟨(List.range len).map V, A, cap, by rw [hlen], ⟨fun j => .agg (G j).toArray, ?_, fun j r hj => ?_⟩, by rw [hlen]; exact hl, by rw [hlen, ← hds]; exact fits_len T.hRs T.bR hf, fun x hx => ?_⟩
    · rw [hlen]
      rcases hrow with h0 | ⟨b, o, rfl, hr⟩
      · exact .inl h0
      · refine .inr ⟨b, o, rfl, fun j hj => ⟨by simpa [Value.cells] using (hr j hj).1, fun i hi => ?_⟩⟩
        rw [(hr j hj).2 i hi]
        simp [Value.cells]
    · have hjl : j < len := by
        rcases Nat.lt_or_ge j len with h | h
        · exact h
        · rw [List.getElem?_eq_none (by simp; omega)] at hj
          cases hj
      simp [hjl] at hj
      subst hj
      exact (hV j hjl).1
    · obtain ⟨j, hj, rfl⟩ := List.mem_map.1 hx
      exact (hV j (List.mem_range.1 hj)).2
/-- Tables that came in. -/
theorem open_tabs (T : ModelTypes P tM tTs tT tRs tR tSs tI tS) {fuel : Nat} {c : Value} {y : DataW H × List MemPlace} (h : DataW.trod enc P W 0 spare held fuel tTs [c] = some y) (hf : fits P tTs y.1) :
    ∃ (xs : List Tb) (B : Option Addr) (cap : Nat), c = .slice B xs.length cap ∧ TbsAt W B xs ∧ xs.length ≤ cap ∧ xs.length ≤ 140737488355328 ∧ tabsL (Rows.uptoBulk y.1) xs ∧ (B = none → cap = 0) := by
  rcases open_elems T.hTs T.cT (by omega) h with ⟨rfl, _⟩ | ⟨A, len, cap, n, ds, rs, G, _, hc, hl, hy, hds, hrow, hel⟩
  · exact ⟨[], none, 0, rfl, ⟨fun _ => .nilFunc, .inl rfl, by simp⟩, by simp, by simp, by intro t ht; simp at ht, fun _ => rfl⟩
  · have hA0 : A = none → cap = 0 := fun e => by
      subst e
      subst hc
      rcases DataW.trod_slice T.hTs h with ⟨h0, _⟩ | ⟨a, len', cap', _, _, _, _, h0, _⟩
      · simp at h0; exact h0.2
      · simp at h0
    subst hc
    rw [hy] at hf
    have hone : ∀ j, j < len → ∃ t : Tb, TbAt W t (.agg (G j).toArray) ∧ (t.els.size ≤ Rows.uptoBulk y.1 ∧ ∀ r ∈ t.rows, r.2.size ≤ Rows.uptoBulk y.1) := fun j hj => by
      obtain ⟨z, hz, hdj⟩ := hel j hj
      obtain ⟨xs, m, _, hzx, hlen, hxl, hfs⟩ := DataW.trod_struct T.hT hz
      rw [T.cT] at hlen
      have hft : fits P tT z.1 := fits_elem T.hTs hf (List.mem_of_getElem? hdj)
      obtain ⟨y0, h0, f0, g0⟩ := open_field T.hT T.fT hzx hlen hxl hft hfs 0 0 tS rfl T.cS (by omega)
      obtain ⟨y1, h1, f1, g1⟩ := open_field T.hT T.fT hzx hlen hxl hft hfs 1 1 tRs rfl T.cRs (by omega)
      obtain ⟨y2, h2, f2, g2⟩ := open_field T.hT T.fT hzx hlen hxl hft hfs 2 2 tS rfl T.cS (by omega)
      obtain ⟨s0, e0, x0, _⟩ := DataW.trod_string T.hS h0
      obtain ⟨rw', B, ca, e1, i1, l1, n1, q1⟩ := open_rws T h1 f1
      obtain ⟨s2, e2, x2, _⟩ := DataW.trod_string T.hS h2
      rw [x0] at f0
      rw [x2] at f2 g2
      have hs0 := fits_string f0
      have hs2 := fits_string f2
      rw [Array.length_toList] at hs0 hs2
      simp only [Rows.uptoBulk, Array.length_toList] at g2
      have hbz := bulk_mem ds z.1 (List.mem_of_getElem? hdj)
      have hby : Rows.uptoBulk z.1 ≤ Rows.uptoBulk y.1 := by
        rw [hy]
        simp only [Rows.uptoBulk]
        omega
      refine ⟨⟨s0, rw', s2⟩, ⟨⟨B, ca, ?_, i1, l1⟩, hs0, hs2, n1⟩, ?_, fun r hr => ?_⟩
      · match hG : G j, hlen with
        | [c0, c1, c2], _ =>
          rw [hG] at e0 e1 e2
          simp at e0 e1 e2
          rw [e0, e1, e2]
      · show s2.data.size ≤ _
        omega
      · have := q1 r hr
        omega
    obtain ⟨V, hV⟩ := Go.Deep.choose_lt (α := Tb) (n := len) (p := fun j t => TbAt W t (.agg (G j).toArray) ∧ (t.els.size ≤ Rows.uptoBulk y.1 ∧ ∀ r ∈ t.rows, r.2.size ≤ Rows.uptoBulk y.1)) hone
    have hlen : ((List.range len).map V).length = len := by simp
    refine ⟨(List.range len).map V, A, cap, by rw [hlen], ⟨fun j => .agg (G j).toArray, ?_, fun j r hj => ?_⟩, by rw [hlen]; exact hl, by rw [hlen, ← hds]; exact fits_len T.hTs T.bT hf, fun x hx => ?_, hA0⟩
    · rw [hlen]
      rcases hrow with h0 | ⟨b, o, rfl, hr⟩
      · exact .inl h0
      · refine .inr ⟨b, o, rfl, fun j hj => ⟨by simpa [Value.cells] using (hr j hj).1, fun i hi => ?_⟩⟩
        rw [(hr j hj).2 i hi]
        simp [Value.cells]
    · have hjl : j < len := by
        rcases Nat.lt_or_ge j len with h | h
        · exact h
        · rw [List.getElem?_eq_none (by simp; omega)] at hj
          cases hj
      simp [hjl] at hj
      subst hj
      exact (hV j hjl).1
    · obtain ⟨j, hj, rfl⟩ := List.mem_map.1 hx
      exact (hV j (List.mem_range.1 hj)).2
/-- A model that came in. -/
theorem open_model (T : ModelTypes P tM tTs tT tRs tR tSs tI tS) {fuel : Nat} {cs : List Value} {x : DataW H × List MemPlace} (h : DataW.trod enc P W 0 spare held fuel tM cs = some x) (hf : fits P tM x.1) :
    ∃ (tbs : List Tb) (B : Option Addr) (cap : Nat) (o : Int), cs = [.slice B tbs.length cap, .int .i64 o] ∧ i64 o ∧ TbsAt W B tbs ∧ tbs.length ≤ cap ∧ tbs.length ≤ 140737488355328 ∧ tabsL (Rows.uptoBulk x.1) tbs ∧ (B = none → cap = 0) ∧ tbs.length ≤ Rows.uptoBulk x.1 := by
  obtain ⟨xs, m, _, hzx, hlen, hxl, hfs⟩ := DataW.trod_struct T.hM h
  rw [T.cM] at hlen
  obtain ⟨y0, h0, f0, g0⟩ := open_field T.hM T.fM hzx hlen hxl hf hfs 0 0 tTs rfl T.cTs (by omega)
  obtain ⟨y1, h1, f1, g1⟩ := open_field T.hM T.fM hzx hlen hxl hf hfs 1 1 tI rfl T.cI (by omega)
  obtain ⟨tbs, B, cap, e0, i0, l0, n0, q0, hB⟩ := open_tabs T h0 f0
  have hlen2 := h0
  rw [e0] at hlen2
  have hlen2 := open_len T.hTs T.cT (by omega) hlen2
  obtain ⟨o, e1, _, hw⟩ := DataW.trod_int T.hI h1
  refine ⟨tbs, B, cap, o, ?_, wf_i64 hw, i0, l0, n0, fun t ht => ⟨Nat.le_trans (q0 t ht).1 (by omega), fun r hr => Nat.le_trans ((q0 t ht).2 r hr) (by omega)⟩, hB, by omega⟩
  match cs, hlen with
  | [c0, c1], _ =>
    simp at e0 e1
    rw [e0, e1]
end
end Go.Proofs.YtbnonccmlildnaaGreat
