/- The laws' own small functions: 'known', 'light', 'Place'. -/
import Derived.Test.YtmfgdemgepkggaaA13
namespace Go.Proofs.Ytmfgdemgepkggaa
open Go.RowKit Go.Maps Go.ChangeMaps

theorem check_is {A : Option Addr} {ca : Nat} {l : List (List Int)} {B : Option Addr} {cb : Nat} {tr : List (List Int)} {w0 : World} (hl : RowsAt w0 A ca l) (ht : RowsAt w0 B cb tr)
    (hi : ∀ d ∈ l ++ tr, ∀ x ∈ d, i64 x) (hlen : (l ++ tr).length < 10000) (hsum : (l ++ tr).flatten.length < 100000) {n c : Int} (h : CheckIs l tr n c) :
    Calls Try.prog 14 #[.slice A l.length ca, .slice B tr.length cb] w0 fun e w' => e = .returned (.tuple #[.int .i64 n, .int .i64 c]) ∧ Below w0.heap.size w0 w' :=
  (check_any A ca l B cb tr w0 hl ht hi hlen hsum).mono fun e w' ⟨n', c', h1, h2, h3⟩ => by
    obtain ⟨rfl, rfl⟩ := h.unique h2
    exact ⟨h1, h3⟩
theorem ref_check_is {A : Option Addr} {ca : Nat} {l : List (List Int)} {B : Option Addr} {cb : Nat} {tr : List (List Int)} {w0 : World} (hl : RowsAt w0 A ca l) (ht : RowsAt w0 B cb tr)
    (hi : ∀ d ∈ l ++ tr, ∀ x ∈ d, i64 x) (hlen : (l ++ tr).length < 10000) (hsum : (l ++ tr).flatten.length < 100000) {n c : Int} (h : CheckIs l tr n c) :
    Calls Try.prog 15 #[.slice A l.length ca, .slice B tr.length cb] w0 fun e w' => e = .returned (.tuple #[.int .i64 n, .int .i64 c]) ∧ Below w0.heap.size w0 w' :=
  (ref_check_any A ca l B cb tr w0 hl ht hi hlen hsum).mono fun e w' ⟨n', c', h1, h2, h3⟩ => by
    obtain ⟨rfl, rfl⟩ := h.unique h2
    exact ⟨h1, h3⟩

/-- A list of numbers, just made. -/
theorem ints_new (w : World) (xs : List Int) : Ints (w.alloc (.cells (xs.map (Value.int .i64)).toArray 3)) (.slice (some ⟨w.heap.size, 0, none⟩) xs.length xs.length) xs :=
  ⟨_, _, rfl, Nat.le_refl _, .inr ⟨_, 0, rfl, fun j u hj => by
    rw [cell_of_row _ w.heap.size (0 + j) _ 3 (0, 0) (heap_alloc_new w _)]
    simpa using hj⟩⟩
theorem Ints.alloc {w : World} {v : Value} {xs : List Int} (h : Ints w v xs) (o : Obj) : Ints (w.alloc o) v xs := h.below ((Below.refl _ _).alloc (Nat.le_refl _) o)
/-- A list of clauses, just made. -/
theorem rows_new (w : World) (vs : List Value) (hs : List (List Int)) (hl : vs.length = hs.length) (h : ∀ (j : Nat) (v : Value) (xs : List Int), vs[j]? = some v → hs[j]? = some xs → Ints w v xs) :
    RowsAt (w.alloc (.cells vs.toArray 23)) (some ⟨w.heap.size, 0, none⟩) hs.length hs :=
  ⟨Nat.le_refl _, vs, hl, .inr ⟨_, 0, rfl, fun j u hj => by
    rw [cell_of_row _ w.heap.size (0 + j) _ 23 (0, 0) (heap_alloc_new w _)]
    simpa using hj⟩, fun j v xs hv hx => (h j v xs hv hx).alloc _⟩
theorem RowsAt.alloc {w : World} {A : Option Addr} {c : Nat} {hs : List (List Int)} (h : RowsAt w A c hs) (o : Obj) : RowsAt (w.alloc o) A c hs := h.below ((Below.refl _ _).alloc (Nat.le_refl _) o)
theorem intsAt_nil (w : World) : IntsAt w none 0 [] := ⟨Nat.le_refl _, .inl rfl⟩
theorem Ints.at_ {w : World} {A : Option Addr} {n c : Nat} {xs : List Int} (h : Ints w (.slice A n c) xs) : IntsAt w A c xs := by
  obtain ⟨A', c', hv, h⟩ := h
  simp only [Value.slice.injEq] at hv
  obtain ⟨rfl, _, rfl⟩ := hv
  exact h

/-- How much lists of clauses weigh. -/
def wt (l : List (List Int)) : Nat := l.flatten.length + l.length
def wts (ls : List (List (List Int))) : Nat := (ls.map wt).sum
def ListsAt (w : World) (A : Option Addr) (c : Nat) (ls : List (List (List Int))) : Prop :=
  ls.length ≤ c ∧ ∃ vs : List Value, vs.length = ls.length ∧ Cells w A vs ∧ ∀ (j : Nat) (v : Value) (l : List (List Int)), vs[j]? = some v → ls[j]? = some l → ∃ B d, v = .slice B l.length d ∧ RowsAt w B d l
theorem ListsAt.get {w : World} {A : Option Addr} {c : Nat} {ls : List (List (List Int))} (h : ListsAt w A c ls) {k : Nat} (hk : k < ls.length) :
    ∃ b o B d, A = some ⟨b, o, none⟩ ∧ w.cell? ⟨b, o + k, none⟩ = some (.slice B ls[k].length d) ∧ RowsAt w B d ls[k] := by
  obtain ⟨_, vs, h2, h3, h4⟩ := h
  rcases h3 with h3 | ⟨b, o, hA, hc⟩
  · subst h3; simp at h2; omega
  · have hkv : k < vs.length := by omega
    obtain ⟨B, d, hv, hi⟩ := h4 k vs[k] ls[k] (by simp [hkv]) (by simp [hk])
    exact ⟨b, o, B, d, hA, by rw [hc k vs[k] (by simp [hkv]), hv], hi⟩
theorem lists_new (w : World) (vs : List Value) (ls : List (List (List Int))) (hl : vs.length = ls.length) (h : ∀ (j : Nat) (v : Value) (l : List (List Int)), vs[j]? = some v → ls[j]? = some l → ∃ B d, v = .slice B l.length d ∧ RowsAt w B d l) :
    ListsAt (w.alloc (.cells vs.toArray 22)) (some ⟨w.heap.size, 0, none⟩) ls.length ls :=
  ⟨Nat.le_refl _, vs, hl, .inr ⟨_, 0, rfl, fun j u hj => by
    rw [cell_of_row _ w.heap.size (0 + j) _ 22 (0, 0) (heap_alloc_new w _)]
    simpa using hj⟩, fun j v l hv hx => by
      obtain ⟨B, d, h1, h2⟩ := h j v l hv hx
      exact ⟨B, d, h1, h2.alloc _⟩⟩
theorem wt_succ {l : List (List Int)} {k : Nat} (hk : k < l.length) : wt (l.take (k + 1)) = wt (l.take k) + 1 + l[k].length := by
  unfold wt
  rw [flat_succ hk, List.length_take, List.length_take]
  omega
theorem wt_le (l : List (List Int)) (k : Nat) : wt (l.take k) ≤ wt l := by
  unfold wt
  have : l.flatten = (l.take k).flatten ++ (l.drop k).flatten := by rw [← List.flatten_append, List.take_append_drop]
  rw [this, List.length_append, List.length_take]
  omega
theorem wts_succ {ls : List (List (List Int))} {k : Nat} (hk : k < ls.length) : wts (ls.take (k + 1)) = wts (ls.take k) + wt ls[k] := by
  unfold wts
  rw [List.take_succ_eq_append_getElem hk, List.map_append, List.sum_append]
  simp
theorem wts_le (ls : List (List (List Int))) (k : Nat) : wts (ls.take k) ≤ wts ls := by
  have : wts ls = wts (ls.take k) + wts (ls.drop k) := by
    unfold wts
    rw [← List.sum_append, ← List.map_append, List.take_append_drop]
  omega

def LightPost (ls : List (List (List Int))) (w : World) (e : Ending) (w' : World) : Prop := ∃ b : Bool, e = .returned (.bool b) ∧ (b = true ↔ wts ls ≤ 1000) ∧ w = w'
/-- How far: exact as long as it is small. -/
def LRel (tot so : Nat) (n : Int) : Prop := 0 ≤ n ∧ n ≤ 200000000000000 ∧ (n ≤ 1000 → n = so) ∧ (1000 < n → 1000 < tot)
set_option maxHeartbeats 1000000 in
theorem light_any (A : Option Addr) (c : Nat) (ls : List (List (List Int))) (w : World) (h : ListsAt w A c ls) (hl : ls.length ≤ 9223372036854775807) (hb : ∀ l ∈ ls, l.length ≤ 140737488355328 ∧ ∀ d ∈ l, d.length ≤ 140737488355328) :
    Calls Try.prog 10 #[.slice A ls.length c] w (LightPost ls w) := by
  have H := Lib.hid h
  have Hb := Lib.hid hb
  clear h hb
  go_enter Try.func10, Try.ntmps10
  go_wp2_with fail
  go_loop [3, 4] (fun n i => ∃ (k : Nat) (m : Int), k ≤ ls.length ∧ i = .int .i64 k ∧ n = .int .i64 m ∧ LRel (wts ls) (wts (ls.take k)) m) (fun _ i => ls.length - (intOf i).toNat)
  case atStart => exact ⟨0, 0, Nat.zero_le _, rfl, rfl, by omega, by omega, by simp [wts], by omega⟩
  case round =>
    obtain ⟨k, m, hk, rfl, rfl, hr⟩ := hrel
    have Hr := Lib.hid hr
    clear hr
    by_cases hlt : k < ls.length
    · obtain ⟨b, off, B, d, rfl, hcell, hrows⟩ := H.out.get hlt
      have Hs : Hid (wts (ls.take (k + 1)) = wts (ls.take k) + wt ls[k] ∧ wts (ls.take (k + 1)) ≤ wts ls ∧ ls[k].length ≤ 140737488355328 ∧ ∀ d ∈ ls[k], d.length ≤ 140737488355328) := Lib.hid ⟨wts_succ hlt, wts_le _ _, Hb.out _ (List.getElem_mem hlt)⟩
      have Hrows := Lib.hid hrows
      clear hrows
      generalize ls[k] = l at *
      have hl2 : l.length ≤ 140737488355328 := Hs.out.2.2.1
      go_wp2_with fail
      go_loop [3, 5] (fun n i => ∃ (j : Nat) (m : Int), j ≤ l.length ∧ i = .int .i64 j ∧ n = .int .i64 m ∧ LRel (wts ls) (wts (ls.take k) + wt (l.take j)) m) (fun _ i => l.length - (intOf i).toNat)
      case atStart => exact ⟨0, m, Nat.zero_le _, rfl, rfl, by have := Hr.out; simpa [wt] using this⟩
      case round =>
        clear Hr
        obtain ⟨j, m, hj, rfl, rfl, hr⟩ := hrel
        have Hr := Lib.hid hr
        obtain ⟨m0, m1, _, _⟩ := hr
        have hnext : Hid (l.length ≤ j ∨ 1000 < m → LRel (wts ls) (wts (ls.take (k + 1))) m) := Lib.hid (fun hor => by
          obtain ⟨a1, a2, a3, a4⟩ := Hr.out
          refine ⟨a1, a2, fun hm => ?_, a4⟩
          rcases hor with hor | hor
          · rw [a3 hm, List.take_of_length_le hor, Hs.out.1]
          · omega)
        by_cases hlt2 : j < l.length
        · by_cases hm : m ≤ 1000
          · obtain ⟨b', off', B', d', rfl, hcell2, _⟩ := Hrows.out.get hlt2
            have Hx : Hid (wt (l.take (j + 1)) = wt (l.take j) + 1 + l[j].length ∧ wt (l.take (j + 1)) ≤ wt l) := Lib.hid ⟨wt_succ hlt2, wt_le _ _⟩
            have hx : l[j].length ≤ 140737488355328 := Hs.out.2.2.2 _ (List.getElem_mem hlt2)
            generalize l[j] = x at *
            go_wp2_with fail
            go_round
            case rel =>
              refine ⟨j + 1, m + 1 + x.length, by omega, by go_num, by go_num, ?_⟩
              obtain ⟨a1, a2, a3, a4⟩ := Hr.out
              have e1 := Hx.out.1
              have e2 := Hx.out.2
              have e3 := Hs.out.1
              have e4 := Hs.out.2.1
              refine ⟨by omega, by omega, fun h => ?_, fun h => ?_⟩
              · have := a3 hm; rw [e1]; omega
              · have := a3 hm; omega
            case measure => simp [intOf]; omega
          · have hm2 : 1000 < m := by omega
            go_wp2_with fail
            go_round
            case rel => exact ⟨k + 1, m, by omega, by go_num, rfl, hnext.out (.inr hm2)⟩
            case measure => simp [intOf]; omega
        · go_wp2_with fail
          go_round
          case rel => exact ⟨k + 1, m, by omega, by go_num, rfl, hnext.out (.inl (by omega))⟩
          case measure => simp [intOf]; omega
    · have Hfin : Hid (m ≤ 1000 ↔ wts ls ≤ 1000) := Lib.hid (by
        obtain ⟨a1, a2, a3, a4⟩ := Hr.out
        rw [List.take_of_length_le (by omega)] at a3
        constructor
        · intro h; have := a3 h; omega
        · intro h
          rcases Int.lt_or_le 1000 m with h' | h'
          · have := a4 h'; omega
          · exact h')
      go_wp2_with fail
      go_ret
      exact ⟨decide (m ≤ 1000), rfl, by simpa using Hfin.out, rfl⟩
end Go.Proofs.Ytmfgdemgepkggaa
