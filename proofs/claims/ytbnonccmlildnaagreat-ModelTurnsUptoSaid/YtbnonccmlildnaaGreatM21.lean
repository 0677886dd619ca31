/- String: a whole number's numeral. -/
import Derived.Test.YtbnonccmlildnaaGreatM20
import Derived.Lib.OwnBridge
import Derived.Laws.Bits64b
import Derived.OneCell
import Derived.Test.YtbnonccmlildnaaGreatM14
set_option linter.unusedSimpArgs false
set_option linter.unusedVariables false
namespace Go.Proofs.YtbnonccmlildnaaGreat
open Go.RowKit Go.Lib Go.Sort

/-- A whole number's numeral. -/
def numB (z : Int) : ByteArray := ⟨(itoa z).toArray⟩
def chI (d : Nat) : Int := ((48 + d : Nat) : Int)
def chV (d : Nat) : Value := .int .u8 (chI d)
theorem infoU8 : (Tryz.prog.info? 5).map (fun i => (i.zero, i.size, i.bytes)) = some (some (.int .u8 0), 1, 1) := by kernel_rfl
theorem lowD_snoc (B : Nat) : ∀ k n : Nat, lowD B (k + 1) n = lowD B k n ++ [n / B ^ k % B]
  | 0, n => by simp [lowD]
  | k + 1, n => by
    rw [lowD, lowD_snoc B k (n / B), lowD, Nat.div_div_eq_div_mul, Nat.pow_succ, Nat.mul_comm B]
    rfl
theorem str_round {done cur : List Nat} {V : Nat} (h : dval 10 done + 10 ^ done.length * dval 4294967296 cur = V) :
    dval 10 (done ++ lowD 10 9 (divC 4294967296 1000000000 cur).2) + 10 ^ (done ++ lowD 10 9 (divC 4294967296 1000000000 cur).2).length * dval 4294967296 (divC 4294967296 1000000000 cur).1 = V := by
  obtain ⟨h1, h2⟩ := divC_val (B := 4294967296) (D := 1000000000) (by decide) cur
  rw [dval_append, List.length_append, lowD_length, lowD_val (by decide) 9 _ (by simpa using h2), Nat.pow_add, ← h, ← h1]
  generalize dval 4294967296 (divC 4294967296 1000000000 cur).1 = q
  generalize (divC 4294967296 1000000000 cur).2 = r
  rw [show (10 : Nat) ^ 9 = 1000000000 from rfl, Nat.mul_add, Nat.mul_assoc, Nat.mul_comm q]
  omega
theorem str_len {done cur : List Nat} {V n : Nat} (h : dval 10 done + 10 ^ done.length * dval 4294967296 cur = V) (hV : V < 4294967296 ^ n) (hc : 0 < dval 4294967296 cur) : done.length < 10 * n := by
  have h1 : 10 ^ done.length * 1 ≤ 10 ^ done.length * dval 4294967296 cur := Nat.mul_le_mul_left _ hc
  have h2 : (4294967296 : Nat) ^ n ≤ (10 ^ 10) ^ n := Nat.pow_le_pow_left (by decide) n
  rw [← Nat.pow_mul] at h2
  exact (Nat.pow_lt_pow_iff_right (a := 10) (by omega)).1 (by omega)
theorem div_fall {cur : List Nat} (hc : 0 < dval 4294967296 cur) : dval 4294967296 (divC 4294967296 1000000000 cur).1 < dval 4294967296 cur := by
  obtain ⟨h1, h2⟩ := divC_val (B := 4294967296) (D := 1000000000) (by decide) cur
  omega
theorem dval_pos0 {B : Nat} (hB : 0 < B) {l : List Nat} (hc : canon l) (hl : l ≠ []) : 0 < dval B l := by
  have h1 := dval_pos (B := B) hc hl
  have h2 : 0 < B ^ (l.length - 1) := Nat.pow_pos hB
  omega
/-- A digit's byte. -/
def chB (d : Nat) : UInt8 := UInt8.ofNat (48 + d)
theorem chI_byte {d : Nat} (h : d < 10) : chI d = ((chB d).toNat : Int) := by
  unfold chI chB
  rw [UInt8.toNat_ofNat']
  congr 1
  omega
/-- The bytes, from the end on. -/
theorem str_bytes {done : List Nat} {V : Nat} (h : dval 10 done = V) (ho : okD 10 done) (hV : 0 < V) : ((strip done).map chB).reverse = decDigits V := by
  have hne : strip done ≠ [] := fun e => by
    have h2 := strip_val 10 done
    rw [e] at h2
    simp [dval] at h2
    omega
  rw [← h, ← strip_val 10 done, decDigits_rev _ (strip_ok ho) (strip_canon _) hne]
  rfl
theorem own_block {w : World} {base : Nat} {e : TypeId} {size : Nat} {v : Value} {n : Nat} {xs : List Value} (h : w.ownsRow base e size v n xs) {k : Nat} (hk : v.ownBlock = some k) : base ≤ k ∧ k < w.heap.size ∧ ∃ cur, w.heap[k]? = some (.cells cur e (0, 0)) := by
  rcases h.2 with ⟨rfl, _⟩ | ⟨g, cap, cur, rfl, hg, hh, r⟩
  · cases hk
  · cases hk
    exact ⟨hg, (Array.getElem?_eq_some_iff.1 hh).1, cur, hh⟩
theorem own_types {w : World} {base b2 e e2 s s2 g n c : Nat} {v : Value} {k : Nat} {xs ys : List Value} (h : w.ownsRow base e s (.slice (some ⟨g, 0, none⟩) n c) n xs) (h2 : w.ownsRow b2 e2 s2 v k ys) (hne : e ≠ e2) : v.ownBlock ≠ some g := by
  intro hv
  rcases h.2 with ⟨e0, _⟩ | ⟨g', cap, cur, e0, _, hg, _⟩
  · cases e0
  rcases h2.2 with ⟨rfl, _⟩ | ⟨g2, cap2, cur2, rfl, _, hg2, _⟩
  · cases hv
  cases e0
  cases hv
  rw [hg] at hg2
  cases hg2
  exact hne rfl
theorem own_head {w : World} {base e s n : Nat} {v : Value} {xs : List Value} (h : w.ownsRow base e s v n xs) (hn : 0 < n) : ∃ g c, v = .slice (some ⟨g, 0, none⟩) n c ∧ base ≤ g ∧ g < w.heap.size ∧ n ≤ c := by
  rcases h.2 with ⟨_, h0⟩ | ⟨g, c, cur, rfl, hb, hg, hc, _⟩
  · omega
  · exact ⟨g, c, rfl, hb, (Array.getElem?_eq_some_iff.1 hg).1, hc⟩
theorem own_take {w : World} {base e g c n : Nat} {xs : List Value} (h : w.ownsRow base e 1 (.slice (some ⟨g, 0, none⟩) n c) n xs) {k : Nat} (hk : k ≤ n) : w.ownsRow base e 1 (.slice (some ⟨g, 0, none⟩) k c) k (xs.take k) := by
  have hl := h.1
  rcases h.2 with ⟨e0, _⟩ | ⟨g', cap, cur, e0, hb, hg, hc, hm, hs, ht⟩
  · cases e0
  · cases e0
    refine ⟨by simp; omega, .inr ⟨g, c, cur, rfl, hb, hg, by omega, hm, hs, ?_⟩⟩
    rw [← ht, List.take_take]
    congr 1
    omega
theorem or_part {n x : Nat} (hn : n < 1000000000) (hx : x < 4294967296) : bits .or .u64 ((n : Int) * 4294967296) (x : Int) = ((n * 4294967296 + x : Nat) : Int) := by
  rw [show (n : Int) * 4294967296 = ((n * 4294967296 : Nat) : Int) by omega]
  rw [bits_or_u64_nat (n * 4294967296) x (by omega) (by omega)]
  have h2 := Nat.two_pow_add_eq_or_of_lt (i := 32) (b := x) (by omega) n
  rw [show n * 4294967296 = 2 ^ 32 * n by omega, ← h2]
theorem divC_drop {cur : List Nat} {j : Nat} (hj : j < cur.length) : divC 4294967296 1000000000 (cur.drop j) = ((((divC 4294967296 1000000000 (cur.drop (j + 1))).2 * 4294967296 + cur[j]?.getD 0) / 1000000000) :: (divC 4294967296 1000000000 (cur.drop (j + 1))).1, ((divC 4294967296 1000000000 (cur.drop (j + 1))).2 * 4294967296 + cur[j]?.getD 0) % 1000000000) := by
  rw [List.drop_eq_getElem_cons hj, divC, List.getElem?_eq_getElem hj]
  rfl

/-- Turned round, and made a string. -/
theorem str_tail {w : World} {base g n c : Nat} {bs : List UInt8} (h : w.ownsRow base 5 1 (.slice (some ⟨g, 0, none⟩) n c) n (bs.map fun x => Value.int .u8 (x.toNat : Int))) (hb : n ≤ 9223372036854775807) :
    Calls Tryz.prog 136 #[.slice (some ⟨g, 0, none⟩) n c] w fun e w' => e = .returned (.tuple #[]) ∧ (convert 154 9 (.slice (some ⟨g, 0, none⟩) n c)).run Tryz.prog w' = .ok (.string ⟨bs.reverse.toArray⟩) w' ∧ Below base w w' := by
  have hz : (bs.map fun x => Value.int .u8 (x.toNat : Int)) = (bs.map fun x => (x.toNat : Int)).map encU := by rw [List.map_map]; rfl
  rw [hz] at h
  obtain ⟨g', c', e, hg1, _, _, _, hl, hH⟩ := holds_of_ownsRow h (by simp)
  cases e
  have hbl : bs.length = n := by simpa using hl
  have hrev := reverseB_ex g 0 c _ w hH (by simpa [hbl] using hb)
  rw [show (bs.map fun x => (x.toNat : Int)).toArray.size = n by simp [hbl]] at hrev
  refine hrev.mono ?_
  rintro e w' ⟨rfl, k, rfl⟩
  refine ⟨rfl, ?_, below_putRow (Below.refl _ _) hg1⟩
  have how := ownsRow_putRow (q := k) (ys := (bs.map fun x => (x.toNat : Int)).reverse) h (by simp [hbl]) (Nat.le_refl n)
  have hl2 : bs.reverse.length = n := by simp [hbl]
  rw [show ((bs.map fun x => (x.toNat : Int)).reverse).toArray = (bs.map fun x => (x.toNat : Int)).toArray.reverse by simp] at how
  have hgoal := run_convert_bytes_back (P := Tryz.prog) (putRow encU (Sort.ahead w k) g 0 (bs.map fun x => (x.toNat : Int)).toArray.reverse) 154 9 5 ⟨g, 0, none⟩ c bs.reverse Tryz.underlying154 Tryz.underlying5 Tryz.underlying9 (fun j hj => by
    rw [Addr.add_lit, Nat.zero_add, how.cellAt j (by omega)]
    rw [List.take_of_length_le (by simp [hbl]), ← List.map_reverse, List.map_map, List.getElem?_map, List.getElem?_eq_getElem hj]
    rfl)
  rw [hl2] at hgoal
  exact hgoal
theorem chs_bytes {ds : List Nat} (h : okD 10 ds) : ds.map chV = (ds.map chB).map fun x => Value.int .u8 (x.toNat : Int) := by
  rw [List.map_map]
  refine List.map_congr_left fun d hd => ?_
  show Value.int .u8 (chI d) = Value.int .u8 _
  rw [chI_byte (h d hd)]

set_option maxRecDepth 100000 in
set_option maxHeartbeats 2000000 in
theorem string_pos {w : World} {A : Option Addr} {ds : List Nat} {n c V : Nat} {b : Bool} (h : DigAt w A ds) (h1 : okD 4294967296 ds) (h2 : canon ds) (hV : dval 4294967296 ds = V) (hn : n = ds.length) (h0 : 0 < n) (hb : n ≤ 1000000000000) :
    Calls Tryz.prog 133 #[.agg #[.slice A n c, .bool b]] w fun e w' => e = .returned (.string ⟨(if b then (45 : UInt8) :: decDigits V else decDigits V).toArray⟩) ∧ Below w.heap.size w w' := by
  have Hcl := Lib.hid (cloneD_ex (c := c) (h.mono (Nat.le_refl _) ((Below.refl _ _).alloc (Nat.le_refl _) (.cells #[.slice A n c, .bool b] 89))) hn h0 (by omega))
  obtain ⟨i5, hi5, hy0, hy1, hy2⟩ := info_parts infoU8
  have Hn := Lib.hid hn
  have H1 := Lib.hid h1
  have H2 := Lib.hid h2
  have HV := Lib.hid hV
  have HVp : Hid (0 < V ∧ V < 4294967296 ^ n) := Lib.hid (by
    have e1 := dval_pos0 (B := 4294967296) (by omega) h2 (by intro e; rw [e] at hn; simp at hn; omega)
    have e2 := dval_lt (B := 4294967296) (by omega) h1
    rw [hn, ← hV]
    exact ⟨e1, e2⟩)
  have Hrow : Hid ((w.alloc (.cells #[.slice A n c, .bool b] 89)).heap[w.heap.size]? = some (.cells #[.slice A n c, .bool b] 89 (0, 0))) := Lib.hid (heap_alloc_new _ _)
  have Hw1 : Hid (Below w.heap.size w (w.alloc (.cells #[.slice A n c, .bool b] 89)) ∧ (w.alloc (.cells #[.slice A n c, .bool b] 89)).heap.size = w.heap.size + 1) := Lib.hid ⟨(Below.refl _ _).alloc (Nat.le_refl _) _, by simp⟩
  clear h hn h1 h2 hV
  have hz : ((n : Int) == 0) = false := by rw [beq_eq_false_iff_ne]; omega
  have Hconv : Hid (∀ (w : World) (a : Addr) (cap : Nat) (l : List UInt8), (∀ j (hj : j < l.length), w.cell? (a.add j) = some (.int .u8 (l[j].toNat : Int))) → (convert 154 9 (.slice (some a) l.length cap)).run Tryz.prog w = .ok (.string ⟨l.toArray⟩) w) := Lib.hid (fun w a cap l h => run_convert_bytes_back w 154 9 5 a cap l Tryz.underlying154 Tryz.underlying5 Tryz.underlying9 h)
  go_enter Tryz.func133, Tryz.ntmps133
  go_wp2_with (go_at_call 135; refine Hcl.out.mono ?_; rintro e w5 ⟨v5, rfl, hd5, hb5⟩; obtain ⟨g, cap, rfl, hg1, hg2, hg3⟩ := own_head hd5 (by have := Hn.out; omega); have Hd5 := Lib.hid hd5; have Hb5 := Lib.hid hb5; have Hg := Lib.hid hg3; clear hd5 hb5 hg1 hg2 hg3; have hln := Hn.out; rw [← hln] at Hd5 ⊢; clear hln)
  generalize w.alloc (.cells #[.slice A n c, .bool b] 89) = W1 at *
  go_loopg [3, 4] (dval 4294967296 ds) (fun gk s3 s4 wr => ∃ (m : Nat) (done cur : List Nat) (vo : Value), vo = s3 ∧ s4 = .slice (some ⟨g, 0, none⟩) m cap ∧ m ≤ n ∧ Hid (cur.length = m ∧ done.length ≤ 10 * n + 20) ∧ Hid (dval 4294967296 cur ≤ gk) ∧ Hid (okD 4294967296 cur ∧ canon cur ∧ okD 10 done) ∧ Hid (dval 10 done + 10 ^ done.length * dval 4294967296 cur = V) ∧ Hid (wr.ownsRow W1.heap.size 131 1 (.slice (some ⟨g, 0, none⟩) m cap) m (cur.map digV)) ∧ Hid (wr.ownsRow W1.heap.size 5 1 vo done.length (done.map chV)) ∧ Hid (Below W1.heap.size W1 wr))
  case atStart => exact ⟨n, [], ds, _, rfl, rfl, by omega, Lib.hid ⟨Hn.out.symm, by simp⟩, Lib.hid (Nat.le_refl _), Lib.hid ⟨H1.out, H2.out, fun x hx => by cases hx⟩, Lib.hid (by simp [dval, HV.out]), Lib.hid (by have := Hd5.out; unfold DigL at this; rwa [← Hn.out] at this), Lib.hid (World.ownsRow_nil _ _ _ _), Hb5⟩
  case round =>
    obtain ⟨m, done, cur, vo, rfl, rfl, hmn, Hm, Hgk, Hok, Hv, HL, HO, HB⟩ := hrel
    by_cases hm0 : 0 < m
    · have Hpos : Hid (0 < dval 4294967296 cur) := Lib.hid (dval_pos0 (by omega) Hok.out.2.1 (by intro e; have := Hm.out.1; rw [e] at this; simp at this; omega))
      have Hdl : Hid (done.length < 10 * n) := Lib.hid (str_len Hv.out HVp.out.2 Hpos.out)
      have Hne : Hid (vo.ownBlock ≠ some g) := Lib.hid (own_types HL.out HO.out (by decide))
      have hcap : n ≤ cap := by have := Hg.out; have := Hn.out; omega
      have Hgb : Hid (W1.heap.size ≤ g) := Lib.hid (own_block HL.out rfl).1
      clear Hcl Hrow Hd5 Hb5
      go_wp2_with fail
      go_loopw [5, 6] (fun nv iv wq => ∃ (j nn : Nat) (z : Int), iv = .int .i64 z ∧ j ≤ m ∧ Hid (z = (j : Int) - 1) ∧ nv = .int .u64 (nn : Int) ∧ Hid (nn = (divC 4294967296 1000000000 (cur.drop j)).2) ∧ Hid (wq.ownsRow W1.heap.size 131 1 (.slice (some ⟨g, 0, none⟩) m cap) m ((cur.take j ++ (divC 4294967296 1000000000 (cur.drop j)).1).map digV)) ∧ Hid (wq.ownsRow W1.heap.size 5 1 vo done.length (done.map chV)) ∧ Hid (Below W1.heap.size W1 wq)) (fun _ iv _ => (Go.RowKit.intOf iv + 1).toNat)
      case atStart => exact ⟨m, 0, _, rfl, Nat.le_refl _, Lib.hid rfl, rfl, Lib.hid (by rw [List.drop_of_length_le (by have := Hm.out.1; omega)]; rfl), Lib.hid (by rw [List.drop_of_length_le (by have := Hm.out.1; omega), List.take_of_length_le (by have := Hm.out.1; omega)]; simpa [divC] using HL.out), HO, HB⟩
      case round =>
        obtain ⟨j, nn, z, rfl, hjm, Hz, rfl, Hnn, HLq, HOq, HBq⟩ := hrel
        by_cases hj0 : 0 < j
        · obtain ⟨i, rfl⟩ : ∃ i, j = i + 1 := ⟨j - 1, by omega⟩
          have hzi : z = (i : Int) := by have := Hz.out; omega
          subst hzi
          have Hdr := Lib.hid (divC_drop (cur := cur) (j := i) (by have := Hm.out.1; omega))
          have Htk : Hid (cur.take (i + 1) = cur.take i ++ [cur[i]?.getD 0] ∧ (cur.take i).length = i) := Lib.hid (by
            have hi : i < cur.length := by have := Hm.out.1; omega
            rw [List.take_add_one, List.getElem?_eq_getElem hi]
            simp
            omega)
          rw [← Hnn.out] at Hdr
          have hnl : nn < 1000000000 := by rw [Hnn.out]; exact (divC_val (B := 4294967296) (D := 1000000000) (by decide) _).2
          have hxl := okD_getD (B := 4294967296) (by omega) Hok.out.1 i
          generalize cur[i]?.getD 0 = x at *
          rw [Htk.out.1, List.append_assoc] at HLq
          have hcx := own_get (p := cur.take i) (x := x) HLq.out Htk.out.2 (by omega)
          have hfz := HLq.out.frozenAt i
          have hor := or_part hnl hxl
          obtain ⟨s, hs⟩ : ∃ s, s = nn * 4294967296 + x := ⟨_, rfl⟩
          rw [← hs] at hor Hdr
          have Hs := Lib.hid hs
          have hsl : s < 18446744073709551616 := by omega
          clear hs
          go_wp2_with fail
          go_roundw
          case rel =>
            refine ⟨i, s % 1000000000, _, rfl, by omega, Lib.hid rfl, ?_, Lib.hid (by rw [Hdr.out]), Lib.hid ?_, Lib.hid (ownsRow_setCell_other HOq.out (by simpa using Hne.out) _), Lib.hid (HBq.out.setCell Hgb.out _)⟩
            · congr 1
            · rw [Hdr.out]
              have h := own_set (p := cur.take i) (x := x) HLq.out Htk.out.2 (s / 1000000000)
              rw [show ((s : Int) / 1000000000 % 4294967296) = ((s / 1000000000 : Nat) : Int) by have := Hs.out; omega]
              simpa [digV] using h
          case measure => simp [Go.RowKit.intOf]
        · have hj00 : j = 0 := by omega
          subst hj00
          have hzz : z = -1 := by have := Hz.out; omega
          subst hzz
          rw [List.drop_zero] at Hnn HLq
          rw [List.take_zero, List.nil_append] at HLq
          have Hq := Lib.hid (divC_ok (B := 4294967296) (D := 1000000000) (by decide) cur Hok.out.1)
          have Hql : Hid ((divC 4294967296 1000000000 cur).1.length = m) := Lib.hid (by rw [divC_length, Hm.out.1])
          have Hrd := Lib.hid (str_round Hv.out)
          have Hfall := Lib.hid (div_fall Hpos.out)
          have Hnl : Hid (nn < 1000000000) := Lib.hid (by rw [Hnn.out]; exact (divC_val (B := 4294967296) (D := 1000000000) (by decide) _).2)
          rw [← Hnn.out] at Hrd
          generalize (divC 4294967296 1000000000 cur).1 = q at *
          clear Hnn Hz
          clear Hpos Hm
          go_wp2_with fail
          go_loopw [4] (fun lv wx => ∃ k : Nat, k ≤ m ∧ lv = .slice (some ⟨g, 0, none⟩) k cap ∧ wx = wr ∧ Hid (strip (q.take k) = strip q)) (fun lv _ => match lv with | .slice _ k _ => k | _ => 0)
          case atStart => exact ⟨m, Nat.le_refl _, rfl, rfl, Lib.hid (by rw [List.take_of_length_le (by have := Hql.out; omega)])⟩
          case round =>
            obtain ⟨k, hk, rfl, rfl, Hs⟩ := hrel
            by_cases hk0 : 0 < k
            · obtain ⟨j, rfl⟩ : ∃ j, k = j + 1 := ⟨k - 1, by omega⟩
              have hjq : j < q.length := by have := Hql.out; omega
              have hx : q[j]? = some q[j] := List.getElem?_eq_getElem hjq
              generalize q[j] = x at hx
              have hcx : wr.cell? ⟨g, j, none⟩ = some (.int .u32 (x : Int)) := by
                rw [HLq.out.cellAt j (by omega), List.getElem?_map, hx]
                rfl
              have Hx := Lib.hid hx
              clear hx
              cases hz0 : ((x : Int) == 0) with
              | true =>
                have hx0 : x = 0 := by simpa using hz0
                go_wp2_with fail
                go_roundw
                case rel => exact ⟨j, by omega, rfl, trivial, Lib.hid (by rw [← strip_take_zero (hx0 ▸ Hx.out)]; exact Hs.out)⟩
                case measure => simp
              | false =>
                have hx0 : x ≠ 0 := by simpa using hz0
                have HC : Hid (strip q = q.take (j + 1)) := Lib.hid (by rw [← Hs.out]; exact strip_take_last Hx.out hx0)
                go_wp2_with fail
                go_loopw [3, 5, 57] (fun ov nv iv wx => ∃ (t nx : Nat) (vt : Value), vt = ov ∧ iv = .int .i64 t ∧ t ≤ 9 ∧ nv = .int .u64 (nx : Int) ∧ Hid (nx = nn / 10 ^ t) ∧ Hid (wx.ownsRow W1.heap.size 5 1 vt (done.length + t) ((done ++ lowD 10 t nn).map chV)) ∧ Hid (wx.ownsRow W1.heap.size 131 1 (.slice (some ⟨g, 0, none⟩) (j + 1) cap) (j + 1) ((q.take (j + 1)).map digV)) ∧ Hid (Below W1.heap.size W1 wx)) (fun _ _ iv _ => 9 - (Go.RowKit.intOf iv).toNat)
                case atStart => exact ⟨0, nn, vo, rfl, rfl, by omega, rfl, Lib.hid (by simp), Lib.hid (by simpa [lowD] using HOq.out), Lib.hid (by rw [List.map_take]; exact own_take HLq.out hk), HBq⟩
                case round =>
                  obtain ⟨t, nx, vt, rfl, rfl, ht, rfl, Hnx, HOt, HLt, HBt⟩ := hrel
                  have hnx : nx < 1000000000 := by have h1 := Hnx.out; have h2 := Hnl.out; have h3 := Nat.div_le_self nn (10 ^ t); omega
                  have hdl := Hdl.out
                  by_cases ht9 : t < 9
                  · have Hsn := Lib.hid (lowD_snoc 10 t nn)
                    rw [← Hnx.out] at Hsn
                    have Hnx2 : Hid (nx / 10 = nn / 10 ^ (t + 1)) := Lib.hid (by rw [Hnx.out, Nat.div_div_eq_div_mul, Nat.pow_succ])
                    have Hnet : Hid (vt.ownBlock ≠ some g) := Lib.hid (own_types HLt.out HOt.out (by decide))
                    have Hch : Hid (∀ (j : Nat) (u : Value), [Value.int .u8 (48 + (nx : Int) % 10)][j]? = some u → (wr.alloc (.cells #[.int .u8 (48 + (nx : Int) % 10)] 5)).cell? ((⟨wr.heap.size, 0, none⟩ : Addr).add j) = some u) := Lib.hid (cell_one_new _ _ _)
                    have Hcv : Hid (Value.int .u8 (48 + (nx : Int) % 10) = chV (nx % 10)) := Lib.hid (by
                      unfold chV chI
                      congr 1)
                    go_wp2_with (at_builtin; refine wpList_append_own _ rfl (.tmp 59) (.tmp 64) 154 rfl W1.heap.size 5 i5 _ 1 1 Tryz.underlying154 hi5 hy0 hy1 hy2 rfl (by decide) vt (done.length + t) _ rfl (HOt.out.alloc _) ⟨wr.heap.size, 0, none⟩ 1 1 [Value.int .u8 (48 + (nx : Int) % 10)] rfl rfl Hch.out (by intro u hu; simp at hu; subst hu; rfl) (by simp only [maxLen]; omega) (by omega) (by have := HBt.out.size; simp; omega) ?_; intro v9 w9 hown9 hg9 _; have HO9 := Lib.hid hown9; have HG9 := Lib.hid hg9; clear hown9 hg9)
                    go_roundw
                    case rel =>
                      refine ⟨t + 1, nx / 10, v9, rfl, by go_num, by omega, ?_, Hnx2, Lib.hid ?_, Lib.hid ((HLt.out.alloc _).kept HG9.out (.inr (fun e => Hnet.out (by rw [← e]; rfl)))), Lib.hid ((HBt.out.alloc HBt.out.size _).grown HG9.out (by have := HBt.out.size; simp; omega) (fun j hj => (own_block HOt.out hj).1))⟩
                      · go_num
                      · have h := HO9.out
                        rw [Hcv.out] at h
                        rw [Hsn.out, ← List.append_assoc, List.map_append, ← Nat.add_assoc]
                        exact h
                    case measure => simp [Go.RowKit.intOf]; omega
                  · have ht99 : t = 9 := by omega
                    subst ht99
                    go_wp2_with fail
                    go_roundg (dval 4294967296 q)
                    case measure => have := Hfall.out; have := Hgk.out; omega
                    case rel =>
                      refine ⟨(j + 1), done ++ lowD 10 9 nn, strip q, vt, rfl, rfl, by omega, Lib.hid ?_, Lib.hid (by rw [strip_val]; exact Nat.le_refl _), Lib.hid ⟨strip_ok Hq.out, strip_canon _, okD_append Hok.out.2.2 (lowD_ok (by decide) 9 nn)⟩, Lib.hid (by rw [strip_val]; exact Hrd.out), Lib.hid ?_, Lib.hid ?_, HBt⟩
                      · exact ⟨by rw [HC.out, List.length_take]; have := Hql.out; omega, by rw [List.length_append, lowD_length]; omega⟩
                      · rw [HC.out]; exact HLt.out
                      · rw [List.length_append, lowD_length]; exact HOt.out
            · have hk00 : k = 0 := by omega
              subst hk00
              have HC : Hid (strip q = q.take 0) := Lib.hid (by rw [← Hs.out]; simp [strip])
              go_wp2_with fail
              go_loopw [3, 5, 57] (fun ov nv iv wx => ∃ (t nx : Nat) (vt : Value), vt = ov ∧ iv = .int .i64 t ∧ t ≤ 9 ∧ nv = .int .u64 (nx : Int) ∧ Hid (nx = nn / 10 ^ t) ∧ Hid (wx.ownsRow W1.heap.size 5 1 vt (done.length + t) ((done ++ lowD 10 t nn).map chV)) ∧ Hid (wx.ownsRow W1.heap.size 131 1 (.slice (some ⟨g, 0, none⟩) 0 cap) 0 ((q.take 0).map digV)) ∧ Hid (Below W1.heap.size W1 wx)) (fun _ _ iv _ => 9 - (Go.RowKit.intOf iv).toNat)
              case atStart => exact ⟨0, nn, vo, rfl, rfl, by omega, rfl, Lib.hid (by simp), Lib.hid (by simpa [lowD] using HOq.out), Lib.hid (by rw [List.map_take]; exact own_take HLq.out hk), HBq⟩
              case round =>
                obtain ⟨t, nx, vt, rfl, rfl, ht, rfl, Hnx, HOt, HLt, HBt⟩ := hrel
                have hnx : nx < 1000000000 := by have h1 := Hnx.out; have h2 := Hnl.out; have h3 := Nat.div_le_self nn (10 ^ t); omega
                have hdl := Hdl.out
                by_cases ht9 : t < 9
                · have Hsn := Lib.hid (lowD_snoc 10 t nn)
                  rw [← Hnx.out] at Hsn
                  have Hnx2 : Hid (nx / 10 = nn / 10 ^ (t + 1)) := Lib.hid (by rw [Hnx.out, Nat.div_div_eq_div_mul, Nat.pow_succ])
                  have Hnet : Hid (vt.ownBlock ≠ some g) := Lib.hid (own_types HLt.out HOt.out (by decide))
                  have Hch : Hid (∀ (j : Nat) (u : Value), [Value.int .u8 (48 + (nx : Int) % 10)][j]? = some u → (wr.alloc (.cells #[.int .u8 (48 + (nx : Int) % 10)] 5)).cell? ((⟨wr.heap.size, 0, none⟩ : Addr).add j) = some u) := Lib.hid (cell_one_new _ _ _)
                  have Hcv : Hid (Value.int .u8 (48 + (nx : Int) % 10) = chV (nx % 10)) := Lib.hid (by
                    unfold chV chI
                    congr 1)
                  go_wp2_with (at_builtin; refine wpList_append_own _ rfl (.tmp 59) (.tmp 64) 154 rfl W1.heap.size 5 i5 _ 1 1 Tryz.underlying154 hi5 hy0 hy1 hy2 rfl (by decide) vt (done.length + t) _ rfl (HOt.out.alloc _) ⟨wr.heap.size, 0, none⟩ 1 1 [Value.int .u8 (48 + (nx : Int) % 10)] rfl rfl Hch.out (by intro u hu; simp at hu; subst hu; rfl) (by simp only [maxLen]; omega) (by omega) (by have := HBt.out.size; simp; omega) ?_; intro v9 w9 hown9 hg9 _; have HO9 := Lib.hid hown9; have HG9 := Lib.hid hg9; clear hown9 hg9)
                  go_roundw
                  case rel =>
                    refine ⟨t + 1, nx / 10, v9, rfl, by go_num, by omega, ?_, Hnx2, Lib.hid ?_, Lib.hid ((HLt.out.alloc _).kept HG9.out (.inr (fun e => Hnet.out (by rw [← e]; rfl)))), Lib.hid ((HBt.out.alloc HBt.out.size _).grown HG9.out (by have := HBt.out.size; simp; omega) (fun j hj => (own_block HOt.out hj).1))⟩
                    · go_num
                    · have h := HO9.out
                      rw [Hcv.out] at h
                      rw [Hsn.out, ← List.append_assoc, List.map_append, ← Nat.add_assoc]
                      exact h
                  case measure => simp [Go.RowKit.intOf]; omega
                · have ht99 : t = 9 := by omega
                  subst ht99
                  go_wp2_with fail
                  go_roundg (dval 4294967296 q)
                  case measure => have := Hfall.out; have := Hgk.out; omega
                  case rel =>
                    refine ⟨0, done ++ lowD 10 9 nn, strip q, vt, rfl, rfl, by omega, Lib.hid ?_, Lib.hid (by rw [strip_val]; exact Nat.le_refl _), Lib.hid ⟨strip_ok Hq.out, strip_canon _, okD_append Hok.out.2.2 (lowD_ok (by decide) 9 nn)⟩, Lib.hid (by rw [strip_val]; exact Hrd.out), Lib.hid ?_, Lib.hid ?_, HBt⟩
                    · exact ⟨by rw [HC.out, List.length_take]; have := Hql.out; omega, by rw [List.length_append, lowD_length]; omega⟩
                    · rw [HC.out]; exact HLt.out
                    · rw [List.length_append, lowD_length]; exact HOt.out
    · have hm00 : m = 0 := by omega
      subst hm00
      have hnil : cur = [] := List.length_eq_zero_iff.1 Hm.out.1
      subst hnil
      have HVd : Hid (dval 10 done = V) := Lib.hid (by simpa [dval] using Hv.out)
      obtain ⟨q, hq⟩ : ∃ q, q = done.length := ⟨_, rfl⟩
      rw [← hq] at HO
      have hq0 : 0 < q := by
        rcases Nat.eq_zero_or_pos q with h | h
        · have h2 : done = [] := List.length_eq_zero_iff.1 (by omega)
          have h3 := HVd.out
          have h4 := HVp.out.1
          rw [h2] at h3
          simp [dval] at h3
          omega
        · exact h
      obtain ⟨go, co, rfl, hgo1, hgo2, hco⟩ := own_head HO.out hq0
      have Hq := Lib.hid hq
      have Hgo := Lib.hid hgo1
      have Hbox : Hid (wr.heap[w.heap.size]? = some (.cells #[.slice A n c, .bool b] 89 (0, 0))) := Lib.hid ((HB.out.block _ (by have := Hw1.out.2; omega)).trans Hrow.out)
      have hbq : q ≤ 10 * n + 20 := by have := Hm.out.2; omega
      clear hq hgo1 hgo2 Hcl Hrow Hd5 Hb5 Hg HL Hgk Hm Hv
      go_wp2_with fail
      go_loopw [3] (fun ov wx => ∃ k : Nat, k ≤ q ∧ ov = .slice (some ⟨go, 0, none⟩) k co ∧ wx = wr ∧ Hid (strip (done.take k) = strip done)) (fun ov _ => match ov with | .slice _ k _ => k | _ => 0)
      case atStart => exact ⟨q, Nat.le_refl _, rfl, rfl, Lib.hid (by rw [Hq.out, List.take_length])⟩
      case round =>
        obtain ⟨k, hk, rfl, rfl, Hs⟩ := hrel
        have hk0 : 0 < k := by
          rcases Nat.eq_zero_or_pos k with h | h
          · have h2 := Hs.out
            have h3 := strip_val 10 done
            rw [h] at h2
            rw [← h2] at h3
            simp [strip, dval] at h3
            have h4 := HVd.out
            have h5 := HVp.out.1
            omega
          · exact h
        obtain ⟨j, rfl⟩ : ∃ j, k = j + 1 := ⟨k - 1, by omega⟩
        have hjq : j < done.length := by have := Hq.out; omega
        have hx : done[j]? = some done[j] := List.getElem?_eq_getElem hjq
        generalize done[j] = x at hx
        have hcx : wr.cell? ⟨go, j, none⟩ = some (.int .u8 (48 + (x : Int))) := by
          rw [HO.out.cellAt j (by omega), List.getElem?_map, hx]
          rfl
        have Hx := Lib.hid hx
        clear hx
        cases hz0 : ((48 + (x : Int)) == 48) with
        | true =>
          have hx0 : x = 0 := by have : (48 + (x : Int)) = 48 := by simpa using hz0
                                 omega
          go_wp2_with fail
          go_roundw
          case rel => exact ⟨j, by omega, rfl, trivial, Lib.hid (by rw [← strip_take_zero (hx0 ▸ Hx.out)]; exact Hs.out)⟩
          case measure => simp
        | false =>
          have hx0 : x ≠ 0 := fun e => by subst e; simp at hz0
          have HC : Hid (strip done = done.take (j + 1)) := Lib.hid (by rw [← Hs.out]; exact strip_take_last Hx.out hx0)
          have Hrow5 : Hid (wr.ownsRow W1.heap.size 5 1 (.slice (some ⟨go, 0, none⟩) (j + 1) co) (j + 1) (((strip done).map chB).map fun x => Value.int .u8 (x.toNat : Int))) := Lib.hid (by
            rw [← chs_bytes (strip_ok Hok.out.2.2), HC.out, List.map_take]
            exact own_take HO.out hk)
          have Hfin := Lib.hid (str_bytes HVd.out Hok.out.2.2 HVp.out.1)
          have hc1 : wr.cell? ⟨w.heap.size, 1, none⟩ = some (.bool b) := by rw [cell_of_row _ w.heap.size 1 _ 89 (0, 0) Hbox.out]; rfl
          have hjb : j + 1 ≤ 10 * n + 20 := by omega
          clear hx0 HC Hs HO
          cases b with
          | false =>
            have Hcall := Lib.hid (str_tail Hrow5.out (by omega))
            go_wp2_with (go_at_call 136; refine Hcall.out.mono ?_; rintro e w9 ⟨rfl, hcv, hb9⟩; have Hb9 := Lib.hid hb9; clear hb9)
            go_ret
            refine ⟨?_, (Hw1.out.1.trans (HB.out.mono (by have := Hw1.out.2; omega))).trans (Hb9.out.mono (by have := Hw1.out.2; omega))⟩
            show Ending.returned (.string ⟨((strip done).map chB).reverse.toArray⟩) = Ending.returned (.string ⟨(decDigits V).toArray⟩)
            rw [Hfin.out]
          | true =>
            have Hch : Hid (∀ (i : Nat) (u : Value), [Value.int .u8 45][i]? = some u → (wr.alloc (.cells #[.int .u8 45] 5)).cell? ((⟨wr.heap.size, 0, none⟩ : Addr).add i) = some u) := Lib.hid (cell_one_new _ _ _)
            go_wp2_with (first
              | (at_builtin; refine wpList_append_own _ rfl (.tmp 83) (.tmp 84) 154 rfl W1.heap.size 5 i5 _ 1 1 Tryz.underlying154 hi5 hy0 hy1 hy2 rfl (by decide) (.slice (some ⟨go, 0, none⟩) (j + 1) co) (j + 1) _ rfl (Hrow5.out.alloc _) ⟨wr.heap.size, 0, none⟩ 1 1 [Value.int .u8 45] rfl rfl Hch.out (by intro u hu; simp at hu; subst hu; rfl) (by simp only [maxLen]; omega) (by omega) (by have := HB.out.size; simp; omega) ?_; intro v9 w9 hown9 hg9 _; obtain ⟨g9, c9, rfl, hg91, _, _⟩ := own_head hown9 (by omega); have HO9 := Lib.hid hown9; have HB9 : Hid (Below W1.heap.size W1 w9) := Lib.hid ((HB.out.alloc HB.out.size _).grown hg9 (by have := HB.out.size; simp; omega) (fun j hj => by cases hj; exact Hgo.out)); have Hcall := Lib.hid (str_tail (bs := ((strip done).map chB) ++ [45]) (by have h := hown9; rw [List.map_append]; exact h) (by omega)); clear hown9 hg9 hg91)
              | (go_at_call 136; refine Hcall.out.mono ?_; rintro e w10 ⟨rfl, hcv, hb10⟩; have Hb10 := Lib.hid hb10; clear hb10))
            go_ret
            refine ⟨?_, (Hw1.out.1.trans (HB9.out.mono (by have := Hw1.out.2; omega))).trans (Hb10.out.mono (by have := Hw1.out.2; omega))⟩
            show Ending.returned (.string ⟨((45 : UInt8) :: ((strip done).map chB).reverse).toArray⟩) = Ending.returned (.string ⟨((45 : UInt8) :: decDigits V).toArray⟩)
            rw [Hfin.out]
theorem itoa_parts {z : Int} {V : Nat} {b : Bool} (hV : V = z.natAbs) (hb : decide (z < 0) = b) : (if b then (45 : UInt8) :: decDigits V else decDigits V) = itoa z := by
  subst hV hb
  unfold itoa
  by_cases h : z < 0
  · simp [h]
  · simp only [decide_eq_true_eq, if_neg h]
    congr 1
    omega
/-- A whole number's text. -/
theorem string_ex {w : World} {v : Value} {z : Int} {k : Nat} (h : NumAt w v z) (hz : z.natAbs < 4294967296 ^ k) (hk : k ≤ 1000000000000) :
    Calls Tryz.prog 133 #[v] w fun e w' => e = .returned (.string (numB z)) ∧ Below w.heap.size w w' := by
  obtain ⟨A, c, ds, rfl, hc, hd, h1, h2, h3⟩ := h
  have hl := len_of h2 h3 hz
  by_cases h0 : ds.length = 0
  · have hnil : ds = [] := List.length_eq_zero_iff.1 h0
    subst hnil
    have hz0 : z = 0 := by simp [dval] at h3; omega
    subst hz0
    have e : numB 0 = "0".toUTF8 := by decide +kernel
    rw [e]
    exact string_zero
  · have := string_pos (c := c) (b := decide (z < 0)) hd h1 h2 h3 rfl (by omega) (by omega)
    rw [itoa_parts rfl rfl] at this
    exact this
end Go.Proofs.YtbnonccmlildnaaGreat

/- Values are no longer than what they are made of. -/
namespace Go.Proofs.YtbnonccmlildnaaGreat
open Go.RowKit Go.Lib
variable {τ : Nat → List UInt8}

theorem pval_lt (l : List UInt8) : ∀ (a k : Nat), a < 256 ^ k → pval l a < 256 ^ (k + l.length) := by
  induction l with
  | nil => intro a k h; simpa [pval] using h
  | cons c l ih =>
    intro a k h
    have hc : c.toNat < 256 := UInt8.toNat_lt c
    have := ih (10 * a + (c.toNat - 48)) (k + 1) (by rw [Nat.pow_succ]; omega)
    simp only [pval, List.length_cons]
    rw [show k + (l.length + 1) = k + 1 + l.length by omega]
    exact this
theorem valB_lt (s : ByteArray) : (valB s).natAbs < 4294967296 ^ s.size := by
  have h256 : ∀ n, (256 : Nat) ^ n ≤ 4294967296 ^ n := fun n => Nat.pow_le_pow_left (by decide) n
  have hl : s.data.toList.length = s.size := by rw [Array.length_toList]; rfl
  unfold valB
  split
  · have h1 := pval_lt (s.extract 1 s.size).data.toList 0 0 (by decide)
    have hl2 : (s.extract 1 s.size).data.toList.length ≤ s.size := by rw [Array.length_toList]; show (s.extract 1 s.size).size ≤ s.size; rw [ByteArray.size_extract]; omega
    have h2 : (256 : Nat) ^ (0 + (s.extract 1 s.size).data.toList.length) ≤ 256 ^ s.size := Nat.pow_le_pow_right (by decide) (by omega)
    have h3 := h256 s.size
    omega
  · have h1 := pval_lt s.data.toList 0 0 (by decide)
    have h2 : (256 : Nat) ^ (0 + s.data.toList.length) ≤ 256 ^ s.size := Nat.pow_le_pow_right (by decide) (by omega)
    have h3 := h256 s.size
    omega
mutual
/-- Its numerals are at most so long. -/
def numsT (L : Nat) : Tm → Bool
  | .mk _ _ _ n l _ _ => decide (n.size ≤ L) && numsTs L l
def numsTs (L : Nat) : List Tm → Bool
  | [] => true
  | t :: ts => numsT L t && numsTs L ts
end
theorem numsTs_get {L : Nat} : ∀ {l : List Tm}, numsTs L l = true → ∀ {j : Nat} {t : Tm}, l[j]? = some t → numsT L t = true
  | [], _, j, t, h => by simp at h
  | u :: l, h, j, t, ht => by
    simp only [numsTs, Bool.and_eq_true] at h
    cases j with
    | zero => simp at ht; subst ht; exact h.1
    | succ j => exact numsTs_get h.2 (by simpa using ht)
/-- What tables tell is at most so long. -/
def tabsL (L : Nat) (tbs : List Tb) : Prop := ∀ tb ∈ tbs, tb.els.size ≤ L ∧ ∀ r ∈ tb.rows, r.2.size ≤ L
def obsE (env : Env) : Prop := ∀ x ∈ env, ∃ k, x.2 = .ob k
theorem obsE.snoc {env : Env} (h : obsE env) (x : ByteArray) (k : Nat) : obsE (env ++ [(x, .ob k)]) := by
  intro y hy
  rcases List.mem_append.1 hy with hy | hy
  · exact h y hy
  · simp at hy; subst hy; exact ⟨k, rfl⟩
theorem lookE_obs {env : Env} (h : obsE env) (name : ByteArray) : asInt (lookE env name) = 0 := by
  unfold lookE
  split
  · rename_i v hv
    have := List.mem_of_find?_eq_some hv
    obtain ⟨k, hk⟩ := h v (by simpa using this)
    rw [hk]; rfl
  · rfl
theorem rowOf_size {L : Nat} {args : List ByteArray} : ∀ {rows : List (List ByteArray × ByteArray)} {e : ByteArray}, (∀ r ∈ rows, r.2.size ≤ L) → e.size ≤ L → (rowOf rows args e).size ≤ L
  | [], e, _, h => h
  | (a, o) :: rs, e, h, he => by
    simp only [rowOf]
    split
    · exact h (a, o) (by simp)
    · exact rowOf_size (fun r hr => h r (by simp [hr])) he
theorem readV_lt {s : ByteArray} {k : Int} {objs : Nat} {v : Vl} (h : readV s k objs = some v) : (asInt v).natAbs < 4294967296 ^ s.size := by
  have hp : (0 : Nat) < 4294967296 ^ s.size := Nat.pow_pos (by decide)
  unfold readV at h
  split at h
  · split at h <;> cases h
    exact valB_lt s
  · split at h
    · split at h
      · cases h; simpa [asInt] using hp
      · split at h <;> cases h
        simpa [asInt] using hp
    · split at h <;> cases h
      simpa [asInt] using hp
theorem pow_sum {p q a b : Nat} (ha : a < 4294967296 ^ p) (hb : b < 4294967296 ^ q) : a + b < 4294967296 ^ (p + q) := by
  rw [Nat.pow_add]
  generalize 4294967296 ^ p = x at *
  generalize 4294967296 ^ q = y at *
  obtain ⟨x, rfl⟩ : ∃ x', x = x' + 1 := ⟨x - 1, by omega⟩
  obtain ⟨y, rfl⟩ : ∃ y', y = y' + 1 := ⟨y - 1, by omega⟩
  rw [Nat.add_mul, Nat.mul_add]
  omega
theorem pow_prod {p q a b : Nat} (ha : a < 4294967296 ^ p) (hb : b < 4294967296 ^ q) : a * b < 4294967296 ^ (p + q) := by
  rw [Nat.pow_add]
  exact Nat.mul_lt_mul'' ha hb
theorem lt_pow {p q a : Nat} (ha : a < 4294967296 ^ p) (h : p ≤ q) : a < 4294967296 ^ q := Nat.lt_of_lt_of_le ha (Nat.pow_le_pow_right (by decide) h)
/-- The values of operands, and their sum. -/
theorem sum_lt {L : Nat} : ∀ (l : List Tm) (vs : List Vl) (a : Int) (p : Nat), (∀ (j : Nat) (t : Tm) (v : Vl), l[j]? = some t → vs[j]? = some v → (asInt v).natAbs < 4294967296 ^ (L * tsize t)) → vs.length = l.length → a.natAbs < 4294967296 ^ p → (vs.foldl (fun a v => a + asInt v) a).natAbs < 4294967296 ^ (p + L * tsizes l)
  | [], vs, a, p, _, hl, ha => by
    have : vs = [] := List.length_eq_zero_iff.1 (by simpa using hl)
    subst this
    simpa [tsizes] using ha
  | t :: l, vs, a, p, h, hl, ha => by
    cases vs with
    | nil => simp at hl
    | cons v vs =>
      have h1 := h 0 t v rfl rfl
      have h2 := pow_sum ha h1
      have := sum_lt l vs (a + asInt v) (p + L * tsize t) (fun j t v hj hv => h (j + 1) t v (by simpa using hj) (by simpa using hv)) (by simpa using hl) (by
        have := Int.natAbs_add_le a (asInt v)
        omega)
      simp only [List.foldl_cons, tsizes]
      rw [Nat.mul_add, ← Nat.add_assoc]
      exact this
theorem tsize_tsizes : ∀ {l : List Tm} {j : Nat} {t : Tm}, l[j]? = some t → tsize t ≤ tsizes l
  | [], j, t, h => by simp at h
  | u :: l, j, t, h => by
    simp only [tsizes]
    cases j with
    | zero => simp at h; subst h; omega
    | succ j => have := tsize_tsizes (l := l) (j := j) (by simpa using h); omega
theorem two_tsizes {l : List Tm} {t u : Tm} (h : l[0]? = some t) (k : l[1]? = some u) : tsize t + tsize u ≤ tsizes l := by
  match l, h, k with
  | t' :: u' :: l, h, k =>
    simp at h k
    subst h k
    simp only [tsizes]
    omega
theorem getD_lt {L : Nat} {l : List Tm} {vs : List Vl} (h : ∀ (j : Nat) (t : Tm) (v : Vl), l[j]? = some t → vs[j]? = some v → (asInt v).natAbs < 4294967296 ^ (L * tsize t)) (hl : vs.length = l.length) (j : Nat) : (asInt (vs.getD j (.tr false))).natAbs < 4294967296 ^ (L * tsizes l) := by
  have hp : ∀ n, (0 : Nat) < 4294967296 ^ n := fun n => Nat.pow_pos (by decide)
  by_cases hj : j < vs.length
  · have h1 : vs[j]? = some vs[j] := List.getElem?_eq_getElem hj
    have h2 : l[j]? = some (l[j]'(by omega)) := List.getElem?_eq_getElem (by omega)
    have h3 := h j _ _ h2 h1
    have : vs.getD j (.tr false) = vs[j] := by simp [hj]
    rw [this]
    exact lt_pow h3 (Nat.mul_le_mul_left L (tsize_tsizes h2))
  · have : vs.getD j (.tr false) = .tr false := by simp [List.getElem?_eq_none (by omega : vs.length ≤ j)]
    rw [this]
    simpa [asInt] using hp _
theorem comb_lt {L : Nat} {op : Int} {n : ByteArray} {l : List Tm} {vs : List Vl} (hn : n.size ≤ L) (h : ∀ (j : Nat) (t : Tm) (v : Vl), l[j]? = some t → vs[j]? = some v → (asInt v).natAbs < 4294967296 ^ (L * tsize t)) (hl : vs.length = l.length) :
    (asInt (combV τ op n vs)).natAbs < 4294967296 ^ (L * (1 + tsizes l)) := by
  have hp : ∀ n, (0 : Nat) < 4294967296 ^ n := fun n => Nat.pow_pos (by decide)
  have hle : L * tsizes l ≤ L * (1 + tsizes l) := Nat.mul_le_mul_left L (by omega)
  have g := fun j => getD_lt h hl j
  by_cases h1 : op = 1
  · subst h1
    exact lt_pow (p := n.size) (valB_lt n) (by rw [Nat.mul_add]; omega)
  by_cases h12 : op = 12
  · subst h12
    have := sum_lt l vs 0 0 h hl (by decide)
    rw [Nat.zero_add] at this
    exact lt_pow this hle
  by_cases h13 : op = 13
  · subst h13
    show (asInt (vs.getD 0 (.tr false)) - asInt (vs.getD 1 (.tr false))).natAbs < _
    by_cases hv : 1 < vs.length
    · have a0 : l[0]? = some (l[0]'(by omega)) := List.getElem?_eq_getElem (by omega)
      have a1 : l[1]? = some (l[1]'(by omega)) := List.getElem?_eq_getElem (by omega)
      have b0 := h 0 _ _ a0 (List.getElem?_eq_getElem (by omega : 0 < vs.length))
      have b1 := h 1 _ _ a1 (List.getElem?_eq_getElem hv)
      have e0 : vs.getD 0 (.tr false) = vs[0] := by simp [show 0 < vs.length by omega]
      have e1 : vs.getD 1 (.tr false) = vs[1] := by simp [hv]
      rw [e0, e1]
      have := pow_sum b0 b1
      have h5 := two_tsizes a0 a1
      have h6 : L * (tsize l[0] + tsize l[1]) ≤ L * (1 + tsizes l) := Nat.mul_le_mul_left L (by omega)
      rw [Nat.mul_add] at h6
      refine lt_pow (p := L * tsize l[0] + L * tsize l[1]) ?_ h6
      omega
    · have e1 : vs.getD 1 (.tr false) = .tr false := by simp [List.getElem?_eq_none (by omega : vs.length ≤ 1)]
      rw [e1]
      have := lt_pow (g 0) hle
      simpa [asInt] using this
  by_cases h14 : op = 14
  · subst h14
    show (-asInt (vs.getD 0 (.tr false))).natAbs < _
    rw [Int.natAbs_neg]
    exact lt_pow (g 0) hle
  by_cases h15 : op = 15
  · subst h15
    show (asInt (vs.getD 0 (.tr false)) * asInt (vs.getD 1 (.tr false))).natAbs < _
    rw [Int.natAbs_mul]
    by_cases hv : 1 < vs.length
    · have a0 : l[0]? = some (l[0]'(by omega)) := List.getElem?_eq_getElem (by omega)
      have a1 : l[1]? = some (l[1]'(by omega)) := List.getElem?_eq_getElem (by omega)
      have b0 := h 0 _ _ a0 (List.getElem?_eq_getElem (by omega : 0 < vs.length))
      have b1 := h 1 _ _ a1 (List.getElem?_eq_getElem hv)
      have e0 : vs.getD 0 (.tr false) = vs[0] := by simp [show 0 < vs.length by omega]
      have e1 : vs.getD 1 (.tr false) = vs[1] := by simp [hv]
      rw [e0, e1]
      have h5 := two_tsizes a0 a1
      have h6 : L * (tsize l[0] + tsize l[1]) ≤ L * (1 + tsizes l) := Nat.mul_le_mul_left L (by omega)
      rw [Nat.mul_add] at h6
      exact lt_pow (pow_prod b0 b1) h6
    · have e1 : vs.getD 1 (.tr false) = .tr false := by simp [List.getElem?_eq_none (by omega : vs.length ≤ 1)]
      rw [e1]
      simpa [asInt] using hp _
  by_cases h16 : op = 16
  · subst h16
    show (asInt (if asBool (vs.getD 0 (.tr false)) then vs.getD 1 (.tr false) else vs.getD 2 (.tr false))).natAbs < _
    split
    · exact lt_pow (g 1) hle
    · exact lt_pow (g 2) hle
  · obtain ⟨b, hb⟩ := comb_tr (τ := τ) (n := n) (vs := vs) (op := op) (by omega) h16
    rw [hb]
    simpa [asInt] using hp _
variable {sig : List Fn} {tbs : List Tb} {objs L : Nat}
theorem appV_lt (hT : tabsL L tbs) {name : ByteArray} {vs : List Vl} {v : Vl} (h : appV τ sig tbs objs name vs = .ok v) : (asInt v).natAbs < 4294967296 ^ L := by
  unfold appV at h
  split at h
  · cases h
  · rename_i tb htb
    have hm : tb ∈ tbs := List.mem_of_find?_eq_some htb
    split at h
    · cases h
    · rename_i u hu
      cases h
      exact lt_pow (readV_lt hu) (rowOf_size (hT tb hm).2 (hT tb hm).1)
mutual
theorem evalT_lt (hT : tabsL L tbs) : ∀ (t : Tm) (env : Env) (v : Vl), numsT L t = true → obsE env → evalT τ sig tbs objs t env = .ok v → (asInt v).natAbs < 4294967296 ^ (L * tsize t)
  | .mk op name sort n l vars pat, env, v, hn, ho, h => by
    have hp : ∀ n, (0 : Nat) < 4294967296 ^ n := fun n => Nat.pow_pos (by decide)
    simp only [numsT, Bool.and_eq_true, decide_eq_true_eq] at hn
    simp only [evalT] at h
    by_cases h19 : op = 19
    · rw [if_pos h19] at h
      obtain ⟨b, _, rfl⟩ := trOf_ok h
      simpa [asInt] using hp _
    · rw [if_neg h19] at h
      obtain ⟨vs, h1, h2⟩ := bindL_ok h
      simp only [tsize]
      by_cases h17 : op = 17
      · rw [if_pos h17] at h2
        exact lt_pow (appV_lt hT h2) (by rw [Nat.mul_add]; omega)
      · rw [if_neg h17] at h2
        by_cases h18 : op = 18
        · rw [if_pos h18] at h2
          cases h2
          rw [lookE_obs ho]
          exact hp _
        · rw [if_neg h18] at h2
          cases h2
          exact comb_lt hn.1 (evals_lt hT l env vs hn.2 ho h1) (evals_length h1)
theorem evals_lt (hT : tabsL L tbs) : ∀ (l : List Tm) (env : Env) (vs : List Vl), numsTs L l = true → obsE env → evals τ sig tbs objs l env = .ok vs → ∀ (j : Nat) (t : Tm) (v : Vl), l[j]? = some t → vs[j]? = some v → (asInt v).natAbs < 4294967296 ^ (L * tsize t)
  | [], env, vs, _, _, _, j, t, v, ht, _ => by simp at ht
  | u :: l, env, vs, hn, ho, h, j, t, v, ht, hv => by
    simp only [numsTs, Bool.and_eq_true] at hn
    simp only [evals] at h
    obtain ⟨v0, vs', h1, h2, rfl⟩ := consV_ok h
    cases j with
    | zero =>
      simp at ht hv
      subst ht hv
      exact evalT_lt hT u env v0 hn.1 ho h1
    | succ j => exact evals_lt hT l env vs' hn.2 ho h2 j t v (by simpa using ht) (by simpa using hv)
end
end Go.Proofs.YtbnonccmlildnaaGreat
