/- Values: variables. -/
import Derived.Test.YtbnonccmlildnaaGreatM32
set_option linter.unusedSimpArgs false
set_option linter.unusedVariables false
namespace Go.Proofs.YtbnonccmlildnaaGreat
open Go.RowKit

def BKeep (w w' : World) : Prop := Below w.heap.size w w'
theorem BKeep.refl (w : World) : BKeep w w := Below.refl _ _
/-- The innermost one of a name. -/
theorem look_idx {ns : List ByteArray} {bs : List Nat} {nm : ByteArray} (hl : ns.length = bs.length) (hm : nm ∈ ns) : ∃ (i : Nat) (k : Nat), i < ns.length ∧ Lib.idxOfS ns.reverse nm = (i : Int) ∧ bs[ns.length - 1 - i]? = some k ∧ lookE (envOf ns bs) nm = .ob k := by
  have hlen : (envOf ns bs).length = ns.length := by unfold envOf; rw [List.length_zip, List.length_map]; omega
  have hex : ∃ v, (envOf ns bs).reverse.find? (fun v => v.1.toList == nm.toList) = some v := by
    rw [← Option.isSome_iff_exists, List.find?_isSome]
    obtain ⟨j, hj, he⟩ := List.getElem_of_mem hm
    have hjb : j < bs.length := by omega
    refine ⟨(nm, .ob bs[j]), ?_, by simp⟩
    rw [List.mem_reverse]
    unfold envOf
    rw [List.mem_iff_getElem?]
    exact ⟨j, by rw [List.getElem?_zip_eq_some]; exact ⟨by rw [List.getElem?_eq_getElem hj, he], by rw [List.getElem?_map, List.getElem?_eq_getElem hjb]; rfl⟩⟩
  obtain ⟨v, hv⟩ := hex
  have hv2 := hv
  rw [List.find?_eq_some_iff_getElem] at hv
  obtain ⟨hp, i, hi, hie, hno⟩ := hv
  rw [List.length_reverse, hlen] at hi
  have hrev : ∀ j, j < ns.length → (envOf ns bs).reverse[j]? = some (ns[ns.length - 1 - j]?.getD nm, .ob (bs[ns.length - 1 - j]?.getD 0)) := fun j hj => by
    rw [List.getElem?_reverse (by omega), hlen]
    unfold envOf
    rw [List.getElem?_zip_eq_some]
    have h1 : ns.length - 1 - j < ns.length := by omega
    have h2 : ns.length - 1 - j < bs.length := by omega
    exact ⟨by rw [List.getElem?_eq_getElem h1]; rfl, by rw [List.getElem?_map, List.getElem?_eq_getElem h2]; rfl⟩
  have hk : ns.length - 1 - i < bs.length := by omega
  refine ⟨i, bs[ns.length - 1 - i], hi, ?_, List.getElem?_eq_getElem hk, ?_⟩
  · have hnr : ∀ j, j < ns.length → ns.reverse.getD j ByteArray.empty = ns[ns.length - 1 - j]?.getD nm := fun j hj => by
      rw [List.getD_eq_getElem?_getD, List.getElem?_reverse hj]
      have h1 : ns.length - 1 - j < ns.length := by omega
      rw [List.getElem?_eq_getElem h1]
      rfl
    have hat : ∀ j (hj : j < ns.length), (envOf ns bs).reverse[j]'(by rw [List.length_reverse, hlen]; exact hj) = (ns[ns.length - 1 - j]?.getD nm, .ob (bs[ns.length - 1 - j]?.getD 0)) := fun j hj => by
      have := hrev j hj
      rw [List.getElem?_eq_getElem (by rw [List.length_reverse, hlen]; exact hj)] at this
      exact Option.some.inj this
    have := Lib.idxOfS_hit ns.reverse ns.length i nm hi (by simp) (by
      rw [hnr i hi]
      rw [hat i hi] at hie
      rw [← hie] at hp
      exact bytes_eq (by simpa using hp)) (fun j hj he => by
      have h1 := hno j hj
      rw [hat j (by omega)] at h1
      rw [hnr j (by omega)] at he
      rw [he] at h1
      simp at h1)
    rwa [List.take_of_length_le (by simp)] at this
  · unfold lookE
    rw [hv2]
    have h3 := hrev i hi
    rw [List.getElem?_eq_getElem (by rw [List.length_reverse, hlen]; exact hi), hie] at h3
    have h4 := Option.some.inj h3
    rw [h4, List.getElem?_eq_getElem hk]
    rfl
def varSpec (a : Nat) (K : Nat) (nv : Value) (bv : Value) (n : Nat) (ix : Nat) (j : Nat) (gb : Nat) (k : Nat) (nm : ByteArray) (rev : List ByteArray) : Nat → World → Value → Prop
  | 0, _, v => v = .pointer (some ⟨a, 0, none⟩)
  | 1, _, v => v = .pointer (some ⟨a, 0, none⟩)
  | 2, _, v => v = .pointer (some ⟨a, 5, none⟩)
  | 3, _, v => v = bv
  | 4, _, v => v = .pointer (some ⟨a, 0, none⟩)
  | 5, _, v => v = .pointer (some ⟨a, 0, none⟩)
  | 6, _, v => v = .pointer (some ⟨a, 4, none⟩)
  | 7, _, v => v = nv
  | 8, _, v => v = .int .i64 (n : Int)
  | 9, _, v => v = .int .i64 ((n : Int) - 1)
  | 10, _, v => v = .pointer (some ⟨a, 0, none⟩)
  | 11, _, v => v = .pointer (some ⟨a, 0, none⟩)
  | 12, _, v => v = .pointer (some ⟨a, 4, none⟩)
  | 13, _, v => v = nv
  | 14, w, v => ∃ B g c, v = .slice (some ⟨g, 0, none⟩) n c ∧ w.ownsRow B 9 1 (.slice (some ⟨g, 0, none⟩) n c) n (rev.map Value.string)
  | 15, _, v => v = .pointer (some ⟨K, 1, none⟩)
  | 16, _, v => v = .string nm
  | 17, w, v => v = .int .i64 (ix : Int)
  | 18, _, v => v = .int .i64 (j : Int)
  | 19, _, v => v = .pointer (some ⟨gb, j, none⟩)
  | 20, _, v => v = obV k
  | 21, _, v => v = obV k
  | _, _, _ => True
theorem varSpec_keep (a : Nat) (K : Nat) (nv : Value) (bv : Value) (n : Nat) (ix : Nat) (j : Nat) (gb : Nat) (k : Nat) (nm : ByteArray) (rev : List ByteArray) (i : Nat) (w w' : World) (v : Value) (h : varSpec a K nv bv n ix j gb k nm rev i w v) (hb : BKeep w w') : varSpec a K nv bv n ix j gb k nm rev i w' v :=
  match i, h with
  | 0, h => h
  | 1, h => h
  | 2, h => h
  | 3, h => h
  | 4, h => h
  | 5, h => h
  | 6, h => h
  | 7, h => h
  | 8, h => h
  | 9, h => h
  | 10, h => h
  | 11, h => h
  | 12, h => h
  | 13, h => h
  | 14, h => let ⟨B, g, c, e, h⟩ := h; ⟨B, g, c, e, own_kept h hb⟩
  | 15, h => h
  | 16, h => h
  | 17, h => h
  | 18, h => h
  | 19, h => h
  | 20, h => h
  | 21, h => h
  | n + 22, _ => trivial
variable {M : Mdl} {τ : Nat → List UInt8} {a : Nat} {ns : List ByteArray} {bs : List Nat} {nv bv : Value} {w : World}
set_option maxRecDepth 100000 in
set_option maxHeartbeats 8000000 in
theorem val_var {p : Parts} (hop : p.op = 18) (hs : St M a ns bs nv bv w) (hl : ns.length = bs.length) (hn : ns.length ≤ 1000000) (hm : p.name ∈ ns) :
    Calls Tryz.prog 23 #[.pointer (some ⟨a, 0, none⟩), .agg p.arr] w (VP M a ns bs nv bv w (.ok (lookE (envOf ns bs) p.name))) := by
  obtain ⟨ix, k, hi, hix, hbk, hlook⟩ := look_idx hl hm
  rw [hlook]
  have hpos : 0 < ns.length := by omega
  obtain ⟨gn, cn, rfl, _, _, hcn⟩ := own_head hs.names hpos
  have hbd := hs.bound
  rw [← hl] at hbd
  obtain ⟨gb, cb, rfl, _, _, hcb⟩ := own_head hbd hpos
  have hbc : w.cell? ⟨gb, ns.length - 1 - ix, none⟩ = some (obV k) := by
    rw [hbd.cellAt (ns.length - 1 - ix) (by omega), List.getElem?_map, hbk]
    rfl
  have hrev := fun w' (h : St M a ns bs (.slice (some ⟨gn, 0, none⟩) ns.length cn) (.slice (some ⟨gb, 0, none⟩) ns.length cb) w') => reversed_ex h.names hpos hn
  have hidx := fun (w' : World) (B g c : Nat) (h : w'.ownsRow B 9 1 (.slice (some ⟨g, 0, none⟩) ns.length c) ns.length (ns.reverse.map Value.string)) => Tryz.slices_Index_string g 0 ns.length c ns.reverse p.name w' (by simp) (by omega) (own_strs h).2
  have hbs : bs.length = ns.length := hl.symm
  have Hs := Lib.hid (hs.next (below_boxT w p))
  have Hb0 := Lib.hid (below_boxT w p)
  have HW0 : Hid (boxT w p = w.alloc (.cells #[.int .i64 p.op, .string p.name, .int .i64 p.sort, .string p.n, .slice p.A p.la p.ca, .slice p.V p.lv p.cv, .slice p.P p.lp p.cp] 29)) := Lib.hid rfl
  have Hbx2 : Hid ((boxT w p).heap[w.heap.size]? = some (.cells p.arr 29 (0, 0))) := Lib.hid (heap_alloc_new w _)
  have HLb : Hid (w.heap.size < (boxT w p).drew.heap.size) := Lib.hid (by show w.heap.size < (boxT w p).heap.size; rw [boxT_size]; omega)
  have hgl : gb < w.heap.size := (own_block hbd rfl).2.1
  have Hk : Hid (∀ w', Below (boxT w p).drew.heap.size (boxT w p).drew w' → w'.cell? ⟨gb, ns.length - 1 - ix, none⟩ = some (obV k)) := Lib.hid (fun w' hb => cell_of_below (((below_boxT w p).drew).trans (hb.mono (show w.heap.size ≤ (boxT w p).heap.size by rw [boxT_size]; omega))) (Nat.le_refl _) hbc)
  have Hrev : Hid (∀ w', Below (boxT w p).drew.heap.size (boxT w p).drew w' → Calls Tryz.prog 42 #[.slice (some ⟨gn, 0, none⟩) ns.length cn] w' fun e w'' => ∃ g c, e = .returned (.slice (some ⟨g, 0, none⟩) ns.length c) ∧ w''.ownsRow w'.heap.size 9 1 (.slice (some ⟨g, 0, none⟩) ns.length c) ns.length (ns.reverse.map Value.string) ∧ Below w'.heap.size w' w'') := Lib.hid (fun w' hb => hrev w' (Hs.out.next ((Below.refl (boxT w p).heap.size (boxT w p)).drew.trans hb)))
  have Hidx : Hid (∀ (w' : World) (B g c : Nat), w'.ownsRow B 9 1 (.slice (some ⟨g, 0, none⟩) ns.length c) ns.length (ns.reverse.map Value.string) → Calls Tryz.prog 41 #[.slice (some ⟨g, 0, none⟩) ns.length c, .string p.name] w' fun e w'' => e = .returned (.int .i64 (ix : Int)) ∧ w' = w'') := Lib.hid (fun w' B g c h => (hidx w' B g c h).mono fun e w'' hp => ⟨by rw [hp.1, List.take_of_length_le (by simp), hix], hp.2.symm⟩)
  clear hs hrev hidx hbc hbk hix hm hl
  obtain ⟨rev, hrv⟩ : ∃ rev, rev = ns.reverse := ⟨_, rfl⟩
  rw [← hrv] at Hrev Hidx
  generalize hN : ns.length = n at *
  have HN := Lib.hid hN
  clear hN hrv
  obtain ⟨j, hj⟩ : ∃ j, j = n - 1 - ix := ⟨_, rfl⟩
  rw [← hj] at Hk
  have Hji : Hid ((n : Int) - 1 - (ix : Int) = (j : Int) ∧ j < n) := Lib.hid (by omega)
  clear hj hbs hbd hcn hcb hi hlook
  obtain ⟨op', nm', so', n', A', la', ca', V', lv', cv', P', lp', cp'⟩ := p
  dsimp only at hop HW0 Hidx
  subst hop
  unfold Parts.arr
  dsimp only
  go_enter Tryz.func23, Tryz.ntmps23
  go_wp2_with fail
  rw [← HW0.out]
  generalize boxT w ⟨18, nm', so', n', A', la', ca', V', lv', cv', P', lp', cp'⟩ = W2 at *
  have HFd : Hid (Fr (stK a (.slice (some ⟨gn, 0, none⟩) n cn) (.slice (some ⟨gb, 0, none⟩) n cb)) (stK a (.slice (some ⟨gn, 0, none⟩) n cn) (.slice (some ⟨gb, 0, none⟩) n cb)) w W2.drew) := Lib.hid (Fr.of_below Hb0.out.drew)
  refine wp_region_makesD [0, 1, 2, 3, 4, 5, 6, 7, 8, 9, 10, 11, 12, 13, 14, 15, 16, 17, 18, 19, 20, 21] [] (Below W2.drew.heap.size W2.drew) BKeep (by kernel_rfl) (by kernel_rfl) (varSpec_keep a w.heap.size (.slice (some ⟨gn, 0, none⟩) n cn) (.slice (some ⟨gb, 0, none⟩) n cb) n ix j gb k nm' rev) (Below.refl _ _) ?_ ?_
  · intro i o' ho hi3 a' w' hJ hdf hfr hd K hK
    obtain ⟨x0, x1, x2, x3, x4, x5, x6⟩ := box_cells ((hJ.block _ HLb.out).trans Hbx2.out)
    dsimp only at x0 x1 x2 x3 x4 x5 x6
    have hsw := Hs.out.next ((Below.refl W2.heap.size W2).drew.trans hJ)
    obtain ⟨_, _, _, y4, y5⟩ := st_cells hsw
    have hk := Hk.out w' hJ
    obtain ⟨hji, hjn⟩ := Hji.out
    have k1 : (0 : Int) ≤ (j : Int) := by omega
    have w1 : IntKind.i64.wrap ((n : Int) - 1) = (n : Int) - 1 := IntWalk.i64_in _ (by omega)
    have w3 : IntKind.i64.wrap (j : Int) = (j : Int) := IntWalk.i64_in _ (by omega)
    have w2 : IntKind.i64.wrap ((n : Int) - 1 - (ix : Int)) = (j : Int) := by rw [hji]; exact IntWalk.i64_in _ (by omega)
    have k2 : (j : Int) < (n : Int) := by omega
    have hv0 : a'.tmps.getD 0 undef = .pointer (some ⟨a, 0, none⟩) := hfr 0 (by kernel_rfl)
    have hv3 : a'.tmps.getD 3 undef = .pointer (some ⟨w.heap.size, 0, none⟩) := hfr 3 (by kernel_rfl)
    rw [Array.getD_eq_getD_getElem?] at hv0 hv3
    clear hsw
    have HK := Lib.hid hK
    have HJ := Lib.hid hJ
    have Hdf := Lib.hid hdf
    clear hJ hK hfr hdf
    match i, ho with
    | 0, ho =>
      cases ho
      clear hd
      go_simp
      exact HK.out _ _ rfl (BKeep.refl _) HJ.out
    | 1, ho =>
      cases ho
      have e1 := hd ⟨0, .data⟩ (by simp) rfl _ _ rfl rfl
      simp only [varSpec, Array.getD_eq_getD_getElem?] at e1
      clear hd
      go_simp
      exact HK.out _ _ rfl (BKeep.refl _) HJ.out
    | 2, ho =>
      cases ho
      have e1 := hd ⟨1, .data⟩ (by simp) rfl _ _ rfl rfl
      simp only [varSpec, Array.getD_eq_getD_getElem?] at e1
      clear hd
      go_simp
      exact HK.out _ _ rfl (BKeep.refl _) HJ.out
    | 3, ho =>
      cases ho
      have e1 := hd ⟨2, .data⟩ (by simp) rfl _ _ rfl rfl
      simp only [varSpec, Array.getD_eq_getD_getElem?] at e1
      clear hd
      go_simp
      exact HK.out _ _ rfl (BKeep.refl _) HJ.out
    | 4, ho =>
      cases ho
      clear hd
      go_simp
      exact HK.out _ _ rfl (BKeep.refl _) HJ.out
    | 5, ho =>
      cases ho
      have e1 := hd ⟨4, .data⟩ (by simp) rfl _ _ rfl rfl
      simp only [varSpec, Array.getD_eq_getD_getElem?] at e1
      clear hd
      go_simp
      exact HK.out _ _ rfl (BKeep.refl _) HJ.out
    | 6, ho =>
      cases ho
      have e1 := hd ⟨5, .data⟩ (by simp) rfl _ _ rfl rfl
      simp only [varSpec, Array.getD_eq_getD_getElem?] at e1
      clear hd
      go_simp
      exact HK.out _ _ rfl (BKeep.refl _) HJ.out
    | 7, ho =>
      cases ho
      have e1 := hd ⟨6, .data⟩ (by simp) rfl _ _ rfl rfl
      simp only [varSpec, Array.getD_eq_getD_getElem?] at e1
      clear hd
      go_simp
      exact HK.out _ _ rfl (BKeep.refl _) HJ.out
    | 8, ho =>
      cases ho
      have e1 := hd ⟨7, .data⟩ (by simp) rfl _ _ rfl rfl
      simp only [varSpec, Array.getD_eq_getD_getElem?] at e1
      clear hd
      go_simp
      exact HK.out _ _ rfl (BKeep.refl _) HJ.out
    | 9, ho =>
      cases ho
      have e1 := hd ⟨8, .data⟩ (by simp) rfl _ _ rfl rfl
      simp only [varSpec, Array.getD_eq_getD_getElem?] at e1
      clear hd
      go_simp
      exact HK.out _ _ rfl (BKeep.refl _) HJ.out
    | 10, ho =>
      cases ho
      clear hd
      go_simp
      exact HK.out _ _ rfl (BKeep.refl _) HJ.out
    | 11, ho =>
      cases ho
      have e1 := hd ⟨10, .data⟩ (by simp) rfl _ _ rfl rfl
      simp only [varSpec, Array.getD_eq_getD_getElem?] at e1
      clear hd
      go_simp
      exact HK.out _ _ rfl (BKeep.refl _) HJ.out
    | 12, ho =>
      cases ho
      have e1 := hd ⟨11, .data⟩ (by simp) rfl _ _ rfl rfl
      simp only [varSpec, Array.getD_eq_getD_getElem?] at e1
      clear hd
      go_simp
      exact HK.out _ _ rfl (BKeep.refl _) HJ.out
    | 13, ho =>
      cases ho
      have e1 := hd ⟨12, .data⟩ (by simp) rfl _ _ rfl rfl
      simp only [varSpec, Array.getD_eq_getD_getElem?] at e1
      clear hd
      go_simp
      exact HK.out _ _ rfl (BKeep.refl _) HJ.out
    | 14, ho =>
      cases ho
      have e1 := hd ⟨13, .data⟩ (by simp) rfl _ _ rfl rfl
      simp only [varSpec, Array.getD_eq_getD_getElem?] at e1
      clear hd
      go_simp
      refine (Hrev.out w' HJ.out).mono ?_
      rintro e w9 ⟨g9, c9, rfl, ho9, hb9⟩
      exact HK.out _ _ ⟨_, g9, c9, rfl, ho9⟩ hb9 (HJ.out.trans (hb9.mono HJ.out.size))
    | 15, ho =>
      cases ho
      clear hd
      go_simp
      exact HK.out _ _ rfl (BKeep.refl _) HJ.out
    | 16, ho =>
      cases ho
      have e1 := hd ⟨15, .data⟩ (by simp) rfl _ _ rfl rfl
      simp only [varSpec, Array.getD_eq_getD_getElem?] at e1
      clear hd
      go_simp
      exact HK.out _ _ rfl (BKeep.refl _) HJ.out
    | 17, ho =>
      cases ho
      have e1 := hd ⟨14, .data⟩ (by simp) rfl _ _ rfl rfl
      have e2 := hd ⟨16, .data⟩ (by simp) rfl _ _ rfl rfl
      simp only [varSpec, Array.getD_eq_getD_getElem?] at e1 e2
      obtain ⟨B9, g9, c9, e9, ho9⟩ := e1
      have Hix := Lib.hid (Hidx.out w' B9 g9 c9 ho9)
      clear ho9 hd
      go_simp
      refine Hix.out.mono ?_
      rintro e w9 ⟨rfl, rfl⟩
      exact HK.out _ _ rfl (BKeep.refl _) HJ.out
    | 18, ho =>
      cases ho
      have e1 := hd ⟨9, .data⟩ (by simp) rfl _ _ rfl rfl
      have e2 := hd ⟨17, .data⟩ (by simp) rfl _ _ rfl rfl
      simp only [varSpec, Array.getD_eq_getD_getElem?] at e1 e2
      clear hd
      go_simp
      exact HK.out _ _ rfl (BKeep.refl _) HJ.out
    | 19, ho =>
      cases ho
      have e1 := hd ⟨3, .data⟩ (by simp) rfl _ _ rfl rfl
      have e2 := hd ⟨18, .data⟩ (by simp) rfl _ _ rfl rfl
      simp only [varSpec, Array.getD_eq_getD_getElem?] at e1 e2
      clear hd
      go_simp
      exact HK.out _ _ rfl (BKeep.refl _) HJ.out
    | 20, ho =>
      cases ho
      have e1 := hd ⟨19, .data⟩ (by simp) rfl _ _ rfl rfl
      simp only [varSpec, Array.getD_eq_getD_getElem?] at e1
      clear hd
      go_simp
      exact HK.out _ _ rfl (BKeep.refl _) HJ.out
    | 21, ho =>
      cases ho
      have e1 := hd ⟨20, .data⟩ (by simp) rfl _ _ rfl rfl
      simp only [varSpec, Array.getD_eq_getD_getElem?] at e1
      clear hd
      go_simp
      exact HK.out _ _ rfl (BKeep.refl _) HJ.out
    | n + 22, ho => simp at ho
  · intro fuel listed a' w8 hc hm hall
    obtain ⟨gg, ha, hh⟩ := hm.act (ds := [110, 111, 112, 113, 114, 115, 116, 117, 118, 119, 120, 121, 122, 123, 124, 125, 126, 127, 128, 129, 130, 4]) (by kernel_rfl)
    have hl : listed = #[true, true, true, true, true, true, true, true, true, true, true, true, true, true, true, true, true, true, true, true, true, true] := by
      have hs : listed.size = 22 := hm.size
      rw [listed_all listed, hs]
      simp only [List.range, List.range.loop, List.map, hall 0 (by simp), hall 1 (by simp), hall 2 (by simp), hall 3 (by simp), hall 4 (by simp), hall 5 (by simp), hall 6 (by simp), hall 7 (by simp), hall 8 (by simp), hall 9 (by simp), hall 10 (by simp), hall 11 (by simp), hall 12 (by simp), hall 13 (by simp), hall 14 (by simp), hall 15 (by simp), hall 16 (by simp), hall 17 (by simp), hall 18 (by simp), hall 19 (by simp), hall 20 (by simp), hall 21 (by simp)]
    have HJ8 := Lib.hid hm.inv
    have hg4 : gg 4 = obV k := hh 21 _ _ (hall 21 (by simp)) rfl rfl
    subst hl
    clear hm hall hh
    subst ha
    simp only [setAll]
    clear hc
    rw [hg4]
    clear hg4
    generalize gg 110 = g110, gg 111 = g111, gg 112 = g112, gg 113 = g113, gg 114 = g114, gg 115 = g115, gg 116 = g116, gg 117 = g117, gg 118 = g118, gg 119 = g119, gg 120 = g120, gg 121 = g121, gg 122 = g122, gg 123 = g123, gg 124 = g124, gg 125 = g125, gg 126 = g126, gg 127 = g127, gg 128 = g128, gg 129 = g129, gg 130 = g130 at *
    simp only [List.setIfInBounds_toArray, List.set_cons_zero, List.set_cons_succ]
    have HS9 := Lib.hid (Hs.out.next ((Below.refl W2.heap.size W2).drew.trans HJ8.out))
    refine wpAny_done (by kernel_rfl) ?_ _
    go_wp2_with fail
    go_ret
    exact .inl ⟨.ob k, rfl, _, _, _, rfl, rfl, HS9.out, HFd.out.then HJ8.out⟩
end Go.Proofs.YtbnonccmlildnaaGreat

/- A term's value: what its operands' sorts tell. -/
namespace Go.Proofs.YtbnonccmlildnaaGreat
open Go.RowKit

section
variable {τ : Nat → List UInt8} {sig : List Fn} {tbs : List Tb} {objs : Nat}
def obsIn (objs : Nat) (env : Env) : Prop := ∀ x ∈ env, ∀ k, x.2 = .ob k → k < objs
theorem lookE_in {env : Env} (h : obsIn objs env) {nm : ByteArray} {k : Nat} (hk : lookE env nm = .ob k) : k < objs := by
  unfold lookE at hk
  split at hk
  · rename_i v hv
    exact h v (by simpa using List.mem_of_find?_eq_some hv) k hk
  · cases hk
theorem readV_in {s : ByteArray} {q : Int} {k : Nat} (h : readV s q objs = some (.ob k)) : k < objs := by
  unfold readV at h
  split at h
  · split at h <;> cases h
  · split at h
    · split at h
      · cases h
      · split at h <;> cases h
    · split at h
      · cases h
        rename_i hc
        omega
      · cases h
theorem appV_in {nm : ByteArray} {vs : List Vl} {k : Nat} (h : appV τ sig tbs objs nm vs = .ok (.ob k)) : k < objs := by
  unfold appV at h
  split at h
  · cases h
  · split at h
    · cases h
    · rename_i v hv
      cases h
      exact readV_in hv
theorem getOb_in {vs : List Vl} (h : ∀ x ∈ vs, ∀ k, x = .ob k → k < objs) {i k : Nat} (hk : vs.getD i (.tr false) = .ob k) : k < objs := by
  by_cases hi : i < vs.length
  · have : vs.getD i (.tr false) = vs[i] := by simp [hi]
    rw [this] at hk
    exact h _ (List.getElem_mem hi) k hk
  · have : vs.getD i (.tr false) = .tr false := by simp [List.getElem?_eq_none (by omega : vs.length ≤ i)]
    rw [this] at hk
    cases hk
mutual
/-- An object that a term is worth is there. -/
theorem evalT_in : ∀ (t : Tm) (env : Env), obsIn objs env → ∀ x, evalT τ sig tbs objs t env = .ok x → ∀ k, x = .ob k → k < objs
  | .mk op name sort n l vars pat, env, ho, x, h, k, hk => by
    subst hk
    simp only [evalT] at h
    by_cases h19 : op = 19
    · rw [if_pos h19] at h
      obtain ⟨b, _, hb⟩ := trOf_ok h
      cases hb
    · rw [if_neg h19] at h
      obtain ⟨vs, h1, h2⟩ := bindL_ok h
      by_cases h17 : op = 17
      · rw [if_pos h17] at h2
        exact appV_in h2
      · rw [if_neg h17] at h2
        by_cases h18 : op = 18
        · rw [if_pos h18] at h2
          exact lookE_in ho (Except.ok.inj h2)
        · rw [if_neg h18] at h2
          have h2 := Except.ok.inj h2
          have hvs := evals_in l env ho vs h1
          by_cases h16 : op = 16
          · subst h16
            change (if asBool (vs.getD 0 (.tr false)) then vs.getD 1 (.tr false) else vs.getD 2 (.tr false)) = _ at h2
            split at h2
            · exact getOb_in hvs h2
            · exact getOb_in hvs h2
          · exfalso
            by_cases hn : op = 1 ∨ op = 12 ∨ op = 13 ∨ op = 14 ∨ op = 15
            · obtain ⟨z, hz⟩ := comb_num (τ := τ) (n := n) (vs := vs) hn
              rw [hz] at h2
              cases h2
            · obtain ⟨b, hb⟩ := comb_tr (τ := τ) (n := n) (vs := vs) hn h16
              rw [hb] at h2
              cases h2
theorem evals_in : ∀ (l : List Tm) (env : Env), obsIn objs env → ∀ vs, evals τ sig tbs objs l env = .ok vs → ∀ x ∈ vs, ∀ k, x = .ob k → k < objs
  | [], env, _, vs, h, x, hx, k, hk => by
    simp only [evals] at h
    cases h
    simp at hx
  | t :: l, env, ho, vs, h, x, hx, k, hk => by
    simp only [evals] at h
    obtain ⟨v, vs', h1, h2, rfl⟩ := consV_ok h
    rcases List.mem_cons.1 hx with rfl | hx
    · exact evalT_in t env ho _ h1 k hk
    · exact evals_in l env ho vs' h2 x hx k hk
end
theorem fixed_all {i o : Int} {xs : List Int} (h : (fixedS i o xs).2 = 0) : ∀ x ∈ xs, x = i := by
  unfold fixedS at h
  split at h
  · rename_i hc
    simpa using hc
  · cases h
theorem tsize_le_tw : (∀ t : Tm, tsize t ≤ tw t) := by
  intro t
  induction t using Tm.rec (motive_2 := fun l => tsizes l ≤ tws l) with
  | mk _ _ _ _ l vars pat ih _ => simp only [tsize, tw]; omega
  | nil => simp [tsizes]
  | cons t l h1 h2 => simp only [tsizes, tws]; omega
theorem sum_bound {L : Nat} (hT : tabsL L tbs) {l : List Tm} {env : Env} (hn : numsTs L l = true) (ho : obsE env) {k : Nat} {vs : List Vl} (h : evals τ sig tbs objs (l.take k) env = .ok vs) : (sumV vs).natAbs < 4294967296 ^ (L * tsizes l) := by
  have hnk : numsTs L (l.take k) = true := by
    clear h
    induction l generalizing k with
    | nil => simp [numsTs]
    | cons t l ih =>
      cases k with
      | zero => rfl
      | succ k =>
        simp only [numsTs, Bool.and_eq_true] at hn
        simp only [List.take_succ_cons, numsTs, hn.1, ih hn.2, Bool.and_self]
  have h1 := evals_lt hT (l.take k) env vs hnk ho h
  have h2 := sum_lt (L := L) (l.take k) vs 0 0 h1 (evals_length h) (by decide)
  rw [Nat.zero_add] at h2
  exact lt_pow h2 (Nat.mul_le_mul_left L (tsizes_le l k))
end
theorem tw_tws : ∀ {l : List Tm} {j : Nat} {t : Tm}, l[j]? = some t → tw t ≤ tws l
  | [], j, t, h => by simp at h
  | u :: l, j, t, h => by
    simp only [tws]
    cases j with
    | zero => simp at h; subst h; omega
    | succ j => have := tw_tws (l := l) (j := j) (by simpa using h); omega
/-- What is asked of a term and of what its variables are bound to. -/
structure TPre (M : Mdl) (L : Nat) (t : Tm) (bd : Bd) (ns : List ByteArray) (bs : List Nat) : Prop where
  chk : (checkS M.sig t bd).2 = 0
  env : EnvOK (envOf ns bs) bd
  ask : asksT M.objs t = false
  num : numsT L t = true
  wt : bd.length + tw t ≤ 1000000
  sz : tsize t ≤ 50000
  len : ns.length = bs.length
  obs : ∀ j ∈ bs, j < M.objs
theorem envOf_in {objs : Nat} {ns : List ByteArray} {bs : List Nat} (h : ∀ j ∈ bs, j < objs) : obsIn objs (envOf ns bs) := by
  intro x hx k hk
  obtain ⟨j, hj, e⟩ := List.mem_map.1 (List.of_mem_zip hx).2
  rw [hk] at e
  cases e
  exact h k hj
theorem envOf_length {ns : List ByteArray} {bs : List Nat} (h : ns.length = bs.length) : (envOf ns bs).length = ns.length := by
  unfold envOf
  rw [List.length_zip, List.length_map]
  omega
variable {M : Mdl} {τ : Nat → List UInt8} {L : Nat} {a : Nat} {ns : List ByteArray} {bs : List Nat} {bd : Bd} {t : Tm}
theorem TPre.sort (h : TPre M L t bd ns bs) {x : Vl} (hx : evalT τ M.sig M.tbs M.objs t (envOf ns bs) = .ok x) : ofSort x (checkS M.sig t bd).1 := evalT_sort M.sig M.tbs M.objs t bd (envOf ns bs) x h.chk h.ask h.env hx
theorem TPre.vlin (h : TPre M L t bd ns bs) (hM : MOk M τ L) {x : Vl} (hx : evalT τ M.sig M.tbs M.objs t (envOf ns bs) = .ok x) : VlIn M (L * 50000) x :=
  ⟨lt_pow (evalT_lt hM.outs t _ x h.num (envOf_obs ns bs) hx) (Nat.mul_le_mul_left L h.sz), evalT_in t _ (envOf_in h.obs) x hx⟩
theorem TPre.bdlen (h : TPre M L t bd ns bs) : ns.length = bd.length := by rw [← h.env.1, envOf_length h.len]
/-- An operand of an operator that binds nothing. -/
theorem TPre.operand {op sort : Int} {name n : ByteArray} {l : List Tm} {vars : Bd} {pat : List Tm} (h : TPre M L (.mk op name sort n l vars pat) bd ns bs) (h19 : op ≠ 19) {j : Nat} {u : Tm} (hj : l[j]? = some u) : TPre M L u bd ns bs ∧ (checksS M.sig l bd).1[j]? = some (checkS M.sig u bd).1 := by
  obtain ⟨_, _, h3, _, _⟩ := check_parts h.chk
  rw [if_neg h19] at h3
  have hk := checksS_get h3 hj
  have hask := h.ask
  have hnum := h.num
  have hwt := h.wt
  have hsz := h.sz
  simp only [asksT, Bool.or_eq_false_iff] at hask
  simp only [numsT, Bool.and_eq_true] at hnum
  simp only [tw] at hwt
  simp only [tsize] at hsz
  have h1 := tw_tws hj
  have h2 := tsize_tsizes hj
  exact ⟨⟨hk.1, h.env, asksTs_get hask.2 hj, numsTs_get hnum.2 hj, by omega, by omega, h.len, h.obs⟩, hk.2⟩
end Go.Proofs.YtbnonccmlildnaaGreat

/- A term's value, each operator by what is known of its operands. -/
namespace Go.Proofs.YtbnonccmlildnaaGreat
open Go.RowKit

variable {M : Mdl} {τ : Nat → List UInt8} {L : Nat} {a : Nat} {ns : List ByteArray} {bs : List Nat} {bd : Bd} {t : Tm}
theorem valOK_of {v : Value} (h : ∀ nv bv w, St M a ns bs nv bv w → Calls Tryz.prog 23 #[.pointer (some ⟨a, 0, none⟩), v] w (VP M a ns bs nv bv w (evalT τ M.sig M.tbs M.objs t (envOf ns bs)))) : ValOK M τ a ns bs t v where
  ok x hx nv bv w hs := (h nv bv w hs).mono fun e w' hp => by
    rcases hp with ⟨y, hy, hk⟩ | ⟨er, he, _⟩
    · rw [hx] at hy; cases hy; exact hk
    · rw [hx] at he; cases he
  err er hx nv bv w hs := (h nv bv w hs).mono fun e w' hp => by
    rcases hp with ⟨y, hy, _⟩ | ⟨er', _, hv⟩
    · rw [hx] at hy; cases hy
    · exact hv
theorem evalT_op {sig : List Fn} {tbs : List Tb} {objs : Nat} {op sort : Int} {name n : ByteArray} {l : List Tm} {vars : Bd} {pat : List Tm} {env : Env} (h19 : op ≠ 19) (h17 : op ≠ 17) (h18 : op ≠ 18) : evalT τ sig tbs objs (.mk op name sort n l vars pat) env = bindL (evals τ sig tbs objs l env) fun vs => .ok (combV τ op n vs) := by
  simp only [evalT]
  rw [if_neg h19]
  congr 1
  funext vs
  rw [if_neg h17, if_neg h18]
/-- Where a list's terms lie. -/
theorem row_parts {w0 : World} {A : Option Addr} {n : Nat} {f : Nat → Value} (hf : RowCells w0 A 7 n f) (hn : 0 < n) : ∃ b o, A = some ⟨b, o, none⟩ ∧ ∀ (w : World), Below w0.heap.size w0 w → ∀ j, j < n → ∀ q : Parts, f j = .agg q.arr → ∀ i, i < 7 → w.cell? ⟨b, o + j * 7 + i, none⟩ = q.arr[i]? := by
  rcases hf with h | ⟨b, o, hA, h⟩
  · omega
  · refine ⟨b, o, hA, fun w hb j hj q hq i hi => ?_⟩
    have h1 := (h j hj).2 i hi
    rw [hq] at h1
    have h2 : (Value.agg q.arr).cells = q.arr := rfl
    rw [h2] at h1
    have h3 : q.arr[i]? = some (q.arr[i]'(by simp [Parts.arr]; omega)) := Array.getElem?_eq_getElem _
    rw [h3] at h1 ⊢
    exact cell_of_below hb (Nat.le_refl _) h1
/-- The operands of an operator that binds nothing. -/
structure Opd (M : Mdl) (τ : Nat → List UInt8) (a : Nat) (ns : List ByteArray) (bs : List Nat) (m : Nat) (l : List Tm) (f : Nat → Value) (ss : List Int) : Prop where
  val : ∀ (j : Nat) (t : Tm), l[j]? = some t → ValOK M τ a ns bs t (f j)
  vin : ∀ (j : Nat) (t : Tm) (x : Vl), l[j]? = some t → evalT τ M.sig M.tbs M.objs t (envOf ns bs) = .ok x → VlIn M m x
  srt : ∀ (j : Nat) (t : Tm) (x : Vl), l[j]? = some t → evalT τ M.sig M.tbs M.objs t (envOf ns bs) = .ok x → ∃ s, ss[j]? = some s ∧ ofSort x s
theorem Opd.nums {m : Nat} {l : List Tm} {f : Nat → Value} {ss : List Int} (h : Opd M τ a ns bs m l f ss) (hs : ∀ x ∈ ss, x = 1) {j : Nat} {t : Tm} {x : Vl} (hj : l[j]? = some t) (hx : evalT τ M.sig M.tbs M.objs t (envOf ns bs) = .ok x) : ∃ z, x = .num z := by
  obtain ⟨s, h1, h2⟩ := h.srt j t x hj hx
  have := hs s (List.mem_of_getElem? h1)
  subst this
  cases x with
  | num z => exact ⟨z, rfl⟩
  | tr b => cases h2
  | ob k => cases h2
theorem Opd.trs {m : Nat} {l : List Tm} {f : Nat → Value} {ss : List Int} (h : Opd M τ a ns bs m l f ss) {j : Nat} {t : Tm} {x : Vl} (hs : ss[j]? = some 2) (hj : l[j]? = some t) (hx : evalT τ M.sig M.tbs M.objs t (envOf ns bs) = .ok x) : ∃ b, x = .tr b := by
  obtain ⟨s, h1, h2⟩ := h.srt j t x hj hx
  rw [hs] at h1
  cases h1
  cases x with
  | num z => cases h2
  | tr b => exact ⟨b, rfl⟩
  | ob k => cases h2
theorem Opd.two {m : Nat} {t0 t1 : Tm} {f : Nat → Value} {ss : List Int} (h : Opd M τ a ns bs m [t0, t1] f ss) {p : Parts} (hla : p.la = 2) (hf : RowCells M.w0 p.A 7 2 f) (hL : ∀ (j : Nat) (t : Tm), [t0, t1][j]? = some t → TmV M.w0 t (f j)) : ∃ q0 q1, Two M τ a ns bs m p t0 t1 q0 q1 := by
  obtain ⟨q0, h0⟩ := (hL 0 t0 rfl).parts
  obtain ⟨q1, h1⟩ := (hL 1 t1 rfl).parts
  obtain ⟨b, o, hA, hc⟩ := row_parts hf (by decide)
  refine ⟨q0, q1, hla, ⟨b, o, hA, fun w hb => ⟨fun i hi => ?_, fun i hi => ?_⟩⟩, ?_, ?_, fun x hx => h.vin 0 _ x rfl hx, fun x hx => h.vin 1 _ x rfl hx⟩
  · simpa using hc w hb 0 (by decide) q0 h0 i hi
  · simpa using hc w hb 1 (by decide) q1 h1 i hi
  · rw [← h0]; exact h.val 0 t0 rfl
  · rw [← h1]; exact h.val 1 t1 rfl
theorem Opd.three {m : Nat} {t0 t1 t2 : Tm} {f : Nat → Value} {ss : List Int} (h : Opd M τ a ns bs m [t0, t1, t2] f ss) {p : Parts} (hla : p.la = 3) (hf : RowCells M.w0 p.A 7 3 f) (hL : ∀ (j : Nat) (t : Tm), [t0, t1, t2][j]? = some t → TmV M.w0 t (f j)) (hs : ss[0]? = some 2) : ∃ q0 q1 q2, Three M τ a ns bs p t0 t1 t2 q0 q1 q2 := by
  obtain ⟨q0, h0⟩ := (hL 0 t0 rfl).parts
  obtain ⟨q1, h1⟩ := (hL 1 t1 rfl).parts
  obtain ⟨q2, h2⟩ := (hL 2 t2 rfl).parts
  obtain ⟨b, o, hA, hc⟩ := row_parts hf (by decide)
  refine ⟨q0, q1, q2, hla, ⟨b, o, hA, fun w hb => ⟨fun i hi => ?_, fun i hi => ?_, fun i hi => ?_⟩⟩, ?_, ?_, ?_, fun x hx => h.trs hs rfl hx⟩
  · simpa using hc w hb 0 (by decide) q0 h0 i hi
  · simpa using hc w hb 1 (by decide) q1 h1 i hi
  · simpa using hc w hb 2 (by decide) q2 h2 i hi
  · rw [← h0]; exact h.val 0 t0 rfl
  · rw [← h1]; exact h.val 1 t1 rfl
  · rw [← h2]; exact h.val 2 t2 rfl
end Go.Proofs.YtbnonccmlildnaaGreat

/- What any term is worth: the walk of value, over all operators. -/
namespace Go.Proofs.YtbnonccmlildnaaGreat
open Go.RowKit

section
variable {M : Mdl} {τ : Nat → List UInt8} {L : Nat} {a : Nat} {ns : List ByteArray} {bs : List Nat} {bd : Bd}
theorem EnvOK.append {e1 e2 : Env} {b1 b2 : Bd} (h1 : EnvOK e1 b1) (h2 : EnvOK e2 b2) : EnvOK (e1 ++ e2) (b1 ++ b2) := by
  refine ⟨by simp [h1.1, h2.1], fun j x y hx hy => ?_⟩
  by_cases hj : j < e1.length
  · rw [List.getElem?_append_left hj] at hx
    rw [List.getElem?_append_left (by rw [← h1.1]; exact hj)] at hy
    exact h1.2 j x y hx hy
  · rw [List.getElem?_append_right (by omega)] at hx
    rw [List.getElem?_append_right (by rw [← h1.1]; omega), ← h1.1] at hy
    exact h2.2 _ x y hx hy
theorem envOf_append {ms : List ByteArray} {ks : List Nat} (h : ns.length = bs.length) : envOf (ns ++ ms) (bs ++ ks) = envOf ns bs ++ envOf ms ks := by
  unfold envOf
  rw [List.map_append, List.zip_append (by simpa using h)]
theorem EnvOK.objs {vars : Bd} {ks : List Nat} (hk : ks.length = vars.length) (h3 : ∀ v ∈ vars, v.2 = 3) : EnvOK (envOf (vars.map (·.1)) ks) vars := by
  refine ⟨by unfold envOf; simp [hk], fun j x y hx hy => ?_⟩
  unfold envOf at hx
  rw [List.getElem?_zip_eq_some] at hx
  obtain ⟨hx1, hx2⟩ := hx
  rw [List.getElem?_map, hy] at hx1
  rw [List.getElem?_map] at hx2
  cases hkj : ks[j]? with
  | none => rw [hkj] at hx2; cases hx2
  | some k =>
    rw [hkj] at hx2
    simp at hx1 hx2
    refine ⟨hx1.symm, ?_⟩
    rw [← hx2]
    exact h3 y (List.mem_of_getElem? hy)
theorem last_mem (h : EnvOK (envOf ns bs) bd) (hl : ns.length = bs.length) {nm : ByteArray} {v : ByteArray × Int} (hv : lastVar bd nm = some v) : nm ∈ ns := by
  unfold lastVar at hv
  have h1 : (v.1.toList == nm.toList) = true := List.find?_some (p := fun (v : ByteArray × Int) => v.1.toList == nm.toList) hv
  have h2 : v ∈ bd := by simpa using List.mem_of_find?_eq_some hv
  obtain ⟨j, hj, e⟩ := List.getElem_of_mem h2
  have hlen := envOf_length hl
  have hj2 : j < (envOf ns bs).length := by rw [h.1]; exact hj
  have h3 := (h.2 j _ _ (List.getElem?_eq_getElem hj2) (List.getElem?_eq_getElem hj)).1
  rw [e] at h3
  have h4 : v.1 = nm := bytes_eq (by simpa using h1)
  rw [← h4, ← h3]
  exact (List.of_mem_zip (List.getElem_mem hj2)).1
theorem bindL_err {r : Except Int (List Vl)} {F : List Vl → Except Int Vl} {e : Int} (h : r = .error e) : bindL r F = .error e := by subst h; rfl
end
section
variable {M : Mdl} {τ : Nat → List UInt8} {L : Nat} {a : Nat} {ns : List ByteArray} {bs : List Nat} {bd : Bd}
variable {op sort : Int} {name n : ByteArray} {l : List Tm} {vars : Bd} {pat : List Tm} {A V P : Option Addr} {ca cv cp : Nat} {f : Nat → Value}
/-- What is known of a term's operands. -/
def Ih (M : Mdl) (τ : Nat → List UInt8) (L a : Nat) (l : List Tm) (f : Nat → Value) : Prop := ∀ (j : Nat) (t : Tm), l[j]? = some t → ∀ bd ns bs, TPre M L t bd ns bs → ValOK M τ a ns bs t (f j)
theorem TPre.opd (h : TPre M L (.mk op name sort n l vars pat) bd ns bs) (hM : MOk M τ L) (ih : Ih M τ L a l f) (h19 : op ≠ 19) : Opd M τ a ns bs (L * 50000) l f (checksS M.sig l bd).1 where
  val j t hj := ih j t hj _ _ _ (h.operand h19 hj).1
  vin j t x hj hx := (h.operand h19 hj).1.vlin hM hx
  srt j t x hj hx := ⟨_, (h.operand h19 hj).2, (h.operand h19 hj).1.sort hx⟩
theorem TPre.llen (h : TPre M L (.mk op name sort n l vars pat) bd ns bs) : l.length ≤ 1000000 := by
  have h1 := h.wt
  simp only [tw] at h1
  have : ∀ l : List Tm, l.length ≤ tws l := by
    intro l
    induction l with
    | nil => simp [tws]
    | cons t l ih =>
      obtain ⟨_, _, _, _, _, _, _⟩ := t
      simp only [tws, tw, List.length_cons]
      omega
  have := this l
  omega
theorem small_m (hM : MOk M τ L) : L * 50000 ≤ 1000000000000 := by have := hM.small; omega
/-- The operators whose operands are truths. -/
theorem TPre.cpre (h : TPre M L (.mk op name sort n l vars pat) bd ns bs) (hM : MOk M τ L) (ih : Ih M τ L a l f) (h19 : op ≠ 19) (hf : RowCells M.w0 A 7 l.length f) (hL : ∀ (j : Nat) (t : Tm), l[j]? = some t → TmV M.w0 t (f j)) (hs : ∀ x ∈ (checksS M.sig l bd).1, x = 2) :
    CPre M τ a ns bs ⟨op, name, sort, n, A, l.length, ca, V, vars.length, cv, P, pat.length, cp⟩ l where
  la := rfl
  len := h.llen
  call nv bv w hst := truths_any hst hf hL h.llen (h.opd hM ih h19).val fun j t x hj hx => by
    obtain ⟨s, h1, h2⟩ := (h.opd hM ih h19).srt j t x hj hx
    have := hs s (List.mem_of_getElem? h1)
    subst this
    cases x with
    | num z => cases h2
    | tr b => exact ⟨b, rfl⟩
    | ob k => cases h2
theorem TPre.node (h : TPre M L (.mk op name sort n l vars pat) bd ns bs) (h19 : op ≠ 19) : (nodeS M.sig op name sort (checksS M.sig l bd).1).2 = 0 := by
  have := (check_parts h.chk).2.2.2.1
  rwa [if_neg h19] at this
theorem lst1 {l : List Tm} (h : ((l.length : Int) == 1) = true) : ∃ t, l = [t] := by
  match l, h with
  | [], h => simp at h
  | [t], _ => exact ⟨t, rfl⟩
  | _ :: _ :: _, h => simp at h; omega
theorem lst2 {l : List Tm} (h : ((l.length : Int) == 2) = true) : ∃ t u, l = [t, u] := by
  match l, h with
  | [], h => simp at h
  | [t], h => simp at h
  | [t, u], _ => exact ⟨t, u, rfl⟩
  | _ :: _ :: _ :: _, h => simp at h; omega
theorem lst3 {l : List Tm} (h : ((l.length : Int) == 3) = true) : ∃ t u v, l = [t, u, v] := by
  match l, h with
  | [], h => simp at h
  | [t], h => simp at h
  | [t, u], h => simp at h
  | [t, u, v], _ => exact ⟨t, u, v, rfl⟩
  | _ :: _ :: _ :: _ :: _, h => simp at h; omega
theorem lst0 {l : List Tm} (h : ((l.length : Int) == 0) = true) : l = [] := by
  match l, h with
  | [], _ => rfl
  | _ :: _, h => simp at h; omega
end
end Go.Proofs.YtbnonccmlildnaaGreat

/- What a term is worth: each operator. -/
namespace Go.Proofs.YtbnonccmlildnaaGreat
open Go.RowKit

section
variable {M : Mdl} {τ : Nat → List UInt8} {L : Nat} {a : Nat} {ns : List ByteArray} {bs : List Nat} {bd : Bd}
variable {op sort : Int} {name n : ByteArray} {l : List Tm} {vars : Bd} {pat : List Tm} {A V P : Option Addr} {ca cv cp : Nat} {f : Nat → Value}
/-- What is known of a term whose value is asked. -/
structure NPre (M : Mdl) (τ : Nat → List UInt8) (L a : Nat) (bd : Bd) (ns : List ByteArray) (bs : List Nat) (p : Parts) (l : List Tm) (vars : Bd) (pat : List Tm) (f : Nat → Value) : Prop where
  pre : TPre M L (.mk p.op p.name p.sort p.n l vars pat) bd ns bs
  mok : MOk M τ L
  la : p.la = l.length
  lv : p.lv = vars.length
  row : RowCells M.w0 p.A 7 l.length f
  trm : ∀ (j : Nat) (t : Tm), l[j]? = some t → TmV M.w0 t (f j)
  rowV : RowCells M.w0 p.V 2 vars.length (bval vars)
  ih : Ih M τ L a l f
variable {p : Parts}
theorem NPre.opd (h : NPre M τ L a bd ns bs p l vars pat f) (h19 : p.op ≠ 19) : Opd M τ a ns bs (L * 50000) l f (checksS M.sig l bd).1 := h.pre.opd h.mok h.ih h19
theorem NPre.cpre (h : NPre M τ L a bd ns bs p l vars pat f) (h19 : p.op ≠ 19) (hs : ∀ x ∈ (checksS M.sig l bd).1, x = 2) : CPre M τ a ns bs p l where
  la := h.la
  len := h.pre.llen
  call nv bv w hst := truths_any hst h.row h.trm h.pre.llen (h.opd h19).val fun j t x hj hx => by
    obtain ⟨s, h1, h2⟩ := (h.opd h19).srt j t x hj hx
    have := hs s (List.mem_of_getElem? h1)
    subst this
    cases x with
    | num z => cases h2
    | tr b => exact ⟨b, rfl⟩
    | ob k => cases h2
theorem of_form {t : Tm} (h1 : (p.op == 1) = false) (h2 : (p.op == 12) = false) (h3 : (p.op == 13) = false) (h4 : (p.op == 14) = false) (h5 : (p.op == 15) = false) (h6 : (p.op == 16) = false) (h7 : (p.op == 17) = false) (h8 : (p.op == 18) = false)
    (hc : ∀ nv bv w, St M a ns bs nv bv w → Calls Tryz.prog 43 #[.pointer (some ⟨a, 0, none⟩), .agg p.arr] w (BPost M a ns bs nv bv w (evalT τ M.sig M.tbs M.objs t (envOf ns bs)))) : ValOK M τ a ns bs t (.agg p.arr) :=
  valOK_of fun nv bv w hs => val_form hs h1 h2 h3 h4 h5 h6 h7 h8 hc
theorem conn_form (hcp : CPre M τ a ns bs p l) (h9 : (p.op == 9) = false) (h10 : (p.op == 10) = false) (h11 : (p.op == 11) = false) (h19 : (p.op == 19) = false)
    (hc : ∀ vs, evals τ M.sig M.tbs M.objs l (envOf ns bs) = .ok vs → ∀ nv bv w, St M a ns bs nv bv w → Calls Tryz.prog 43 #[.pointer (some ⟨a, 0, none⟩), .agg p.arr] w (BPost M a ns bs nv bv w (.ok (combV τ p.op n vs)))) :
    ∀ nv bv w, St M a ns bs nv bv w → Calls Tryz.prog 43 #[.pointer (some ⟨a, 0, none⟩), .agg p.arr] w (BPost M a ns bs nv bv w (bindL (evals τ M.sig M.tbs M.objs l (envOf ns bs)) fun vs => .ok (combV τ p.op n vs))) := by
  intro nv bv w hs
  cases he : evals τ M.sig M.tbs M.objs l (envOf ns bs) with
  | error er => exact conn_err hs hcp h9 h10 h11 h19 he rfl
  | ok vs => exact hc vs he nv bv w hs
theorem NPre.shape (h : NPre M τ L a bd ns bs p l vars pat f) : shapeB (.mk p.op p.name p.sort p.n l vars pat) = true := (check_parts h.pre.chk).1
/-- Truths of truths. -/
theorem NPre.conn (h : NPre M τ L a bd ns bs p l vars pat f) (hop : 2 ≤ p.op ∧ p.op ≤ 8) : ValOK M τ a ns bs (.mk p.op p.name p.sort p.n l vars pat) (.agg p.arr) := by
  have h19 : p.op ≠ 19 := by omega
  have hnode := h.pre.node h19
  have hshape := h.shape
  have hbeq : ∀ z : Int, ¬ (2 ≤ z ∧ z ≤ 8) → (p.op == z) = false := fun z hz => by
    rw [beq_eq_false_iff_ne]; rintro rfl; exact hz hop
  refine of_form (hbeq 1 (by omega)) (hbeq 12 (by omega)) (hbeq 13 (by omega)) (hbeq 14 (by omega)) (hbeq 15 (by omega)) (hbeq 16 (by omega)) (hbeq 17 (by omega)) (hbeq 18 (by omega)) ?_
  rw [evalT_op h19 (by omega) (by omega)]
  have hsrt : ∀ x ∈ (checksS M.sig l bd).1, x = 2 := by
    by_cases h23 : p.op = 2 ∨ p.op = 3
    · have : l = [] := by
        simp only [shapeB] at hshape
        rw [if_neg (by omega), if_pos h23] at hshape
        exact lst0 hshape
      subst this
      simp [checksS]
    · unfold nodeS at hnode
      rw [if_neg (by omega), if_neg h23, if_neg (by omega), if_neg (by omega), if_neg (by omega), if_neg (by omega), if_neg (by omega), if_neg (by omega)] at hnode
      exact fixed_all hnode
  have hcp := h.cpre h19 hsrt
  refine conn_form hcp (hbeq 9 (by omega)) (hbeq 10 (by omega)) (hbeq 11 (by omega)) (hbeq 19 (by omega)) ?_
  intro vs he nv bv w hs
  have h7 : p.op = 2 ∨ p.op = 3 ∨ p.op = 4 ∨ p.op = 5 ∨ p.op = 6 ∨ p.op = 7 ∨ p.op = 8 := by omega
  rcases h7 with e | e | e | e | e | e | e
  · rw [show combV τ p.op p.n vs = combV τ 2 p.n vs by rw [e]]; exact conn_2 hs hcp e he
  · rw [show combV τ p.op p.n vs = combV τ 3 p.n vs by rw [e]]; exact conn_3 hs hcp e he
  · have hl : l.length = 1 := by
      simp only [shapeB] at hshape
      rw [if_neg (by omega), if_neg (by omega), if_neg (by omega), if_pos (by omega)] at hshape
      obtain ⟨t, rfl⟩ := lst1 hshape
      rfl
    rw [show combV τ p.op p.n vs = combV τ 4 p.n vs by rw [e]]; exact conn_4 hs hcp e he hl
  · rw [show combV τ p.op p.n vs = combV τ 5 p.n vs by rw [e]]; exact conn_5 hs hcp e he
  · rw [show combV τ p.op p.n vs = combV τ 6 p.n vs by rw [e]]; exact conn_6 hs hcp e he
  · have hl : l.length = 2 := by
      simp only [shapeB] at hshape
      rw [if_neg (by omega), if_neg (by omega), if_neg (by omega), if_neg (by omega), if_neg (by omega), if_neg (by omega), if_pos (by omega)] at hshape
      obtain ⟨t, u, rfl⟩ := lst2 hshape
      rfl
    rw [show combV τ p.op p.n vs = combV τ 7 p.n vs by rw [e]]; exact conn_7 hs hcp e he hl
  · have hl : l.length = 2 := by
      simp only [shapeB] at hshape
      rw [if_neg (by omega), if_neg (by omega), if_neg (by omega), if_neg (by omega), if_neg (by omega), if_neg (by omega), if_pos (by omega)] at hshape
      obtain ⟨t, u, rfl⟩ := lst2 hshape
      rfl
    rw [show combV τ p.op p.n vs = combV τ 8 p.n vs by rw [e]]; exact conn_8 hs hcp e he hl
/-- Two terms are compared. -/
theorem NPre.cmp (h : NPre M τ L a bd ns bs p l vars pat f) (hop : p.op = 9 ∨ p.op = 10 ∨ p.op = 11) : ValOK M τ a ns bs (.mk p.op p.name p.sort p.n l vars pat) (.agg p.arr) := by
  have h19 : p.op ≠ 19 := by omega
  have hnode := h.pre.node h19
  have hshape := h.shape
  have hbeq : ∀ z : Int, ¬ (9 ≤ z ∧ z ≤ 11) → (p.op == z) = false := fun z hz => by
    rw [beq_eq_false_iff_ne]; rintro rfl; omega
  obtain ⟨t0, t1, rfl⟩ : ∃ t0 t1, l = [t0, t1] := by
    simp only [shapeB] at hshape
    rw [if_neg (by omega), if_neg (by omega), if_neg (by omega), if_neg (by omega), if_neg (by omega), if_neg (by omega), if_pos (by omega)] at hshape
    exact lst2 hshape
  have ho := h.opd h19
  obtain ⟨q0, q1, h2⟩ := ho.two (p := p) h.la h.row h.trm
  refine of_form (hbeq 1 (by omega)) (hbeq 12 (by omega)) (hbeq 13 (by omega)) (hbeq 14 (by omega)) (hbeq 15 (by omega)) (hbeq 16 (by omega)) (hbeq 17 (by omega)) (hbeq 18 (by omega)) ?_
  rw [evalT_op h19 (by omega) (by omega)]
  intro nv bv w hs
  have hm := small_m h.mok
  have hn : p.op = 10 ∨ p.op = 11 → ∀ x ∈ (checksS M.sig [t0, t1] bd).1, x = 1 := fun e => by
    unfold nodeS at hnode
    rw [if_neg (by omega), if_neg (by omega), if_neg (by omega), if_pos e] at hnode
    exact fixed_all hnode
  rcases hop with e | e | e
  · rw [show (fun vs => Except.ok (combV τ p.op p.n vs) : List Vl → Except Int Vl) = fun vs => .ok (combV τ 9 p.n vs) by rw [e]]
    exact form_eq h.mok hs e h2 hm
  · rw [show (fun vs => Except.ok (combV τ p.op p.n vs) : List Vl → Except Int Vl) = fun vs => .ok (combV τ 10 p.n vs) by rw [e]]
    exact form_10 e hs h2 hm (fun x hx => ho.nums (hn (.inl e)) (j := 0) rfl hx) (fun x hx => ho.nums (hn (.inl e)) (j := 1) rfl hx)
  · rw [show (fun vs => Except.ok (combV τ p.op p.n vs) : List Vl → Except Int Vl) = fun vs => .ok (combV τ 11 p.n vs) by rw [e]]
    exact form_11 e hs h2 hm (fun x hx => ho.nums (hn (.inr e)) (j := 0) rfl hx) (fun x hx => ho.nums (hn (.inr e)) (j := 1) rfl hx)
end
end Go.Proofs.YtbnonccmlildnaaGreat

/- What a term is worth: all operators, any term. -/
namespace Go.Proofs.YtbnonccmlildnaaGreat
open Go.RowKit

section
variable {M : Mdl} {τ : Nat → List UInt8} {L : Nat} {a : Nat} {ns : List ByteArray} {bs : List Nat} {bd : Bd}
variable {l : List Tm} {vars : Bd} {pat : List Tm} {f : Nat → Value} {p : Parts}
theorem NPre.srt (h : NPre M τ L a bd ns bs p l vars pat f) (h19 : p.op ≠ 19) {j : Nat} {t : Tm} (hj : l[j]? = some t) : (checksS M.sig l bd).1[j]? = some (checkS M.sig t bd).1 := (h.pre.operand h19 hj).2
theorem NPre.ones (h : NPre M τ L a bd ns bs p l vars pat f) (hop : p.op = 12 ∨ p.op = 13 ∨ p.op = 14 ∨ p.op = 15) : ∀ x ∈ (checksS M.sig l bd).1, x = 1 := by
  have hnode := h.pre.node (by omega)
  unfold nodeS at hnode
  rw [if_neg (by omega), if_neg (by omega), if_neg (by omega), if_neg (by omega), if_pos hop] at hnode
  exact fixed_all hnode
/-- Numbers of numbers. -/
theorem NPre.arith (h : NPre M τ L a bd ns bs p l vars pat f) (hop : p.op = 13 ∨ p.op = 15) : ValOK M τ a ns bs (.mk p.op p.name p.sort p.n l vars pat) (.agg p.arr) := by
  have h19 : p.op ≠ 19 := by omega
  have hones := h.ones (by omega)
  have hshape := h.shape
  obtain ⟨t0, t1, rfl⟩ : ∃ t0 t1, l = [t0, t1] := by
    simp only [shapeB] at hshape
    rw [if_neg (by omega), if_neg (by omega), if_neg (by omega), if_neg (by omega), if_neg (by omega), if_neg (by omega)] at hshape
    rcases hop with e | e
    · rw [if_pos (by omega)] at hshape
      exact lst2 hshape
    · rw [if_neg (by omega), if_pos e, Bool.and_eq_true] at hshape
      exact lst2 hshape.1
  have ho := h.opd h19
  obtain ⟨q0, q1, h2⟩ := ho.two (p := p) h.la h.row h.trm
  refine valOK_of fun nv bv w hs => ?_
  rw [evalT_op h19 (by omega) (by omega)]
  have hm := small_m h.mok
  rcases hop with e | e
  · rw [show (fun vs => Except.ok (combV τ p.op p.n vs) : List Vl → Except Int Vl) = fun vs => .ok (combV τ 13 p.n vs) by rw [e]]
    exact val_sub e hs h2 hm (fun x hx => ho.nums hones (j := 0) rfl hx) (fun x hx => ho.nums hones (j := 1) rfl hx)
  · rw [show (fun vs => Except.ok (combV τ p.op p.n vs) : List Vl → Except Int Vl) = fun vs => .ok (combV τ 15 p.n vs) by rw [e]]
    exact val_mul e hs h2 hm (fun x hx => ho.nums hones (j := 0) rfl hx) (fun x hx => ho.nums hones (j := 1) rfl hx)
theorem NPre.neg (h : NPre M τ L a bd ns bs p l vars pat f) (hop : p.op = 14) : ValOK M τ a ns bs (.mk p.op p.name p.sort p.n l vars pat) (.agg p.arr) := by
  have h19 : p.op ≠ 19 := by omega
  have hones := h.ones (by omega)
  have hshape := h.shape
  obtain ⟨t0, rfl⟩ : ∃ t0, l = [t0] := by
    simp only [shapeB] at hshape
    rw [if_neg (by omega), if_neg (by omega), if_neg (by omega), if_pos (by omega)] at hshape
    exact lst1 hshape
  have ho := h.opd h19
  obtain ⟨q0, h0⟩ := (h.trm 0 t0 rfl).parts
  obtain ⟨b, o, hA, hc⟩ := row_parts h.row (by simp)
  refine valOK_of fun nv bv w hs => ?_
  rw [evalT_op h19 (by omega) (by omega)]
  have hm := small_m h.mok
  rw [show (fun vs => Except.ok (combV τ p.op p.n vs) : List Vl → Except Int Vl) = fun vs => .ok (combV τ 14 p.n vs) by rw [hop]]
  exact val_neg hs hop h.la hA (fun w hb i hi => by simpa using hc w hb 0 (by simp) q0 h0 i hi) (by rw [← h0]; exact ho.val 0 t0 rfl)
    (fun x hx => ⟨ho.vin 0 _ x rfl hx, ho.nums hones (j := 0) rfl hx⟩) hm
theorem NPre.add (h : NPre M τ L a bd ns bs p l vars pat f) (hop : p.op = 12) : ValOK M τ a ns bs (.mk p.op p.name p.sort p.n l vars pat) (.agg p.arr) := by
  have h19 : p.op ≠ 19 := by omega
  have hones := h.ones (by omega)
  have ho := h.opd h19
  refine valOK_of fun nv bv w hs => ?_
  rw [evalT_op h19 (by omega) (by omega)]
  have hm := small_m h.mok
  have hnum := h.pre.num
  simp only [numsT, Bool.and_eq_true] at hnum
  have hsz := h.pre.sz
  simp only [tsize] at hsz
  refine val_add hs hop h.la fun nv bv w hs => (sum_any hs h.row h.trm h.pre.llen hm ho.val (fun j t x hj hx => ?_) (fun k vs hk => ?_)).mono fun e w' hp => ?_
  · obtain ⟨z, rfl⟩ := ho.nums hones hj hx
    exact ⟨z, rfl, (ho.vin j t _ hj hx).1⟩
  · exact lt_pow (sum_bound h.mok.outs hnum.2 (envOf_obs ns bs) hk) (Nat.mul_le_mul_left L (by omega))
  · rcases hp with ⟨vs, h1, h2⟩ | ⟨er, h1, h2⟩
    · refine .inl ⟨_, ?_, h2⟩
      rw [h1, hop]
      rfl
    · refine .inr ⟨er, ?_, h2⟩
      rw [h1]
      rfl
theorem NPre.ite (h : NPre M τ L a bd ns bs p l vars pat f) (hop : p.op = 16) : ValOK M τ a ns bs (.mk p.op p.name p.sort p.n l vars pat) (.agg p.arr) := by
  have h19 : p.op ≠ 19 := by omega
  have hnode := h.pre.node h19
  have hshape := h.shape
  obtain ⟨t0, t1, t2, rfl⟩ : ∃ t0 t1 t2, l = [t0, t1, t2] := by
    simp only [shapeB] at hshape
    rw [if_neg (by omega), if_neg (by omega), if_neg (by omega), if_neg (by omega), if_neg (by omega), if_neg (by omega), if_neg (by omega), if_neg (by omega), if_pos hop] at hshape
    exact lst3 hshape
  have ho := h.opd h19
  have h2 : (checksS M.sig [t0, t1, t2] bd).1[0]? = some 2 := by
    have h0 := h.srt h19 (j := 0) rfl
    rw [h0]
    unfold nodeS at hnode
    rw [if_neg (by omega), if_neg (by omega), if_neg (by omega), if_neg (by omega), if_neg (by omega), if_pos hop] at hnode
    unfold iteS at hnode
    split at hnode
    · rename_i hc
      have := hc.1
      rw [List.getD_eq_getElem?_getD, h0] at this
      exact congrArg some this
    · cases hnode
  obtain ⟨q0, q1, q2, h3⟩ := ho.three (p := p) h.la h.row h.trm h2
  refine valOK_of fun nv bv w hs => ?_
  rw [evalT_op h19 (by omega) (by omega)]
  rw [show (fun vs => Except.ok (combV τ p.op p.n vs) : List Vl → Except Int Vl) = fun vs => .ok (combV τ 16 p.n vs) by rw [hop]]
  exact val_ite hop hs h3
theorem NPre.app (h : NPre M τ L a bd ns bs p l vars pat f) (hop : p.op = 17) : ValOK M τ a ns bs (.mk p.op p.name p.sort p.n l vars pat) (.agg p.arr) := by
  have h19 : p.op ≠ 19 := by omega
  have hnode := h.pre.node h19
  have ho := h.opd h19
  unfold nodeS at hnode
  rw [if_neg (by omega), if_neg (by omega), if_neg (by omega), if_neg (by omega), if_neg (by omega), if_neg (by omega), if_neg (by omega), if_pos hop] at hnode
  cases hf : foundFn M.sig p.name with
  | none => rw [hf] at hnode; cases hnode
  | some fn =>
    rw [hf] at hnode
    dsimp only at hnode
    have hout : 1 ≤ fn.out ∧ fn.out ≤ 3 := by
      unfold funS at hnode
      split at hnode
      · rename_i h7
        have := h7.2
        simp only [sortB, Bool.and_eq_true, decide_eq_true_eq] at this
        exact this
      · cases hnode
    have hev : evalT τ M.sig M.tbs M.objs (.mk p.op p.name p.sort p.n l vars pat) (envOf ns bs) = bindL (evals τ M.sig M.tbs M.objs l (envOf ns bs)) (appV τ M.sig M.tbs M.objs p.name) := by
      simp only [evalT]
      rw [if_neg h19]
      congr 1
      funext vs
      rw [if_pos hop]
    refine valOK_of fun nv bv w hs => ?_
    rw [hev]
    exact val_app hs hop fun nv bv w hs => app_any h.mok hs h.la h.row h.trm h.pre.llen (small_m h.mok) ho.val ho.vin hf hout
theorem NPre.var (h : NPre M τ L a bd ns bs p l vars pat f) (hop : p.op = 18) : ValOK M τ a ns bs (.mk p.op p.name p.sort p.n l vars pat) (.agg p.arr) := by
  have h19 : p.op ≠ 19 := by omega
  have hshape := h.shape
  obtain rfl : l = [] := by
    simp only [shapeB] at hshape
    rw [if_neg (by omega), if_neg (by omega), if_pos hop, Bool.and_eq_true] at hshape
    exact lst0 hshape.1
  have hof := (check_parts h.pre.chk).2.1
  unfold ofE at hof
  rw [if_pos hop] at hof
  unfold varV at hof
  have hmem : p.name ∈ ns := by
    cases hv : lastVar bd p.name with
    | none => rw [hv] at hof; cases hof
    | some v => exact last_mem h.pre.env h.pre.len hv
  have hev : evalT τ M.sig M.tbs M.objs (.mk p.op p.name p.sort p.n [] vars pat) (envOf ns bs) = .ok (lookE (envOf ns bs) p.name) := by
    simp only [evalT, evals]
    rw [if_neg h19]
    show (if p.op = 17 then _ else if p.op = 18 then _ else _) = _
    rw [if_neg (by omega), if_pos hop]
  have hn : ns.length ≤ 1000000 := by have := h.pre.bdlen; have := h.pre.wt; omega
  refine valOK_of fun nv bv w hs => ?_
  rw [hev]
  exact val_var hop hs h.pre.len hn hmem
theorem NPre.lit (h : NPre M τ L a bd ns bs p l vars pat f) (hop : p.op = 1) : ValOK M τ a ns bs (.mk p.op p.name p.sort p.n l vars pat) (.agg p.arr) := by
  have hshape := h.shape
  simp only [shapeB] at hshape
  rw [if_pos hop, Bool.and_eq_true] at hshape
  obtain rfl : l = [] := lst0 hshape.2
  have hnum := h.pre.num
  simp only [numsT, Bool.and_eq_true, decide_eq_true_eq] at hnum
  have := h.mok.small
  refine valOK_of fun nv bv w hs => ?_
  rw [evalT_op (by omega) (by omega) (by omega), hop]
  exact val_num hs hop (by omega) hshape.1
/-- A body under its variables. -/
theorem TPre.body {name n : ByteArray} {sort : Int} {body : Tm} (h : TPre M L (.mk 19 name sort n [body] vars pat) bd ns bs) {ks : List Nat} (hk : ks.length = vars.length) (hj : ∀ j ∈ ks, j < M.objs) : TPre M L body (bd ++ vars) (ns ++ vars.map (·.1)) (bs ++ ks) ∧ (checkS M.sig body (bd ++ vars)).1 = 2 := by
  obtain ⟨_, _, h3, h4, _⟩ := check_parts h.chk
  rw [if_pos rfl] at h3 h4
  have hk3 := checksS_get h3 (j := 0) (t := body) rfl
  have h2 := fixed_all (i := 2) (o := 2) h4 _ (List.mem_of_getElem? hk3.2)
  have hask := h.ask
  have hnum := h.num
  have hwt := h.wt
  have hsz := h.sz
  have hlen := h.len
  simp only [asksT, Bool.or_eq_false_iff] at hask
  simp only [numsT, Bool.and_eq_true] at hnum
  simp only [tw, tws] at hwt
  simp only [tsize, tsizes] at hsz
  have h3' : ∀ v ∈ vars, v.2 = 3 := by
    have := hask.1
    simp [askVars] at this
    exact fun v hv => this.1 v.1 v.2 hv
  refine ⟨⟨hk3.1, ?_, asksTs_get hask.2 (j := 0) rfl, numsTs_get hnum.2 (j := 0) rfl, ?_, by omega, by simp [hlen, hk], ?_⟩, h2⟩
  · rw [envOf_append hlen]
    exact h.env.append (EnvOK.objs hk h3')
  · rw [List.length_append]; omega
  · intro j hj2
    rcases List.mem_append.1 hj2 with h5 | h5
    · exact h.obs j h5
    · exact hj j h5
theorem NPre.all (h : NPre M τ L a bd ns bs p l vars pat f) (hop : p.op = 19) : ValOK M τ a ns bs (.mk p.op p.name p.sort p.n l vars pat) (.agg p.arr) := by
  have hshape := h.shape
  have hpre := h.pre
  rw [hop] at hpre
  obtain ⟨body, rfl⟩ : ∃ t0, l = [t0] := by
    simp only [shapeB] at hshape
    rw [if_neg (by omega), if_neg (by omega), if_neg (by omega), if_neg (by omega), if_neg (by omega), if_neg (by omega), if_neg (by omega), if_neg (by omega), if_neg (by omega), if_pos hop, Bool.and_eq_true, Bool.and_eq_true] at hshape
    exact lst1 hshape.1.1
  have hbeq : ∀ z : Int, ¬ z = 19 → (p.op == z) = false := fun z hz => by
    rw [beq_eq_false_iff_ne]; rintro rfl; omega
  refine of_form (hbeq 1 (by omega)) (hbeq 12 (by omega)) (hbeq 13 (by omega)) (hbeq 14 (by omega)) (hbeq 15 (by omega)) (hbeq 16 (by omega)) (hbeq 17 (by omega)) (hbeq 18 (by omega)) ?_
  intro nv bv w hs
  have hwt := h.pre.wt
  simp only [tw] at hwt
  have hbl := h.pre.bdlen
  refine form_all (τ := τ) (body := body) (xs := vars.map (·.1)) hs hop ?_ fun nv bv w hs => ?_
  · rw [hop]
    simp only [evalT, evalHd]
    rw [if_pos trivial]
  · have := all_any (τ := τ) (body := body) (f := f) (ns0 := ns) (bs0 := bs) h.mok.objs h.pre.len (by omega) h.lv h.rowV h.la h.row (h.trm 0 body rfl) (a := a) (fun ks hk hj => ?_) vars.length 0 [] (by omega) rfl (by simp) nv bv w (by simpa using hs)
    · simpa using this
    · have hb := hpre.body hk hj
      refine ⟨h.ih 0 body rfl _ _ _ hb.1, fun x hx => ?_⟩
      have := hb.1.sort hx
      rw [hb.2] at this
      cases x with
      | num z => cases this
      | tr b => exact ⟨b, rfl⟩
      | ob k => cases this
theorem NPre.value (h : NPre M τ L a bd ns bs p l vars pat f) : ValOK M τ a ns bs (.mk p.op p.name p.sort p.n l vars pat) (.agg p.arr) := by
  by_cases h1 : p.op = 1
  · exact h.lit h1
  by_cases h2 : 2 ≤ p.op ∧ p.op ≤ 8
  · exact h.conn h2
  by_cases h3 : p.op = 9 ∨ p.op = 10 ∨ p.op = 11
  · exact h.cmp h3
  by_cases h4 : p.op = 12
  · exact h.add h4
  by_cases h5 : p.op = 13 ∨ p.op = 15
  · exact h.arith h5
  by_cases h6 : p.op = 14
  · exact h.neg h6
  by_cases h7 : p.op = 16
  · exact h.ite h7
  by_cases h8 : p.op = 17
  · exact h.app h8
  by_cases h9 : p.op = 18
  · exact h.var h9
  by_cases h10 : p.op = 19
  · exact h.all h10
  have hshape := h.shape
  simp only [shapeB] at hshape
  rw [if_neg h1, if_neg (by omega), if_neg (by omega), if_neg (by omega), if_neg (by omega), if_neg (by omega), if_neg (by omega), if_neg (by omega), if_neg (by omega), if_neg (by omega)] at hshape
  cases hshape
/-- The walk of value, at any term that is checked. -/
theorem value_any (hM : MOk M τ L) {t : Tm} {v : Value} (h : TmV M.w0 t v) : ∀ bd ns bs, TPre M L t bd ns bs → ValOK M τ a ns bs t v := by
  induction h with
  | @mk op name sort n l vars pat A V P ca cv cp f g hb hl hf hL hv hV hp hg hP ihL ihP =>
    intro bd ns bs hpre
    exact NPre.value (p := ⟨op, name, sort, n, A, l.length, ca, V, vars.length, cv, P, pat.length, cp⟩) (pat := pat) (f := f) ⟨hpre, hM, rfl, rfl, hf, hL, hV, ihL⟩
end
end Go.Proofs.YtbnonccmlildnaaGreat
