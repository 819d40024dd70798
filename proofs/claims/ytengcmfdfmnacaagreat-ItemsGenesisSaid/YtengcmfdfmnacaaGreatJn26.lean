/- items.(*Reader).Block of a block whose parent is there, but which has no votes: not certified. No condition. items.Block of the text [3], and of a block without its parent; no facts. No condition. items.Block of a block without votes; no facts. No condition. What the sanity check of the items holds in memory. No condition. The sanity check of the items answers true. No condition. -/
import Derived.Test.YtengcmfdfmnacaaGreatJn25
import Derived.Test.YtengcmfdfmnacaaGreatJn15
import Derived.Test.YtengcmfdfmnacaaGreatJn22
namespace Go.Proofs.YtengcmfdfmnacaaGreat
section
open Go.RowKit Go.Shelf Go.Lib Go.Sort

set_option maxRecDepth 100000 in
set_option maxHeartbeats 4000000 in
theorem ReaderBlock_cert {w : World} {v : Value} {A0 : Option Addr} {c0 N k : Nat} {rb tm om : Nat} {g0 g1 g2 g3 g4 : Value} {p nm : List UInt8} {rest : List Value} {m : Int} {l : List (Int × List UInt8)} {its : List (List UInt8 × List Value)} (h : Rd w 1 v (3 :: blkT p l).length ((3 :: blkT p l).map byteV)) (hp : p.length = 8) (hl : ∀ s ∈ l, s.2.length = 8 ∧ 0 ≤ s.1 ∧ s.1 < 256) (hg : GoodCh l) (hN : its.length = N) (hi : ItR w (.slice A0 N c0) its) (hk : its[k]? = some (nm, rest)) (hf : findS (its.map (·.1)) p = (k : Int)) (hone : ∀ u ∈ rest, u.oneCell' = true) (hm : rest[12]? = some (.int .i64 m)) (hm0 : -9223372036854775808 ≤ m) (hm1 : m ≤ 9223372036854775807)
    (hids : idsV (idsF m) = l.map fun x => .int .i64 x.1) (hr : Blk w rb 148 #[g0, g1, g2, g3, g4, .slice none 0 0, .map (some tm), .map (some om)]) (hom : w.heap[om]? = some (.map #[] 0)) :
    Calls Tryz.prog 54 #[.pointer (some ⟨rb, 0, none⟩), .slice A0 N c0, v] w fun e w' => e = .returned (.tuple #[.agg itZ, .int .i64 105]) ∧ Upd (fun i => i = om) w w' := by
  have CD := Lib.hid (fun W (hu : Upd NoF w W) => DecodeBlock_ok (w := W) (v := v) (p := p) (l := l) (h.keep hu) hp hl hg)
  have CF := Lib.hid (fun W (hu : Upd NoF w W) => by have := Find_any (w := W) (hi.keep hu) p hp; rw [hf] at this; exact this)
  obtain ⟨n, hn⟩ : ∃ n, l.length = n := ⟨_, rfl⟩
  have HLN := Lib.hid hn
  have hn0 : ¬ ((n : Int) = 0) := by have := hg.1; omega
  have hn1 : decide ((n : Int) = 0) = false := by simp; have := hg.1; omega
  have CI := Lib.hid (fun W => IDs_any m hm0 hm1 W)
  have HIDS := Lib.hid hids
  have HLEN := Lib.hid (show (idsF m).length = n from by have := congrArg List.length hids; rw [← hn]; simpa [idsV] using this)
  have HZS := Lib.hid (fun A c => show ((blkC p (.slice A n c)).toArray.size = 9 ∧ (Tryz.prog.info? 67).map (·.size) = some (blkC p (.slice A n c)).toArray.size ∧ (blkC p (.slice A n c)).toArray.all (·.oneCell') = true ∧ (blkC p (.slice A n c)).toArray[8]? = some (.slice A n c)) from by
    have hs : (blkC p (.slice A n c)).toArray.size = 9 := by simp [blkC, hp]
    exact ⟨hs, by rw [hs]; kernel_rfl, blk_one _ A _ c, by rw [blkC, List.getElem?_toArray, List.getElem?_append_right (by simp [hp])]; simp [hp]⟩)
  have HNM := hi.nm _ (List.mem_of_getElem? hk)
  have hkN : k < N := by rw [← hN]; exact (List.getElem?_eq_some_iff.1 hk).1
  have hRow : ∀ r ∈ its.map (fun x => itemC x.1 x.2), r.length = 28 := fun r hr => by
    obtain ⟨x, hx, rfl⟩ := List.mem_map.1 hr
    have := hi.nm x hx
    simp [itemC, this.1, this.2]
  have hrd := hi.rd
  rw [hN] at hrd
  have hNm : N ≤ maxLen := hrd.le
  unfold maxLen at hNm
  obtain ⟨gi, oi, rfl, hrg⟩ := rows_at hRow hrd (i := k) (r := itemC nm rest) (by rw [List.getElem?_map, hk]; rfl) hkN
  obtain ⟨kk, hkk⟩ : ∃ k, k = 28 := ⟨_, rfl⟩
  have HK := Lib.hid hkk
  rw [← hkk] at hrg
  have HRG := Lib.hid hrg
  have aE : ∀ w, (isAgg 38).run Tryz.prog w = .ok true w := fun w => by kernel_rfl
  have zE : ∀ w, (Go.sizeOf 38).run Tryz.prog w = .ok 28 w := fun w => by kernel_rfl
  rw [← hkk] at zE
  obtain ⟨ra, hra⟩ : ∃ x, (itemC nm rest).toArray = x := ⟨_, rfl⟩
  have HRA := Lib.hid hra
  have HRS := Lib.hid (show (itemC nm rest).length = 28 from by simp [itemC, HNM.1, HNM.2])
  have HRM := Lib.hid (show ra[20]? = some (.int .i64 m) from by rw [← hra, itemC, List.getElem?_toArray, List.getElem?_append_right (by simp [HNM.1])]; simpa [HNM.1] using hm)
  have HRO := Lib.hid (show ra.all (·.oneCell') = true from by
    rw [← hra, List.all_toArray, List.all_eq_true]
    intro u hu
    rcases (show (∃ a, a ∈ nm ∧ byteV a = u) ∨ u ∈ rest from by simpa [itemC] using hu) with ⟨b, -, rfl⟩ | h1
    · rfl
    · exact hone u h1)
  have HR8 := Lib.hid (show ra.size = 28 from by rw [← hra]; simpa using HRS.out)
  have hk0 : decide ((k : Int) < 0) = false := by simp
  obtain ⟨nb, hnb⟩ : ∃ x, (p.map byteV).toArray = x := ⟨_, rfl⟩
  have HNB := Lib.hid hnb
  have HP := Lib.hid hp
  rw [show nameV p = .agg nb from by rw [← hnb]] at CF
  have IA := Lib.hid item_alloc
  have IO := Lib.hid itZ_one
  have IS := Lib.hid (show (Tryz.prog.info? 38).map (·.size) = some itZ.size from by rw [itZ_size, item_size])
  obtain ⟨iz, hiz⟩ : ∃ x, itZ = x := ⟨_, rfl⟩
  rw [hiz] at IA IO IS ⊢
  have HIZ := Lib.hid hiz
  have HI8 := Lib.hid (show iz.size = 28 from by rw [← hiz]; exact itZ_size)
  have HR := Lib.hid hr
  have HOM := Lib.hid hom
  have HG := Lib.hid hg
  have hkz : ((k : Nat) : Int).toNat = k := by omega
  clear hn h hiz hnb hp hl hg hi hf hra hrg hkk hRow hrd HNM hk hN hm hm0 hm1 hids hr hom
  go_enter Tryz.func54, Tryz.ntmps54
  go_wp2_with (first
    | (refine wpList_alloc_row rfl 38 rfl iz IA.out ?_; intro w1 hb1 hu1 hs1; have B1 := Lib.hid hb1; have V1 := Lib.hid hu1; have S1 := Lib.hid hs1; clear hb1 hu1 hs1)
    | (refine (CD.out _ V1.out).mono ?_; rintro e w2 ⟨A, c, he, hch, hu2⟩; rw [HLN.out] at he hch; have HS2 := HZS.out A c; obtain ⟨zb, hzb⟩ : ∃ x, (blkC p (.slice A n c)).toArray = x := ⟨_, rfl⟩; have HZB := Lib.hid hzb; rw [hzb] at he HS2; subst he; have HZ := Lib.hid HS2; have HCH := Lib.hid hch; have B2 := Lib.hid (hu2.blk B1.out (fun f => f)); have V2 := Lib.hid (V1.out.trans hu2 (fun _ _ f => f)); clear hu2 hch HS2 hzb)
    | (refine wpList_alloc_row rfl 67 rfl (blkC (List.replicate 8 0) (.slice none 0 0)).toArray alloc_block ?_; intro w4 hb4 hu4 hs4; have B4 := Lib.hid hb4; have V4 := Lib.hid hu4; have S4 := Lib.hid hs4; clear hb4 hu4 hs4)
    | (refine wpList_store_row rfl 67 (.tmp 8) (.tmp 25) rfl w2.heap.size rfl zb rfl 67 _ B4.out (by rw [HZ.out.1]; rfl) HZ.out.2.1 HZ.out.2.2.1 ?_; intro w5 hb5 hu5 hs5; have V5 := Lib.hid (V4.out.trans hu5 (F := NoF) (fun k hk e => by have e : k = w2.heap.size := e; omega)); have B5 := Lib.hid (V5.out.blk B2.out (fun f => f)); have Z5 := Lib.hid hb5; have U5 := Lib.hid (V2.out.trans V5.out (fun _ _ f => f)); have C5 := Lib.hid (HCH.out.keep V5.out); clear hb5 hu5 hs5)
    | (refine wpList_load_row rfl 28 (.tmp 31) rfl w2.heap.size 0 rfl (p.map byteV) _ (range_parent (by rw [HZB.out]; exact Z5.out)) Tryz.underlying28 rfl (by rw [name_size]; simp [HP.out]) nb HNB.out ?_)
    | (refine (CF.out _ U5.out).mono ?_; rintro e w6 ⟨rfl, hu6⟩; have B6 := Lib.hid (hu6.blk B5.out (fun f => f)); have Z6 := Lib.hid (hu6.blk Z5.out (fun f => f)); have C6 := Lib.hid (C5.out.keep hu6); have U6 := Lib.hid (U5.out.trans hu6 (fun _ _ f => f)); clear hu6)
    | (refine wpList_load_row rfl 38 (.tmp 39) rfl gi (oi + k * kk) rfl (itemC nm rest) _ (fun j u hj => U6.out.cell (HRG.out j u hj) (fun f => f)) Tryz.underlying38 rfl (by rw [item_size, HRS.out]) ra HRA.out ?_)
    | (refine wpList_store_row rfl 38 (.tmp 11) (.tmp 40) rfl w6.heap.size rfl ra rfl 38 _ B1.out (by rw [HI8.out, HR8.out]) (by rw [item_size, HR8.out]) HRO.out ?_; intro w7 hb7 hu7 hs7; have V7 := Lib.hid (V1.out.trans hu7 (F := NoF) (fun i hi e => by have e : i = w6.heap.size := e; omega)); have I7 := Lib.hid hb7; have U7 := Lib.hid (U6.out.trans V7.out (fun _ _ f => f)); have B7 := Lib.hid (V7.out.blk B6.out (fun f => f)); have Z7 := Lib.hid (V7.out.blk Z6.out (fun f => f)); have C7 := Lib.hid (C6.out.keep V7.out); have cM := (Blk.cell hb7 20).trans HRM.out; clear hb7 hu7 hs7)
    | (refine (CI.out _).mono ?_; rintro e w8 ⟨u8, rfl, ho8, -, hu8⟩; have O8 := Lib.hid ho8; have I8 := Lib.hid (hu8.blk I7.out (fun f => f)); have U8 := Lib.hid (U7.out.trans hu8 (fun _ _ f => f)); have B8 := Lib.hid (hu8.blk B7.out (fun f => f)); have Z8 := Lib.hid (hu8.blk Z7.out (fun f => f)); have C8 := Lib.hid (C7.out.keep hu8); have hrd8 := ho8.rd; rw [HLEN.out, HIDS.out] at hrd8; obtain ⟨A8, c8, rfl, h81, h82, h83⟩ := id hrd8; have R8 := Lib.hid hrd8; have cS := (Z8.out.cell 8).trans HZ.out.2.2.2; have cM8 := (I8.out.cell 20).trans HRM.out; clear hu8 ho8 hrd8 h83)
    | (refine (EqualInts_true HLN.out C8.out R8.out).mono ?_; rintro e w10 ⟨rfl, hu10⟩; have I10 := Lib.hid (hu10.blk I8.out (fun f => f)); have U10 := Lib.hid (U8.out.trans hu10 (fun _ _ f => f)); have B10 := Lib.hid (hu10.blk B8.out (fun f => f)); have Z10 := Lib.hid (hu10.blk Z8.out (fun f => f)); have C10 := Lib.hid (C8.out.keep hu10); have cS10 := (Z10.out.cell 8).trans HZ.out.2.2.2; have cM10 := (I10.out.cell 20).trans HRM.out; clear hu10))
  have H0n : 0 < n := by have := HG.out.1; have := HLN.out; omega
  obtain ⟨x0, hx⟩ : ∃ x, l[0]? = some x := ⟨_, List.getElem?_eq_getElem (by have := HG.out.1; omega)⟩
  obtain ⟨z0, n0⟩ := x0
  obtain ⟨hc8, hcr⟩ := C10.out
  have H08 := Lib.hid (hc8 _ (List.mem_of_getElem? hx))
  rw [HLN.out] at hcr
  obtain ⟨gc, oc, rfl, hrc⟩ := rows_at (K := 9) (rows := l.map choiceC) (fun r h => by
    obtain ⟨x, hx, rfl⟩ := List.mem_map.1 h
    simp [choiceC, hc8 x hx]) hcr (i := 0) (r := choiceC (z0, n0)) (by rw [List.getElem?_map, hx]; rfl) H0n
  rw [show oc + 0 * 9 = oc from by omega] at hrc
  have HRC := Lib.hid hrc
  obtain ⟨ca, hca⟩ : ∃ x, (choiceC (z0, n0)).toArray = x := ⟨_, rfl⟩
  have HCA := Lib.hid hca
  have HCS := Lib.hid (show (choiceC (z0, n0)).length = 9 from by simp [choiceC, H08.out])
  have HCZ := Lib.hid (show ca.size = 9 from by rw [← hca]; simpa using HCS.out)
  have HCO := Lib.hid (show ca.all (·.oneCell') = true from by rw [← hca, Array.all_eq_true_iff_forall_mem]; exact fun u hu => choice_one z0 n0 u (by simpa using hu))
  have HSZ := Lib.hid (show (Tryz.prog.info? 64).map (·.size) = some 9 from by kernel_rfl)
  have R10 := Lib.hid (U10.out.blk HR.out (fun f => f))
  have OM10 := Lib.hid ((U10.out.block om (Array.getElem?_eq_some_iff.1 HOM.out).1 (fun f => f)).trans HOM.out)
  have OML := Lib.hid (Array.getElem?_eq_some_iff.1 HOM.out).1
  have DN := Lib.hid (fun W (hu : Upd NoF w10 W) => by
    have := Decided_nil (hu.blk R10.out (fun f => f)) (by rfl) (by rfl) ((hu.block om (Array.getElem?_eq_some_iff.1 OM10.out).1 (fun f => f)).trans OM10.out) m HP.out z0 H08.out
    rw [show nameV p = .agg nb from by rw [← HNB.out]] at this
    rw [HCA.out] at this
    exact this)
  have hln : (0 : Int) < (n : Int) := by omega
  clear hx hc8 hcr hrc hca cS10 cM10 cM8 cS cM
  go_loopg [57] 0 (fun kx s57 wr => s57 = .int .i64 0 ∧ Hid (wr = w10))
  case atStart => exact ⟨rfl, Lib.hid rfl⟩
  case round =>
    obtain ⟨rfl, HW⟩ := hrel
    obtain rfl := HW.out
    go_wp2_with (first
      | (refine wpList_load_row rfl 64 (.tmp 59) rfl gc oc (by first | rfl | simp) (choiceC (z0, n0)) _ HRC.out Tryz.underlying64 rfl (by rw [HSZ.out, HCS.out]) ca HCA.out ?_)
      | (refine wpList_alloc_row rfl 64 rfl chZ choice_alloc ?_; intro W2 hb2 hu2 hs2; have HB2 := Lib.hid hb2; have HU2 := Lib.hid hu2; clear hb2 hu2 hs2)
      | (refine wpList_store_row rfl 64 (.tmp 14) (.tmp 60) rfl _ rfl ca rfl _ _ HB2.out (by rw [HCZ.out]; rfl) (by rw [HSZ.out, HCZ.out]) HCO.out ?_; intro W3 hb3 hu3 hs3; have HB3 := Lib.hid hb3; have HU3 := Lib.hid (HU2.out.trans hu3 (F := NoF) (fun i hi h => by omega)); have cM3 := ((HU3.out.blk I10.out (fun f => f)).cell 20).trans HRM.out; clear hb3 hu3 hs3)
      | (refine wpList_load_row rfl 28 (.tmp 64) rfl w2.heap.size 0 rfl (p.map byteV) _ (range_parent (by rw [HZB.out]; exact HU3.out.blk Z10.out (fun f => f))) Tryz.underlying28 rfl (by rw [name_size]; simp [HP.out]) nb HNB.out ?_)
      | (refine wpList_load_row rfl 64 (.tmp 14) rfl _ 0 rfl ca.toList _ (range_blk (by rw [Array.toArray_toList]; exact HB3.out)) Tryz.underlying64 rfl (by rw [HSZ.out]; simp [HCZ.out]) ca (by simp) ?_)
      | (refine (DN.out _ HU3.out).mono ?_; rintro e w12 ⟨rfl, hu12⟩; have B12 := Lib.hid (hu12.blk (HU3.out.blk B10.out (fun f => f)) (fun f => by have := OML.out; have f : w.heap.size = om := f; omega)); have U12 := Lib.hid (((U10.out.trans HU3.out (fun _ _ f => f)).mono (G := fun i => i = om) (fun _ _ f => f.elim)).trans hu12 (fun _ _ f => f)); clear hu12)
      | (refine wpList_store_row rfl 38 (.tmp 6) (.tmp 69) rfl w.heap.size rfl iz (by rw [← HIZ.out]; kernel_rfl) 38 _ B12.out rfl IS.out IO.out ?_; intro w14 hb14 hu14 hs14))
    refine bodyPost_ret (results_cell_tmp Tryz.results54 _ _ w.heap.size iz.toList _ rfl (range_blk (by rw [Array.toArray_toList]; exact hb14)) Tryz.underlying38 rfl (by rw [Array.length_toList]; exact IS.out)) rfl ?_
    exact ⟨by simp, U12.out.trans hu14 (fun j hj f => by have f : j = w.heap.size := f; exfalso; omega)⟩
end

section
open Go.RowKit Go.Shelf Go.Lib Go.Sort

set_option maxRecDepth 100000 in
set_option maxHeartbeats 2000000 in
theorem ItemsBlock_bad {w : World} {v : Value} (g0 g1 g2 g3 g4 L : Value) (h : Rd w 1 v ([3] : List UInt8).length (([3] : List UInt8).map byteV)) : Calls Tryz.prog 25 #[.agg #[g0, g1, g2, g3, g4], .agg #[.slice none 0 0, .int .i64 0, .slice none 0 0], L, v] w fun e w' => e = .returned (.tuple #[.agg itZ, .int .i64 4]) ∧ Upd NoF w w' := by
  have CB := Lib.hid (fun W R (hu : Upd NoF w W) => ReaderBlock_bad (w := W) R L (h.keep hu))
  have CN := Lib.hid (fun W => NewReader_nil g0 g1 g2 g3 g4 W)
  have IA := Lib.hid item_alloc
  have IO := Lib.hid itZ_one
  have IS := Lib.hid (show (Tryz.prog.info? 38).map (·.size) = some itZ.size from by rw [itZ_size, item_size])
  obtain ⟨iz, hiz⟩ : ∃ x, itZ = x := ⟨_, rfl⟩
  rw [hiz] at IA IO IS CB ⊢
  have U0 := Lib.hid (((Upd.refl NoF w).alloc (.cells #[g0, g1, g2, g3, g4] 25)).alloc (.cells #[.slice none 0 0, .int .i64 0, .slice none 0 0] 60))
  have BG0 := Lib.hid ((Blk.new w 25 #[g0, g1, g2, g3, g4]).alloc (.cells #[.slice none 0 0, .int .i64 0, .slice none 0 0] 60))
  have BF0 := Lib.hid (show Blk ((w.alloc (.cells #[g0, g1, g2, g3, g4] 25)).alloc (.cells #[.slice none 0 0, .int .i64 0, .slice none 0 0] 60)) (w.heap.size + 1) 60 #[.slice none 0 0, .int .i64 0, .slice none 0 0] from by
    have := Blk.new (w.alloc (.cells #[g0, g1, g2, g3, g4] 25)) 60 #[.slice none 0 0, .int .i64 0, .slice none 0 0]
    rw [World.size_alloc] at this; exact this)
  clear h hiz
  go_enter Tryz.func25, Tryz.ntmps25
  go_wp2_with (first
    | (refine wpList_alloc_row rfl 38 rfl iz IA.out ?_; intro w1 hb1 hu1 hs1; have B1 := Lib.hid hb1; have BG := Lib.hid (hu1.blk BG0.out (fun f => f)); have BF := Lib.hid (hu1.blk BF0.out (fun f => f)); have V1 := Lib.hid (U0.out.trans hu1 (fun _ _ f => f)); clear hb1 hu1 hs1)
    | (refine wpList_load_row rfl 25 (.tmp 4) rfl w.heap.size 0 rfl [g0, g1, g2, g3, g4] _ (range_blk BG.out) Tryz.underlying25 rfl (by kernel_rfl) _ rfl ?_)
    | (refine wpList_load_row rfl 60 (.tmp 5) rfl (w.heap.size + 1) 0 rfl [.slice none 0 0, .int .i64 0, .slice none 0 0] _ (range_blk BF.out) Tryz.underlying60 rfl (by kernel_rfl) _ rfl ?_)
    | (refine (CN.out _).mono ?_; rintro e w2 ⟨rb, tm, om, rfl, hu2, -⟩; have V2 := Lib.hid (V1.out.trans hu2 (fun _ _ f => f)); have B2 := Lib.hid (hu2.blk B1.out (fun f => f)); clear hu2)
    | (refine (CB.out _ _ V2.out).mono ?_; rintro e w3 ⟨rfl, hu3⟩; have V3 := Lib.hid (V2.out.trans hu3 (fun _ _ f => f)); have B3 := Lib.hid (hu3.blk B2.out (fun f => f)); clear hu3)
    | (refine wpList_store_row rfl 38 (.tmp 8) (.tmp 16) rfl _ rfl iz rfl 38 _ (by first | exact B3.out | simpa only [World.size_alloc] using B3.out) rfl IS.out IO.out ?_; intro w9 hb9 hu9 hs9))
  refine bodyPost_ret (results_cell_tmp Tryz.results25 _ _ _ iz.toList _ rfl (range_blk (by rw [Array.toArray_toList]; exact hb9)) Tryz.underlying38 rfl (by rw [Array.length_toList]; exact IS.out)) rfl ?_
  exact ⟨by simp, V3.out.trans hu9 (fun j hj f => by have f : j = _ := f; exfalso; first | omega | (simp at f; omega))⟩

set_option maxRecDepth 100000 in
set_option maxHeartbeats 2000000 in
theorem ItemsBlock_none {w : World} {v L : Value} (g0 g1 g2 g3 g4 : Value) {p : List UInt8} {l : List (Int × List UInt8)} {its : List (List UInt8 × List Value)} (h : Rd w 1 v (3 :: blkT p l).length ((3 :: blkT p l).map byteV)) (hp : p.length = 8) (hl : ∀ s ∈ l, s.2.length = 8 ∧ 0 ≤ s.1 ∧ s.1 < 256) (hg : GoodCh l) (hi : ItR w L its) (hf : findS (its.map (·.1)) p = -1) : Calls Tryz.prog 25 #[.agg #[g0, g1, g2, g3, g4], .agg #[.slice none 0 0, .int .i64 0, .slice none 0 0], L, v] w fun e w' => e = .returned (.tuple #[.agg itZ, .int .i64 6]) ∧ Upd NoF w w' := by
  have CB := Lib.hid (fun W R (hu : Upd NoF w W) => ReaderBlock_none (w := W) R (h.keep hu) hp hl hg (hi.keep hu) hf)
  have CN := Lib.hid (fun W => NewReader_nil g0 g1 g2 g3 g4 W)
  have IA := Lib.hid item_alloc
  have IO := Lib.hid itZ_one
  have IS := Lib.hid (show (Tryz.prog.info? 38).map (·.size) = some itZ.size from by rw [itZ_size, item_size])
  obtain ⟨iz, hiz⟩ : ∃ x, itZ = x := ⟨_, rfl⟩
  rw [hiz] at IA IO IS CB ⊢
  have U0 := Lib.hid (((Upd.refl NoF w).alloc (.cells #[g0, g1, g2, g3, g4] 25)).alloc (.cells #[.slice none 0 0, .int .i64 0, .slice none 0 0] 60))
  have BG0 := Lib.hid ((Blk.new w 25 #[g0, g1, g2, g3, g4]).alloc (.cells #[.slice none 0 0, .int .i64 0, .slice none 0 0] 60))
  have BF0 := Lib.hid (show Blk ((w.alloc (.cells #[g0, g1, g2, g3, g4] 25)).alloc (.cells #[.slice none 0 0, .int .i64 0, .slice none 0 0] 60)) (w.heap.size + 1) 60 #[.slice none 0 0, .int .i64 0, .slice none 0 0] from by
    have := Blk.new (w.alloc (.cells #[g0, g1, g2, g3, g4] 25)) 60 #[.slice none 0 0, .int .i64 0, .slice none 0 0]
    rw [World.size_alloc] at this; exact this)
  clear h hiz hp hl hg hi hf
  go_enter Tryz.func25, Tryz.ntmps25
  go_wp2_with (first
    | (refine wpList_alloc_row rfl 38 rfl iz IA.out ?_; intro w1 hb1 hu1 hs1; have B1 := Lib.hid hb1; have BG := Lib.hid (hu1.blk BG0.out (fun f => f)); have BF := Lib.hid (hu1.blk BF0.out (fun f => f)); have V1 := Lib.hid (U0.out.trans hu1 (fun _ _ f => f)); clear hb1 hu1 hs1)
    | (refine wpList_load_row rfl 25 (.tmp 4) rfl w.heap.size 0 rfl [g0, g1, g2, g3, g4] _ (range_blk BG.out) Tryz.underlying25 rfl (by kernel_rfl) _ rfl ?_)
    | (refine wpList_load_row rfl 60 (.tmp 5) rfl (w.heap.size + 1) 0 rfl [.slice none 0 0, .int .i64 0, .slice none 0 0] _ (range_blk BF.out) Tryz.underlying60 rfl (by kernel_rfl) _ rfl ?_)
    | (refine (CN.out _).mono ?_; rintro e w2 ⟨rb, tm, om, rfl, hu2, -⟩; have V2 := Lib.hid (V1.out.trans hu2 (fun _ _ f => f)); have B2 := Lib.hid (hu2.blk B1.out (fun f => f)); clear hu2)
    | (refine (CB.out _ _ V2.out).mono ?_; rintro e w3 ⟨rfl, hu3⟩; have V3 := Lib.hid (V2.out.trans hu3 (fun _ _ f => f)); have B3 := Lib.hid (hu3.blk B2.out (fun f => f)); clear hu3)
    | (refine wpList_store_row rfl 38 (.tmp 8) (.tmp 16) rfl _ rfl iz rfl 38 _ (by first | exact B3.out | simpa only [World.size_alloc] using B3.out) rfl IS.out IO.out ?_; intro w9 hb9 hu9 hs9))
  refine bodyPost_ret (results_cell_tmp Tryz.results25 _ _ _ iz.toList _ rfl (range_blk (by rw [Array.toArray_toList]; exact hb9)) Tryz.underlying38 rfl (by rw [Array.length_toList]; exact IS.out)) rfl ?_
  exact ⟨by simp, V3.out.trans hu9 (fun j hj f => by have f : j = _ := f; exfalso; first | omega | (simp at f; omega))⟩
end

section
open Go.RowKit Go.Shelf Go.Lib Go.Sort

set_option maxRecDepth 100000 in
set_option maxHeartbeats 2000000 in
theorem ItemsBlock_cert {w : World} {v : Value} {A0 : Option Addr} {c0 N k : Nat} (g0 g1 g2 g3 g4 : Value) {p nm : List UInt8} {rest : List Value} {m : Int} {l : List (Int × List UInt8)} {its : List (List UInt8 × List Value)} (h : Rd w 1 v (3 :: blkT p l).length ((3 :: blkT p l).map byteV)) (hp : p.length = 8) (hl : ∀ s ∈ l, s.2.length = 8 ∧ 0 ≤ s.1 ∧ s.1 < 256) (hg : GoodCh l) (hN : its.length = N) (hi : ItR w (.slice A0 N c0) its) (hk : its[k]? = some (nm, rest)) (hf : findS (its.map (·.1)) p = (k : Int)) (hone : ∀ u ∈ rest, u.oneCell' = true) (hm : rest[12]? = some (.int .i64 m)) (hm0 : -9223372036854775808 ≤ m) (hm1 : m ≤ 9223372036854775807)
    (hids : idsV (idsF m) = l.map fun x => .int .i64 x.1) :
    Calls Tryz.prog 25 #[.agg #[g0, g1, g2, g3, g4], .agg #[.slice none 0 0, .int .i64 0, .slice none 0 0], .slice A0 N c0, v] w fun e w' => e = .returned (.tuple #[.agg itZ, .int .i64 105]) ∧ Upd NoF w w' := by
  have CB := Lib.hid (fun W rb tm om (hu : Upd NoF w W) hr hom => ReaderBlock_cert (w := W) (rb := rb) (tm := tm) (om := om) (g0 := g0) (g1 := g1) (g2 := g2) (g3 := g3) (g4 := g4) (h.keep hu) hp hl hg hN (hi.keep hu) hk hf hone hm hm0 hm1 hids hr hom)
  have CN := Lib.hid (fun W => NewReader_nil g0 g1 g2 g3 g4 W)
  have IA := Lib.hid item_alloc
  have IO := Lib.hid itZ_one
  have IS := Lib.hid (show (Tryz.prog.info? 38).map (·.size) = some itZ.size from by rw [itZ_size, item_size])
  obtain ⟨iz, hiz⟩ : ∃ x, itZ = x := ⟨_, rfl⟩
  rw [hiz] at IA IO IS CB ⊢
  have U0 := Lib.hid (((Upd.refl NoF w).alloc (.cells #[g0, g1, g2, g3, g4] 25)).alloc (.cells #[.slice none 0 0, .int .i64 0, .slice none 0 0] 60))
  have BG0 := Lib.hid ((Blk.new w 25 #[g0, g1, g2, g3, g4]).alloc (.cells #[.slice none 0 0, .int .i64 0, .slice none 0 0] 60))
  have BF0 := Lib.hid (show Blk ((w.alloc (.cells #[g0, g1, g2, g3, g4] 25)).alloc (.cells #[.slice none 0 0, .int .i64 0, .slice none 0 0] 60)) (w.heap.size + 1) 60 #[.slice none 0 0, .int .i64 0, .slice none 0 0] from by
    have := Blk.new (w.alloc (.cells #[g0, g1, g2, g3, g4] 25)) 60 #[.slice none 0 0, .int .i64 0, .slice none 0 0]
    rw [World.size_alloc] at this; exact this)
  clear h hiz hp hl hg hN hi hk hf hone hm hm0 hm1 hids
  go_enter Tryz.func25, Tryz.ntmps25
  go_wp2_with (first
    | (refine wpList_alloc_row rfl 38 rfl iz IA.out ?_; intro w1 hb1 hu1 hs1; have B1 := Lib.hid hb1; have BG := Lib.hid (hu1.blk BG0.out (fun f => f)); have BF := Lib.hid (hu1.blk BF0.out (fun f => f)); have V1 := Lib.hid (U0.out.trans hu1 (fun _ _ f => f)); clear hb1 hu1 hs1)
    | (refine wpList_load_row rfl 25 (.tmp 4) rfl w.heap.size 0 rfl [g0, g1, g2, g3, g4] _ (range_blk BG.out) Tryz.underlying25 rfl (by kernel_rfl) _ rfl ?_)
    | (refine wpList_load_row rfl 60 (.tmp 5) rfl (w.heap.size + 1) 0 rfl [.slice none 0 0, .int .i64 0, .slice none 0 0] _ (range_blk BF.out) Tryz.underlying60 rfl (by kernel_rfl) _ rfl ?_)
    | (refine (CN.out _).mono ?_; rintro e w2 ⟨rb, tm, om, rfl, hu2, hom, hrb, hbr, hmo⟩; have HBR := Lib.hid hbr; have HMO := Lib.hid hmo; have LB := Lib.hid B1.out.lt; have SV := Lib.hid V1.out.size; have HOM := Lib.hid hom; clear hom hrb hbr hmo; have V2 := Lib.hid (V1.out.trans hu2 (fun _ _ f => f)); have B2 := Lib.hid (hu2.blk B1.out (fun f => f)); clear hu2)
    | (refine (CB.out _ _ _ _ V2.out HBR.out HMO.out).mono ?_; rintro e w3 ⟨rfl, hu3⟩; have V3 := Lib.hid (V2.out.trans hu3 (F := NoF) (fun i hi f => by have f : i = _ := f; have := HOM.out; have := SV.out; omega)); have B3 := Lib.hid (hu3.blk B2.out (fun f => by have f : _ = _ := f; have := LB.out; have := HOM.out; omega)); clear hu3)
    | (refine wpList_store_row rfl 38 (.tmp 8) (.tmp 16) rfl _ rfl iz rfl 38 _ (by first | exact B3.out | simpa only [World.size_alloc] using B3.out) rfl IS.out IO.out ?_; intro w9 hb9 hu9 hs9))
  refine bodyPost_ret (results_cell_tmp Tryz.results25 _ _ _ iz.toList _ rfl (range_blk (by rw [Array.toArray_toList]; exact hb9)) Tryz.underlying38 rfl (by rw [Array.length_toList]; exact IS.out)) rfl ?_
  exact ⟨by simp, V3.out.trans hu9 (fun j hj f => by have f : j = _ := f; exfalso; first | omega | (simp at f; omega))⟩
end

section
open Go.RowKit Go.Lib

section
variable {P : Program} {ops : Array Oper} {rest : List Oper} {o : Oper} {a : Act} {w : World} {Q : Exit → Act → World → Prop}
/-- An operation that makes one new block. -/
theorem wl_new (hw : Region.wanted o (yielded ops a.tmps) = true) (cs : Array Value) (T : TypeId) (v : Value) (h : (execOp a.eval o).run P w = .ok (.value v) (w.alloc (.cells cs T))) (hk : ∀ w', Blk w' w.heap.size T cs → Upd NoF w w' → wpList P ops Q rest (a.put o.dst v) w') : wpList P ops Q (o :: rest) a w :=
  wl_run hw h (hk _ (Blk.new w T cs) ((Upd.refl NoF w).alloc (.cells cs T)))
theorem wl_row1 (hw : Region.wanted o (yielded ops a.tmps) = true) (ty e : TypeId) (x : Operand) (ho : o.op = .buildSlice ty 1 #[(0, x)]) (v : Value) (hx : a.eval x = v) (cs : Array Value) (hr : (Instr.buildSlice ty 1 #[(0, v)]).run P w = .ok (.slice (some ⟨w.heap.size, 0, none⟩) 1 1) (w.alloc (.cells cs e))) (hk : ∀ w', Blk w' w.heap.size e cs → Upd NoF w w' → wpList P ops Q rest (a.put o.dst (.slice (some ⟨w.heap.size, 0, none⟩) 1 1)) w') : wpList P ops Q (o :: rest) a w :=
  wl_od (post := fun u y => u = .slice (some ⟨w.heap.size, 0, none⟩) 1 1 ∧ y = w.alloc (.cells cs e)) hw (od_buildSlice_row9 ty e x ho v hx cs hr ⟨rfl, rfl⟩) (by rintro u y ⟨rfl, rfl⟩; exact hk _ (Blk.new w e cs) ((Upd.refl NoF w).alloc (.cells cs e)))
theorem wl_build (hw : Region.wanted o (yielded ops a.tmps) = true) (ty : TypeId) (ps : Array (Nat × Operand)) (ho : o.op = .build ty ps) (vs : Array (Nat × Value)) (hv : ps.map (fun p => (p.1, a.eval p.2)) = vs) (v : Value) (hr : (Instr.build ty vs).run P w = .ok v w) (hk : wpList P ops Q rest (a.put o.dst v) w) : wpList P ops Q (o :: rest) a w :=
  wl_od (post := fun u y => u = v ∧ y = w) hw (od_build ty ps ho vs hv hr ⟨rfl, rfl⟩) (by rintro u y ⟨rfl, rfl⟩; exact hk)
end
def awV : Array Value := ((awG.vals.map (·.map byteV)).flatten).toArray
def awA : Array Value := ((awG.accs.map (·.map byteV)).flatten).toArray
def awB : Array Value := (awG.bals.map (Value.int .i64)).toArray
theorem cells_names {w : World} {g : Nat} {l : List (List UInt8)} {n : Nat} (h : Blk w g 28 ((l.map (·.map byteV)).flatten).toArray) (h8 : ∀ x ∈ l, x.length = 8) (hn : l.length = n) (hm : n ≤ maxLen) : NmR w (.slice (some ⟨g, 0, none⟩) n n) l := by
  subst hn
  refine ⟨h8, Rd.of_blk h (Nat.le_refl _) hm (rowsN_len h8 rfl) fun j u hu => by simpa using hu⟩
theorem aw_genR {w : World} {A B C : Nat} (ha : Blk w A 28 awV) (hb : Blk w B 28 awA) (hc : Blk w C 3 awB) : GenR w (some ⟨A, 0, none⟩) (some ⟨B, 0, none⟩) (some ⟨C, 0, none⟩) 4 1 1 awG :=
  ⟨⟨by decide, by decide⟩, ⟨by decide, by decide⟩, cells_names ha (by decide) rfl (by decide), cells_names hb (by decide) rfl (by decide), ⟨by decide, Rd.of_blk hc (Nat.le_refl _) (by decide) rfl fun j u hu => by simpa [awB] using hu⟩⟩
/-- The one item of the sanity check. -/
def awI : ItP := ⟨hsum (encG awG), 1, List.replicate 8 0, [], []⟩
theorem aw_fit : awI.Fit := by
  refine ⟨hsum_len _, rfl, ?_, ?_⟩
  · intro h hh; cases hh
  · intro h hh; cases hh
theorem aw_itok {w : World} (x0 x1 x2 x3 x4 : Value) (h : ∀ u ∈ [x0, x1, x2, x3, x4], u.oneCell' = true) (m : Int) : ItOk w awI (genRest x0 x1 x2 x3 x4 m) := by
  have h0 := h x0 (by simp); have h1 := h x1 (by simp); have h2 := h x2 (by simp); have h3 := h x3 (by simp); have h4 := h x4 (by simp)
  refine ⟨rfl, ?_, rfl, ?_, ⟨none, 0, rfl, (fun _ hh => by cases hh), Rd.of0' w 9 (by decide)⟩, ⟨none, 0, rfl, (fun _ hh => by cases hh), Rd.of0' w 8 (by decide)⟩, aw_fit⟩
  · intro u hu
    simp only [genRest, List.mem_cons, List.not_mem_nil, or_false] at hu
    rcases hu with rfl | rfl | rfl | rfl | rfl | rfl | rfl | rfl | rfl | rfl | rfl | rfl | rfl | rfl | rfl | rfl | rfl | rfl | rfl | rfl <;> first | rfl | assumption
  · intro j v hv
    match j with
    | 0 => exact hv
    | 1 => exact hv
    | 2 => exact hv
    | 3 => exact hv
    | 4 => exact hv
    | 5 => exact hv
    | 6 => exact hv
    | 7 => exact hv
    | n + 8 =>
      rw [List.getElem?_eq_none (by simp [awI])] at hv
      cases hv
theorem aw_gr {w : World} {g : Nat} {rest : List Value} (hr : ItOk w awI rest) (h : Blk w g 38 (itemC awI.name rest).toArray) : GrR w (.slice (some ⟨g, 0, none⟩) 1 1) [(awI, rest)] := by
  refine ⟨⟨?_, ?_⟩, ?_⟩
  · intro x hx
    rw [List.map_cons, List.map_nil, List.mem_singleton] at hx
    subst hx
    exact ⟨hr.fit.name, hr.len⟩
  · refine Rd.of_blk h (Nat.le_refl _) (by decide) ?_ fun j u hu => by simpa using hu
    simp [itemC, hr.fit.name, hr.len]
  · intro x hx
    rw [List.mem_singleton] at hx
    subst hx
    exact hr
theorem aw_find : findS [awI.name] awI.name = 0 := by
  unfold findS firstI
  simp [List.length]
theorem aw_find9 : findS [awI.name] (nm 9) = -1 := by decide +kernel
def aw4 : List (Int × List UInt8) := [(0, List.replicate 8 0), (1, List.replicate 8 0), (2, List.replicate 8 0), (3, List.replicate 8 0)]
theorem aw4_good : GoodCh aw4 := by
  refine ⟨by decide, by decide, ?_⟩
  intro i s hs
  match i, hs with
  | 0, rfl | 1, rfl | 2, rfl | 3, rfl =>
    refine ⟨by decide, by decide, ?_⟩
    intro j t ht hj
    match j, ht with
    | 0, rfl | 1, rfl | 2, rfl | 3, rfl => first | (exfalso; omega) | decide
  | n + 4, hs => exact absurd hs (by simp [aw4])
theorem aw4_ids : idsV (idsF 15) = aw4.map fun x => Value.int .i64 x.1 := by
  rw [show idsF 15 = [0, 1, 2, 3] from by decide]
  rfl
theorem aw4_R {w : World} {g : Nat} (h : Blk w g 64 ((aw4.map choiceC).flatten).toArray) : ChR w (.slice (some ⟨g, 0, none⟩) 4 4) aw4 :=
  ⟨by decide, Rd.of_blk h (Nat.le_refl _) (by decide) rfl fun j u hu => by simpa using hu⟩
theorem build_blk8 (b0 b1 b2 b3 b4 b5 b6 b7 : Value) (A : Option Addr) (k c : Nat) (w : World) : (Instr.build 67 #[(0, .agg #[b0, b1, b2, b3, b4, b5, b6, b7]), (1, .slice A k c)]).run Tryz.prog w = .ok (.agg ([b0, b1, b2, b3, b4, b5, b6, b7] ++ [Value.slice A k c]).toArray) w := by kernel_rfl
theorem build_blk {n : List UInt8} (hn : n.length = 8) (A : Option Addr) (k c : Nat) (w : World) : (Instr.build 67 #[(0, nameV n), (1, .slice A k c)]).run Tryz.prog w = .ok (.agg (blkC n (.slice A k c)).toArray) w := by
  match n, hn with
  | [b0, b1, b2, b3, b4, b5, b6, b7], _ => exact build_blk8 _ _ _ _ _ _ _ _ A k c w
theorem slice_item (r : Nat → Value) (w : World) : (Instr.buildSlice 44 1 #[(0, .agg #[r 0, r 1, r 2, r 3, r 4, r 5, r 6, r 7, r 8, r 9, r 10, r 11, r 12, r 13, r 14, r 15, r 16, r 17, r 18, r 19, r 20, r 21, r 22, r 23, r 24, r 25, r 26, r 27])]).run Tryz.prog w = .ok (.slice (some ⟨w.heap.size, 0, none⟩) 1 1) (w.alloc (.cells #[r 0, r 1, r 2, r 3, r 4, r 5, r 6, r 7, r 8, r 9, r 10, r 11, r 12, r 13, r 14, r 15, r 16, r 17, r 18, r 19, r 20, r 21, r 22, r 23, r 24, r 25, r 26, r 27] 38)) := by kernel_rfl
theorem arr28 {ra : Array Value} (h : ra.size = 28) : ∃ r : Nat → Value, ra = #[r 0, r 1, r 2, r 3, r 4, r 5, r 6, r 7, r 8, r 9, r 10, r 11, r 12, r 13, r 14, r 15, r 16, r 17, r 18, r 19, r 20, r 21, r 22, r 23, r 24, r 25, r 26, r 27] := by
  refine ⟨fun i => ra[i]!, ?_⟩
  apply Array.ext
  · rw [h]; rfl
  · intro i h1 h2
    have hi : i < 28 := by omega
    have : ∀ i : Fin 28, ∀ hh : i.1 < ra.size, ra[i.1] = ra[i.1]! := fun i hh => by simp [hh]
    rw [this ⟨i, hi⟩ h1]
    match i, hi with
    | 0, _ | 1, _ | 2, _ | 3, _ | 4, _ | 5, _ | 6, _ | 7, _ | 8, _ | 9, _ | 10, _ | 11, _ | 12, _ | 13, _ | 14, _ | 15, _ | 16, _ | 17, _ | 18, _ | 19, _ | 20, _ | 21, _ | 22, _ | 23, _ | 24, _ | 25, _ | 26, _ | 27, _ => rfl
    | n + 28, h => exact absurd h (by omega)
theorem run_slice_item {ra : Array Value} (h : ra.size = 28) (w : World) : (Instr.buildSlice 44 1 #[(0, .agg ra)]).run Tryz.prog w = .ok (.slice (some ⟨w.heap.size, 0, none⟩) 1 1) (w.alloc (.cells ra 38)) := by
  obtain ⟨r, rfl⟩ := arr28 h
  exact slice_item r w
theorem clo_nil {l : List ItP} {s f : List (List UInt8)} (h : Clo l [] s f) : f = s := by
  generalize hz : ([] : List (List UInt8)) = z at h
  cases h with
  | done => rfl
  | skip => simp at hz
  | take => simp at hz
/-- Nothing stands above the genesis item. -/
theorem aw_anc {res : List (List UInt8)} (h : AncP [awI] awI.name res) : res = [] := by
  rcases h with ⟨-, h⟩ | ⟨x, seen, hx, hc, h⟩
  · exact h
  · have : x = awI := by
      unfold itemOf at hx
      simp at hx
      exact hx.symm
    subst this
    have hp : parents awI = [] := by rfl
    rw [hp] at hc
    rw [h, clo_nil hc]
    rfl
theorem aw_path {seen : List (List UInt8)} (h : Dwn [awI] awI.name [] seen) : seen.length = 1 := by
  have hi : itemOf [awI] awI.name = some awI := by simp [itemOf]
  cases h with
  | stop hc => rcases hc with hc | hc
               · rw [hi] at hc; cases hc
               · cases hc
  | root => rfl
  | step h1 _ h3 => rw [hi] at h1; cases h1; exact absurd rfl h3
theorem aw_few (rest : List Value) : Few [(awI, rest)] := ⟨by simp, fun x hx => by rw [List.mem_singleton] at hx; subst hx; exact ⟨by simp [awI], by simp [awI]⟩⟩
end

section
open Go.RowKit Go.Lib

def zGen : Array Value := #[.int .i64 0, .int .i64 0, .slice none 0 0, .slice none 0 0, .slice none 0 0]
theorem aw_call1 {W : World} {A B C : Nat} {ga : Array Value} (ha : Blk W A 28 awV) (hb : Blk W B 28 awA) (hc : Blk W C 3 awB) (hga : (#[.int .i64 4, .int .i64 0, .slice (some ⟨A, 0, none⟩) 4 4, .slice (some ⟨B, 0, none⟩) 1 1, .slice (some ⟨C, 0, none⟩) 1 1] : Array Value) = ga) :
    Calls Tryz.prog 7 #[.agg ga] W fun e w' => ∃ rest, e = .returned (.tuple #[.agg (itemC awI.name rest).toArray, .int .i64 0]) ∧ (∀ w, ItOk w awI rest) ∧ rest[12]? = some (.int .i64 15) ∧ rest[0]? = some (.int .i64 1) ∧ Upd NoF W w' := by
  have h := itGenesis_ok (aw_genR ha hb hc) awG_valid
  rw [show genV (some ⟨A, 0, none⟩) (some ⟨B, 0, none⟩) (some ⟨C, 0, none⟩) 4 1 1 awG = .agg ga from congrArg Value.agg hga] at h
  refine h.mono ?_
  rintro e w' ⟨A1, c1, A2, c2, rfl, -, -, hu⟩
  have hs : selS awG.vals.length awG.n 0 = 15 := by decide
  rw [hs]
  exact ⟨_, rfl, fun w => aw_itok _ _ _ _ _ (by intro u hu; simp only [List.mem_cons, List.not_mem_nil, or_false] at hu; rcases hu with rfl | rfl | rfl | rfl | rfl <;> rfl) 15, rfl, rfl, hu⟩
theorem aw_call3 (W : World) : Calls Tryz.prog 7 #[.agg #[.int .i64 0, .int .i64 0, .slice none 0 0, .slice none 0 0, .slice none 0 0]] W fun e w' => e = .returned (.tuple #[.agg itZ, .int .i64 1]) ∧ Upd NoF W w' :=
  itGenesis_bad (A := none) (B := none) (C := none) (a := 0) (b := 0) (c := 0) (g := ⟨0, 0, [], [], []⟩) ⟨⟨by decide, by decide⟩, ⟨by decide, by decide⟩, ⟨by simp, Rd.of0' W 8 (by decide)⟩, ⟨by simp, Rd.of0' W 8 (by decide)⟩, ⟨by simp, Rd.of0' W 1 (by decide)⟩⟩ (by decide)
theorem aw_call6 {W : World} {A : Option Addr} (h : ChR W (.slice A 4 4) aw4) : Calls Tryz.prog 26 #[.agg (blkC awI.name (.slice A 4 4)).toArray] W fun e w' => ∃ B d, e = .returned (.tuple #[.slice B (3 :: blkT awI.name aw4).length d, .int .i64 0]) ∧ Rd w' 1 (.slice B (3 :: blkT awI.name aw4).length d) (3 :: blkT awI.name aw4).length ((3 :: blkT awI.name aw4).map byteV) ∧ Upd NoF W w' :=
  r20EncodeBlock_ok rfl (hsum_len _) h aw4_good
theorem aw_call6' {W : World} {g : Nat} {xb : Array Value} (h : Blk W g 64 #[.int .i64 0, .int .u8 0, .int .u8 0, .int .u8 0, .int .u8 0, .int .u8 0, .int .u8 0, .int .u8 0, .int .u8 0, .int .i64 1, .int .u8 0, .int .u8 0, .int .u8 0, .int .u8 0, .int .u8 0, .int .u8 0, .int .u8 0, .int .u8 0, .int .i64 2, .int .u8 0, .int .u8 0, .int .u8 0, .int .u8 0, .int .u8 0, .int .u8 0, .int .u8 0, .int .u8 0, .int .i64 3, .int .u8 0, .int .u8 0, .int .u8 0, .int .u8 0, .int .u8 0, .int .u8 0, .int .u8 0, .int .u8 0]) (hx : (blkC awI.name (.slice (some ⟨g, 0, none⟩) 4 4)).toArray = xb) : Calls Tryz.prog 26 #[.agg xb] W fun e w' => ∃ B d, e = .returned (.tuple #[.slice B (3 :: blkT awI.name aw4).length d, .int .i64 0]) ∧ Rd w' 1 (.slice B (3 :: blkT awI.name aw4).length d) (3 :: blkT awI.name aw4).length ((3 :: blkT awI.name aw4).map byteV) ∧ Upd NoF W w' := by
  subst hx
  exact aw_call6 (aw4_R h)
theorem aw_len : ∀ s ∈ aw4, s.2.length = 8 ∧ 0 ≤ s.1 ∧ s.1 < 256 := by decide
theorem aw_call7 {W : World} {v : Value} {A0 : Option Addr} {c0 : Nat} {rest : List Value} (g0 g1 g2 g3 g4 : Value) (h : Rd W 1 v (3 :: blkT awI.name aw4).length ((3 :: blkT awI.name aw4).map byteV)) (hi : GrR W (.slice A0 1 c0) [(awI, rest)]) (hone : ∀ u ∈ rest, u.oneCell' = true) (hm : rest[12]? = some (.int .i64 15)) :
    Calls Tryz.prog 25 #[.agg #[g0, g1, g2, g3, g4], .agg #[.slice none 0 0, .int .i64 0, .slice none 0 0], .slice A0 1 c0, v] W fun e w' => e = .returned (.tuple #[.agg itZ, .int .i64 105]) ∧ Upd NoF W w' :=
  ItemsBlock_cert (k := 0) g0 g1 g2 g3 g4 h (hsum_len _) aw_len aw4_good rfl hi.row rfl aw_find hone hm (by decide) (by decide) aw4_ids
theorem aw_call8 {W : World} {v : Value} (g0 g1 g2 g3 g4 : Value) (h : Rd W 1 v (3 :: blkT awI.name aw4).length ((3 :: blkT awI.name aw4).map byteV)) :
    Calls Tryz.prog 25 #[.agg #[g0, g1, g2, g3, g4], .agg #[.slice none 0 0, .int .i64 0, .slice none 0 0], .slice none 0 0, v] W fun e w' => e = .returned (.tuple #[.agg itZ, .int .i64 6]) ∧ Upd NoF W w' :=
  ItemsBlock_none g0 g1 g2 g3 g4 h (hsum_len _) aw_len aw4_good (its := []) ⟨by simp, Rd.of0' W 28 (by decide)⟩ rfl
theorem aw_call14 {W : World} {v : Value} {rest : List Value} {zn : Array Value} (h : GrR W v [(awI, rest)]) (hz : (awI.name.map byteV).toArray = zn) : Calls Tryz.prog 14 #[v, .agg zn] W fun e w' => e = .returned (.int .i64 0) ∧ Upd NoF W w' := by
  subst hz
  have q := Find_any h.row awI.name (hsum_len _)
  rw [show findS (List.map (fun x => x.1) (List.map (fun x => (x.1.name, x.2)) [(awI, rest)])) awI.name = 0 from aw_find] at q
  exact q
theorem aw_call14n {W : World} {v : Value} {rest : List Value} (h : GrR W v [(awI, rest)]) : Calls Tryz.prog 14 #[v, .agg #[.int .u8 9, .int .u8 0, .int .u8 0, .int .u8 0, .int .u8 0, .int .u8 0, .int .u8 0, .int .u8 0]] W fun e w' => e = .returned (.int .i64 (-1)) ∧ Upd NoF W w' := by
  have q := Find_any h.row (nm 9) rfl
  rw [show findS (List.map (fun x => x.1) (List.map (fun x => (x.1.name, x.2)) [(awI, rest)])) (nm 9) = -1 from aw_find9] at q
  exact q
theorem aw_call20 {W : World} {A : Option Addr} {c : Nat} {rest : List Value} {zn : Array Value} (h : GrR W (.slice A 1 c) [(awI, rest)]) (hz : (awI.name.map byteV).toArray = zn) : Calls Tryz.prog 20 #[.slice A 1 c, .agg zn] W fun e w' => ∃ A' c', e = .returned (.slice A' 1 c') ∧ Upd NoF W w' := by
  subst hz
  refine (itemsPath_any rfl h (aw_few rest) (hsum_len _) : Calls _ _ #[_, nameV awI.name] _ _).mono ?_
  rintro e w' ⟨seen, A', c', hd, rfl, -, hu⟩
  rw [aw_path hd]
  exact ⟨A', c', rfl, hu⟩
theorem aw_call16 {W : World} {A : Option Addr} {c : Nat} {rest : List Value} {zn : Array Value} (h : GrR W (.slice A 1 c) [(awI, rest)]) (hz : (awI.name.map byteV).toArray = zn) : Calls Tryz.prog 16 #[.slice A 1 c, .agg zn] W fun e w' => ∃ A' c', e = .returned (.slice A' 0 c') ∧ Upd NoF W w' := by
  subst hz
  refine (itemsAncestors_any rfl h (aw_few rest) (hsum_len _) : Calls _ _ #[_, nameV awI.name] _ _).mono ?_
  rintro e w' ⟨res, A', c', hd, rfl, -, hu⟩
  have : res = [] := aw_anc hd
  subst this
  exact ⟨A', c', rfl, hu⟩
theorem aw_tr {rest : List Value} {ra : Array Value} {i : Nat} {u : Value} (hr : (itemC awI.name rest).toArray = ra) (h : (itemC awI.name rest).toArray[i]? = some u) : ra[i]? = some u := by rw [← hr]; exact h
theorem aw_txt {W : World} {g : Nat} (h : Blk W g 5 #[.int .u8 3]) : Rd W 1 (.slice (some ⟨g, 0, none⟩) 1 1) ([3] : List UInt8).length (([3] : List UInt8).map byteV) :=
  Rd.of_blk h (Nat.le_refl _) (by decide) rfl fun j u hu => by
    match j, hu with
    | 0, hu => exact hu
    | j + 1, hu => cases hu
theorem aw_nm {W : World} {g : Nat} {rest : List Value} {ra : Array Value} (hr : (itemC awI.name rest).toArray = ra) (h : Blk W g 38 ra) : W.rangeAt g 0 (awI.name.map byteV) := by
  subst hr
  intro j u hu
  have hj := (List.getElem?_eq_some_iff.1 hu).1
  rw [h.cell]
  simpa [itemC, List.getElem?_append_left hj] using hu
theorem aw_arr8 : ∃ z0 z1 z2 z3 z4 z5 z6 z7, (awI.name.map byteV).toArray = #[z0, z1, z2, z3, z4, z5, z6, z7] := by
  have h : awI.name.length = 8 := hsum_len _
  revert h
  generalize awI.name = n
  intro h
  match n, h with
  | [b0, b1, b2, b3, b4, b5, b6, b7], _ => exact ⟨_, _, _, _, _, _, _, _, rfl⟩
theorem aw_cells {W : World} {g : Nat} {rest : List Value} {ra : Array Value} {z0 z1 z2 z3 z4 z5 z6 z7 : Value} (hz : (awI.name.map byteV).toArray = #[z0, z1, z2, z3, z4, z5, z6, z7]) (hr : (itemC awI.name rest).toArray = ra) (h : Blk W g 38 ra) :
    W.cell? ⟨g, 0, none⟩ = some z0 ∧ W.cell? ⟨g, 1, none⟩ = some z1 ∧ W.cell? ⟨g, 2, none⟩ = some z2 ∧ W.cell? ⟨g, 3, none⟩ = some z3 ∧ W.cell? ⟨g, 4, none⟩ = some z4 ∧ W.cell? ⟨g, 5, none⟩ = some z5 ∧ W.cell? ⟨g, 6, none⟩ = some z6 ∧ W.cell? ⟨g, 7, none⟩ = some z7 := by
  have hl : awI.name.map byteV = [z0, z1, z2, z3, z4, z5, z6, z7] := by simpa using congrArg Array.toList hz
  have hr := aw_nm hr h
  rw [hl] at hr
  exact ⟨hr 0 _ rfl, by simpa using hr 1 _ rfl, by simpa using hr 2 _ rfl, by simpa using hr 3 _ rfl, by simpa using hr 4 _ rfl, by simpa using hr 5 _ rfl, by simpa using hr 6 _ rfl, by simpa using hr 7 _ rfl⟩
theorem aw_c20 {rest : List Value} {u : Value} (h : rest[12]? = some u) : (itemC awI.name rest).toArray[20]? = some u := by
  have h8 : awI.name.length = 8 := hsum_len _
  rw [List.getElem?_toArray]
  unfold itemC
  rw [List.getElem?_append_right (by rw [List.length_map, h8]; omega), List.length_map, h8]
  exact h
theorem aw_c8 {rest : List Value} {u : Value} (h : rest[0]? = some u) : (itemC awI.name rest).toArray[8]? = some u := by
  have h8 : awI.name.length = 8 := hsum_len _
  rw [List.getElem?_toArray]
  unfold itemC
  rw [List.getElem?_append_right (by rw [List.length_map, h8]; omega), List.length_map, h8]
  exact h
theorem aw_blk {zn : Array Value} {A : Option Addr} (hz : (awI.name.map byteV).toArray = zn) (w : World) : (Instr.build 67 #[(0, .agg zn), (1, .slice A 4 4)]).run Tryz.prog w = .ok (.agg (blkC awI.name (.slice A 4 4)).toArray) w := by
  subst hz
  exact build_blk (hsum_len _) A 4 4 w
end
end Go.Proofs.YtengcmfdfmnacaaGreat
