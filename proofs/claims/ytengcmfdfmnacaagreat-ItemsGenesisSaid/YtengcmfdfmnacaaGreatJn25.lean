/- items.Graph.Path. Conditions: sizes. items.NewGraph. Conditions: sizes. items.Ancestors, items.IsAncestor, items.Path. Conditions: sizes. items.(*Reader).Block of a block whose parent is not among the items. No condition. -/
import Derived.Test.YtengcmfdfmnacaaGreatJn18
import Derived.Test.YtengcmfdfmnacaaGreatJn24
import Derived.Test.YtengcmfdfmnacaaGreatJn13
import Derived.Test.YtengcmfdfmnacaaGreatJn12
namespace Go.Proofs.YtengcmfdfmnacaaGreat
section
open Go.RowKit Go.Shelf Go.Lib

set_option maxRecDepth 100000 in
set_option maxHeartbeats 8000000 in
theorem grPath_any {w : World} {A : Option Addr} {n c r : Nat} {its : List (ItP × List Value)} {nm0 : List UInt8} (hn : its.length = n) (h : GrR w (.slice A n c) its) (hr : NmI w r (its.map (·.1.name))) (hm : its.length ≤ 1000) (h8 : nm0.length = 8) :
    Calls Tryz.prog 49 #[.agg #[.slice A n c, .map (some r)], nameV nm0] w fun e w' => ∃ seen A' cc, Dwn (its.map (·.1)) nm0 [] seen ∧ e = .returned (.slice A' seen.length cc) ∧ NwA w.heap.size 28 8 seen.length (rowsN seen.reverse) A' cc w' ∧ Upd NoF w w' ∧ All8 seen ∧ seen.length ≤ 1000 := by
  obtain ⟨i0, hi0, hz0, hz1, hz2⟩ := info_parts name_info
  have HNI := Lib.hid hn
  have HG := Lib.hid h
  have HITS := Lib.hid hm
  have IA := Lib.hid item_alloc
  have IO := Lib.hid itZ_one
  have IS := Lib.hid (show (Tryz.prog.info? 38).map (·.size) = some itZ.size from by rw [itZ_size, item_size])
  have CGM := Lib.hid (fun W nm (hu : Upd NoF w W) (hf : (its.map (·.1.name)).findIdx? (fun y => y = nm) = none) (h8 : nm.length = 8) => grItem_miss (w := W) (A := A) (n := n) (c := c) (hr.keep hu) hf h8)
  obtain ⟨iz, hiz⟩ : ∃ x, itZ = x := ⟨_, rfl⟩
  rw [hiz] at IA IO IS CGM
  have HI8 := Lib.hid (show iz.size = 28 from by rw [← hiz]; exact itZ_size)
  have CGH := Lib.hid (fun W nm k x (hu : Upd NoF w W) (hk : its[k]? = some x) (hf : (its.map (·.1.name)).findIdx? (fun y => y = nm) = some k) (h8 : nm.length = 8) => grItem_hit (w := W) hn (h.keep hu) (hr.keep hu) hk hf h8)
  have HBS := Lib.hid (fun (n : List UInt8) (hn : n.length = 8) (za : Array Value) (hz : (n.map byteV).toArray = za) w => bs_name hn hz w)
  obtain ⟨nb0, hnb0⟩ : ∃ y, (nm0.map byteV).toArray = y := ⟨_, rfl⟩
  have HNB0 := Lib.hid hnb0
  have H80 := Lib.hid h8
  rw [show nameV nm0 = .agg nb0 from congrArg Value.agg hnb0]
  clear hn h hr hm hiz h8 hnb0
  go_enter Tryz.func49, Tryz.ntmps49
  go_wp2_with (first
    | (refine wl_box rfl 89 (.tmp 0) rfl #[.slice A n c, .map (some r)] (by rfl) ?_; intro w0 hb0 hu0 hs0; have BG := Lib.hid hb0; have V0 := Lib.hid hu0; have S0 := Lib.hid hs0; clear hb0 hu0 hs0)
    | (refine wl_box rfl 28 (.tmp 1) rfl nb0 (by rfl) ?_; intro w1 hb1 hu1 hs1; have BN := Lib.hid hb1; have S1 := Lib.hid hs1; replace BG := Lib.hid (hu1.blk BG.out (fun f => f)); have V1 := Lib.hid (V0.out.trans hu1 (fun _ _ f => f)); clear hb1 hu1 hs1)
    | (refine wl_makeMap0 rfl 86 rfl ?_; intro w2 hm2 hu2 hs2; have M2 := Lib.hid hm2; have S2 := Lib.hid hs2; replace BG := Lib.hid (hu2.blk BG.out (fun f => f)); replace BN := Lib.hid (hu2.blk BN.out (fun f => f)); have V2 := Lib.hid (V1.out.trans hu2 (fun _ _ f => f)); clear hm2 hu2 hs2))
  obtain ⟨X, hX⟩ : ∃ x, w.heap.size = x := ⟨_, rfl⟩
  obtain ⟨NB, hNB⟩ : ∃ x, w0.heap.size = x := ⟨_, rfl⟩
  obtain ⟨R, hR⟩ : ∃ x, w1.heap.size = x := ⟨_, rfl⟩
  rw [hX] at BG S0 ⊢
  rw [hNB] at BN S0 S1 ⊢
  rw [hR] at M2 S1 S2 ⊢
  have HX := Lib.hid hX
  have HNX := Lib.hid (show NB = X + 1 from S0.out)
  have HRX := Lib.hid (show R = X + 2 from by have := S1.out; have := HNX.out; omega)
  have N2 := Lib.hid (show NwA (X + 3) 28 8 0 (rowsN []) none 0 w2 from NwA.nil _ _ _ _)
  clear hX hNB hR V0 V1 S0 S1 S2
  go_loopg [5] its.length (fun kx s5 wr => ∃ (nm : List UInt8) (seen : List (List UInt8)) (A' : Option Addr) (m cc : Nat), s5 = .slice A' m cc ∧ unseen (its.map (·.1)) seen ≤ kx ∧ Hid (nm.length = 8) ∧ Hid (Blk wr NB 28 (nm.map byteV).toArray) ∧ Hid (m + unseen (its.map (·.1)) seen ≤ its.length) ∧ Hid (seen.length = m) ∧ Hid (NwA (X + 3) 28 8 m (rowsN seen) A' cc wr) ∧ Hid (MapN wr R (setE seen)) ∧ Hid (Blk wr X 89 #[.slice A n c, .map (some r)]) ∧ Hid (Upd NoF w wr) ∧ Hid (∀ fin, Dwn (its.map (·.1)) nm seen fin → Dwn (its.map (·.1)) nm0 [] fin))
  case atStart => exact ⟨nm0, [], none, 0, 0, rfl, by have := unseen_le (its.map (·.1)) []; rw [List.length_map] at this; exact this, H80, Lib.hid (by rw [HNB0.out]; exact BN.out), Lib.hid (by have := unseen_le (its.map (·.1)) []; rw [List.length_map] at this; omega), Lib.hid rfl, N2, M2, BG, V2, Lib.hid (fun _ h => h)⟩
  case round =>
    clear N2 M2 BG BN V2
    obtain ⟨nm, seen, A', m, cc, rfl, hkx, H8N, HBN0, HMU, HSL, HN, HM, HBG, HU, HCL⟩ := hrel
    obtain ⟨nb, hnb⟩ : ∃ y, (nm.map byteV).toArray = y := ⟨_, rfl⟩
    have HNB := Lib.hid hnb
    have HBN := Lib.hid (show Blk wr NB 28 nb from by rw [← hnb]; exact HBN0.out)
    have HMB := Lib.hid (show m ≤ 1000 from by have := HMU.out; have := HITS.out; omega)
    have HS8 := Lib.hid (show All8 seen from fun y hy => HM.out.k8 (y, .bool true) (List.mem_map.2 ⟨y, hy, rfl⟩))
    have HRL := Lib.hid HM.out.lt
    have HB1 := Lib.hid (show m + 1 ≤ maxLen ∧ (m + 1) * 8 ≤ 140737488355328 from by have := HMB.out; unfold maxLen; omega)
    clear hnb HBN0
    cases hfi : (its.map (·.1.name)).findIdx? (fun y => y = nm) with
    | none =>
      have HIO := Lib.hid (itemOf_miss hfi)
      have CG := Lib.hid (show ∀ W, Upd NoF wr W → Calls Tryz.prog 79 #[.agg #[.slice A n c, .map (some r)], .agg nb] W (fun e w' => e = .returned (.tuple #[.agg iz, .bool false]) ∧ Upd NoF W w') from fun W hu => by have := CGM.out W nm (HU.out.trans hu (fun _ _ f => f)) hfi H8N.out; rw [show nameV nm = .agg nb from congrArg Value.agg HNB.out] at this; exact this)
      clear hfi
      go_wp2_with (first
        | (refine wl_load rfl 89 (.tmp 2) rfl X 0 (by rfl) [.slice A n c, .map (some r)] _ (range_blk HBG.out) Tryz.underlying89 rfl graph_size _ rfl ?_)
        | (refine wl_load rfl 28 (.tmp 3) rfl NB 0 (by rfl) (nm.map byteV) _ (name_cells HNB.out HBN.out) Tryz.underlying28 rfl (by rw [name_size]; simp [H8N.out]) nb HNB.out ?_)
        | (refine (CG.out wr (Upd.refl _ _)).mono ?_; rintro e w5 ⟨rfl, hu5⟩; have U5 := Lib.hid hu5; clear hu5)
        | (refine wpList_alloc_row rfl 38 rfl iz IA.out ?_; intro w6 hb6 hu6 hs6; have B6 := Lib.hid hb6; have U6 := Lib.hid (U5.out.trans hu6 (fun _ _ f => f)); clear hb6 hu6 hs6)
        | (refine wpList_store_row rfl 38 (.tmp 7) (.tmp 14) rfl w5.heap.size (by rfl) iz (by rfl) 38 _ B6.out rfl IS.out IO.out ?_; intro w7 hb7 hu7 hs7; have B7 := Lib.hid hb7; have SZ5 := Lib.hid U5.out.size; have U7 := Lib.hid (U6.out.trans hu7 (F := NoF) (fun j hj e => by have e : j = w5.heap.size := e; have := SZ5.out; omega)); clear hb7 hu7 hs7)
        | (refine (ReverseNames_any HS8.out HSL.out (HN.out.1.upd U7.out (fun _ _ f => f)) (by have := HMB.out; omega)).mono ?_; rintro e w12 ⟨rfl, ho12, hu12⟩; have O12 := Lib.hid ho12; have D12 := Lib.hid hu12; clear ho12 hu12))
      go_ret
      refine ⟨seen, A', cc, HCL.out _ (Dwn.stop (.inl HIO.out)), by rw [HSL.out]; rfl, ?_, (HU.out.trans U7.out (fun _ _ f => f)).trans D12.out (fun j hj f => by have := HN.out.2 j f; have := HX.out; omega), HS8.out, by have := HMB.out; rw [HSL.out]; omega⟩
      rw [HSL.out]
      exact ⟨O12.out, fun j hj => by have := HN.out.2 j hj; have := HX.out; omega⟩
    | some ki =>
      obtain ⟨x, hxk, hxn, hio⟩ := itemOf_hit hfi
      have HIO := Lib.hid hio
      have HXM := Lib.hid (List.mem_of_getElem? hxk)
      have HOK := Lib.hid (HG.out.ok x HXM.out)
      obtain ⟨ra, hra⟩ : ∃ y, (itemC x.1.name x.2).toArray = y := ⟨_, rfl⟩
      have HRA := Lib.hid hra
      have HR8 := Lib.hid (show ra.size = 28 from by rw [← hra]; simpa using itemC_len HOK.out)
      have HRO := Lib.hid (show ra.all (·.oneCell') = true from by rw [← hra]; exact itemC_one HOK.out)
      have CG := Lib.hid (show ∀ W, Upd NoF wr W → Calls Tryz.prog 79 #[.agg #[.slice A n c, .map (some r)], .agg nb] W (fun e w' => e = .returned (.tuple #[.agg ra, .bool true]) ∧ Upd NoF W w') from fun W hu => by have := CGH.out W nm ki x (HU.out.trans hu (fun _ _ f => f)) hxk hfi H8N.out; rw [show nameV nm = .agg nb from congrArg Value.agg HNB.out, HRA.out] at this; exact this)
      clear hfi hxk hio
      by_cases hse : nm ∈ seen
      · have HSE := Lib.hid hse
        have HGT := Lib.hid (setE_in hse)
        clear hse hra
        go_wp2_with (first
        | (refine wl_load rfl 89 (.tmp 2) rfl X 0 (by rfl) [.slice A n c, .map (some r)] _ (range_blk HBG.out) Tryz.underlying89 rfl graph_size _ rfl ?_)
        | (refine wl_load rfl 28 (.tmp 3) rfl NB 0 (by rfl) (nm.map byteV) _ (name_cells HNB.out HBN.out) Tryz.underlying28 rfl (by rw [name_size]; simp [H8N.out]) nb HNB.out ?_)
        | (refine (CG.out wr (Upd.refl _ _)).mono ?_; rintro e w5 ⟨rfl, hu5⟩; have U5 := Lib.hid hu5; clear hu5)
        | (refine wpList_alloc_row rfl 38 rfl iz IA.out ?_; intro w6 hb6 hu6 hs6; have B6 := Lib.hid hb6; have U6 := Lib.hid (U5.out.trans hu6 (fun _ _ f => f)); clear hb6 hu6 hs6)
        | (refine wpList_store_row rfl 38 (.tmp 7) (.tmp 14) rfl w5.heap.size (by rfl) ra (by rfl) 38 _ B6.out (by rw [HI8.out, HR8.out]) (by rw [item_size, HR8.out]) HRO.out ?_; intro w7 hb7 hu7 hs7; have B7 := Lib.hid hb7; have SZ5 := Lib.hid U5.out.size; have U7 := Lib.hid (U6.out.trans hu7 (F := NoF) (fun j hj e => by have e : j = w5.heap.size := e; have := SZ5.out; omega)); clear hb7 hu7 hs7)
        | (refine wl_load rfl 28 (.tmp 3) rfl NB 0 (by rfl) (nm.map byteV) _ (name_cells HNB.out (U7.out.blk HBN.out (fun f => f))) Tryz.underlying28 rfl (by rw [name_size]; simp [H8N.out]) nb HNB.out ?_)
        | (refine wl_lookup rfl 86 _ (.tmp 19) (.tmp 20) false rfl (by rfl) (by rfl) HNB.out H8N.out (HM.out.keep U7.out) Tryz.underlying86 (.bool false) (fun w => by kernel_rfl) (.bool true) (by rw [HGT.out]; rfl) ?_)
        | (refine (ReverseNames_any HS8.out HSL.out (HN.out.1.upd U7.out (fun _ _ f => f)) (by have := HMB.out; omega)).mono ?_; rintro e w12 ⟨rfl, ho12, hu12⟩; have O12 := Lib.hid ho12; have D12 := Lib.hid hu12; clear ho12 hu12))
        go_ret
        refine ⟨seen, A', cc, HCL.out _ (Dwn.stop (.inr HSE.out)), by rw [HSL.out]; rfl, ?_, (HU.out.trans U7.out (fun _ _ f => f)).trans D12.out (fun j hj f => by have := HN.out.2 j f; have := HX.out; omega), HS8.out, by have := HMB.out; rw [HSL.out]; omega⟩
        rw [HSL.out]
        exact ⟨O12.out, fun j hj => by have := HN.out.2 j hj; have := HX.out; omega⟩
      · have HSE := Lib.hid hse
        have HGT := Lib.hid (setE_out hse)
        have HUS := Lib.hid (unseen_take HIO.out hse)
        obtain ⟨kd, hkd⟩ : ∃ kd, x.1.kind = kd := ⟨_, rfl⟩
        have HKD := Lib.hid hkd
        have CK := Lib.hid (show ra[8]? = some (.int .i64 kd) from by have := item_cell hra HOK.out HOK.out.kind; rw [hkd] at this; exact this)
        have HS81 := Lib.hid (show All8 (seen ++ [nm]) from fun y hy => by rcases List.mem_append.1 hy with hy | hy; (· exact HS8.out y hy); rw [List.mem_singleton.1 hy]; exact H8N.out)
        have HSL1 := Lib.hid (show (seen ++ [nm]).length = m + 1 from by rw [List.length_append, HSL.out]; rfl)
        clear hse hra hkd
        by_cases hk1 : kd = 1
        · subst hk1
          go_wp2_with (first
        | (refine wl_load rfl 89 (.tmp 2) rfl X 0 (by rfl) [.slice A n c, .map (some r)] _ (range_blk HBG.out) Tryz.underlying89 rfl graph_size _ rfl ?_)
        | (refine wl_load rfl 28 (.tmp 3) rfl NB 0 (by rfl) (nm.map byteV) _ (name_cells HNB.out HBN.out) Tryz.underlying28 rfl (by rw [name_size]; simp [H8N.out]) nb HNB.out ?_)
        | (refine (CG.out wr (Upd.refl _ _)).mono ?_; rintro e w5 ⟨rfl, hu5⟩; have U5 := Lib.hid hu5; clear hu5)
        | (refine wpList_alloc_row rfl 38 rfl iz IA.out ?_; intro w6 hb6 hu6 hs6; have B6 := Lib.hid hb6; have U6 := Lib.hid (U5.out.trans hu6 (fun _ _ f => f)); clear hb6 hu6 hs6)
        | (refine wpList_store_row rfl 38 (.tmp 7) (.tmp 14) rfl w5.heap.size (by rfl) ra (by rfl) 38 _ B6.out (by rw [HI8.out, HR8.out]) (by rw [item_size, HR8.out]) HRO.out ?_; intro w7 hb7 hu7 hs7; have B7 := Lib.hid hb7; have SZ5 := Lib.hid U5.out.size; have U7 := Lib.hid (U6.out.trans hu7 (F := NoF) (fun j hj e => by have e : j = w5.heap.size := e; have := SZ5.out; omega)); clear hb7 hu7 hs7)
        | (refine wl_load rfl 28 (.tmp 3) rfl NB 0 (by rfl) (nm.map byteV) _ (name_cells HNB.out (U7.out.blk HBN.out (fun f => f))) Tryz.underlying28 rfl (by rw [name_size]; simp [H8N.out]) nb HNB.out ?_)
        | (refine wl_lookup rfl 86 _ (.tmp 19) (.tmp 20) false rfl (by rfl) (by rfl) HNB.out H8N.out (HM.out.keep U7.out) Tryz.underlying86 (.bool false) (fun w => by kernel_rfl) (.bool false) (by rw [HGT.out]; rfl) ?_)
        | (refine wl_insert rfl 86 _ (.tmp 23) (.tmp 24) (.const (.bool true)) rfl (by rfl) (by rfl) HNB.out (by rfl) H8N.out (HM.out.keep U7.out) Tryz.underlying86 HGT.out ?_; intro w8 hm8 hu8 hs8; have M8 := Lib.hid hm8; have B8 := Lib.hid (hu8.blk B7.out (fun f => by have f : w5.heap.size = R := f; have := SZ5.out; have := HRL.out; omega)); have D8 := Lib.hid (show Upd (fun k => k = R) wr w8 from (U7.out.mono (fun _ _ f => f.elim)).trans hu8 (fun _ _ f => f)); have HBN8 := Lib.hid (D8.out.blk HBN.out (fun f => by have f : NB = R := f; have := HNX.out; have := HRX.out; omega)); have O8 := Lib.hid (HN.out.1.upd D8.out (fun k hk f => by have := HN.out.2 k hk; have f : k = R := f; have := HRX.out; omega)); have ck := (hu8.blk B7.out (fun f => by have f : w5.heap.size = R := f; have := SZ5.out; have := HRL.out; omega)).cell 8 |>.trans CK.out; clear hm8 hu8 hs8)
        | (refine wl_load rfl 28 (.tmp 3) rfl NB 0 (by rfl) (nm.map byteV) _ (name_cells HNB.out HBN8.out) Tryz.underlying28 rfl (by rw [name_size]; simp [H8N.out]) nb HNB.out ?_)
        | (refine wpList_bsRow rfl 22 28 (.tmp 26) rfl (.agg nb) (by rfl) nb (HBS.out _ H8N.out _ HNB.out _) ?_; intro w9 hb9 hu9 hs9; have B9 := Lib.hid hb9; have U9 := Lib.hid hu9; clear hb9 hu9 hs9)
        | (at_builtin; refine wpList_append_to _ rfl (.tmp 25) (.tmp 27) 22 rfl 28 i0 _ 8 8 Tryz.underlying22 hi0 hz0 hz1 hz2 (by kernel_rfl) (.slice A' m cc) m (rowsN seen) (by rfl) (O8.out.upd U9.out (fun _ _ f => f)) (.slice (some ⟨w8.heap.size, 0, none⟩) 1 1) 1 (nm.map byteV) (by rfl) (rd_name H8N.out HNB.out B9.out) (name_ones _) HB1.out.1 HB1.out.2 ?_; intro A10 c10 w10 hown hupd hnew; have O10 := Lib.hid hown; have HDX := Lib.hid (fun j (f : OwnB (.slice A' m cc) j) => HN.out.2 j f); have E10 := Lib.hid (show Upd (fun k => k = R ∨ OwnB (.slice A' m cc) k) wr w10 from (((D8.out.mono (G := fun k => k = R ∨ OwnB (.slice A' m cc) k) (fun _ _ f => .inl f))).trans U9.out (fun _ _ f => f.elim)).trans hupd (fun _ _ f => .inr f)); have HBN10 := Lib.hid (E10.out.blk HBN.out (fun f => by rcases f with f | f; (· have f : NB = R := f; have := HNX.out; have := HRX.out; omega); have := HDX.out NB f; have := HNX.out; omega)); have HBG10 := Lib.hid (E10.out.blk HBG.out (fun f => by rcases f with f | f; (· have f : X = R := f; have := HRX.out; omega); have := HDX.out X f; omega)); have SZW := Lib.hid (show wr.heap.size ≤ w8.heap.size from D8.out.size); have B10 := Lib.hid (hupd.blk (U9.out.blk B8.out (fun f => f)) (fun f => by have := HN.out.1.lt f; have := SZ5.out; omega)); have ck10 := (hupd.blk (U9.out.blk B8.out (fun f => f)) (fun f => by have := HN.out.1.lt f; have := SZ5.out; omega)).cell 8 |>.trans CK.out; have M10 := Lib.hid ((M8.out.keep U9.out).upd hupd (fun f => by have := HDX.out R f; have := HRX.out; omega)); have N10 := Lib.hid (show ∀ j, OwnB (.slice A10 (m + 1) c10) j → X + 3 ≤ j from fun j hj => by rcases hnew j hj with f | f; (· exact HDX.out j f); have := U9.out.size; have := SZW.out; have := HRL.out; have := HRX.out; omega); clear hown hupd hnew)
        | (refine (ReverseNames_any HS81.out HSL1.out (by rw [rowsN_snoc]; exact O10.out) (by have := HMB.out; omega)).mono ?_; rintro e w12 ⟨rfl, ho12, hu12⟩; have O12 := Lib.hid ho12; have D12 := Lib.hid hu12; clear ho12 hu12))
          go_ret
          have HW12 := (HU.out.trans E10.out (F := NoF) (fun j hj f => by rcases f with f | f; (· have f : j = R := f; have := HRX.out; have := HX.out; omega); have := HDX.out j f; have := HX.out; omega)).trans D12.out (F := NoF) (fun j hj f => by have := N10.out j f; have := HX.out; omega)
          refine ⟨seen ++ [nm], A10, c10, HCL.out _ (Dwn.root HIO.out HSE.out HKD.out), by rw [HSL1.out]; rfl, ?_, HW12, HS81.out, by have := HMU.out; have := HUS.out; have := HITS.out; rw [HSL1.out]; omega⟩
          rw [HSL1.out]
          exact ⟨O12.out, fun j hj => by have := N10.out j hj; have := HX.out; omega⟩
        · have t1 : decide (kd = 1) = false := by simpa using hk1
          obtain ⟨pb, hpb⟩ : ∃ y, (x.1.parent.map byteV).toArray = y := ⟨_, rfl⟩
          have HPB := Lib.hid hpb
          have HK1 := Lib.hid hk1
          clear hpb
          go_wp2_with (first
        | (refine wl_load rfl 89 (.tmp 2) rfl X 0 (by rfl) [.slice A n c, .map (some r)] _ (range_blk HBG.out) Tryz.underlying89 rfl graph_size _ rfl ?_)
        | (refine wl_load rfl 28 (.tmp 3) rfl NB 0 (by rfl) (nm.map byteV) _ (name_cells HNB.out HBN.out) Tryz.underlying28 rfl (by rw [name_size]; simp [H8N.out]) nb HNB.out ?_)
        | (refine (CG.out wr (Upd.refl _ _)).mono ?_; rintro e w5 ⟨rfl, hu5⟩; have U5 := Lib.hid hu5; clear hu5)
        | (refine wpList_alloc_row rfl 38 rfl iz IA.out ?_; intro w6 hb6 hu6 hs6; have B6 := Lib.hid hb6; have U6 := Lib.hid (U5.out.trans hu6 (fun _ _ f => f)); clear hb6 hu6 hs6)
        | (refine wpList_store_row rfl 38 (.tmp 7) (.tmp 14) rfl w5.heap.size (by rfl) ra (by rfl) 38 _ B6.out (by rw [HI8.out, HR8.out]) (by rw [item_size, HR8.out]) HRO.out ?_; intro w7 hb7 hu7 hs7; have B7 := Lib.hid hb7; have SZ5 := Lib.hid U5.out.size; have U7 := Lib.hid (U6.out.trans hu7 (F := NoF) (fun j hj e => by have e : j = w5.heap.size := e; have := SZ5.out; omega)); clear hb7 hu7 hs7)
        | (refine wl_load rfl 28 (.tmp 3) rfl NB 0 (by rfl) (nm.map byteV) _ (name_cells HNB.out (U7.out.blk HBN.out (fun f => f))) Tryz.underlying28 rfl (by rw [name_size]; simp [H8N.out]) nb HNB.out ?_)
        | (refine wl_lookup rfl 86 _ (.tmp 19) (.tmp 20) false rfl (by rfl) (by rfl) HNB.out H8N.out (HM.out.keep U7.out) Tryz.underlying86 (.bool false) (fun w => by kernel_rfl) (.bool false) (by rw [HGT.out]; rfl) ?_)
        | (refine wl_insert rfl 86 _ (.tmp 23) (.tmp 24) (.const (.bool true)) rfl (by rfl) (by rfl) HNB.out (by rfl) H8N.out (HM.out.keep U7.out) Tryz.underlying86 HGT.out ?_; intro w8 hm8 hu8 hs8; have M8 := Lib.hid hm8; have B8 := Lib.hid (hu8.blk B7.out (fun f => by have f : w5.heap.size = R := f; have := SZ5.out; have := HRL.out; omega)); have D8 := Lib.hid (show Upd (fun k => k = R) wr w8 from (U7.out.mono (fun _ _ f => f.elim)).trans hu8 (fun _ _ f => f)); have HBN8 := Lib.hid (D8.out.blk HBN.out (fun f => by have f : NB = R := f; have := HNX.out; have := HRX.out; omega)); have O8 := Lib.hid (HN.out.1.upd D8.out (fun k hk f => by have := HN.out.2 k hk; have f : k = R := f; have := HRX.out; omega)); have ck := (hu8.blk B7.out (fun f => by have f : w5.heap.size = R := f; have := SZ5.out; have := HRL.out; omega)).cell 8 |>.trans CK.out; clear hm8 hu8 hs8)
        | (refine wl_load rfl 28 (.tmp 3) rfl NB 0 (by rfl) (nm.map byteV) _ (name_cells HNB.out HBN8.out) Tryz.underlying28 rfl (by rw [name_size]; simp [H8N.out]) nb HNB.out ?_)
        | (refine wpList_bsRow rfl 22 28 (.tmp 26) rfl (.agg nb) (by rfl) nb (HBS.out _ H8N.out _ HNB.out _) ?_; intro w9 hb9 hu9 hs9; have B9 := Lib.hid hb9; have U9 := Lib.hid hu9; clear hb9 hu9 hs9)
        | (at_builtin; refine wpList_append_to _ rfl (.tmp 25) (.tmp 27) 22 rfl 28 i0 _ 8 8 Tryz.underlying22 hi0 hz0 hz1 hz2 (by kernel_rfl) (.slice A' m cc) m (rowsN seen) (by rfl) (O8.out.upd U9.out (fun _ _ f => f)) (.slice (some ⟨w8.heap.size, 0, none⟩) 1 1) 1 (nm.map byteV) (by rfl) (rd_name H8N.out HNB.out B9.out) (name_ones _) HB1.out.1 HB1.out.2 ?_; intro A10 c10 w10 hown hupd hnew; have O10 := Lib.hid hown; have HDX := Lib.hid (fun j (f : OwnB (.slice A' m cc) j) => HN.out.2 j f); have E10 := Lib.hid (show Upd (fun k => k = R ∨ OwnB (.slice A' m cc) k) wr w10 from (((D8.out.mono (G := fun k => k = R ∨ OwnB (.slice A' m cc) k) (fun _ _ f => .inl f))).trans U9.out (fun _ _ f => f.elim)).trans hupd (fun _ _ f => .inr f)); have HBN10 := Lib.hid (E10.out.blk HBN.out (fun f => by rcases f with f | f; (· have f : NB = R := f; have := HNX.out; have := HRX.out; omega); have := HDX.out NB f; have := HNX.out; omega)); have HBG10 := Lib.hid (E10.out.blk HBG.out (fun f => by rcases f with f | f; (· have f : X = R := f; have := HRX.out; omega); have := HDX.out X f; omega)); have SZW := Lib.hid (show wr.heap.size ≤ w8.heap.size from D8.out.size); have B10 := Lib.hid (hupd.blk (U9.out.blk B8.out (fun f => f)) (fun f => by have := HN.out.1.lt f; have := SZ5.out; omega)); have ck10 := (hupd.blk (U9.out.blk B8.out (fun f => f)) (fun f => by have := HN.out.1.lt f; have := SZ5.out; omega)).cell 8 |>.trans CK.out; have M10 := Lib.hid ((M8.out.keep U9.out).upd hupd (fun f => by have := HDX.out R f; have := HRX.out; omega)); have N10 := Lib.hid (show ∀ j, OwnB (.slice A10 (m + 1) c10) j → X + 3 ≤ j from fun j hj => by rcases hnew j hj with f | f; (· exact HDX.out j f); have := U9.out.size; have := SZW.out; have := HRL.out; have := HRX.out; omega); clear hown hupd hnew)
        | (refine wl_load rfl 28 (.tmp 32) rfl w5.heap.size 10 (by rfl) (x.1.parent.map byteV) _ (item_par HRA.out B10.out HOK.out) Tryz.underlying28 rfl (by rw [name_size]; simp [HOK.out.fit.parent]) pb HPB.out ?_)
        | (refine wpList_store_row rfl 28 (.tmp 3) (.tmp 33) rfl NB (by rfl) pb (by rfl) 28 _ HBN10.out (by rw [(name_arr H8N.out HNB.out).1, (name_arr HOK.out.fit.parent HPB.out).1]) (by rw [name_size, (name_arr HOK.out.fit.parent HPB.out).1]) (name_arr HOK.out.fit.parent HPB.out).2 ?_; intro w11 hb11 hu11 hs11; have B11 := Lib.hid hb11; have D11 := Lib.hid hu11; clear hb11 hu11 hs11))
          go_roundg (unseen (its.map (·.1)) (seen ++ [nm]))
          case measure => have := HUS.out; omega
          case rel =>
            have e10 : Upd NoF w w10 := HU.out.trans E10.out (F := NoF) (fun j hj f => by rcases f with f | f; (· have f : j = R := f; have := HRX.out; have := HX.out; omega); have := HDX.out j f; have := HX.out; omega)
            refine ⟨x.1.parent, seen ++ [nm], A10, m + 1, c10, rfl, Nat.le_refl _, Lib.hid HOK.out.fit.parent, Lib.hid (by rw [HPB.out]; exact B11.out), Lib.hid (by have := HMU.out; have := HUS.out; omega), HSL1, Lib.hid ⟨?_, N10.out⟩, Lib.hid ?_, Lib.hid (D11.out.blk HBG10.out (fun f => by have f : X = NB := f; have := HNX.out; omega)), Lib.hid (e10.trans D11.out (fun j hj f => by have f : j = NB := f; have := HNX.out; have := HX.out; omega)), Lib.hid (fun fin hc => HCL.out fin (Dwn.step HIO.out HSE.out (by rw [HKD.out]; exact HK1.out) hc))⟩
            · rw [rowsN_snoc]
              exact O10.out.upd D11.out (fun k hk f => by have := N10.out k hk; have f : k = NB := f; have := HNX.out; omega)
            · rw [setE_snoc]
              exact M10.out.upd D11.out (fun f => by have f : R = NB := f; have := HNX.out; have := HRX.out; omega)
end

section
open Go.RowKit Go.Shelf Go.Lib

/-- The map while it is filled: the first k items. -/
theorem NmI.next_old {w : World} {r : Nat} {names : List (List UInt8)} {k : Nat} {n : List UInt8} (h : NmI w r (names.take k)) (hk : names[k]? = some n) {i : Nat} (hi : (names.take k).findIdx? (fun x => x = n) = some i) : NmI w r (names.take (k + 1)) := by
  obtain ⟨es, h1, h2⟩ := h
  refine ⟨es, h1, fun m => ?_⟩
  obtain ⟨hlt, rfl⟩ := List.getElem?_eq_some_iff.1 hk
  rw [List.take_succ_eq_append_getElem hlt, findIdx_snoc, h2]
  by_cases hm : names[k] = m
  · subst hm; rw [hi]; rfl
  · rw [if_neg hm, Option.or_none]
theorem NmI.next_new {w' : World} {r : Nat} {names : List (List UInt8)} {k : Nat} {n : List UInt8} (hk : names[k]? = some n) {es : List (List UInt8 × Value)} (h2 : ∀ m, getT es m = ((names.take k).findIdx? (fun x => x = m)).map fun i => .int .i64 (i : Int)) (h1 : MapN w' r (es ++ [(n, .int .i64 (k : Int))])) (hn : (names.take k).findIdx? (fun x => x = n) = none) : NmI w' r (names.take (k + 1)) := by
  refine ⟨_, h1, fun m => ?_⟩
  obtain ⟨hlt, rfl⟩ := List.getElem?_eq_some_iff.1 hk
  rw [List.take_succ_eq_append_getElem hlt, findIdx_snoc, getT_snoc, h2, List.length_take, Nat.min_eq_left (Nat.le_of_lt hlt)]
  by_cases hm : names[k] = m
  · subst hm; rw [hn]; simp
  · rw [if_neg hm, if_neg hm]
    cases (names.take k).findIdx? (fun x => x = m) <;> rfl
set_option maxRecDepth 100000 in
set_option maxHeartbeats 8000000 in
theorem NewGraph_any {w : World} {A : Option Addr} {n c : Nat} {its : List (ItP × List Value)} (hn : its.length = n) (h : GrR w (.slice A n c) its) (hm : n ≤ 1000000) :
    Calls Tryz.prog 45 #[.slice A n c] w fun e w' => ∃ r, e = .returned (.agg #[.slice A n c, .map (some r)]) ∧ NmI w' r (its.map (·.1.name)) ∧ Upd NoF w w' := by
  have HN := Lib.hid hn
  have HG := Lib.hid h
  have IA := Lib.hid item_alloc
  have aE : ∀ w, (isAgg 38).run Tryz.prog w = .ok true w := fun w => by kernel_rfl
  have zE : ∀ w, (Go.sizeOf 38).run Tryz.prog w = .ok 28 w := fun w => by kernel_rfl
  obtain ⟨kk, hkk⟩ : ∃ k, k = 28 := ⟨_, rfl⟩
  have HK := Lib.hid hkk
  rw [← hkk] at zE
  obtain ⟨iz, hiz⟩ : ∃ x, itZ = x := ⟨_, rfl⟩
  rw [hiz] at IA
  have HI8 := Lib.hid (show iz.size = 28 from by rw [← hiz]; exact itZ_size)
  clear h hn hkk hiz
  go_enter Tryz.func45, Tryz.ntmps45
  go_wp2_with (first
    | (refine wpList_alloc_row rfl 89 rfl #[.slice none 0 0, .map none] graph_alloc ?_; intro w1 hb1 hu1 hs1; have B1 := Lib.hid hb1; have U1 := Lib.hid hu1; have S1 := Lib.hid hs1; clear hb1 hu1 hs1)
    | (refine wl_makeMap rfl 87 _ _ (.tmp 9) _ rfl rfl Tryz.underlying87 ?_))
  obtain ⟨X, hX⟩ : ∃ x, w.heap.size = x := ⟨_, rfl⟩
  rw [hX] at B1 S1 ⊢
  have HX := Lib.hid hX
  obtain ⟨r, hr⟩ : ∃ r, w1.heap.size = r := ⟨_, rfl⟩
  have HR := Lib.hid hr
  have M1 := Lib.hid (show NmI (w1.alloc (.map #[] 0)) w1.heap.size (((its.map (·.1.name))).take 0) from ⟨[], MapN.fresh w1, fun m => rfl⟩)
  have B2 := Lib.hid (B1.out.alloc (.map #[] 0))
  have U2 := Lib.hid (U1.out.alloc (.map #[] 0))
  rw [hr] at M1 ⊢
  clear hX hr B1 U1
  go_loopg [13] n (fun kx s13 wr => ∃ k : Nat, s13 = .int .i64 (k : Int) ∧ k ≤ n ∧ n - k ≤ kx ∧ Hid (NmI wr r ((its.map (·.1.name)).take k)) ∧ Hid (Blk wr X 89 #[.slice none 0 0, .map none]) ∧ Hid (Upd NoF w wr))
  case atStart => exact ⟨0, rfl, by omega, by omega, M1, B2, U2⟩
  case round =>
    clear M1 B2 U2
    obtain ⟨k, rfl, hkn, hkx, HM, HB, HU⟩ := hrel
    by_cases hlt : k < n
    · have hltz : (k : Int) < (n : Int) := by omega
      obtain ⟨x, hx⟩ : ∃ x, its[k]? = some x := ⟨_, List.getElem?_eq_getElem (by have := HN.out; omega)⟩
      obtain ⟨g, o, rfl, hrg⟩ := (HG.out.keep HU.out).at_ HN.out hx
      have HOK := Lib.hid (HG.out.ok x (List.mem_of_getElem? hx))
      have HNK := Lib.hid (show (its.map (·.1.name))[k]? = some x.1.name from by rw [List.getElem?_map, hx]; rfl)
      rw [← HK.out] at hrg
      have HRG := Lib.hid hrg
      obtain ⟨ra, hra⟩ : ∃ y, (itemC x.1.name x.2).toArray = y := ⟨_, rfl⟩
      have HRA := Lib.hid hra
      have HR8 := Lib.hid (show ra.size = 28 from by rw [← hra]; simpa using itemC_len HOK.out)
      have HRO := Lib.hid (show ra.all (·.oneCell') = true from by rw [← hra]; exact itemC_one HOK.out)
      obtain ⟨nb, hnb⟩ : ∃ y, (x.1.name.map byteV).toArray = y := ⟨_, rfl⟩
      have HNB := Lib.hid hnb
      have e1 : ((k : Int)).toNat = k := by omega
      obtain ⟨es, hes1, hes2⟩ := HM.out
      have HE2 := Lib.hid hes2
      have hrl := Lib.hid hes1.lt
      have HXL := Lib.hid HB.out.lt
      clear hx hrg hra hnb
      cases hf : ((its.map (·.1.name)).take k).findIdx? (fun y => y = x.1.name) with
      | some i =>
        have HF := Lib.hid hf
        have HGT := Lib.hid (show getT es x.1.name = some (.int .i64 (i : Int)) from by rw [hes2, hf]; rfl)
        have HE1 := Lib.hid hes1
        clear hf hes1 hes2
        go_wp2_with (first
          | (refine wpList_load_row rfl 38 (.tmp 16) rfl g (o + k * kk) rfl (itemC x.1.name x.2) _ HRG.out Tryz.underlying38 rfl (by rw [item_size, itemC_len HOK.out]) ra HRA.out ?_)
          | (refine wpList_alloc_row rfl 38 rfl iz IA.out ?_; intro w3 hb3 hu3 hs3; have B3 := Lib.hid hb3; have U3 := Lib.hid hu3; clear hb3 hu3 hs3)
          | (refine wpList_store_row rfl 38 (.tmp 5) (.tmp 17) rfl _ rfl ra rfl 38 _ B3.out (by rw [HI8.out, HR8.out]) (by rw [item_size, HR8.out]) HRO.out ?_; intro w4 hb4 hu4 hs4; have B4 := Lib.hid hb4; have U4 := Lib.hid (U3.out.trans hu4 (F := NoF) (fun j hj e => by have e : j = wr.heap.size := e; omega)); have E4 := Lib.hid (HE1.out.keep U4.out); clear hb4 hu4 hs4)
          | (refine wl_load rfl 28 (.tmp 20) rfl _ _ rfl (x.1.name.map byteV) _ (item_name HRA.out B4.out HOK.out) Tryz.underlying28 rfl (by rw [name_size]; simp [HOK.out.fit.name]) nb HNB.out ?_)
          | (refine wl_lookup rfl 87 _ (.tmp 19) (.tmp 21) true rfl rfl rfl HNB.out HOK.out.fit.name E4.out Tryz.underlying87 (.int .i64 0) (fun w => by kernel_rfl) (.tuple #[.int .i64 (i : Int), .bool true]) (by rw [HGT.out]; rfl) ?_))
        go_roundg (n - (k + 1))
        case measure => omega
        case rel => exact ⟨k + 1, by first | rfl | go_num, by omega, by omega, Lib.hid (NmI.next_old (HM.out.keep U4.out) HNK.out HF.out), Lib.hid (U4.out.blk HB.out (fun f => f)), Lib.hid (HU.out.trans U4.out (fun _ _ f => f))⟩
      | none =>
        have HF := Lib.hid hf
        have HGT := Lib.hid (show getT es x.1.name = none from by rw [hes2, hf]; rfl)
        have HE1 := Lib.hid hes1
        clear hf hes1 hes2
        go_wp2_with (first
          | (refine wpList_load_row rfl 38 (.tmp 16) rfl g (o + k * kk) rfl (itemC x.1.name x.2) _ HRG.out Tryz.underlying38 rfl (by rw [item_size, itemC_len HOK.out]) ra HRA.out ?_)
          | (refine wpList_alloc_row rfl 38 rfl iz IA.out ?_; intro w3 hb3 hu3 hs3; have B3 := Lib.hid hb3; have U3 := Lib.hid hu3; clear hb3 hu3 hs3)
          | (refine wpList_store_row rfl 38 (.tmp 5) (.tmp 17) rfl _ rfl ra rfl 38 _ B3.out (by rw [HI8.out, HR8.out]) (by rw [item_size, HR8.out]) HRO.out ?_; intro w4 hb4 hu4 hs4; have B4 := Lib.hid hb4; have U4 := Lib.hid (U3.out.trans hu4 (F := NoF) (fun j hj e => by have e : j = wr.heap.size := e; omega)); have E4 := Lib.hid (HE1.out.keep U4.out); clear hb4 hu4 hs4)
          | (refine wl_load rfl 28 (.tmp 20) rfl _ _ rfl (x.1.name.map byteV) _ (item_name HRA.out B4.out HOK.out) Tryz.underlying28 rfl (by rw [name_size]; simp [HOK.out.fit.name]) nb HNB.out ?_)
          | (refine wl_lookup rfl 87 _ (.tmp 19) (.tmp 21) true rfl rfl rfl HNB.out HOK.out.fit.name E4.out Tryz.underlying87 (.int .i64 0) (fun w => by kernel_rfl) (.tuple #[.int .i64 0, .bool false]) (by rw [HGT.out]; rfl) ?_)
          | (refine wl_load rfl 28 (.tmp 28) rfl _ _ rfl (x.1.name.map byteV) _ (item_name HRA.out B4.out HOK.out) Tryz.underlying28 rfl (by rw [name_size]; simp [HOK.out.fit.name]) nb HNB.out ?_)
          | (refine wl_insert rfl 87 _ (.tmp 27) (.tmp 29) (.tmp 30) rfl rfl rfl HNB.out rfl HOK.out.fit.name E4.out Tryz.underlying87 HGT.out ?_; intro w5 hm5 hu5 hs5; have M5 := Lib.hid hm5; have U5 := Lib.hid hu5; clear hm5 hu5 hs5))
        go_roundg (n - (k + 1))
        case measure => omega
        case rel => exact ⟨k + 1, by first | rfl | go_num, by omega, by omega, Lib.hid (NmI.next_new HNK.out HE2.out M5.out HF.out), Lib.hid (U5.out.blk (U4.out.blk HB.out (fun f => f)) (fun f => by have f : X = r := f; have := HR.out; have := S1.out; have := HX.out; omega)), Lib.hid ((HU.out.trans U4.out (fun _ _ f => f)).trans U5.out (fun j hj f => by have f : j = r := f; have := HR.out; have := S1.out; have := HX.out; omega))⟩
    · have hltz : ¬ (k : Int) < (n : Int) := by omega
      obtain rfl : k = n := by omega
      have c0 : wr.cell? ⟨X, 0, none⟩ = some (.slice none 0 0) := HB.out.cell 0
      have c1 : wr.cell? ⟨X, 1, none⟩ = some (.map none) := HB.out.cell 1
      have f0 := HB.out.frozen 0
      have f1 := HB.out.frozen 1
      go_wp2
      refine bodyPost_ret (results_cell_row Tryz.results45 _ _ X 89 #[.slice A k c, .map (some r)] (0, 0) _ rfl ((HB.out.put 0 (.slice A k c)).put 1 (.map (some r))) Tryz.underlying89 rfl graph_size) rfl ⟨r, rfl, ?_, ?_⟩
      · have hu6 : Upd (fun j => j = X) wr ((wr.setCell ⟨X, 0, none⟩ (.slice A k c)).setCell ⟨X, 1, none⟩ (.map (some r))) := ((Upd.refl (fun j => j = X) wr).setCell (p := ⟨X, 0, none⟩) (.inl rfl) _).setCell (p := ⟨X, 1, none⟩) (.inl rfl) _
        have := HM.out.upd hu6 (fun f => by have f : r = X := f; have := HR.out; have := S1.out; have := HX.out; omega)
        rw [List.take_of_length_le (by rw [List.length_map]; have := HN.out; omega)] at this
        exact this
      · exact (HU.out.setCell (p := ⟨X, 0, none⟩) (.inr (by show w.heap.size ≤ X; have := HX.out; omega)) _).setCell (p := ⟨X, 1, none⟩) (.inr (by show w.heap.size ≤ X; have := HX.out; omega)) _
end

section
open Go.RowKit Go.Shelf Go.Lib

theorem Clo.len {l : List ItP} {todo seen fin : List (List UInt8)} (h : Clo l todo seen fin) : fin.length + unseen l fin ≤ seen.length + unseen l seen := by
  induction h with
  | done => exact Nat.le_refl _
  | skip _ _ ih => exact ih
  | take h1 h2 _ ih =>
    have := unseen_take h1 h2
    simp at ih
    omega
theorem ancP_len {l : List ItP} {n : List UInt8} {res : List (List UInt8)} (h : AncP l n res) : res.length ≤ l.length := by
  rcases h with ⟨-, rfl⟩ | ⟨x, seen, -, h, rfl⟩
  · simp
  · have h1 := h.len
    have h2 := unseen_le l []
    have h3 := List.length_filter_le (fun m => decide (m ≠ n)) seen
    simp at h1
    omega
theorem SetV.all8 {w : World} {v : Value} {l : List (List UInt8)} (h : SetV w v l) : All8 l := by
  rcases h with ⟨-, rfl⟩ | ⟨r, -, h⟩
  · intro n hn; cases hn
  · intro n hn; exact h.k8 (n, .bool true) (List.mem_map.2 ⟨n, hn, rfl⟩)
theorem Sorted_any {w : World} {v : Value} {l : List (List UInt8)} (h : SetV w v l) {k : Nat} (hl : l.length ≤ k) (hk : k ≤ 1000000 := by omega) : Calls Tryz.prog 44 #[v] w (AscPost w (ascSet l)) := by
  rcases h with ⟨rfl, rfl⟩ | ⟨r, rfl, h⟩
  · exact Sorted_nil w
  · have := Sorted_map h (by rw [List.length_map]; omega)
    rw [show (l.map fun n => (n, Value.bool true)).map (·.1) = l from setE_keys l] at this
    exact this
/-- A graph of these names. -/
def GrV (A : Option Addr) (n c : Nat) (names : List (List UInt8)) (v : Value) (w : World) : Prop := ∃ r, v = .agg #[.slice A n c, .map (some r)] ∧ NmI w r names
theorem stb_grv (A : Option Addr) (n c : Nat) (names : List (List UInt8)) : Stb (fun w w' => Upd NoF w w') (GrV A n c names) := fun _ _ _ ⟨r, e, h⟩ hu => ⟨r, e, h.keep hu⟩
def AncV (l : List ItP) (n : List UInt8) (v : Value) (w : World) : Prop := ∃ res, SetV w v res ∧ AncP l n res
theorem stb_ancv (l : List ItP) (n : List UInt8) : Stb (fun w w' => Upd NoF w w') (AncV l n) := fun _ _ _ ⟨r, h, h2⟩ hu => ⟨r, h.keep hu, h2⟩
def SoV (l : List ItP) (n : List UInt8) (v : Value) (w : World) : Prop := ∃ res A c, v = .slice A (ascSet res).length c ∧ AncP l n res ∧ NmR w (.slice A (ascSet res).length c) (ascSet res)
theorem stb_sov (l : List ItP) (n : List UInt8) : Stb (fun w w' => Upd NoF w w') (SoV l n) := fun _ _ _ ⟨r, A, c, e, h, h2⟩ hu => ⟨r, A, c, e, h, h2.keep hu⟩
def PaV (l : List ItP) (n : List UInt8) (v : Value) (w : World) : Prop := ∃ seen A c, v = .slice A seen.length c ∧ Dwn l n [] seen ∧ NmR w (.slice A seen.length c) seen.reverse
theorem stb_pav (l : List ItP) (n : List UInt8) : Stb (fun w w' => Upd NoF w w') (PaV l n) := fun _ _ _ ⟨r, A, c, e, h, h2⟩ hu => ⟨r, A, c, e, h, h2.keep hu⟩
def IaV (l : List ItP) (n a : List UInt8) (v : Value) (_ : World) : Prop := ∃ res, v = .bool (decide (a ∈ res)) ∧ AncP l n res
set_option maxRecDepth 100000 in
set_option maxHeartbeats 8000000 in
theorem itemsAncestors_any {w : World} {A : Option Addr} {n c : Nat} {its : List (ItP × List Value)} {nm : List UInt8} (hn : its.length = n) (h : GrR w (.slice A n c) its) (hfew : Few its) (h8nm : nm.length = 8) :
    Calls Tryz.prog 16 #[.slice A n c, nameV nm] w fun e w' => ∃ res A' c', AncP (its.map (·.1)) nm res ∧ e = .returned (.slice A' (ascSet res).length c') ∧ NmR w' (.slice A' (ascSet res).length c') (ascSet res) ∧ Upd NoF w w' := by
  obtain ⟨znm, hznm⟩ : ∃ y, (nm.map byteV).toArray = y := ⟨_, rfl⟩
  have Hnm := Lib.hid hznm
  have H8nm := Lib.hid h8nm
  rw [show nameV nm = .agg znm from congrArg Value.agg hznm]
  have CN0 := Lib.hid (fun W (hu : Upd NoF w W) => NewGraph_any (w := W) hn (h.keep hu) (by have := hfew.1; omega))
  have CA0 := Lib.hid (fun W r (hu : Upd NoF w W) (hr : NmI W r (its.map (·.1.name))) => by have := grAncestors_any (w := W) hn (h.keep hu) hr hfew h8nm; rw [show nameV nm = .agg znm from congrArg Value.agg hznm] at this; exact this)
  have HLI := Lib.hid (show (its.map (·.1)).length ≤ 1000000 from by rw [List.length_map]; have := hfew.1; omega)
  clear hn h hfew h8nm hznm
  go_enter Tryz.func16, Tryz.ntmps16
  go_wp2_with (first
    | (refine wl_box rfl 28 (.tmp 1) rfl znm (by rfl) ?_; intro w1 hb hu hs; have Bnm := Lib.hid hb; have S1 := Lib.hid hs;  have V1 := Lib.hid (hu); clear hb hu hs))
  obtain ⟨Xnm, hXnm⟩ : ∃ x, w.heap.size = x := ⟨_, rfl⟩
  rw [hXnm] at Bnm ⊢
  obtain ⟨W1, hW1⟩ : ∃ x, x = w1 := ⟨_, rfl⟩
  rw [← hW1] at Bnm V1 ⊢
  have RNnm := Lib.hid (fun w' (hu : Upd NoF W1.drew w') => show w'.rangeAt Xnm 0 (nm.map byteV) from name_cells Hnm.out (((Upd.refl NoF W1).drew.trans hu (fun _ _ f => f)).blk Bnm.out (fun f => f)))
  have UW := Lib.hid V1.out
  have CN := Lib.hid (fun W (hu : Upd NoF W1.drew W) => CN0.out W (UW.out.drew.trans hu (fun _ _ f => f)))
  have CA := Lib.hid (fun W r (hu : Upd NoF W1.drew W) (hr : NmI W r (its.map (·.1.name))) => CA0.out W r (UW.out.drew.trans hu (fun _ _ f => f)) hr)
  clear hW1 hXnm CN0 CA0 Bnm S1 V1
  refine wp_region_rgw (rgR [isV (.slice A n c), GrV A n c (its.map (·.1.name)), isV (.agg znm), AncV (its.map (·.1)) nm, SoV (its.map (·.1)) nm, SoV (its.map (·.1)) nm]) (fun w w' => Upd NoF w w') (fun _ wq => Upd NoF W1.drew wq) (by kernel_rfl) (by kernel_rfl) (by kernel_rfl) (by rfl) (fun w => Upd.refl _ _) (rgR_keep (by
    intro p hp; simp only [List.mem_cons, List.not_mem_nil, or_false] at hp; rcases hp with rfl | rfl | rfl | rfl | rfl | rfl <;> first | exact stb_isV _ | exact stb_any | exact stb_grv _ _ _ _ | exact stb_ancv _ _ | exact stb_sov _ _ | exact stb_pav _ _)) (Upd.refl _ _) ?_ ?_
  · refine ⟨?_, ?_, ?_, ?_, ?_, ?_, trivial⟩
    · refine fun ρ w' L hW hLi hcl hd hdep hext hc hg hf => ?_
      rw [if_pos (show wantedR _ _ _ = true from rfl)]
      have e0 : ρ (.tmp 0) = .slice A n c := hext 0 (by kernel_rfl)
      clear hdep hext hcl
      have HW := Lib.hid hW
      clear hW
      unfold OpDone
      go_simp
      exact ⟨rfl, Upd.refl _ _, HW.out⟩
    · refine fun ρ w' L hW hLi hcl hd hdep hext hc hg hf => ?_
      rw [if_pos (show wantedR _ _ _ = true from rfl)]
      have e5 : ρ (.tmp 5) = .slice A n c := hdep 0 _ rfl (by kernel_rfl)
      clear hdep hext
      have CL := Lib.hid (show Calls Tryz.prog 45 #[.slice A n c] w' _ from CN.out w' hW)
      have HW := Lib.hid hW
      clear hW hcl hd hLi
      unfold OpDone
      go_simp
      refine CL.out.mono ?_
      rintro e w2 ⟨r, rfl, hr, hu⟩
      exact ⟨_, rfl, ⟨r, rfl, hr⟩, hu, HW.out.trans hu (fun _ _ f => f)⟩
    · refine fun ρ w' L hW hLi hcl hd hdep hext hc hg hf => ?_
      rw [if_pos (show wantedR _ _ _ = true from rfl)]
      have e3 : ρ (.tmp 3) = .pointer (some ⟨Xnm, 0, none⟩) := hext 3 (by kernel_rfl)
      clear hdep hext
      refine od_load_row 28 (.tmp 3) rfl (Xnm) 0 e3 (nm.map byteV) _ (RNnm.out w' hW) Tryz.underlying28 rfl (by rw [name_size]; simp [H8nm.out]) ?_
      rw [Hnm.out]
      exact ⟨rfl, Upd.refl _ _, hW⟩
    · refine fun ρ w' L hW hLi hcl hd hdep hext hc hg hf => ?_
      rw [if_pos (show wantedR _ _ _ = true from rfl)]
      have e6 : (GrV A n c (its.map (·.1.name))) (ρ (.tmp 6)) w' := hdep 1 _ rfl (by kernel_rfl)
      have e7 : ρ (.tmp 7) = .agg znm := hdep 2 _ rfl (by kernel_rfl)
      clear hdep hext
      obtain ⟨r9, e6, q9⟩ := e6
      have CL := Lib.hid (CA.out w' r9 hW q9)
      have HW := Lib.hid hW
      clear hW hcl hd hLi
      unfold OpDone
      go_simp
      refine CL.out.mono ?_
      rintro e w2 ⟨v, res, rfl, hs, ha, hu⟩
      exact ⟨_, rfl, ⟨res, hs, ha⟩, hu, HW.out.trans hu (fun _ _ f => f)⟩
    · refine fun ρ w' L hW hLi hcl hd hdep hext hc hg hf => ?_
      rw [if_pos (show wantedR _ _ _ = true from rfl)]
      have e8 : (AncV (its.map (·.1)) nm) (ρ (.tmp 8)) w' := hdep 3 _ rfl (by kernel_rfl)
      clear hdep hext
      obtain ⟨res9, q9, a9⟩ := e8
      have CL := Lib.hid (Sorted_any q9 (ancP_len a9) HLI.out)
      have A9 := Lib.hid a9
      have K9 := Lib.hid q9.all8
      clear q9 a9
      have HW := Lib.hid hW
      clear hW hcl hd hLi
      obtain ⟨vz, hvz⟩ : ∃ v, ρ (.tmp 8) = v := ⟨_, rfl⟩
      rw [hvz] at CL
      unfold OpDone
      go_simp
      refine CL.out.mono ?_
      rintro e w2 ⟨A2, c2, rfl, hN, hu⟩
      exact ⟨_, rfl, ⟨res9, A2, c2, rfl, A9.out, ⟨ascSet_all8 K9.out, hN.1.rd⟩⟩, hu, HW.out.trans hu (fun _ _ f => f)⟩
    · refine fun ρ w' L hW hLi hcl hd hdep hext hc hg hf => ?_
      rw [if_pos (show wantedR _ _ _ = true from rfl)]
      have e9 : (SoV (its.map (·.1)) nm) (ρ (.tmp 9)) w' := hdep 4 _ rfl (by kernel_rfl)
      clear hdep hext
      obtain ⟨res9, A9, c9, e9, q9⟩ := e9
      have Q9 := Lib.hid q9
      clear q9
      have HW := Lib.hid hW
      clear hW hcl hd hLi
      unfold OpDone
      go_simp
      exact ⟨⟨res9, A9, c9, rfl, Q9.out⟩, Upd.refl _ _, HW.out⟩
  intro vs W3 L3 hL3 hW3 hR
  have hv0 : vs 0 = .slice A n c := hR 0 _ rfl
  have hr1 : (GrV A n c (its.map (·.1.name))) (vs 1) W3 := hR 1 _ rfl
  obtain ⟨r1, hv1, -⟩ := hr1
  have hv2 : vs 2 = .agg znm := hR 2 _ rfl
  have hr3 : (AncV (its.map (·.1)) nm) (vs 3) W3 := hR 3 _ rfl
  obtain ⟨v3, hv3⟩ : ∃ v, vs 3 = v := ⟨_, rfl⟩
  obtain ⟨res3, hq3⟩ := hr3
  have hr4 : (SoV (its.map (·.1)) nm) (vs 4) W3 := hR 4 _ rfl
  obtain ⟨res4, A4, c4, hv4, hq4⟩ := hr4
  have hr5 : (SoV (its.map (·.1)) nm) (vs 5) W3 := hR 5 _ rfl
  obtain ⟨res5, A5, c5, hv5, hq5⟩ := hr5
  simp only [putAll, Act.put, List.setIfInBounds_toArray, List.set_cons_zero, List.set_cons_succ, hv0, hv1, hv2, hv3, hv4, hv5]
  clear hR hv0 hv1 hv2 hv3 hv4 hv5
  obtain ⟨q1, q2⟩ := hq5
  have Q1 := Lib.hid q1
  have Q2 := Lib.hid q2
  have HW3 := Lib.hid hW3
  clear q1 q2 hW3 hq4 hq3
  go_wp2
  go_ret
  exact ⟨res5, A5, c5, Q1.out, rfl, Q2.out, UW.out.drew.trans HW3.out (fun _ _ f => f)⟩
set_option maxRecDepth 100000 in
set_option maxHeartbeats 8000000 in
theorem itemsPath_any {w : World} {A : Option Addr} {n c : Nat} {its : List (ItP × List Value)} {nm : List UInt8} (hn : its.length = n) (h : GrR w (.slice A n c) its) (hfew : Few its) (h8nm : nm.length = 8) :
    Calls Tryz.prog 20 #[.slice A n c, nameV nm] w fun e w' => ∃ seen A' c', Dwn (its.map (·.1)) nm [] seen ∧ e = .returned (.slice A' seen.length c') ∧ NmR w' (.slice A' seen.length c') seen.reverse ∧ Upd NoF w w' := by
  obtain ⟨znm, hznm⟩ : ∃ y, (nm.map byteV).toArray = y := ⟨_, rfl⟩
  have Hnm := Lib.hid hznm
  have H8nm := Lib.hid h8nm
  rw [show nameV nm = .agg znm from congrArg Value.agg hznm]
  have CN0 := Lib.hid (fun W (hu : Upd NoF w W) => NewGraph_any (w := W) hn (h.keep hu) (by have := hfew.1; omega))
  have CA0 := Lib.hid (fun W r (hu : Upd NoF w W) (hr : NmI W r (its.map (·.1.name))) => by have := grPath_any (w := W) hn (h.keep hu) hr hfew.1 h8nm; rw [show nameV nm = .agg znm from congrArg Value.agg hznm] at this; exact this)
  clear hn h hfew h8nm hznm
  go_enter Tryz.func20, Tryz.ntmps20
  go_wp2_with (first
    | (refine wl_box rfl 28 (.tmp 1) rfl znm (by rfl) ?_; intro w1 hb hu hs; have Bnm := Lib.hid hb; have S1 := Lib.hid hs;  have V1 := Lib.hid (hu); clear hb hu hs))
  obtain ⟨Xnm, hXnm⟩ : ∃ x, w.heap.size = x := ⟨_, rfl⟩
  rw [hXnm] at Bnm ⊢
  obtain ⟨W1, hW1⟩ : ∃ x, x = w1 := ⟨_, rfl⟩
  rw [← hW1] at Bnm V1 ⊢
  have RNnm := Lib.hid (fun w' (hu : Upd NoF W1.drew w') => show w'.rangeAt Xnm 0 (nm.map byteV) from name_cells Hnm.out (((Upd.refl NoF W1).drew.trans hu (fun _ _ f => f)).blk Bnm.out (fun f => f)))
  have UW := Lib.hid V1.out
  have CN := Lib.hid (fun W (hu : Upd NoF W1.drew W) => CN0.out W (UW.out.drew.trans hu (fun _ _ f => f)))
  have CA := Lib.hid (fun W r (hu : Upd NoF W1.drew W) (hr : NmI W r (its.map (·.1.name))) => CA0.out W r (UW.out.drew.trans hu (fun _ _ f => f)) hr)
  clear hW1 hXnm CN0 CA0 Bnm S1 V1
  refine wp_region_rgw (rgR [isV (.slice A n c), GrV A n c (its.map (·.1.name)), isV (.agg znm), PaV (its.map (·.1)) nm, PaV (its.map (·.1)) nm]) (fun w w' => Upd NoF w w') (fun _ wq => Upd NoF W1.drew wq) (by kernel_rfl) (by kernel_rfl) (by kernel_rfl) (by rfl) (fun w => Upd.refl _ _) (rgR_keep (by
    intro p hp; simp only [List.mem_cons, List.not_mem_nil, or_false] at hp; rcases hp with rfl | rfl | rfl | rfl | rfl <;> first | exact stb_isV _ | exact stb_any | exact stb_grv _ _ _ _ | exact stb_ancv _ _ | exact stb_sov _ _ | exact stb_pav _ _)) (Upd.refl _ _) ?_ ?_
  · refine ⟨?_, ?_, ?_, ?_, ?_, trivial⟩
    · refine fun ρ w' L hW hLi hcl hd hdep hext hc hg hf => ?_
      rw [if_pos (show wantedR _ _ _ = true from rfl)]
      have e0 : ρ (.tmp 0) = .slice A n c := hext 0 (by kernel_rfl)
      clear hdep hext hcl
      have HW := Lib.hid hW
      clear hW
      unfold OpDone
      go_simp
      exact ⟨rfl, Upd.refl _ _, HW.out⟩
    · refine fun ρ w' L hW hLi hcl hd hdep hext hc hg hf => ?_
      rw [if_pos (show wantedR _ _ _ = true from rfl)]
      have e5 : ρ (.tmp 5) = .slice A n c := hdep 0 _ rfl (by kernel_rfl)
      clear hdep hext
      have CL := Lib.hid (show Calls Tryz.prog 45 #[.slice A n c] w' _ from CN.out w' hW)
      have HW := Lib.hid hW
      clear hW hcl hd hLi
      unfold OpDone
      go_simp
      refine CL.out.mono ?_
      rintro e w2 ⟨r, rfl, hr, hu⟩
      exact ⟨_, rfl, ⟨r, rfl, hr⟩, hu, HW.out.trans hu (fun _ _ f => f)⟩
    · refine fun ρ w' L hW hLi hcl hd hdep hext hc hg hf => ?_
      rw [if_pos (show wantedR _ _ _ = true from rfl)]
      have e3 : ρ (.tmp 3) = .pointer (some ⟨Xnm, 0, none⟩) := hext 3 (by kernel_rfl)
      clear hdep hext
      refine od_load_row 28 (.tmp 3) rfl (Xnm) 0 e3 (nm.map byteV) _ (RNnm.out w' hW) Tryz.underlying28 rfl (by rw [name_size]; simp [H8nm.out]) ?_
      rw [Hnm.out]
      exact ⟨rfl, Upd.refl _ _, hW⟩
    · refine fun ρ w' L hW hLi hcl hd hdep hext hc hg hf => ?_
      rw [if_pos (show wantedR _ _ _ = true from rfl)]
      have e6 : (GrV A n c (its.map (·.1.name))) (ρ (.tmp 6)) w' := hdep 1 _ rfl (by kernel_rfl)
      have e7 : ρ (.tmp 7) = .agg znm := hdep 2 _ rfl (by kernel_rfl)
      clear hdep hext
      obtain ⟨r9, e6, q9⟩ := e6
      have CL := Lib.hid (CA.out w' r9 hW q9)
      have HW := Lib.hid hW
      clear hW hcl hd hLi
      unfold OpDone
      go_simp
      refine CL.out.mono ?_
      rintro e w2 ⟨seen, A2, c2, hd2, rfl, hN, hu, h8, -⟩
      exact ⟨_, rfl, ⟨seen, A2, c2, rfl, hd2, ⟨fun y hy => h8 y (List.mem_reverse.1 hy), by rw [List.length_reverse]; exact hN.1.rd⟩⟩, hu, HW.out.trans hu (fun _ _ f => f)⟩
    · refine fun ρ w' L hW hLi hcl hd hdep hext hc hg hf => ?_
      rw [if_pos (show wantedR _ _ _ = true from rfl)]
      have e8 : (PaV (its.map (·.1)) nm) (ρ (.tmp 8)) w' := hdep 3 _ rfl (by kernel_rfl)
      clear hdep hext
      obtain ⟨seen9, A9, c9, e8, q9⟩ := e8
      have Q9 := Lib.hid q9
      clear q9
      have HW := Lib.hid hW
      clear hW hcl hd hLi
      unfold OpDone
      go_simp
      exact ⟨⟨seen9, A9, c9, rfl, Q9.out⟩, Upd.refl _ _, HW.out⟩
  intro vs W3 L3 hL3 hW3 hR
  have hv0 : vs 0 = .slice A n c := hR 0 _ rfl
  have hr1 : (GrV A n c (its.map (·.1.name))) (vs 1) W3 := hR 1 _ rfl
  obtain ⟨r1, hv1, -⟩ := hr1
  have hv2 : vs 2 = .agg znm := hR 2 _ rfl
  have hr3 : (PaV (its.map (·.1)) nm) (vs 3) W3 := hR 3 _ rfl
  obtain ⟨seen3, A3, c3, hv3, hq3⟩ := hr3
  have hr4 : (PaV (its.map (·.1)) nm) (vs 4) W3 := hR 4 _ rfl
  obtain ⟨seen4, A4, c4, hv4, hq4⟩ := hr4
  simp only [putAll, Act.put, List.setIfInBounds_toArray, List.set_cons_zero, List.set_cons_succ, hv0, hv1, hv2, hv3, hv4]
  clear hR hv0 hv1 hv2 hv3 hv4
  obtain ⟨q1, q2⟩ := hq4
  have Q1 := Lib.hid q1
  have Q2 := Lib.hid q2
  have HW3 := Lib.hid hW3
  clear q1 q2 hW3 hq3
  go_wp2
  go_ret
  exact ⟨seen4, A4, c4, Q1.out, rfl, Q2.out, UW.out.drew.trans HW3.out (fun _ _ f => f)⟩
end

section
open Go.RowKit Go.Shelf Go.Lib Go.Sort

theorem range_parent {w : World} {b : Nat} {p : List UInt8} {u : Value} (hb : Blk w b 67 (blkC p u).toArray) : w.rangeAt b 0 (p.map byteV) := fun j v hv => by
  rw [hb.cell, Nat.zero_add]
  have hj := (List.getElem?_eq_some_iff.1 hv).1
  rw [blkC, List.getElem?_toArray, List.getElem?_append_left hj]
  exact hv
set_option maxRecDepth 100000 in
set_option maxHeartbeats 4000000 in
theorem ReaderBlock_none {w : World} {v L : Value} (R : Value) {p : List UInt8} {l : List (Int × List UInt8)} {its : List (List UInt8 × List Value)} (h : Rd w 1 v (3 :: blkT p l).length ((3 :: blkT p l).map byteV)) (hp : p.length = 8) (hl : ∀ s ∈ l, s.2.length = 8 ∧ 0 ≤ s.1 ∧ s.1 < 256) (hg : GoodCh l) (hi : ItR w L its) (hf : findS (its.map (·.1)) p = -1) :
    Calls Tryz.prog 54 #[R, L, v] w fun e w' => e = .returned (.tuple #[.agg itZ, .int .i64 6]) ∧ Upd NoF w w' := by
  have CD := Lib.hid (fun W (hu : Upd NoF w W) => DecodeBlock_ok (w := W) (v := v) (p := p) (l := l) (h.keep hu) hp hl hg)
  have CF := Lib.hid (fun W (hu : Upd NoF w W) => by have := Find_any (w := W) (hi.keep hu) p hp; rw [hf] at this; exact this)
  have HZS := Lib.hid (fun A c => show ((blkC p (.slice A l.length c)).toArray.size = 9 ∧ (Tryz.prog.info? 67).map (·.size) = some (blkC p (.slice A l.length c)).toArray.size ∧ (blkC p (.slice A l.length c)).toArray.all (·.oneCell') = true) from by
    have hs : (blkC p (.slice A l.length c)).toArray.size = 9 := by simp [blkC, hp]
    exact ⟨hs, by rw [hs]; kernel_rfl, blk_one _ A _ c⟩)
  obtain ⟨nb, hnb⟩ : ∃ x, (p.map byteV).toArray = x := ⟨_, rfl⟩
  have HNB := Lib.hid hnb
  have HP := Lib.hid hp
  rw [show nameV p = .agg nb from by rw [← hnb]] at CF
  have IA := Lib.hid item_alloc
  have IO := Lib.hid itZ_one
  have IS := Lib.hid (show (Tryz.prog.info? 38).map (·.size) = some itZ.size from by rw [itZ_size, item_size])
  obtain ⟨iz, hiz⟩ : ∃ x, itZ = x := ⟨_, rfl⟩
  rw [hiz] at IA IO IS ⊢
  have HIZ := Lib.hid hiz
  clear h hiz hnb hp hl hg hi hf
  go_enter Tryz.func54, Tryz.ntmps54
  go_wp2_with (first
    | (refine wpList_alloc_row rfl 38 rfl iz IA.out ?_; intro w1 hb1 hu1 hs1; have B1 := Lib.hid hb1; have V1 := Lib.hid hu1; have S1 := Lib.hid hs1; clear hb1 hu1 hs1)
    | (refine (CD.out _ V1.out).mono ?_; rintro e w2 ⟨A, c, he, hch, hu2⟩; have HS2 := HZS.out A c; obtain ⟨zb, hzb⟩ : ∃ x, (blkC p (.slice A l.length c)).toArray = x := ⟨_, rfl⟩; have HZB := Lib.hid hzb; rw [hzb] at he HS2; subst he; have HZ := Lib.hid HS2; have B2 := Lib.hid (hu2.blk B1.out (fun f => f)); have V2 := Lib.hid (V1.out.trans hu2 (fun _ _ f => f)); clear hu2 hch HS2 hzb)
    | (refine wpList_alloc_row rfl 67 rfl (blkC (List.replicate 8 0) (.slice none 0 0)).toArray alloc_block ?_; intro w4 hb4 hu4 hs4; have B4 := Lib.hid hb4; have V4 := Lib.hid hu4; have S4 := Lib.hid hs4; clear hb4 hu4 hs4)
    | (refine wpList_store_row rfl 67 (.tmp 8) (.tmp 25) rfl w2.heap.size rfl zb rfl 67 _ B4.out (by rw [HZ.out.1]; rfl) HZ.out.2.1 HZ.out.2.2 ?_; intro w5 hb5 hu5 hs5; have V5 := Lib.hid (V4.out.trans hu5 (F := NoF) (fun k hk e => by have e : k = w2.heap.size := e; omega)); have B5 := Lib.hid (V5.out.blk B2.out (fun f => f)); have Z5 := Lib.hid hb5; have U5 := Lib.hid (V2.out.trans V5.out (fun _ _ f => f)); clear hb5 hu5 hs5)
    | (refine wpList_load_row rfl 28 (.tmp 31) rfl w2.heap.size 0 rfl (p.map byteV) _ (range_parent (by rw [HZB.out]; exact Z5.out)) Tryz.underlying28 rfl (by rw [name_size]; simp [HP.out]) nb HNB.out ?_)
    | (refine (CF.out _ U5.out).mono ?_; rintro e w6 ⟨rfl, hu6⟩; have B6 := Lib.hid (hu6.blk B5.out (fun f => f)); have U6 := Lib.hid (U5.out.trans hu6 (fun _ _ f => f)); clear hu6)
    | (refine wpList_store_row rfl 38 (.tmp 6) (.tmp 36) rfl w.heap.size rfl iz (by rw [← HIZ.out]; kernel_rfl) 38 _ B6.out rfl IS.out IO.out ?_; intro w9 hb9 hu9 hs9))
  refine bodyPost_ret (results_cell_tmp Tryz.results54 _ _ w.heap.size iz.toList _ rfl (range_blk (by rw [Array.toArray_toList]; exact hb9)) Tryz.underlying38 rfl (by rw [Array.length_toList]; exact IS.out)) rfl ?_
  exact ⟨by simp, U6.out.trans hu9 (fun j hj f => by have f : j = w.heap.size := f; omega)⟩
end
end Go.Proofs.YtengcmfdfmnacaaGreat
