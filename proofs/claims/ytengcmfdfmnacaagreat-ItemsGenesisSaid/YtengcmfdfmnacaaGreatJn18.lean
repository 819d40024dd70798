/- items.Graph.Closure: the names that are reached. Conditions: sizes. What the reference computes of a graph of items, on plain data. No condition. The reference's HasName, has, SameNames, Find. No condition but the names' lengths. -/
import Derived.Test.YtengcmfdfmnacaaGreatJn17
import Derived.WalkSpells
namespace Go.Proofs.YtengcmfdfmnacaaGreat
section
open Go.RowKit Go.Shelf Go.Lib

/-- The items are few and refer to few. -/
def Few (its : List (ItP × List Value)) : Prop := its.length ≤ 1000 ∧ ∀ x ∈ its, x.1.heads.length ≤ 1000 ∧ x.1.tips.length ≤ 1000
theorem rowsN_len {l : List (List UInt8)} {n : Nat} (h8 : All8 l) (hn : l.length = n) : (rowsN l).length = n * 8 := by
  subst hn
  induction l with
  | nil => rfl
  | cons x l ih =>
    have h1 := ih (fun y hy => h8 y (List.mem_cons_of_mem _ hy))
    have h2 := h8 x List.mem_cons_self
    unfold rowsN at h1 ⊢
    rw [List.map_cons, List.flatten_cons, List.length_append, List.length_map, h1, h2, List.length_cons]
    omega
set_option maxRecDepth 100000 in
set_option maxHeartbeats 8000000 in
theorem Closure_any {w : World} {A A1 : Option Addr} {n c r m0 c1 : Nat} {its : List (ItP × List Value)} {fr : List (List UInt8)} (hn : its.length = n) (h : GrR w (.slice A n c) its) (hr : NmI w r (its.map (·.1.name))) (hfew : Few its) (hm0 : fr.length = m0) (hf : NmR w (.slice A1 m0 c1) fr) (hs : m0 ≤ 10000) :
    Calls Tryz.prog 80 #[.agg #[.slice A n c, .map (some r)], .slice A1 m0 c1] w fun e w' => ∃ R seen, e = .returned (.map (some R)) ∧ MapN w' R (setE seen) ∧ w.heap.size ≤ R ∧ Clo (its.map (·.1)) fr [] seen ∧ Upd NoF w w' := by
  obtain ⟨i0, hi0, hz0, hz1, hz2⟩ := info_parts name_info
  have HNI := Lib.hid hn
  have HG := Lib.hid h
  have HNM := Lib.hid hr
  have HFEW := Lib.hid hfew
  have HFR8 := Lib.hid (show All8 fr from hf.1)
  have HFR := Lib.hid (show Rd w 8 (.slice A1 m0 c1) m0 (rowsN fr) from by have := hf.2; rw [hm0] at this; exact this)
  have HM0 := Lib.hid hm0
  have HS := Lib.hid hs
  have IA := Lib.hid item_alloc
  have IO := Lib.hid itZ_one
  have IS := Lib.hid (show (Tryz.prog.info? 38).map (·.size) = some itZ.size from by rw [itZ_size, item_size])
  have CGM := Lib.hid (fun W nm (hu : Upd NoF w W) (hf : (its.map (·.1.name)).findIdx? (fun y => y = nm) = none) (h8 : nm.length = 8) => grItem_miss (w := W) (A := A) (n := n) (c := c) (hr.keep hu) hf h8)
  obtain ⟨iz, hiz⟩ : ∃ x, itZ = x := ⟨_, rfl⟩
  rw [hiz] at IA IO IS CGM
  have HI8 := Lib.hid (show iz.size = 28 from by rw [← hiz]; exact itZ_size)
  have CGH := Lib.hid (fun W nm k x (hu : Upd NoF w W) (hk : its[k]? = some x) (hf : (its.map (·.1.name)).findIdx? (fun y => y = nm) = some k) (h8 : nm.length = 8) => grItem_hit (w := W) hn (h.keep hu) (hr.keep hu) hk hf h8)
  have HBS := Lib.hid (fun (n : List UInt8) (hn : n.length = 8) (za : Array Value) (hz : (n.map byteV).toArray = za) w => bs_name hn hz w)
  have HBM := Lib.hid (show 0 + m0 ≤ maxLen ∧ (0 + m0) * 8 ≤ 140737488355328 from by unfold maxLen; omega)
  clear hn h hr hfew hf hm0 hiz
  go_enter Tryz.func80, Tryz.ntmps80
  go_wp2_with (first
    | (refine wl_box rfl 89 (.tmp 0) rfl #[.slice A n c, .map (some r)] (by rfl) ?_; intro w0 hb0 hu0 hs0; have BG := Lib.hid hb0; have V0 := Lib.hid hu0; have S0 := Lib.hid hs0; clear hb0 hu0 hs0)
    | (refine wl_makeMap0 rfl 86 rfl ?_; intro w1 hm1 hu1 hs1; have M1 := Lib.hid hm1; have S1 := Lib.hid hs1; replace BG := Lib.hid (hu1.blk BG.out (fun f => f)); have V1 := Lib.hid (V0.out.trans hu1 (fun _ _ f => f)); clear hm1 hu1 hs1)
    | (refine wl_names0 rfl rfl ?_; intro w2 ho2 hu2 hs2; have O2 := Lib.hid ho2; have S2 := Lib.hid hs2; replace BG := Lib.hid (hu2.blk BG.out (fun f => f)); replace M1 := Lib.hid (M1.out.keep hu2); have V2 := Lib.hid (V1.out.trans hu2 (fun _ _ f => f)); clear ho2 hu2 hs2)
    | (at_builtin; refine wpList_append_to _ rfl (.tmp 10) (.tmp 11) 22 rfl 28 i0 _ 8 8 Tryz.underlying22 hi0 hz0 hz1 hz2 (by kernel_rfl) (.slice (some ⟨w1.heap.size, 0, none⟩) 0 0) 0 [] (by rfl) O2.out (.slice A1 m0 c1) m0 (rowsN fr) (by rfl) (HFR.out.keep V2.out) (rowsN_one _) HBM.out.1 HBM.out.2 ?_; intro A3 c3 w3 hown hupd hnew; have O3 := Lib.hid (show Own w3 28 8 (.slice A3 m0 c3) m0 (rowsN fr) from by simpa using hown); have D3 := Lib.hid hupd; have N3 := Lib.hid hnew; clear hown hupd hnew))
  obtain ⟨X, hX⟩ : ∃ x, w.heap.size = x := ⟨_, rfl⟩
  obtain ⟨R, hR⟩ : ∃ x, w0.heap.size = x := ⟨_, rfl⟩
  rw [hX] at BG S0 ⊢
  rw [hR] at M1 S1 S0 ⊢
  have HX := Lib.hid hX
  have HRX := Lib.hid (show R = X + 1 from S0.out)
  have hD : ∀ j, OwnB (.slice (some ⟨w1.heap.size, 0, none⟩) 0 0) j → X + 2 ≤ j := fun j hj => by have : w1.heap.size = j := (by simpa [OwnB, Value.ownBlock] using hj); have := S1.out; have := HRX.out; omega
  have U3 := Lib.hid (show Upd NoF w w3 from V2.out.trans D3.out (fun j hj f => by have := hD j f; omega))
  have HB3 := Lib.hid (show Blk w3 X 89 #[.slice A n c, .map (some r)] from D3.out.blk BG.out (fun f => by have := hD X f; omega))
  have M3 := Lib.hid (show MapN w3 R (setE []) from M1.out.upd D3.out (fun f => by have := hD R f; have := HRX.out; omega))
  have N4 := Lib.hid (show NwA (X + 2) 28 8 m0 (rowsN fr) A3 c3 w3 from ⟨O3.out, fun j hj => by
    rcases N3.out j (by simpa using hj) with f | f
    · exact hD j f
    · have := S2.out; have := S1.out; have := HRX.out; omega⟩)
  clear hX hR hD D3 N3 O3 M1 BG V0 V1 V2 S0 S1 S2 O2
  go_loopg [1] (m0 + 2001 * its.length) (fun kx s1 wr => ∃ (todo seen : List (List UInt8)) (A' : Option Addr) (m cc : Nat), s1 = .slice A' m cc ∧ m + 2001 * unseen (its.map (·.1)) seen ≤ kx ∧ Hid (kx ≤ m0 + 2001 * its.length) ∧ Hid (todo.length = m) ∧ Hid (NwA (X + 2) 28 8 m (rowsN todo) A' cc wr) ∧ Hid (MapN wr R (setE seen)) ∧ Hid (Blk wr X 89 #[.slice A n c, .map (some r)]) ∧ Hid (Upd NoF w wr) ∧ Hid (All8 todo) ∧ Hid (∀ fin, Clo (its.map (·.1)) todo seen fin → Clo (its.map (·.1)) fr [] fin))
  case atStart => exact ⟨fr, [], A3, m0, c3, rfl, by have := unseen_le (its.map (·.1)) []; rw [List.length_map] at this; omega, Lib.hid (Nat.le_refl _), HM0, N4, M3, HB3, U3, HFR8, Lib.hid (fun _ h => h)⟩
  case round =>
    clear N4 M3 HB3 U3
    obtain ⟨todo0, seen, A', m, cc, rfl, hkx, HKX, HTL, HN, HM, HBG, HU, HT8, HCL⟩ := hrel
    have hnn := HNI.out
    rcases Nat.eq_zero_or_pos m with h0 | h0
    · subst h0
      have t1 : ¬ (0 : Int) < ((0 : Nat) : Int) := by omega
      have htd : todo0 = [] := List.eq_nil_of_length_eq_zero HTL.out
      subst htd
      go_wp2
      go_ret
      exact ⟨R, rfl, seen, HM.out, by have := HRX.out; have := HX.out; omega, HCL.out _ (Clo.done _), HU.out⟩
    · obtain ⟨k, rfl⟩ : ∃ k, m = k + 1 := ⟨m - 1, by omega⟩
      have t1 : (0 : Int) < (k : Int) + 1 := by omega
      have t1' : decide (0 < k + 1) = true := by simp
      have hk8 : k ≤ 3000000 := by have := HKX.out; have := HFEW.out.1; have := HS.out; omega
      have ww : IntKind.i64.wrap (k : Int) = k := IntWalk.i64_in _ (by omega)
      have q0 : (0 : Int) ≤ (k : Int) := by omega
      have q1 : (k : Int) < (k : Int) + 1 := by omega
      have q3 : ((k : Int)).toNat = k := by omega
      obtain ⟨nm, todo, htd⟩ : ∃ nm todo, todo0 = todo ++ [nm] := by
        rcases List.eq_nil_or_concat todo0 with h | ⟨t, x, h⟩
        · have := HTL.out; rw [h] at this; simp at this
        · exact ⟨x, t, by rw [h]; simp⟩
      subst htd
      have HTK := Lib.hid (show todo.length = k from by have := HTL.out; simpa using this)
      rcases HN.out.1.2 with ⟨_, hz⟩ | ⟨g, cap, cur, hv, hb, hle, hcm, hcs, hx⟩
      · omega
      injection hv with hA _ hc
      subst hA
      subst hc
      have H8N := Lib.hid (HT8.out nm (by simp))
      have HRN := Lib.hid (show wr.rangeAt g (k * 8) (nm.map byteV) from (rows_own (w := wr) (g := g) (c := cc) (e := 28) HT8.out hx (i := k) (by rw [List.getElem?_append_right (by have := HTK.out; omega)]; have := HTK.out; simp [this])).range hb)
      have HTD := Lib.hid (show True ∧ (rowsN (todo ++ [nm])).take (k * 8) = rowsN todo from ⟨trivial, by
        rw [rowsN_snoc, List.take_append_of_le_length (Nat.le_of_eq ?_)]
        · refine List.take_of_length_le (Nat.le_of_eq ?_)
          exact rowsN_len (fun y hy => HT8.out y (by simp [hy])) HTK.out
        · exact (rowsN_len (fun y hy => HT8.out y (by simp [hy])) HTK.out).symm⟩)
      obtain ⟨nb, hnb⟩ : ∃ y, (nm.map byteV).toArray = y := ⟨_, rfl⟩
      have HNB := Lib.hid hnb
      have HT8' := Lib.hid (show All8 todo from fun y hy => HT8.out y (by simp [hy]))
      have HXL := Lib.hid HBG.out.lt
      have HRL := Lib.hid HM.out.lt
      clear hb hx hcs
      cases hfi : (its.map (·.1.name)).findIdx? (fun y => y = nm) with
      | none =>
        have HIO := Lib.hid (itemOf_miss hfi)
        have CG := Lib.hid (show ∀ W, Upd NoF wr W → Calls Tryz.prog 79 #[.agg #[.slice A n c, .map (some r)], .agg nb] W (fun e w' => e = .returned (.tuple #[.agg iz, .bool false]) ∧ Upd NoF W w') from fun W hu => by have := CGM.out W nm (HU.out.trans hu (fun _ _ f => f)) hfi H8N.out; rw [show nameV nm = .agg nb from congrArg Value.agg HNB.out] at this; exact this)
        clear hfi hnb
        go_wp2_with (first
        | (refine wl_load rfl 28 (.tmp 20) rfl g (k * 8) (by first | rfl | simp) (nm.map byteV) _ HRN.out Tryz.underlying28 rfl (by rw [name_size]; simp [H8N.out]) nb HNB.out ?_)
        | (refine wpList_alloc_row rfl 28 rfl zN name_alloc ?_; intro w3 hb3 hu3 hs3; have B3 := Lib.hid hb3; have U3 := Lib.hid hu3; have S3 := Lib.hid hs3; clear hb3 hu3 hs3)
        | (refine wpList_store_row rfl 28 (.tmp 6) (.tmp 21) rfl wr.heap.size (by rfl) nb (by rfl) 28 _ B3.out (by rw [(name_arr H8N.out HNB.out).1]; exact zN_size) (by rw [name_size, (name_arr H8N.out HNB.out).1]) (name_arr H8N.out HNB.out).2 ?_; intro w4 hb4 hu4 hs4; have B4 := Lib.hid hb4; have U4 := Lib.hid (U3.out.trans hu4 (F := NoF) (fun j hj e => by have e : j = wr.heap.size := e; omega)); have S4 := Lib.hid hs4; have O4 := Lib.hid (HN.out.1.upd U4.out (fun _ _ f => f)); clear hb4 hu4 hs4)
        | (refine wl_cutOwn rfl 22 28 (k := k) (.tmp 22) (.tmp 25) rfl (by rfl) (by rfl) O4.out Tryz.underlying22 (fun w => by kernel_rfl) (Nat.le_succ k) ?_; intro hcut; have OC := Lib.hid (show Own w4 28 8 (.slice (some ⟨g, 0, none⟩) k cc) k (rowsN todo) from by rw [HTD.out.2] at hcut; exact hcut); clear hcut)
        | (refine wl_load rfl 89 (.tmp 2) rfl X 0 (by rfl) [.slice A n c, .map (some r)] _ (range_blk (U4.out.blk HBG.out (fun f => f))) Tryz.underlying89 rfl graph_size _ rfl ?_)
        | (refine wl_load rfl 28 (.tmp 6) rfl wr.heap.size 0 (by rfl) (nm.map byteV) _ (name_cells HNB.out B4.out) Tryz.underlying28 rfl (by rw [name_size]; simp [H8N.out]) nb HNB.out ?_)
        | (refine (CG.out w4 U4.out).mono ?_; rintro e w5 ⟨rfl, hu5⟩; have E5 := Lib.hid hu5; have U5 := Lib.hid (U4.out.trans hu5 (fun _ _ f => f)); have B5 := Lib.hid (hu5.blk B4.out (fun f => f)); have SZ5 := Lib.hid (show wr.heap.size + 1 ≤ w5.heap.size from by have := hu5.size; have := S3.out; have := S4.out; omega); clear hu5)
        | (refine wpList_alloc_row rfl 38 rfl iz IA.out ?_; intro w6 hb6 hu6 hs6; have B6 := Lib.hid hb6; have E6 := Lib.hid (E5.out.trans hu6 (fun _ _ f => f)); have U6 := Lib.hid (U5.out.trans hu6 (fun _ _ f => f)); have C6 := Lib.hid (hu6.blk B5.out (fun f => f)); clear hb6 hu6 hs6)
        | (refine wpList_store_row rfl 38 (.tmp 7) (.tmp 31) rfl w5.heap.size (by rfl) iz (by rfl) 38 _ B6.out rfl IS.out IO.out ?_; intro w7 hb7 hu7 hs7; have B7 := Lib.hid hb7; have E7 := Lib.hid (E6.out.trans hu7 (F := NoF) (fun j hj e => by have e : j = w5.heap.size := e; have := E5.out.size; omega)); have U7 := Lib.hid (U6.out.trans hu7 (F := NoF) (fun j hj e => by have e : j = w5.heap.size := e; have := SZ5.out; omega)); have C7 := Lib.hid (hu7.blk C6.out (fun e => by have e : wr.heap.size = w5.heap.size := e; have := SZ5.out; omega)); clear hb7 hu7 hs7))
        go_roundg (k + 2001 * unseen (its.map (·.1)) seen)
        case measure => omega
        case rel => exact ⟨todo, seen, _, k, cc, by first | rfl | (congr 1; done), Nat.le_refl _, Lib.hid (by have := HKX.out; omega), HTK, Lib.hid ⟨OC.out.upd E7.out (fun _ _ f => f), fun j hj => HN.out.2 j (by rw [ownB_len (m := k) (d := cc)]; exact hj)⟩, Lib.hid (HM.out.keep U7.out), Lib.hid (U7.out.blk HBG.out (fun f => f)), Lib.hid (HU.out.trans U7.out (fun _ _ f => f)), HT8', Lib.hid (fun fin hc => HCL.out fin (Clo.skip (.inl HIO.out) hc))⟩
      | some ki =>
        obtain ⟨x, hxk, hxn, hio⟩ := itemOf_hit hfi
        have HIO := Lib.hid hio
        have HXM := Lib.hid (List.mem_of_getElem? hxk)
        have HOK := Lib.hid (HG.out.ok x HXM.out)
        obtain ⟨ra, hra⟩ : ∃ y, (itemC x.1.name x.2).toArray = y := ⟨_, rfl⟩
        have HRA := Lib.hid hra
        have HR8 := Lib.hid (show ra.size = 28 from by rw [← hra]; simpa using itemC_len HOK.out)
        have HRO := Lib.hid (show ra.all (·.oneCell') = true from by rw [← hra]; exact itemC_one HOK.out)
        have CG := Lib.hid (show ∀ W, Upd NoF wr W → Calls Tryz.prog 79 #[.agg #[.slice A n c, .map (some r)], .agg nb] W (fun e w' => e = .returned (.tuple #[.agg ra, .bool true]) ∧ Upd NoF W w') from fun W hu => by have := CGH.out W nm ki x (HU.out.trans hu (fun _ _ f => f)) hxk hfi H8N.out; rw [show nameV nm = .agg nb from congrArg Value.agg HNB.out, HRA.out] at this; exact this)
        clear hfi hnb hxk hio hra
        by_cases hse : nm ∈ seen
        · have HSE := Lib.hid hse
          have HGT := Lib.hid (setE_in hse)
          clear hse
          go_wp2_with (first
        | (refine wl_load rfl 28 (.tmp 20) rfl g (k * 8) (by first | rfl | simp) (nm.map byteV) _ HRN.out Tryz.underlying28 rfl (by rw [name_size]; simp [H8N.out]) nb HNB.out ?_)
        | (refine wpList_alloc_row rfl 28 rfl zN name_alloc ?_; intro w3 hb3 hu3 hs3; have B3 := Lib.hid hb3; have U3 := Lib.hid hu3; have S3 := Lib.hid hs3; clear hb3 hu3 hs3)
        | (refine wpList_store_row rfl 28 (.tmp 6) (.tmp 21) rfl wr.heap.size (by rfl) nb (by rfl) 28 _ B3.out (by rw [(name_arr H8N.out HNB.out).1]; exact zN_size) (by rw [name_size, (name_arr H8N.out HNB.out).1]) (name_arr H8N.out HNB.out).2 ?_; intro w4 hb4 hu4 hs4; have B4 := Lib.hid hb4; have U4 := Lib.hid (U3.out.trans hu4 (F := NoF) (fun j hj e => by have e : j = wr.heap.size := e; omega)); have S4 := Lib.hid hs4; have O4 := Lib.hid (HN.out.1.upd U4.out (fun _ _ f => f)); clear hb4 hu4 hs4)
        | (refine wl_cutOwn rfl 22 28 (k := k) (.tmp 22) (.tmp 25) rfl (by rfl) (by rfl) O4.out Tryz.underlying22 (fun w => by kernel_rfl) (Nat.le_succ k) ?_; intro hcut; have OC := Lib.hid (show Own w4 28 8 (.slice (some ⟨g, 0, none⟩) k cc) k (rowsN todo) from by rw [HTD.out.2] at hcut; exact hcut); clear hcut)
        | (refine wl_load rfl 89 (.tmp 2) rfl X 0 (by rfl) [.slice A n c, .map (some r)] _ (range_blk (U4.out.blk HBG.out (fun f => f))) Tryz.underlying89 rfl graph_size _ rfl ?_)
        | (refine wl_load rfl 28 (.tmp 6) rfl wr.heap.size 0 (by rfl) (nm.map byteV) _ (name_cells HNB.out B4.out) Tryz.underlying28 rfl (by rw [name_size]; simp [H8N.out]) nb HNB.out ?_)
        | (refine (CG.out w4 U4.out).mono ?_; rintro e w5 ⟨rfl, hu5⟩; have E5 := Lib.hid hu5; have U5 := Lib.hid (U4.out.trans hu5 (fun _ _ f => f)); have B5 := Lib.hid (hu5.blk B4.out (fun f => f)); have SZ5 := Lib.hid (show wr.heap.size + 1 ≤ w5.heap.size from by have := hu5.size; have := S3.out; have := S4.out; omega); clear hu5)
        | (refine wpList_alloc_row rfl 38 rfl iz IA.out ?_; intro w6 hb6 hu6 hs6; have B6 := Lib.hid hb6; have E6 := Lib.hid (E5.out.trans hu6 (fun _ _ f => f)); have U6 := Lib.hid (U5.out.trans hu6 (fun _ _ f => f)); have C6 := Lib.hid (hu6.blk B5.out (fun f => f)); clear hb6 hu6 hs6)
        | (refine wpList_store_row rfl 38 (.tmp 7) (.tmp 31) rfl w5.heap.size (by rfl) ra (by rfl) 38 _ B6.out (by rw [HI8.out, HR8.out]) (by rw [item_size, HR8.out]) HRO.out ?_; intro w7 hb7 hu7 hs7; have B7 := Lib.hid hb7; have E7 := Lib.hid (E6.out.trans hu7 (F := NoF) (fun j hj e => by have e : j = w5.heap.size := e; have := E5.out.size; omega)); have U7 := Lib.hid (U6.out.trans hu7 (F := NoF) (fun j hj e => by have e : j = w5.heap.size := e; have := SZ5.out; omega)); have C7 := Lib.hid (hu7.blk C6.out (fun e => by have e : wr.heap.size = w5.heap.size := e; have := SZ5.out; omega)); clear hb7 hu7 hs7)
        | (refine wl_load rfl 28 (.tmp 6) rfl wr.heap.size 0 (by rfl) (nm.map byteV) _ (name_cells HNB.out C7.out) Tryz.underlying28 rfl (by rw [name_size]; simp [H8N.out]) nb HNB.out ?_)
        | (refine wl_lookup rfl 86 _ (.tmp 36) (.tmp 37) false rfl (by rfl) (by rfl) HNB.out H8N.out (HM.out.keep U7.out) Tryz.underlying86 (.bool false) (fun w => by kernel_rfl) (.bool true) (by rw [HGT.out]; rfl) ?_))
          go_roundg (k + 2001 * unseen (its.map (·.1)) seen)
          case measure => omega
          case rel => exact ⟨todo, seen, _, k, cc, by first | rfl | (congr 1; done), Nat.le_refl _, Lib.hid (by have := HKX.out; omega), HTK, Lib.hid ⟨OC.out.upd E7.out (fun _ _ f => f), fun j hj => HN.out.2 j (by rw [ownB_len (m := k) (d := cc)]; exact hj)⟩, Lib.hid (HM.out.keep U7.out), Lib.hid (U7.out.blk HBG.out (fun f => f)), Lib.hid (HU.out.trans U7.out (fun _ _ f => f)), HT8', Lib.hid (fun fin hc => HCL.out fin (Clo.skip (.inr HSE.out) hc))⟩
        · have HSE := Lib.hid hse
          have HGT := Lib.hid (setE_out hse)
          obtain ⟨PL, hPL⟩ : ∃ y, parents x.1 = y := ⟨_, rfl⟩
          have HPL := Lib.hid hPL
          have HPB := Lib.hid (show PL.length ≤ 2001 from by have := parents_len x.1; have := HFEW.out.2 x HXM.out; rw [← hPL]; omega)
          have HP8 := Lib.hid (show All8 PL from by rw [← hPL]; exact ascSet_all8 (rawPar_all8 HOK.out.fit))
          have HUS := Lib.hid (unseen_take HIO.out hse)
          have HB1 := Lib.hid (show k + PL.length ≤ maxLen ∧ (k + PL.length) * 8 ≤ 140737488355328 from by have := HPB.out; unfold maxLen; omega)
          have CP := Lib.hid (fun W (hu : Upd NoF w W) => show Calls Tryz.prog 12 #[.agg ra] W (AscPost W PL) from by rw [← HRA.out, ← HPL.out]; exact Parents_any (HOK.out.keep hu) (HFEW.out.2 x HXM.out).1 (HFEW.out.2 x HXM.out).2)
          clear hse hPL
          go_wp2_with (first
        | (refine wl_load rfl 28 (.tmp 20) rfl g (k * 8) (by first | rfl | simp) (nm.map byteV) _ HRN.out Tryz.underlying28 rfl (by rw [name_size]; simp [H8N.out]) nb HNB.out ?_)
        | (refine wpList_alloc_row rfl 28 rfl zN name_alloc ?_; intro w3 hb3 hu3 hs3; have B3 := Lib.hid hb3; have U3 := Lib.hid hu3; have S3 := Lib.hid hs3; clear hb3 hu3 hs3)
        | (refine wpList_store_row rfl 28 (.tmp 6) (.tmp 21) rfl wr.heap.size (by rfl) nb (by rfl) 28 _ B3.out (by rw [(name_arr H8N.out HNB.out).1]; exact zN_size) (by rw [name_size, (name_arr H8N.out HNB.out).1]) (name_arr H8N.out HNB.out).2 ?_; intro w4 hb4 hu4 hs4; have B4 := Lib.hid hb4; have U4 := Lib.hid (U3.out.trans hu4 (F := NoF) (fun j hj e => by have e : j = wr.heap.size := e; omega)); have S4 := Lib.hid hs4; have O4 := Lib.hid (HN.out.1.upd U4.out (fun _ _ f => f)); clear hb4 hu4 hs4)
        | (refine wl_cutOwn rfl 22 28 (k := k) (.tmp 22) (.tmp 25) rfl (by rfl) (by rfl) O4.out Tryz.underlying22 (fun w => by kernel_rfl) (Nat.le_succ k) ?_; intro hcut; have OC := Lib.hid (show Own w4 28 8 (.slice (some ⟨g, 0, none⟩) k cc) k (rowsN todo) from by rw [HTD.out.2] at hcut; exact hcut); clear hcut)
        | (refine wl_load rfl 89 (.tmp 2) rfl X 0 (by rfl) [.slice A n c, .map (some r)] _ (range_blk (U4.out.blk HBG.out (fun f => f))) Tryz.underlying89 rfl graph_size _ rfl ?_)
        | (refine wl_load rfl 28 (.tmp 6) rfl wr.heap.size 0 (by rfl) (nm.map byteV) _ (name_cells HNB.out B4.out) Tryz.underlying28 rfl (by rw [name_size]; simp [H8N.out]) nb HNB.out ?_)
        | (refine (CG.out w4 U4.out).mono ?_; rintro e w5 ⟨rfl, hu5⟩; have E5 := Lib.hid hu5; have U5 := Lib.hid (U4.out.trans hu5 (fun _ _ f => f)); have B5 := Lib.hid (hu5.blk B4.out (fun f => f)); have SZ5 := Lib.hid (show wr.heap.size + 1 ≤ w5.heap.size from by have := hu5.size; have := S3.out; have := S4.out; omega); clear hu5)
        | (refine wpList_alloc_row rfl 38 rfl iz IA.out ?_; intro w6 hb6 hu6 hs6; have B6 := Lib.hid hb6; have E6 := Lib.hid (E5.out.trans hu6 (fun _ _ f => f)); have U6 := Lib.hid (U5.out.trans hu6 (fun _ _ f => f)); have C6 := Lib.hid (hu6.blk B5.out (fun f => f)); clear hb6 hu6 hs6)
        | (refine wpList_store_row rfl 38 (.tmp 7) (.tmp 31) rfl w5.heap.size (by rfl) ra (by rfl) 38 _ B6.out (by rw [HI8.out, HR8.out]) (by rw [item_size, HR8.out]) HRO.out ?_; intro w7 hb7 hu7 hs7; have B7 := Lib.hid hb7; have E7 := Lib.hid (E6.out.trans hu7 (F := NoF) (fun j hj e => by have e : j = w5.heap.size := e; have := E5.out.size; omega)); have U7 := Lib.hid (U6.out.trans hu7 (F := NoF) (fun j hj e => by have e : j = w5.heap.size := e; have := SZ5.out; omega)); have C7 := Lib.hid (hu7.blk C6.out (fun e => by have e : wr.heap.size = w5.heap.size := e; have := SZ5.out; omega)); clear hb7 hu7 hs7)
        | (refine wl_load rfl 28 (.tmp 6) rfl wr.heap.size 0 (by rfl) (nm.map byteV) _ (name_cells HNB.out C7.out) Tryz.underlying28 rfl (by rw [name_size]; simp [H8N.out]) nb HNB.out ?_)
        | (refine wl_lookup rfl 86 _ (.tmp 36) (.tmp 37) false rfl (by rfl) (by rfl) HNB.out H8N.out (HM.out.keep U7.out) Tryz.underlying86 (.bool false) (fun w => by kernel_rfl) (.bool false) (by rw [HGT.out]; rfl) ?_)
        | (refine wl_insert rfl 86 _ (.tmp 40) (.tmp 41) (.const (.bool true)) rfl (by rfl) (by rfl) HNB.out (by rfl) H8N.out (HM.out.keep U7.out) Tryz.underlying86 HGT.out ?_; intro w8 hm8 hu8 hs8; have M8 := Lib.hid hm8; have D8 := Lib.hid hu8; have Z8 := Lib.hid hs8; have B8 := Lib.hid (hu8.blk B7.out (fun f => by have f : w5.heap.size = R := f; have := SZ5.out; have := HRL.out; omega)); have U8 := Lib.hid ((HU.out.trans U7.out (fun _ _ f => f)).trans hu8 (F := NoF) (fun j hj f => by have f : j = R := f; have := HRX.out; have := HX.out; omega)); clear hm8 hu8 hs8)
        | (refine wl_load rfl 38 (.tmp 7) rfl w5.heap.size 0 (by rfl) ra.toList _ (range_blk (by rw [Array.toArray_toList]; exact B8.out)) Tryz.underlying38 rfl (by rw [Array.length_toList, HR8.out]; exact item_size) ra (by simp) ?_)
        | (refine (CP.out w8 U8.out).mono ?_; rintro e w9 ⟨A9, c9, rfl, hn9, hu9⟩; have N9 := Lib.hid hn9; have U9 := Lib.hid (U8.out.trans hu9 (fun _ _ f => f)); have M9 := Lib.hid (M8.out.keep hu9); have G9 := Lib.hid hu9; clear hn9 hu9)
        | (at_builtin; refine wpList_append_to _ rfl (.tmp 42) (.tmp 44) 22 rfl 28 i0 _ 8 8 Tryz.underlying22 hi0 hz0 hz1 hz2 (by kernel_rfl) (.slice (some ⟨g, 0, none⟩) k cc) k (rowsN todo) (by rfl) ((((OC.out.upd E7.out (fun _ _ f => f)).upd D8.out (fun j hj f => by have := HN.out.2 j (by rw [ownB_len (m := k) (d := cc)]; exact hj); have f : j = R := f; have := HRX.out; omega)).upd G9.out (fun _ _ f => f))) (.slice A9 PL.length c9) PL.length (rowsN PL) (by rfl) N9.out.1.rd (rowsN_one _) HB1.out.1 HB1.out.2 ?_; intro A10 c10 w10 hown hupd hnew; have O10 := Lib.hid hown; have D10 := Lib.hid hupd; have N10 := Lib.hid hnew; clear hown hupd hnew))
          go_roundg (k + PL.length + 2001 * unseen (its.map (·.1)) (seen ++ [nm]))
          case measure => have := HUS.out; have := HPB.out; omega
          case rel =>
            have hg : ∀ j, OwnB (.slice (some ⟨g, 0, none⟩) k cc) j → X + 2 ≤ j := fun j hj => HN.out.2 j (by rw [ownB_len (m := k) (d := cc)]; exact hj)
            have h9 := U9.out.size
            refine ⟨todo ++ PL, seen ++ [nm], A10, k + PL.length, c10, rfl, Nat.le_refl _, Lib.hid (by have := HKX.out; have := HUS.out; have := HPB.out; omega), Lib.hid (by rw [List.length_append, HTK.out]), Lib.hid ⟨by rw [rowsN_append]; exact O10.out, fun j hj => ?_⟩, Lib.hid ?_, Lib.hid ?_, Lib.hid (U9.out.trans D10.out (fun j hj f => by have := hg j f; have := HX.out; omega)), Lib.hid (fun y hy => by rcases List.mem_append.1 hy with hy | hy; (· exact HT8'.out y hy); exact HP8.out y hy), Lib.hid (fun fin hc => HCL.out fin (Clo.take HIO.out HSE.out (by rw [HPL.out]; exact hc)))⟩
            · rcases N10.out j hj with f | f
              · exact hg j f
              · have := HU.out.size
                have := U7.out.size
                have := Z8.out
                have := G9.out.size
                have := HRX.out
                have := HRL.out
                omega
            · rw [setE_snoc]
              exact M9.out.upd D10.out (fun f => by have := hg R f; have := HRX.out; omega)
            · refine ((G9.out.blk (D8.out.blk (U7.out.blk HBG.out (fun f => f)) (fun f => ?_)) (fun f => f))) |> fun hh => D10.out.blk hh (fun f => ?_)
              · have := hg X f; omega
              · have f : X = R := f; have := HRX.out; omega
end

section
open Go
end

section
open Go.RowKit Go.Shelf Go.Lib

set_option maxRecDepth 100000 in
set_option maxHeartbeats 8000000 in
theorem r20SameNames_any {w : World} {A A2 : Option Addr} {c n c2 n2 : Nat} {l m : List (List UInt8)} (hl : l.length = n) (h : NmR w (.slice A n c) l) (hm : m.length = n2) (h2 : NmR w (.slice A2 n2 c2) m) :
    Calls Tryz.prog 11 #[.slice A n c, .slice A2 n2 c2] w fun e w' => e = .returned (.bool (decide (l = m))) ∧ Upd NoF w w' := by
  have HML := Lib.hid (show n ≤ maxLen ∧ n2 ≤ maxLen from by
    have q1 := h.2.le
    have q2 := h2.2.le
    omega)
  have HR := Lib.hid h
  have HR2 := Lib.hid h2
  have HN := Lib.hid hl
  have HN2 := Lib.hid hm
  obtain ⟨rv, hrv⟩ : ∃ x, decide (l = m) = x := ⟨_, rfl⟩
  rw [hrv]
  have HNEG := Lib.hid (show l ≠ m → rv = false from fun e => by rw [← hrv]; exact decide_eq_false e)
  have HPOS := Lib.hid (show l = m → rv = true from fun e => by rw [← hrv]; exact decide_eq_true e)
  clear h h2 hl hm hrv
  by_cases hnn : n = n2
  · subst hnn
    have t0 : decide ((n : Int) = (n : Int)) = true := by simp
    go_enter Tryz.func11, Tryz.ntmps11
    go_wp2
    go_loopw [5] (fun s5 wr => ∃ k : Nat, s5 = .int .i64 (k : Int) ∧ k ≤ n ∧ (∀ j, j < k → l[j]? = m[j]?) ∧ Upd NoF w wr) (fun i _ => n - (intOf i).toNat)
    case atStart => exact ⟨0, rfl, Nat.zero_le _, fun j hj => by omega, Upd.refl _ _⟩
    case round =>
      obtain ⟨k, rfl, hk, hno, hu⟩ := hrel
      have HNO := Lib.hid hno
      have HU := Lib.hid hu
      clear hno hu
      have hmx : n ≤ 9223372036854775807 := by have := HML.out.1; unfold maxLen at this; omega
      by_cases hlt : k < n
      · have t1 : decide ((k : Int) < (n : Int)) = true := by simp; omega
        obtain ⟨s, hs⟩ : ∃ y, l[k]? = some y := ⟨_, List.getElem?_eq_getElem (by rw [HN.out]; exact hlt)⟩
        obtain ⟨t, ht⟩ : ∃ y, m[k]? = some y := ⟨_, List.getElem?_eq_getElem (by rw [HN2.out]; exact hlt)⟩
        have H8S := Lib.hid (HR.out.1 s (List.mem_of_getElem? hs))
        have H8T := Lib.hid (HR2.out.1 t (List.mem_of_getElem? ht))
        obtain ⟨g, o, rfl, hrow⟩ := HR.out.at_ hs
        obtain ⟨g2, o2, rfl, hrow2⟩ := HR2.out.at_ ht
        have XS := Lib.hid (show ∀ wq, Upd NoF wr.drew wq → wq.rangeAt g (o + k * 8) (s.map byteV) from fun wq hq j v hv => (HU.out.drew.trans hq (fun _ _ f => f)).cell (hrow j v hv) (fun f => f))
        have XT := Lib.hid (show ∀ wq, Upd NoF wr.drew wq → wq.rangeAt g2 (o2 + k * 8) (t.map byteV) from fun wq hq j v hv => (HU.out.drew.trans hq (fun _ _ f => f)).cell (hrow2 j v hv) (fun f => f))
        have HLK := Lib.hid hs
        have HMK := Lib.hid ht
        obtain ⟨zs, hzs⟩ : ∃ y, (s.map byteV).toArray = y := ⟨_, rfl⟩
        have HZS := Lib.hid hzs
        obtain ⟨zt, hzt⟩ : ∃ y, (t.map byteV).toArray = y := ⟨_, rfl⟩
        have HZT := Lib.hid hzt
        have HE := Lib.hid (show ∀ w, (binOp .neq 28 (.agg zs) (.agg zt)).run Tryz.prog w = .ok (.bool (!(decide (s = t)))) w from fun w => by
          have q := neq_name' H8S.out H8T.out w
          rw [← HZS.out, ← HZT.out]
          exact q)
        have ww : IntKind.i64.wrap ((k : Int) + 1) = (k : Int) + 1 := IntWalk.i64_in _ (by omega)
        clear hzs hzt hs ht hrow hrow2
        go_wp2_with fail
        refine wp_region_rgw (rgR [isV (.slice (some ⟨g, o, none⟩) n c), isV (.int .i64 (k : Int)), isV (.pointer (some ⟨g, o + k * 8, none⟩)), isV (.agg zs), isV (.slice (some ⟨g2, o2, none⟩) n c2), isV (.int .i64 (k : Int)), isV (.pointer (some ⟨g2, o2 + k * 8, none⟩)), isV (.agg zt), isV (.bool (!(decide (s = t))))]) (fun w w' => Upd NoF w w') (fun _ wq => Upd NoF wr.drew wq) (by kernel_rfl) (by kernel_rfl) (by kernel_rfl) (by rfl) (fun w => Upd.refl _ _) (rgR_keep (by
          intro p hp; simp only [List.mem_cons, List.not_mem_nil, or_false] at hp; rcases hp with rfl | rfl | rfl | rfl | rfl | rfl | rfl | rfl | rfl <;> first | exact stb_isV _ | exact stb_any)) (Upd.refl _ _) ?_ ?_
        · refine ⟨?_, ?_, ?_, ?_, ?_, ?_, ?_, ?_, ?_, trivial⟩
          · refine fun ρ w' L hW hLi hcl hd hdep hext hc hg hf => ?_
            rw [if_pos (show wantedR _ _ _ = true from rfl)]
            have e0 : ρ (.tmp 0) = .slice (some ⟨g, o, none⟩) n c := hext 0 (by kernel_rfl)
            clear hdep hext hcl
            have HW := Lib.hid hW
            clear hW
            unfold OpDone
            go_simp
            exact ⟨rfl, Upd.refl _ _, HW.out⟩
          · refine fun ρ w' L hW hLi hcl hd hdep hext hc hg hf => ?_
            rw [if_pos (show wantedR _ _ _ = true from rfl)]
            have e5 : ρ (.tmp 5) = .int .i64 (k : Int) := hext 5 (by kernel_rfl)
            clear hdep hext hcl
            have HW := Lib.hid hW
            clear hW
            unfold OpDone
            go_simp
            exact ⟨rfl, Upd.refl _ _, HW.out⟩
          · refine fun ρ w' L hW hLi hcl hd hdep hext hc hg hf => ?_
            rw [if_pos (show wantedR _ _ _ = true from rfl)]
            have e17 : ρ (.tmp 17) = .slice (some ⟨g, o, none⟩) n c := hdep 0 _ rfl (by kernel_rfl)
            have e18 : ρ (.tmp 18) = .int .i64 (k : Int) := hdep 1 _ rfl (by kernel_rfl)
            have q0 : (0 : Int) ≤ (k : Int) := by omega
            have q1 : (k : Int) < (n : Int) := by omega
            have q2 : k < n := by omega
            clear hdep hext hcl
            have HW := Lib.hid hW
            clear hW
            unfold OpDone
            go_simp
            exact ⟨rfl, Upd.refl _ _, HW.out⟩
          · refine fun ρ w' L hW hLi hcl hd hdep hext hc hg hf => ?_
            rw [if_pos (show wantedR _ _ _ = true from rfl)]
            have e19 : ρ (.tmp 19) = .pointer (some ⟨g, o + k * 8, none⟩) := hdep 2 _ rfl (by kernel_rfl)
            clear hdep hext
            refine od_load_row 28 (.tmp 19) rfl _ _ e19 (s.map byteV) _ (XS.out w' hW) Tryz.underlying28 rfl (by rw [name_size]; simp [H8S.out]) ?_
            rw [HZS.out]
            exact ⟨rfl, Upd.refl _ _, hW⟩
          · refine fun ρ w' L hW hLi hcl hd hdep hext hc hg hf => ?_
            rw [if_pos (show wantedR _ _ _ = true from rfl)]
            have e1 : ρ (.tmp 1) = .slice (some ⟨g2, o2, none⟩) n c2 := hext 1 (by kernel_rfl)
            clear hdep hext hcl
            have HW := Lib.hid hW
            clear hW
            unfold OpDone
            go_simp
            exact ⟨rfl, Upd.refl _ _, HW.out⟩
          · refine fun ρ w' L hW hLi hcl hd hdep hext hc hg hf => ?_
            rw [if_pos (show wantedR _ _ _ = true from rfl)]
            have e5 : ρ (.tmp 5) = .int .i64 (k : Int) := hext 5 (by kernel_rfl)
            clear hdep hext hcl
            have HW := Lib.hid hW
            clear hW
            unfold OpDone
            go_simp
            exact ⟨rfl, Upd.refl _ _, HW.out⟩
          · refine fun ρ w' L hW hLi hcl hd hdep hext hc hg hf => ?_
            rw [if_pos (show wantedR _ _ _ = true from rfl)]
            have e21 : ρ (.tmp 21) = .slice (some ⟨g2, o2, none⟩) n c2 := hdep 4 _ rfl (by kernel_rfl)
            have e22 : ρ (.tmp 22) = .int .i64 (k : Int) := hdep 5 _ rfl (by kernel_rfl)
            have q0 : (0 : Int) ≤ (k : Int) := by omega
            have q1 : (k : Int) < (n : Int) := by omega
            have q2 : k < n := by omega
            clear hdep hext hcl
            have HW := Lib.hid hW
            clear hW
            unfold OpDone
            go_simp
            exact ⟨rfl, Upd.refl _ _, HW.out⟩
          · refine fun ρ w' L hW hLi hcl hd hdep hext hc hg hf => ?_
            rw [if_pos (show wantedR _ _ _ = true from rfl)]
            have e23 : ρ (.tmp 23) = .pointer (some ⟨g2, o2 + k * 8, none⟩) := hdep 6 _ rfl (by kernel_rfl)
            clear hdep hext
            refine od_load_row 28 (.tmp 23) rfl _ _ e23 (t.map byteV) _ (XT.out w' hW) Tryz.underlying28 rfl (by rw [name_size]; simp [H8T.out]) ?_
            rw [HZT.out]
            exact ⟨rfl, Upd.refl _ _, hW⟩
          · refine fun ρ w' L hW hLi hcl hd hdep hext hc hg hf => ?_
            rw [if_pos (show wantedR _ _ _ = true from rfl)]
            have e20 : ρ (.tmp 20) = .agg zs := hdep 3 _ rfl (by kernel_rfl)
            have e24 : ρ (.tmp 24) = .agg zt := hdep 7 _ rfl (by kernel_rfl)
            clear hdep hext
            have hE : ∀ w, (binOp .neq 28 (.agg zs) (.agg zt)).run Tryz.prog w = .ok (.bool (!(decide (s = t)))) w := fun w => HE.out w
            have HW := Lib.hid hW
            clear hW
            unfold OpDone
            go_simp
            exact ⟨rfl, Upd.refl _ _, HW.out⟩
        intro vs W8 L8 hL8 hW8 hR
        have hv0 : vs 0 = .slice (some ⟨g, o, none⟩) n c := hR 0 _ rfl
        have hv1 : vs 1 = .int .i64 (k : Int) := hR 1 _ rfl
        have hv2 : vs 2 = .pointer (some ⟨g, o + k * 8, none⟩) := hR 2 _ rfl
        have hv3 : vs 3 = .agg zs := hR 3 _ rfl
        have hv4 : vs 4 = .slice (some ⟨g2, o2, none⟩) n c2 := hR 4 _ rfl
        have hv5 : vs 5 = .int .i64 (k : Int) := hR 5 _ rfl
        have hv6 : vs 6 = .pointer (some ⟨g2, o2 + k * 8, none⟩) := hR 6 _ rfl
        have hv7 : vs 7 = .agg zt := hR 7 _ rfl
        have hv8 : vs 8 = .bool (!(decide (s = t))) := hR 8 _ rfl
        simp only [putAll, Act.put, List.setIfInBounds_toArray, List.set_cons_zero, List.set_cons_succ, hv0, hv1, hv2, hv3, hv4, hv5, hv6, hv7, hv8]
        clear hR hv0 hv1 hv2 hv3 hv4 hv5 hv6 hv7 hv8
        have HU8 := Lib.hid (show Upd NoF w W8 from HU.out.trans (((Upd.refl NoF wr).drew).trans hW8 (fun _ _ f => f)) (fun _ _ f => f))
        clear hW8
        cases hst : decide (s = t) with
        | false =>
          have HNE := Lib.hid (show l ≠ m from fun e => by
            have h1 := HLK.out
            rw [e, HMK.out] at h1
            cases h1
            simp at hst)
          clear hst
          rw [show (!false) = true from rfl]
          go_wp2
          go_ret
          exact ⟨by rw [HNEG.out HNE.out]; rfl, HU8.out⟩
        | true =>
          have HEQ := Lib.hid (show s = t from of_decide_eq_true hst)
          clear hst
          rw [show (!true) = false from rfl]
          go_wp2
          go_roundw
          case rel =>
            refine ⟨k + 1, by go_num, by omega, fun j hj => ?_, HU8.out⟩
            rcases Nat.lt_succ_iff_lt_or_eq.1 hj with h | rfl
            · exact HNO.out j h
            · rw [HLK.out, HMK.out, HEQ.out]
          case measure => simp [intOf]; omega
      · obtain rfl : k = n := by omega
        have t1 : decide ((k : Int) < (k : Int)) = false := by simp
        have HF := Lib.hid (show l = m from List.ext_getElem? (fun j => by
          rcases Nat.lt_or_ge j k with h | h
          · exact HNO.out j h
          · rw [List.getElem?_eq_none (by rw [HN.out]; exact h), List.getElem?_eq_none (by rw [HN2.out]; exact h)]))
        go_wp2
        go_ret
        exact ⟨by rw [HPOS.out HF.out]; rfl, HU.out⟩
  · have HF := Lib.hid (show l ≠ m from fun e => hnn (by rw [← HN.out, ← HN2.out, e]))
    have t0 : decide ((n : Int) = (n2 : Int)) = false := by simp; omega
    have t0' : decide (n = n2) = false := by simp; omega
    go_enter Tryz.func11, Tryz.ntmps11
    go_wp2
    go_ret
    exact ⟨by rw [HNEG.out HF.out]; rfl, Upd.refl _ _⟩
end
end Go.Proofs.YtengcmfdfmnacaaGreat
