/- items.Graph.Ancestors. Conditions: sizes. slices.Reverse of names. Conditions: sizes. items.Graph.Path. Conditions: sizes. items.NewGraph. Conditions: sizes. -/
import Derived.Test.YtengcmfdfmnacaaGreatJn15
import Derived.Test.YtengcmfdfmnacaaGreatJn11
import Derived.Test.YtengcmfdfmnacaaGreatJn14
import Derived.Test.YtengcmfdfmnacaaGreatLay6
import Derived.Test.YtengcmfdfmnacaaGreatJn10
namespace Go.Proofs.YtengcmfdfmnacaaGreat
section
open Go.RowKit Go.Shelf Go.Lib

/-- The ancestors of a name. -/
def AncP (l : List ItP) (n : List UInt8) (res : List (List UInt8)) : Prop := (itemOf l n = none ∧ res = []) ∨ ∃ x seen, itemOf l n = some x ∧ Clo l (parents x) [] seen ∧ res = seen.filter fun m => m ≠ n
/-- A value that reads as these names. -/
def NmP (l : List (List UInt8)) (v : Value) (w : World) : Prop := ∃ A c, v = .slice A l.length c ∧ NmR w (.slice A l.length c) l
theorem stb_nmp (l : List (List UInt8)) : Stb (fun w w' => Upd NoF w w') (NmP l) := fun _ _ _ ⟨A, c, e, h⟩ hu => ⟨A, c, e, h.keep hu⟩
/-- A new set that holds what is reached. -/
def ClP (S0 : Nat) (l : List ItP) (fr : List (List UInt8)) (v : Value) (w : World) : Prop := ∃ R seen, v = .map (some R) ∧ MapN w R (setE seen) ∧ S0 ≤ R ∧ Clo l fr [] seen
theorem stb_clp (S0 : Nat) (l : List ItP) (fr : List (List UInt8)) : Stb (fun w w' => Upd NoF w w') (ClP S0 l fr) := fun _ _ _ ⟨R, s, e, h, h2⟩ hu => ⟨R, s, e, h.keep hu, h2⟩
theorem setE_filter (l : List (List UInt8)) (n : List UInt8) : ((setE l).filter fun p => p.1 ≠ n) = setE (l.filter fun m => m ≠ n) := by
  unfold setE
  rw [List.filter_map]
  rfl
set_option maxRecDepth 100000 in
set_option maxHeartbeats 8000000 in
theorem grAncestors_any {w : World} {A : Option Addr} {n c r : Nat} {its : List (ItP × List Value)} {nm : List UInt8} (hn : its.length = n) (h : GrR w (.slice A n c) its) (hr : NmI w r (its.map (·.1.name))) (hfew : Few its) (h8 : nm.length = 8) :
    Calls Tryz.prog 46 #[.agg #[.slice A n c, .map (some r)], nameV nm] w fun e w' => ∃ v res, e = .returned v ∧ SetV w' v res ∧ AncP (its.map (·.1)) nm res ∧ Upd NoF w w' := by
  have IA := Lib.hid item_alloc
  have IO := Lib.hid itZ_one
  have IS := Lib.hid (show (Tryz.prog.info? 38).map (·.size) = some itZ.size from by rw [itZ_size, item_size])
  obtain ⟨nb, hnb⟩ : ∃ y, (nm.map byteV).toArray = y := ⟨_, rfl⟩
  have HNB := Lib.hid hnb
  have H8N := Lib.hid h8
  rw [show nameV nm = .agg nb from congrArg Value.agg hnb]
  cases hfi : (its.map (·.1.name)).findIdx? (fun y => y = nm) with
  | none =>
    have HIO := Lib.hid (itemOf_miss hfi)
    have CG := Lib.hid (fun W (hu : Upd NoF w W) => by have := grItem_miss (w := W) (A := A) (n := n) (c := c) (hr.keep hu) hfi h8; rw [show nameV nm = .agg nb from congrArg Value.agg hnb] at this; exact this)
    obtain ⟨iz, hiz⟩ : ∃ x, itZ = x := ⟨_, rfl⟩
    rw [hiz] at IA IO IS CG
    clear hn h hr hfew h8 hnb hfi hiz
    go_enter Tryz.func46, Tryz.ntmps46
    go_wp2_with (first
      | (refine wl_box rfl 89 (.tmp 0) rfl #[.slice A n c, .map (some r)] (by rfl) ?_; intro w0 hb0 hu0 hs0; have BG := Lib.hid hb0; have V0 := Lib.hid hu0; clear hb0 hu0 hs0)
      | (refine wl_box rfl 28 (.tmp 1) rfl nb (by rfl) ?_; intro w1 hb1 hu1 hs1; have BN := Lib.hid hb1; replace BG := Lib.hid (hu1.blk BG.out (fun f => f)); have V1 := Lib.hid (V0.out.trans hu1 (fun _ _ f => f)); clear hb1 hu1 hs1)
      | (refine wl_load rfl 89 (.tmp 2) rfl w.heap.size 0 (by rfl) [.slice A n c, .map (some r)] _ (range_blk BG.out) Tryz.underlying89 rfl graph_size _ rfl ?_)
      | (refine wl_load rfl 28 (.tmp 3) rfl w0.heap.size 0 (by rfl) (nm.map byteV) _ (name_cells HNB.out BN.out) Tryz.underlying28 rfl (by rw [name_size]; simp [H8N.out]) nb HNB.out ?_)
      | (refine (CG.out w1 V1.out).mono ?_; rintro e w5 ⟨rfl, hu5⟩; have U5 := Lib.hid (V1.out.trans hu5 (fun _ _ f => f)); clear hu5)
      | (refine wpList_alloc_row rfl 38 rfl iz IA.out ?_; intro w6 hb6 hu6 hs6; have B6 := Lib.hid hb6; have U6 := Lib.hid (U5.out.trans hu6 (fun _ _ f => f)); clear hb6 hu6 hs6)
      | (refine wpList_store_row rfl 38 (.tmp 5) (.tmp 12) rfl w5.heap.size (by rfl) iz (by rfl) 38 _ B6.out rfl IS.out IO.out ?_; intro w7 hb7 hu7 hs7; have U7 := Lib.hid (U6.out.trans hu7 (F := NoF) (fun j hj e => by have e : j = w5.heap.size := e; have := U5.out.size; omega)); clear hb7 hu7 hs7))
    go_ret
    exact ⟨_, [], rfl, .inl ⟨rfl, rfl⟩, .inl ⟨HIO.out, rfl⟩, U7.out⟩
  | some ki =>
    obtain ⟨x, hxk, hxn, hio⟩ := itemOf_hit hfi
    have HIO := Lib.hid hio
    have hxm := List.mem_of_getElem? hxk
    have HOK := Lib.hid (h.ok x hxm)
    obtain ⟨ra, hra⟩ : ∃ y, (itemC x.1.name x.2).toArray = y := ⟨_, rfl⟩
    have HR8 := Lib.hid (show ra.size = 28 from by rw [← hra]; simpa using itemC_len HOK.out)
    have HRO := Lib.hid (show ra.all (·.oneCell') = true from by rw [← hra]; exact itemC_one HOK.out)
    have CG := Lib.hid (fun W (hu : Upd NoF w W) => by have := grItem_hit (w := W) hn (h.keep hu) (hr.keep hu) hxk hfi h8; rw [show nameV nm = .agg nb from congrArg Value.agg hnb, hra] at this; exact this)
    obtain ⟨iz, hiz⟩ : ∃ x, itZ = x := ⟨_, rfl⟩
    rw [hiz] at IA
    have HI8 := Lib.hid (show iz.size = 28 from by rw [← hiz]; exact itZ_size)
    obtain ⟨PL, hPL⟩ : ∃ y, parents x.1 = y := ⟨_, rfl⟩
    have HPL := Lib.hid hPL
    have HP8 := Lib.hid (show All8 PL from by rw [← hPL]; exact ascSet_all8 (rawPar_all8 HOK.out.fit))
    have HPB : PL.length ≤ 10000 := by have := parents_len x.1; have := hfew.2 x hxm; rw [← hPL]; omega
    have CP0 := Lib.hid (fun W (hu : Upd NoF w W) => show Calls Tryz.prog 12 #[.agg ra] W (AscPost W PL) from by rw [← hra, ← hPL]; exact Parents_any (HOK.out.keep hu) (hfew.2 x hxm).1 (hfew.2 x hxm).2)
    have CC0 := Lib.hid (fun W A1 c1 (hu : Upd NoF w W) (hf : NmR W (.slice A1 PL.length c1) PL) => Closure_any (w := W) hn (h.keep hu) (hr.keep hu) hfew rfl hf HPB)
    clear hn h hr hfew h8 hnb hfi hiz hxk hio hra hPL hxm HPB
    go_enter Tryz.func46, Tryz.ntmps46
    go_wp2_with (first
      | (refine wl_box rfl 89 (.tmp 0) rfl #[.slice A n c, .map (some r)] (by rfl) ?_; intro w0 hb0 hu0 hs0; have BG := Lib.hid hb0; have V0 := Lib.hid hu0; have S0 := Lib.hid hs0; clear hb0 hu0 hs0)
      | (refine wl_box rfl 28 (.tmp 1) rfl nb (by rfl) ?_; intro w1 hb1 hu1 hs1; have BN := Lib.hid hb1; replace BG := Lib.hid (hu1.blk BG.out (fun f => f)); have V1 := Lib.hid (V0.out.trans hu1 (fun _ _ f => f)); have S1 := Lib.hid hs1; clear hb1 hu1 hs1)
      | (refine wl_load rfl 89 (.tmp 2) rfl w.heap.size 0 (by rfl) [.slice A n c, .map (some r)] _ (range_blk BG.out) Tryz.underlying89 rfl graph_size _ rfl ?_)
      | (refine wl_load rfl 28 (.tmp 3) rfl w0.heap.size 0 (by rfl) (nm.map byteV) _ (name_cells HNB.out BN.out) Tryz.underlying28 rfl (by rw [name_size]; simp [H8N.out]) nb HNB.out ?_)
      | (refine (CG.out w1 V1.out).mono ?_; rintro e w5 ⟨rfl, hu5⟩; have U5 := Lib.hid (V1.out.trans hu5 (fun _ _ f => f)); have G5 := Lib.hid (hu5.blk BG.out (fun f => f)); have N5 := Lib.hid (hu5.blk BN.out (fun f => f)); have S5 := Lib.hid hu5.size; clear hu5)
      | (refine wpList_alloc_row rfl 38 rfl iz IA.out ?_; intro w6 hb6 hu6 hs6; have B6 := Lib.hid hb6; have U6 := Lib.hid (U5.out.trans hu6 (fun _ _ f => f)); have G6 := Lib.hid (hu6.blk G5.out (fun f => f)); have N6 := Lib.hid (hu6.blk N5.out (fun f => f)); clear hb6 hu6 hs6)
      | (refine wpList_store_row rfl 38 (.tmp 5) (.tmp 12) rfl w5.heap.size (by rfl) ra (by rfl) 38 _ B6.out (by rw [HI8.out, HR8.out]) (by rw [item_size, HR8.out]) HRO.out ?_; intro w7 hb7 hu7 hs7; have B7 := Lib.hid hb7; have U7 := Lib.hid (U6.out.trans hu7 (F := NoF) (fun j hj e => by have e : j = w5.heap.size := e; have := U5.out.size; omega)); have G7 := Lib.hid (hu7.blk G6.out (fun e => by have e : w.heap.size = w5.heap.size := e; have := S5.out; have := S1.out; have := S0.out; omega)); have N7 := Lib.hid (hu7.blk N6.out (fun e => by have e : w0.heap.size = w5.heap.size := e; have := S5.out; have := S1.out; omega)); clear hb7 hu7 hs7))
    obtain ⟨W1, hW1⟩ : ∃ x, w7 = x := ⟨_, rfl⟩
    obtain ⟨X, hX⟩ : ∃ x, w.heap.size = x := ⟨_, rfl⟩
    obtain ⟨V, hV⟩ : ∃ x, w5.heap.size = x := ⟨_, rfl⟩
    subst hW1
    rw [hV] at B7 ⊢
    rw [hX] at G7 ⊢
    have RG := Lib.hid (fun w' (hu : Upd NoF w7.drew w') => show w'.rangeAt X 0 [.slice A n c, .map (some r)] from range_blk (((Upd.refl NoF w7).drew.trans hu (fun _ _ f => f)).blk G7.out (fun f => f)))
    have RI := Lib.hid (fun w' (hu : Upd NoF w7.drew w') => show w'.rangeAt V 0 ra.toList from range_blk (by rw [Array.toArray_toList]; exact ((Upd.refl NoF w7).drew.trans hu (fun _ _ f => f)).blk B7.out (fun f => f)))
    have RN := Lib.hid (fun w' (hu : Upd NoF w7.drew w') => show Blk w' w0.heap.size 28 nb from ((Upd.refl NoF w7).drew.trans hu (fun _ _ f => f)).blk N7.out (fun f => f))
    have HSW := Lib.hid (show w.heap.size ≤ w7.drew.heap.size from U7.out.size)
    have CP := Lib.hid (fun W (hu : Upd NoF w7.drew W) => CP0.out W (U7.out.drew.trans hu (fun _ _ f => f)))
    have CC := Lib.hid (fun W A1 c1 (hu : Upd NoF w7.drew W) => CC0.out W A1 c1 (U7.out.drew.trans hu (fun _ _ f => f)))
    obtain ⟨W1, hW1⟩ : ∃ x, x = w7 := ⟨_, rfl⟩
    rw [← hW1] at RG RI RN HSW CP CC ⊢
    have UW := Lib.hid (show Upd NoF w W1 from by rw [hW1]; exact U7.out)
    clear hW1 hX hV CP0 CC0 BG BN V0 V1 S0 S1 U5 G5 N5 S5 B6 U6 G6 N6 B7 U7 G7 N7 CG
    refine wp_region_rgw (rgR [isV (.agg #[.slice A n c, .map (some r)]), isV (.agg ra), NmP PL, ClP w.heap.size (its.map (·.1)) PL, ClP w.heap.size (its.map (·.1)) PL]) (fun w w' => Upd NoF w w') (fun _ wq => Upd NoF W1.drew wq) (by kernel_rfl) (by kernel_rfl) (by kernel_rfl) (by rfl) (fun w => Upd.refl _ _) (rgR_keep (by
      intro p hp; simp only [List.mem_cons, List.not_mem_nil, or_false] at hp; rcases hp with rfl | rfl | rfl | rfl | rfl <;> first | exact stb_isV _ | exact stb_any | exact stb_nmp _ | exact stb_clp _ _ _)) (Upd.refl _ _) ?_ ?_
    · refine ⟨?_, ?_, ?_, ?_, ?_, trivial⟩
      · refine fun ρ w' L hW hLi hcl hd hdep hext hc hg hf => ?_
        rw [if_pos (show wantedR _ _ _ = true from rfl)]
        have e2 : ρ (.tmp 2) = .pointer (some ⟨X, 0, none⟩) := hext 2 (by kernel_rfl)
        clear hdep hext
        refine od_load_row 89 (.tmp 2) rfl (X) 0 e2 ([.slice A n c, .map (some r)]) _ (RG.out w' hW) Tryz.underlying89 rfl (graph_size) ?_
        rw [show ([.slice A n c, .map (some r)] : List Value).toArray = #[.slice A n c, .map (some r)] from rfl]
        exact ⟨rfl, Upd.refl _ _, hW⟩
      · refine fun ρ w' L hW hLi hcl hd hdep hext hc hg hf => ?_
        rw [if_pos (show wantedR _ _ _ = true from rfl)]
        have e5 : ρ (.tmp 5) = .pointer (some ⟨V, 0, none⟩) := hext 5 (by kernel_rfl)
        clear hdep hext
        refine od_load_row 38 (.tmp 5) rfl (V) 0 e5 (ra.toList) _ (RI.out w' hW) Tryz.underlying38 rfl (by rw [Array.length_toList, HR8.out]; exact item_size) ?_
        rw [show ra.toList.toArray = ra from by simp]
        exact ⟨rfl, Upd.refl _ _, hW⟩
      · refine fun ρ w' L hW hLi hcl hd hdep hext hc hg hf => ?_
        rw [if_pos (show wantedR _ _ _ = true from rfl)]
        have e17 : ρ (.tmp 17) = .agg ra := hdep 1 _ rfl (by kernel_rfl)
        clear hdep hext
        have CL := Lib.hid (CP.out w' hW)
        have HW := Lib.hid hW
        clear hW hcl hd hLi
        unfold OpDone
        go_simp
        refine CL.out.mono ?_
        rintro e w2 ⟨A9, c9, rfl, hn, hu⟩
        exact ⟨_, rfl, ⟨A9, c9, rfl, ⟨HP8.out, hn.1.rd⟩⟩, hu, HW.out.trans hu (fun _ _ f => f)⟩
      · refine fun ρ w' L hW hLi hcl hd hdep hext hc hg hf => ?_
        rw [if_pos (show wantedR _ _ _ = true from rfl)]
        have e16 : ρ (.tmp 16) = .agg #[.slice A n c, .map (some r)] := hdep 0 _ rfl (by kernel_rfl)
        have e18 : (NmP PL) (ρ (.tmp 18)) w' := hdep 2 _ rfl (by kernel_rfl)
        clear hdep hext
        obtain ⟨a18, k18, e18, n18⟩ := e18
        have CL := Lib.hid (CC.out w' a18 k18 hW n18)
        have HW := Lib.hid hW
        clear hW hcl hd hLi
        have SZW := Lib.hid (show w.heap.size ≤ w'.heap.size from Nat.le_trans HSW.out HW.out.size)
        unfold OpDone
        go_simp
        refine CL.out.mono ?_
        rintro e w2 ⟨R, seen, rfl, hm, hr, hc, hu⟩
        exact ⟨_, rfl, ⟨R, seen, rfl, hm, Nat.le_trans SZW.out hr, hc⟩, hu, HW.out.trans hu (fun _ _ f => f)⟩
      · refine fun ρ w' L hW hLi hcl hd hdep hext hc hg hf => ?_
        rw [if_pos (show wantedR _ _ _ = true from rfl)]
        have e19 : (ClP w.heap.size (its.map (·.1)) PL) (ρ (.tmp 19)) w' := hdep 3 _ rfl (by kernel_rfl)
        clear hdep hext
        obtain ⟨R9, seen9, e19, q19⟩ := e19
        have Q19 := Lib.hid q19
        clear q19
        have HW := Lib.hid hW
        clear hW hcl hd hLi
        unfold OpDone
        go_simp
        exact ⟨⟨R9, seen9, rfl, Q19.out⟩, Upd.refl _ _, HW.out⟩
    intro vs W3 L3 hL3 hW3 hR
    have hv0 : vs 0 = .agg #[.slice A n c, .map (some r)] := hR 0 _ rfl
    have hv1 : vs 1 = .agg ra := hR 1 _ rfl
    have hr2 : (NmP PL) (vs 2) W3 := hR 2 _ rfl
    obtain ⟨a18, k18, hv2, -⟩ := hr2
    have hr3 : (ClP w.heap.size (its.map (·.1)) PL) (vs 3) W3 := hR 3 _ rfl
    obtain ⟨R, seen, hv3, hq3⟩ := hr3
    have hr4 : (ClP w.heap.size (its.map (·.1)) PL) (vs 4) W3 := hR 4 _ rfl
    obtain ⟨R4, seen4, hv4, hq4⟩ := hr4
    simp only [putAll, Act.put, List.setIfInBounds_toArray, List.set_cons_zero, List.set_cons_succ, hv0, hv1, hv2, hv3, hv4]
    clear hR hv0 hv1 hv2 hv3 hv4
    obtain ⟨q1, q2, q3⟩ := hq4
    have Q1 := Lib.hid q1
    have Q2 := Lib.hid q2
    have Q3 := Lib.hid q3
    have HW3 := Lib.hid hW3
    have HN3 := Lib.hid (name_cells HNB.out (RN.out W3 hW3))
    clear q1 q2 q3 hW3 hq3
    go_wp2_with (first
      | (refine wl_load rfl 28 (.tmp 3) rfl w0.heap.size 0 (by rfl) (nm.map byteV) _ HN3.out Tryz.underlying28 rfl (by rw [name_size]; simp [H8N.out]) nb HNB.out ?_)
      | (refine wl_delete rfl 86 _ _ (.tmp 20) (.tmp 21) rfl (by rfl) (by rfl) HNB.out H8N.out Q1.out Tryz.underlying86 ?_; intro w8 hm8 hu8 hs8; have M8 := Lib.hid hm8; have D8 := Lib.hid hu8; clear hm8 hu8 hs8))
    go_ret
    refine ⟨_, seen4.filter fun m => m ≠ nm, rfl, .inr ⟨R4, rfl, ?_⟩, .inr ⟨x.1, seen4, HIO.out, by rw [HPL.out]; exact Q3.out, rfl⟩, (UW.out.drew.trans HW3.out (fun _ _ f => f)).trans D8.out (fun j hj f => by have f : j = R4 := f; have := Q2.out; omega)⟩
    have := M8.out
    rw [setE_filter] at this
    exact this
end

section
open Go.RowKit Go.Shelf Go.Sort Go.Lib

theorem upd_putK {α : Type} [Inhabited α] (enc : α → List Value) (k : Nat) (w : World) (blk off m : Nat) (dk : Array α) : Upd (fun k => k = blk) w (putRowK enc k (Sort.ahead w m) blk off dk) := by
  refine ⟨rfl, rfl, rfl, ?_, fun k hk hn => ?_⟩
  · show w.heap.size ≤ (w.heap.modify blk _).size
    rw [Array.size_modify]
    exact Nat.le_refl _
  · show (w.heap.modify blk _)[k]? = w.heap[k]?
    rw [Array.getElem?_modify, if_neg (fun e => hn e.symm)]
theorem blk_putK {α : Type} [Inhabited α] (enc : α → List Value) (k : Nat) {w : World} {blk : Nat} {t : TypeId} {cur : Array Value} (h : Blk w blk t cur) (off m : Nat) (dk : Array α) : Blk (putRowK enc k (Sort.ahead w m) blk off dk) blk t (putCells id off (flatK enc k dk) cur) := by
  show (w.heap.modify blk _)[blk]? = _
  rw [Array.getElem?_modify, if_pos rfl]
  have h' : w.heap[blk]? = some (.cells cur t (0, 0)) := h
  rw [h']
  rfl
set_option maxRecDepth 100000 in
theorem ReverseNames_any {w : World} {A : Option Addr} {c n : Nat} {l : List (List UInt8)} (h8 : All8 l) (hl : l.length = n) (h : Own w 28 8 (.slice A n c) n (rowsN l)) (hs : n ≤ 100000000) :
    Calls Tryz.prog 82 #[.slice A n c] w fun e w' => e = .returned (.tuple #[]) ∧ Own w' 28 8 (.slice A n c) n (rowsN l.reverse) ∧ Upd (OwnB (.slice A n c)) w w' := by
  rcases Nat.eq_zero_or_pos n with h0 | h0
  · subst h0
    have hl : l = [] := List.eq_nil_of_length_eq_zero hl
    subst hl
    have hc := AnyQ.slices_Reverse_empty (P := Tryz.prog) (ρ := Tryz.revNames_ren) Tryz.revNames A c w
    refine Calls.mono (show Calls Tryz.prog 82 _ _ _ from hc) ?_
    rintro e w' ⟨rfl, rfl⟩
    exact ⟨rfl, h, Upd.refl _ _⟩
  · rcases h.2 with ⟨_, hz⟩ | ⟨g, cap, cur, hv, hb, hn, hcm, hcs, hx⟩
    · omega
    injection hv with hA _ hc
    subst hA
    subst hc
    obtain ⟨d, hd⟩ : ∃ d, d = (toN8 l h8).toArray := ⟨_, rfl⟩
    have hdl : d.toList = toN8 l h8 := by rw [hd]
    have hds : d.size = n := by rw [hd, ← hl, ← congrArg List.length (toN8_val h8)]; simp
    have hf : (flatK encN 8 d).toList = rowsN l := by
      rw [flatK_list encN 8 (fun x => by simp [encN, x.2]), hdl, encN_flat, toN8_val]; rfl
    have hfs : (flatK encN 8 d).size = n * 8 := by rw [size_flatK, hds]
    have hH : HoldsK encN 8 w g 0 d := by
      intro j hj
      refine ⟨?_, hb.frozen _⟩
      rw [Nat.zero_add, hb.cell]
      have h1 : (flatK encN 8 d).toList[j]? = some (flatK encN 8 d)[j]! := by
        rw [Array.getElem?_toList, Array.getElem?_eq_getElem hj, getElem!_pos _ j hj]
      rw [hf, ← hx, List.getElem?_take] at h1
      rw [hfs] at hj
      rw [if_pos hj] at h1
      rw [← Array.getElem?_toList]
      exact h1
    have hcon := AnyQ.slices_Reverse (P := Tryz.prog) (ρ := Tryz.revNames_ren) Tryz.revNames 8 (fun w => by kernel_rfl) (fun w => by kernel_rfl) encN (fun x => by simp [encN, x.2]) (fun x v hv => by obtain ⟨b, -, rfl⟩ := List.mem_map.1 hv; rfl) g 0 c d w hH (by rw [hds]; omega)
    rw [hds] at hcon
    refine Calls.mono (show Calls Tryz.prog 82 #[.slice (some ⟨g, 0, none⟩) n c] w _ from hcon) ?_
    rintro e w' ⟨rfl, q, rfl⟩
    have hd' : d.reverse.size = n := by simp [hds]
    refine ⟨rfl, ?_, (upd_putK encN 8 w g 0 q d.reverse).mono (fun k _ e => by rw [show k = g from e]; simp [OwnB, Value.ownBlock])⟩
    have hf' : (flatK encN 8 d.reverse).toList = rowsN l.reverse := by
      rw [flatK_list encN 8 (fun x => by simp [encN, x.2]), encN_flat, Array.toList_reverse, hdl, List.map_reverse, toN8_val]; rfl
    have hfs' : (flatK encN 8 d.reverse).size = n * 8 := by rw [size_flatK, hd']
    rw [← hf']
    refine ⟨by simp [hds], .inr ⟨g, c, _, rfl, blk_putK encN 8 hb 0 q d.reverse, hn, hcm, ?_, ?_⟩⟩
    · simp only [putCells, Array.size_mapIdx]
      exact hcs
    · apply List.ext_getElem?
      intro i
      rw [List.getElem?_take]
      have hnc : n * 8 ≤ cur.size := Nat.le_trans (Nat.mul_le_mul_right _ hn) hcs
      by_cases hi : i < n * 8
      · rw [if_pos hi]
        simp only [putCells, Array.getElem?_toList, Array.getElem?_mapIdx]
        rw [Array.getElem?_eq_getElem (show i < cur.size by omega)]
        simp only [Option.map_some]
        rw [if_pos (by omega), Nat.sub_zero, Array.getElem?_eq_getElem (by omega), getElem!_pos _ i (by omega)]
        rfl
      · rw [if_neg hi, Array.getElem?_toList, Array.getElem?_eq_none (by omega)]
end

section
open Go.RowKit Go.Shelf Go.Lib

set_option maxRecDepth 100000 in
set_option maxHeartbeats 8000000 in
theorem grPath_any {w : World} {A : Option Addr} {n c r : Nat} {its : List (ItP × List Value)} {nm0 : List UInt8} (hn : its.length = n) (h : GrR w (.slice A n c) its) (hr : NmI w r (its.map (·.1.name))) (hm : its.length ≤ 1000) (h8 : nm0.length = 8) :
    Calls Tryz.prog 49 #[.agg #[.slice A n c, .map (some r)], nameV nm0] w fun e w' => ∃ seen A' cc, Dwn (its.map (·.1)) nm0 [] seen ∧ e = .returned (.slice A' seen.length cc) ∧ NwA w.heap.size 28 8 seen.length (rowsN seen.reverse) A' cc w' ∧ Upd NoF w w' ∧ All8 seen ∧ seen.length ≤ 1000 := by
  obtain ⟨i0, hi0, hz0, hz1, hz2⟩ := info_parts name_info
  have HNI := Lib.hid hn
  have HG := Lib.hid h
  have HITS := Lib.hid hm
  have IA := Lib.hid item_alloc
  have IO := Lib.hid itZ_one
  have IS := Lib.hid (show (Tryz.prog.info? 38).map (·.size) = some itZ.size from by rw [itZ_size, item_size])
  have CGM := Lib.hid (fun W nm (hu : Upd NoF w W) (hf : (its.map (·.1.name)).findIdx? (fun y => y = nm) = none) (h8 : nm.length = 8) => grItem_miss (w := W) (A := A) (n := n) (c := c) (hr.keep hu) hf h8)
  obtain ⟨iz, hiz⟩ : ∃ x, itZ = x := ⟨_, rfl⟩
  rw [hiz] at IA IO IS CGM
  have HI8 := Lib.hid (show iz.size = 28 from by rw [← hiz]; exact itZ_size)
  have CGH := Lib.hid (fun W nm k x (hu : Upd NoF w W) (hk : its[k]? = some x) (hf : (its.map (·.1.name)).findIdx? (fun y => y = nm) = some k) (h8 : nm.length = 8) => grItem_hit (w := W) hn (h.keep hu) (hr.keep hu) hk hf h8)
  have HBS := Lib.hid (fun (n : List UInt8) (hn : n.length = 8) (za : Array Value) (hz : (n.map byteV).toArray = za) w => bs_name hn hz w)
  obtain ⟨nb0, hnb0⟩ : ∃ y, (nm0.map byteV).toArray = y := ⟨_, rfl⟩
  have HNB0 := Lib.hid hnb0
  have H80 := Lib.hid h8
  rw [show nameV nm0 = .agg nb0 from congrArg Value.agg hnb0]
  clear hn h hr hm hiz h8 hnb0
  go_enter Tryz.func49, Tryz.ntmps49
  go_wp2_with (first
    | (refine wl_box rfl 89 (.tmp 0) rfl #[.slice A n c, .map (some r)] (by rfl) ?_; intro w0 hb0 hu0 hs0; have BG := Lib.hid hb0; have V0 := Lib.hid hu0; have S0 := Lib.hid hs0; clear hb0 hu0 hs0)
    | (refine wl_box rfl 28 (.tmp 1) rfl nb0 (by rfl) ?_; intro w1 hb1 hu1 hs1; have BN := Lib.hid hb1; have S1 := Lib.hid hs1; replace BG := Lib.hid (hu1.blk BG.out (fun f => f)); have V1 := Lib.hid (V0.out.trans hu1 (fun _ _ f => f)); clear hb1 hu1 hs1)
    | (refine wl_makeMap0 rfl 86 rfl ?_; intro w2 hm2 hu2 hs2; have M2 := Lib.hid hm2; have S2 := Lib.hid hs2; replace BG := Lib.hid (hu2.blk BG.out (fun f => f)); replace BN := Lib.hid (hu2.blk BN.out (fun f => f)); have V2 := Lib.hid (V1.out.trans hu2 (fun _ _ f => f)); clear hm2 hu2 hs2))
  obtain ⟨X, hX⟩ : ∃ x, w.heap.size = x := ⟨_, rfl⟩
  obtain ⟨NB, hNB⟩ : ∃ x, w0.heap.size = x := ⟨_, rfl⟩
  obtain ⟨R, hR⟩ : ∃ x, w1.heap.size = x := ⟨_, rfl⟩
  rw [hX] at BG S0 ⊢
  rw [hNB] at BN S0 S1 ⊢
  rw [hR] at M2 S1 S2 ⊢
  have HX := Lib.hid hX
  have HNX := Lib.hid (show NB = X + 1 from S0.out)
  have HRX := Lib.hid (show R = X + 2 from by have := S1.out; have := HNX.out; omega)
  have N2 := Lib.hid (show NwA (X + 3) 28 8 0 (rowsN []) none 0 w2 from NwA.nil _ _ _ _)
  clear hX hNB hR V0 V1 S0 S1 S2
  go_loopg [5] its.length (fun kx s5 wr => ∃ (nm : List UInt8) (seen : List (List UInt8)) (A' : Option Addr) (m cc : Nat), s5 = .slice A' m cc ∧ unseen (its.map (·.1)) seen ≤ kx ∧ Hid (nm.length = 8) ∧ Hid (Blk wr NB 28 (nm.map byteV).toArray) ∧ Hid (m + unseen (its.map (·.1)) seen ≤ its.length) ∧ Hid (seen.length = m) ∧ Hid (NwA (X + 3) 28 8 m (rowsN seen) A' cc wr) ∧ Hid (MapN wr R (setE seen)) ∧ Hid (Blk wr X 89 #[.slice A n c, .map (some r)]) ∧ Hid (Upd NoF w wr) ∧ Hid (∀ fin, Dwn (its.map (·.1)) nm seen fin → Dwn (its.map (·.1)) nm0 [] fin))
  case atStart => exact ⟨nm0, [], none, 0, 0, rfl, by have := unseen_le (its.map (·.1)) []; rw [List.length_map] at this; exact this, H80, Lib.hid (by rw [HNB0.out]; exact BN.out), Lib.hid (by have := unseen_le (its.map (·.1)) []; rw [List.length_map] at this; omega), Lib.hid rfl, N2, M2, BG, V2, Lib.hid (fun _ h => h)⟩
  case round =>
    clear N2 M2 BG BN V2
    obtain ⟨nm, seen, A', m, cc, rfl, hkx, H8N, HBN0, HMU, HSL, HN, HM, HBG, HU, HCL⟩ := hrel
    obtain ⟨nb, hnb⟩ : ∃ y, (nm.map byteV).toArray = y := ⟨_, rfl⟩
    have HNB := Lib.hid hnb
    have HBN := Lib.hid (show Blk wr NB 28 nb from by rw [← hnb]; exact HBN0.out)
    have HMB := Lib.hid (show m ≤ 1000 from by have := HMU.out; have := HITS.out; omega)
    have HS8 := Lib.hid (show All8 seen from fun y hy => HM.out.k8 (y, .bool true) (List.mem_map.2 ⟨y, hy, rfl⟩))
    have HRL := Lib.hid HM.out.lt
    have HB1 := Lib.hid (show m + 1 ≤ maxLen ∧ (m + 1) * 8 ≤ 140737488355328 from by have := HMB.out; unfold maxLen; omega)
    clear hnb HBN0
    cases hfi : (its.map (·.1.name)).findIdx? (fun y => y = nm) with
    | none =>
      have HIO := Lib.hid (itemOf_miss hfi)
      have CG := Lib.hid (show ∀ W, Upd NoF wr W → Calls Tryz.prog 79 #[.agg #[.slice A n c, .map (some r)], .agg nb] W (fun e w' => e = .returned (.tuple #[.agg iz, .bool false]) ∧ Upd NoF W w') from fun W hu => by have := CGM.out W nm (HU.out.trans hu (fun _ _ f => f)) hfi H8N.out; rw [show nameV nm = .agg nb from congrArg Value.agg HNB.out] at this; exact this)
      clear hfi
      go_wp2_with (first
        | (refine wl_load rfl 89 (.tmp 2) rfl X 0 (by rfl) [.slice A n c, .map (some r)] _ (range_blk HBG.out) Tryz.underlying89 rfl graph_size _ rfl ?_)
        | (refine wl_load rfl 28 (.tmp 3) rfl NB 0 (by rfl) (nm.map byteV) _ (name_cells HNB.out HBN.out) Tryz.underlying28 rfl (by rw [name_size]; simp [H8N.out]) nb HNB.out ?_)
        | (refine (CG.out wr (Upd.refl _ _)).mono ?_; rintro e w5 ⟨rfl, hu5⟩; have U5 := Lib.hid hu5; clear hu5)
        | (refine wpList_alloc_row rfl 38 rfl iz IA.out ?_; intro w6 hb6 hu6 hs6; have B6 := Lib.hid hb6; have U6 := Lib.hid (U5.out.trans hu6 (fun _ _ f => f)); clear hb6 hu6 hs6)
        | (refine wpList_store_row rfl 38 (.tmp 7) (.tmp 14) rfl w5.heap.size (by rfl) iz (by rfl) 38 _ B6.out rfl IS.out IO.out ?_; intro w7 hb7 hu7 hs7; have B7 := Lib.hid hb7; have SZ5 := Lib.hid U5.out.size; have U7 := Lib.hid (U6.out.trans hu7 (F := NoF) (fun j hj e => by have e : j = w5.heap.size := e; have := SZ5.out; omega)); clear hb7 hu7 hs7)
        | (refine (ReverseNames_any HS8.out HSL.out (HN.out.1.upd U7.out (fun _ _ f => f)) (by have := HMB.out; omega)).mono ?_; rintro e w12 ⟨rfl, ho12, hu12⟩; have O12 := Lib.hid ho12; have D12 := Lib.hid hu12; clear ho12 hu12))
      go_ret
      refine ⟨seen, A', cc, HCL.out _ (Dwn.stop (.inl HIO.out)), by rw [HSL.out]; rfl, ?_, (HU.out.trans U7.out (fun _ _ f => f)).trans D12.out (fun j hj f => by have := HN.out.2 j f; have := HX.out; omega), HS8.out, by have := HMB.out; rw [HSL.out]; omega⟩
      rw [HSL.out]
      exact ⟨O12.out, fun j hj => by have := HN.out.2 j hj; have := HX.out; omega⟩
    | some ki =>
      obtain ⟨x, hxk, hxn, hio⟩ := itemOf_hit hfi
      have HIO := Lib.hid hio
      have HXM := Lib.hid (List.mem_of_getElem? hxk)
      have HOK := Lib.hid (HG.out.ok x HXM.out)
      obtain ⟨ra, hra⟩ : ∃ y, (itemC x.1.name x.2).toArray = y := ⟨_, rfl⟩
      have HRA := Lib.hid hra
      have HR8 := Lib.hid (show ra.size = 28 from by rw [← hra]; simpa using itemC_len HOK.out)
      have HRO := Lib.hid (show ra.all (·.oneCell') = true from by rw [← hra]; exact itemC_one HOK.out)
      have CG := Lib.hid (show ∀ W, Upd NoF wr W → Calls Tryz.prog 79 #[.agg #[.slice A n c, .map (some r)], .agg nb] W (fun e w' => e = .returned (.tuple #[.agg ra, .bool true]) ∧ Upd NoF W w') from fun W hu => by have := CGH.out W nm ki x (HU.out.trans hu (fun _ _ f => f)) hxk hfi H8N.out; rw [show nameV nm = .agg nb from congrArg Value.agg HNB.out, HRA.out] at this; exact this)
      clear hfi hxk hio
      by_cases hse : nm ∈ seen
      · have HSE := Lib.hid hse
        have HGT := Lib.hid (setE_in hse)
        clear hse hra
        go_wp2_with (first
        | (refine wl_load rfl 89 (.tmp 2) rfl X 0 (by rfl) [.slice A n c, .map (some r)] _ (range_blk HBG.out) Tryz.underlying89 rfl graph_size _ rfl ?_)
        | (refine wl_load rfl 28 (.tmp 3) rfl NB 0 (by rfl) (nm.map byteV) _ (name_cells HNB.out HBN.out) Tryz.underlying28 rfl (by rw [name_size]; simp [H8N.out]) nb HNB.out ?_)
        | (refine (CG.out wr (Upd.refl _ _)).mono ?_; rintro e w5 ⟨rfl, hu5⟩; have U5 := Lib.hid hu5; clear hu5)
        | (refine wpList_alloc_row rfl 38 rfl iz IA.out ?_; intro w6 hb6 hu6 hs6; have B6 := Lib.hid hb6; have U6 := Lib.hid (U5.out.trans hu6 (fun _ _ f => f)); clear hb6 hu6 hs6)
        | (refine wpList_store_row rfl 38 (.tmp 7) (.tmp 14) rfl w5.heap.size (by rfl) ra (by rfl) 38 _ B6.out (by rw [HI8.out, HR8.out]) (by rw [item_size, HR8.out]) HRO.out ?_; intro w7 hb7 hu7 hs7; have B7 := Lib.hid hb7; have SZ5 := Lib.hid U5.out.size; have U7 := Lib.hid (U6.out.trans hu7 (F := NoF) (fun j hj e => by have e : j = w5.heap.size := e; have := SZ5.out; omega)); clear hb7 hu7 hs7)
        | (refine wl_load rfl 28 (.tmp 3) rfl NB 0 (by rfl) (nm.map byteV) _ (name_cells HNB.out (U7.out.blk HBN.out (fun f => f))) Tryz.underlying28 rfl (by rw [name_size]; simp [H8N.out]) nb HNB.out ?_)
        | (refine wl_lookup rfl 86 _ (.tmp 19) (.tmp 20) false rfl (by rfl) (by rfl) HNB.out H8N.out (HM.out.keep U7.out) Tryz.underlying86 (.bool false) (fun w => by kernel_rfl) (.bool true) (by rw [HGT.out]; rfl) ?_)
        | (refine (ReverseNames_any HS8.out HSL.out (HN.out.1.upd U7.out (fun _ _ f => f)) (by have := HMB.out; omega)).mono ?_; rintro e w12 ⟨rfl, ho12, hu12⟩; have O12 := Lib.hid ho12; have D12 := Lib.hid hu12; clear ho12 hu12))
        go_ret
        refine ⟨seen, A', cc, HCL.out _ (Dwn.stop (.inr HSE.out)), by rw [HSL.out]; rfl, ?_, (HU.out.trans U7.out (fun _ _ f => f)).trans D12.out (fun j hj f => by have := HN.out.2 j f; have := HX.out; omega), HS8.out, by have := HMB.out; rw [HSL.out]; omega⟩
        rw [HSL.out]
        exact ⟨O12.out, fun j hj => by have := HN.out.2 j hj; have := HX.out; omega⟩
      · have HSE := Lib.hid hse
        have HGT := Lib.hid (setE_out hse)
        have HUS := Lib.hid (unseen_take HIO.out hse)
        obtain ⟨kd, hkd⟩ : ∃ kd, x.1.kind = kd := ⟨_, rfl⟩
        have HKD := Lib.hid hkd
        have CK := Lib.hid (show ra[8]? = some (.int .i64 kd) from by have := item_cell hra HOK.out HOK.out.kind; rw [hkd] at this; exact this)
        have HS81 := Lib.hid (show All8 (seen ++ [nm]) from fun y hy => by rcases List.mem_append.1 hy with hy | hy; (· exact HS8.out y hy); rw [List.mem_singleton.1 hy]; exact H8N.out)
        have HSL1 := Lib.hid (show (seen ++ [nm]).length = m + 1 from by rw [List.length_append, HSL.out]; rfl)
        clear hse hra hkd
        by_cases hk1 : kd = 1
        · subst hk1
          go_wp2_with (first
        | (refine wl_load rfl 89 (.tmp 2) rfl X 0 (by rfl) [.slice A n c, .map (some r)] _ (range_blk HBG.out) Tryz.underlying89 rfl graph_size _ rfl ?_)
        | (refine wl_load rfl 28 (.tmp 3) rfl NB 0 (by rfl) (nm.map byteV) _ (name_cells HNB.out HBN.out) Tryz.underlying28 rfl (by rw [name_size]; simp [H8N.out]) nb HNB.out ?_)
        | (refine (CG.out wr (Upd.refl _ _)).mono ?_; rintro e w5 ⟨rfl, hu5⟩; have U5 := Lib.hid hu5; clear hu5)
        | (refine wpList_alloc_row rfl 38 rfl iz IA.out ?_; intro w6 hb6 hu6 hs6; have B6 := Lib.hid hb6; have U6 := Lib.hid (U5.out.trans hu6 (fun _ _ f => f)); clear hb6 hu6 hs6)
        | (refine wpList_store_row rfl 38 (.tmp 7) (.tmp 14) rfl w5.heap.size (by rfl) ra (by rfl) 38 _ B6.out (by rw [HI8.out, HR8.out]) (by rw [item_size, HR8.out]) HRO.out ?_; intro w7 hb7 hu7 hs7; have B7 := Lib.hid hb7; have SZ5 := Lib.hid U5.out.size; have U7 := Lib.hid (U6.out.trans hu7 (F := NoF) (fun j hj e => by have e : j = w5.heap.size := e; have := SZ5.out; omega)); clear hb7 hu7 hs7)
        | (refine wl_load rfl 28 (.tmp 3) rfl NB 0 (by rfl) (nm.map byteV) _ (name_cells HNB.out (U7.out.blk HBN.out (fun f => f))) Tryz.underlying28 rfl (by rw [name_size]; simp [H8N.out]) nb HNB.out ?_)
        | (refine wl_lookup rfl 86 _ (.tmp 19) (.tmp 20) false rfl (by rfl) (by rfl) HNB.out H8N.out (HM.out.keep U7.out) Tryz.underlying86 (.bool false) (fun w => by kernel_rfl) (.bool false) (by rw [HGT.out]; rfl) ?_)
        | (refine wl_insert rfl 86 _ (.tmp 23) (.tmp 24) (.const (.bool true)) rfl (by rfl) (by rfl) HNB.out (by rfl) H8N.out (HM.out.keep U7.out) Tryz.underlying86 HGT.out ?_; intro w8 hm8 hu8 hs8; have M8 := Lib.hid hm8; have B8 := Lib.hid (hu8.blk B7.out (fun f => by have f : w5.heap.size = R := f; have := SZ5.out; have := HRL.out; omega)); have D8 := Lib.hid (show Upd (fun k => k = R) wr w8 from (U7.out.mono (fun _ _ f => f.elim)).trans hu8 (fun _ _ f => f)); have HBN8 := Lib.hid (D8.out.blk HBN.out (fun f => by have f : NB = R := f; have := HNX.out; have := HRX.out; omega)); have O8 := Lib.hid (HN.out.1.upd D8.out (fun k hk f => by have := HN.out.2 k hk; have f : k = R := f; have := HRX.out; omega)); have ck := (hu8.blk B7.out (fun f => by have f : w5.heap.size = R := f; have := SZ5.out; have := HRL.out; omega)).cell 8 |>.trans CK.out; clear hm8 hu8 hs8)
        | (refine wl_load rfl 28 (.tmp 3) rfl NB 0 (by rfl) (nm.map byteV) _ (name_cells HNB.out HBN8.out) Tryz.underlying28 rfl (by rw [name_size]; simp [H8N.out]) nb HNB.out ?_)
        | (refine wpList_bsRow rfl 22 28 (.tmp 26) rfl (.agg nb) (by rfl) nb (HBS.out _ H8N.out _ HNB.out _) ?_; intro w9 hb9 hu9 hs9; have B9 := Lib.hid hb9; have U9 := Lib.hid hu9; clear hb9 hu9 hs9)
        | (at_builtin; refine wpList_append_to _ rfl (.tmp 25) (.tmp 27) 22 rfl 28 i0 _ 8 8 Tryz.underlying22 hi0 hz0 hz1 hz2 (by kernel_rfl) (.slice A' m cc) m (rowsN seen) (by rfl) (O8.out.upd U9.out (fun _ _ f => f)) (.slice (some ⟨w8.heap.size, 0, none⟩) 1 1) 1 (nm.map byteV) (by rfl) (rd_name H8N.out HNB.out B9.out) (name_ones _) HB1.out.1 HB1.out.2 ?_; intro A10 c10 w10 hown hupd hnew; have O10 := Lib.hid hown; have HDX := Lib.hid (fun j (f : OwnB (.slice A' m cc) j) => HN.out.2 j f); have E10 := Lib.hid (show Upd (fun k => k = R ∨ OwnB (.slice A' m cc) k) wr w10 from (((D8.out.mono (G := fun k => k = R ∨ OwnB (.slice A' m cc) k) (fun _ _ f => .inl f))).trans U9.out (fun _ _ f => f.elim)).trans hupd (fun _ _ f => .inr f)); have HBN10 := Lib.hid (E10.out.blk HBN.out (fun f => by rcases f with f | f; (· have f : NB = R := f; have := HNX.out; have := HRX.out; omega); have := HDX.out NB f; have := HNX.out; omega)); have HBG10 := Lib.hid (E10.out.blk HBG.out (fun f => by rcases f with f | f; (· have f : X = R := f; have := HRX.out; omega); have := HDX.out X f; omega)); have SZW := Lib.hid (show wr.heap.size ≤ w8.heap.size from D8.out.size); have B10 := Lib.hid (hupd.blk (U9.out.blk B8.out (fun f => f)) (fun f => by have := HN.out.1.lt f; have := SZ5.out; omega)); have ck10 := (hupd.blk (U9.out.blk B8.out (fun f => f)) (fun f => by have := HN.out.1.lt f; have := SZ5.out; omega)).cell 8 |>.trans CK.out; have M10 := Lib.hid ((M8.out.keep U9.out).upd hupd (fun f => by have := HDX.out R f; have := HRX.out; omega)); have N10 := Lib.hid (show ∀ j, OwnB (.slice A10 (m + 1) c10) j → X + 3 ≤ j from fun j hj => by rcases hnew j hj with f | f; (· exact HDX.out j f); have := U9.out.size; have := SZW.out; have := HRL.out; have := HRX.out; omega); clear hown hupd hnew)
        | (refine (ReverseNames_any HS81.out HSL1.out (by rw [rowsN_snoc]; exact O10.out) (by have := HMB.out; omega)).mono ?_; rintro e w12 ⟨rfl, ho12, hu12⟩; have O12 := Lib.hid ho12; have D12 := Lib.hid hu12; clear ho12 hu12))
          go_ret
          have HW12 := (HU.out.trans E10.out (F := NoF) (fun j hj f => by rcases f with f | f; (· have f : j = R := f; have := HRX.out; have := HX.out; omega); have := HDX.out j f; have := HX.out; omega)).trans D12.out (F := NoF) (fun j hj f => by have := N10.out j f; have := HX.out; omega)
          refine ⟨seen ++ [nm], A10, c10, HCL.out _ (Dwn.root HIO.out HSE.out HKD.out), by rw [HSL1.out]; rfl, ?_, HW12, HS81.out, by have := HMU.out; have := HUS.out; have := HITS.out; rw [HSL1.out]; omega⟩
          rw [HSL1.out]
          exact ⟨O12.out, fun j hj => by have := N10.out j hj; have := HX.out; omega⟩
        · have t1 : decide (kd = 1) = false := by simpa using hk1
          obtain ⟨pb, hpb⟩ : ∃ y, (x.1.parent.map byteV).toArray = y := ⟨_, rfl⟩
          have HPB := Lib.hid hpb
          have HK1 := Lib.hid hk1
          clear hpb
          go_wp2_with (first
        | (refine wl_load rfl 89 (.tmp 2) rfl X 0 (by rfl) [.slice A n c, .map (some r)] _ (range_blk HBG.out) Tryz.underlying89 rfl graph_size _ rfl ?_)
        | (refine wl_load rfl 28 (.tmp 3) rfl NB 0 (by rfl) (nm.map byteV) _ (name_cells HNB.out HBN.out) Tryz.underlying28 rfl (by rw [name_size]; simp [H8N.out]) nb HNB.out ?_)
        | (refine (CG.out wr (Upd.refl _ _)).mono ?_; rintro e w5 ⟨rfl, hu5⟩; have U5 := Lib.hid hu5; clear hu5)
        | (refine wpList_alloc_row rfl 38 rfl iz IA.out ?_; intro w6 hb6 hu6 hs6; have B6 := Lib.hid hb6; have U6 := Lib.hid (U5.out.trans hu6 (fun _ _ f => f)); clear hb6 hu6 hs6)
        | (refine wpList_store_row rfl 38 (.tmp 7) (.tmp 14) rfl w5.heap.size (by rfl) ra (by rfl) 38 _ B6.out (by rw [HI8.out, HR8.out]) (by rw [item_size, HR8.out]) HRO.out ?_; intro w7 hb7 hu7 hs7; have B7 := Lib.hid hb7; have SZ5 := Lib.hid U5.out.size; have U7 := Lib.hid (U6.out.trans hu7 (F := NoF) (fun j hj e => by have e : j = w5.heap.size := e; have := SZ5.out; omega)); clear hb7 hu7 hs7)
        | (refine wl_load rfl 28 (.tmp 3) rfl NB 0 (by rfl) (nm.map byteV) _ (name_cells HNB.out (U7.out.blk HBN.out (fun f => f))) Tryz.underlying28 rfl (by rw [name_size]; simp [H8N.out]) nb HNB.out ?_)
        | (refine wl_lookup rfl 86 _ (.tmp 19) (.tmp 20) false rfl (by rfl) (by rfl) HNB.out H8N.out (HM.out.keep U7.out) Tryz.underlying86 (.bool false) (fun w => by kernel_rfl) (.bool false) (by rw [HGT.out]; rfl) ?_)
        | (refine wl_insert rfl 86 _ (.tmp 23) (.tmp 24) (.const (.bool true)) rfl (by rfl) (by rfl) HNB.out (by rfl) H8N.out (HM.out.keep U7.out) Tryz.underlying86 HGT.out ?_; intro w8 hm8 hu8 hs8; have M8 := Lib.hid hm8; have B8 := Lib.hid (hu8.blk B7.out (fun f => by have f : w5.heap.size = R := f; have := SZ5.out; have := HRL.out; omega)); have D8 := Lib.hid (show Upd (fun k => k = R) wr w8 from (U7.out.mono (fun _ _ f => f.elim)).trans hu8 (fun _ _ f => f)); have HBN8 := Lib.hid (D8.out.blk HBN.out (fun f => by have f : NB = R := f; have := HNX.out; have := HRX.out; omega)); have O8 := Lib.hid (HN.out.1.upd D8.out (fun k hk f => by have := HN.out.2 k hk; have f : k = R := f; have := HRX.out; omega)); have ck := (hu8.blk B7.out (fun f => by have f : w5.heap.size = R := f; have := SZ5.out; have := HRL.out; omega)).cell 8 |>.trans CK.out; clear hm8 hu8 hs8)
        | (refine wl_load rfl 28 (.tmp 3) rfl NB 0 (by rfl) (nm.map byteV) _ (name_cells HNB.out HBN8.out) Tryz.underlying28 rfl (by rw [name_size]; simp [H8N.out]) nb HNB.out ?_)
        | (refine wpList_bsRow rfl 22 28 (.tmp 26) rfl (.agg nb) (by rfl) nb (HBS.out _ H8N.out _ HNB.out _) ?_; intro w9 hb9 hu9 hs9; have B9 := Lib.hid hb9; have U9 := Lib.hid hu9; clear hb9 hu9 hs9)
        | (at_builtin; refine wpList_append_to _ rfl (.tmp 25) (.tmp 27) 22 rfl 28 i0 _ 8 8 Tryz.underlying22 hi0 hz0 hz1 hz2 (by kernel_rfl) (.slice A' m cc) m (rowsN seen) (by rfl) (O8.out.upd U9.out (fun _ _ f => f)) (.slice (some ⟨w8.heap.size, 0, none⟩) 1 1) 1 (nm.map byteV) (by rfl) (rd_name H8N.out HNB.out B9.out) (name_ones _) HB1.out.1 HB1.out.2 ?_; intro A10 c10 w10 hown hupd hnew; have O10 := Lib.hid hown; have HDX := Lib.hid (fun j (f : OwnB (.slice A' m cc) j) => HN.out.2 j f); have E10 := Lib.hid (show Upd (fun k => k = R ∨ OwnB (.slice A' m cc) k) wr w10 from (((D8.out.mono (G := fun k => k = R ∨ OwnB (.slice A' m cc) k) (fun _ _ f => .inl f))).trans U9.out (fun _ _ f => f.elim)).trans hupd (fun _ _ f => .inr f)); have HBN10 := Lib.hid (E10.out.blk HBN.out (fun f => by rcases f with f | f; (· have f : NB = R := f; have := HNX.out; have := HRX.out; omega); have := HDX.out NB f; have := HNX.out; omega)); have HBG10 := Lib.hid (E10.out.blk HBG.out (fun f => by rcases f with f | f; (· have f : X = R := f; have := HRX.out; omega); have := HDX.out X f; omega)); have SZW := Lib.hid (show wr.heap.size ≤ w8.heap.size from D8.out.size); have B10 := Lib.hid (hupd.blk (U9.out.blk B8.out (fun f => f)) (fun f => by have := HN.out.1.lt f; have := SZ5.out; omega)); have ck10 := (hupd.blk (U9.out.blk B8.out (fun f => f)) (fun f => by have := HN.out.1.lt f; have := SZ5.out; omega)).cell 8 |>.trans CK.out; have M10 := Lib.hid ((M8.out.keep U9.out).upd hupd (fun f => by have := HDX.out R f; have := HRX.out; omega)); have N10 := Lib.hid (show ∀ j, OwnB (.slice A10 (m + 1) c10) j → X + 3 ≤ j from fun j hj => by rcases hnew j hj with f | f; (· exact HDX.out j f); have := U9.out.size; have := SZW.out; have := HRL.out; have := HRX.out; omega); clear hown hupd hnew)
        | (refine wl_load rfl 28 (.tmp 32) rfl w5.heap.size 10 (by rfl) (x.1.parent.map byteV) _ (item_par HRA.out B10.out HOK.out) Tryz.underlying28 rfl (by rw [name_size]; simp [HOK.out.fit.parent]) pb HPB.out ?_)
        | (refine wpList_store_row rfl 28 (.tmp 3) (.tmp 33) rfl NB (by rfl) pb (by rfl) 28 _ HBN10.out (by rw [(name_arr H8N.out HNB.out).1, (name_arr HOK.out.fit.parent HPB.out).1]) (by rw [name_size, (name_arr HOK.out.fit.parent HPB.out).1]) (name_arr HOK.out.fit.parent HPB.out).2 ?_; intro w11 hb11 hu11 hs11; have B11 := Lib.hid hb11; have D11 := Lib.hid hu11; clear hb11 hu11 hs11))
          go_roundg (unseen (its.map (·.1)) (seen ++ [nm]))
          case measure => have := HUS.out; omega
          case rel =>
            have e10 : Upd NoF w w10 := HU.out.trans E10.out (F := NoF) (fun j hj f => by rcases f with f | f; (· have f : j = R := f; have := HRX.out; have := HX.out; omega); have := HDX.out j f; have := HX.out; omega)
            refine ⟨x.1.parent, seen ++ [nm], A10, m + 1, c10, rfl, Nat.le_refl _, Lib.hid HOK.out.fit.parent, Lib.hid (by rw [HPB.out]; exact B11.out), Lib.hid (by have := HMU.out; have := HUS.out; omega), HSL1, Lib.hid ⟨?_, N10.out⟩, Lib.hid ?_, Lib.hid (D11.out.blk HBG10.out (fun f => by have f : X = NB := f; have := HNX.out; omega)), Lib.hid (e10.trans D11.out (fun j hj f => by have f : j = NB := f; have := HNX.out; have := HX.out; omega)), Lib.hid (fun fin hc => HCL.out fin (Dwn.step HIO.out HSE.out (by rw [HKD.out]; exact HK1.out) hc))⟩
            · rw [rowsN_snoc]
              exact O10.out.upd D11.out (fun k hk f => by have := N10.out k hk; have f : k = NB := f; have := HNX.out; omega)
            · rw [setE_snoc]
              exact M10.out.upd D11.out (fun f => by have f : R = NB := f; have := HNX.out; have := HRX.out; omega)
end

section
open Go.RowKit Go.Shelf Go.Lib

/-- The map while it is filled: the first k items. -/
theorem NmI.next_old {w : World} {r : Nat} {names : List (List UInt8)} {k : Nat} {n : List UInt8} (h : NmI w r (names.take k)) (hk : names[k]? = some n) {i : Nat} (hi : (names.take k).findIdx? (fun x => x = n) = some i) : NmI w r (names.take (k + 1)) := by
  obtain ⟨es, h1, h2⟩ := h
  refine ⟨es, h1, fun m => ?_⟩
  obtain ⟨hlt, rfl⟩ := List.getElem?_eq_some_iff.1 hk
  rw [List.take_succ_eq_append_getElem hlt, findIdx_snoc, h2]
  by_cases hm : names[k] = m
  · subst hm; rw [hi]; rfl
  · rw [if_neg hm, Option.or_none]
theorem NmI.next_new {w' : World} {r : Nat} {names : List (List UInt8)} {k : Nat} {n : List UInt8} (hk : names[k]? = some n) {es : List (List UInt8 × Value)} (h2 : ∀ m, getT es m = ((names.take k).findIdx? (fun x => x = m)).map fun i => .int .i64 (i : Int)) (h1 : MapN w' r (es ++ [(n, .int .i64 (k : Int))])) (hn : (names.take k).findIdx? (fun x => x = n) = none) : NmI w' r (names.take (k + 1)) := by
  refine ⟨_, h1, fun m => ?_⟩
  obtain ⟨hlt, rfl⟩ := List.getElem?_eq_some_iff.1 hk
  rw [List.take_succ_eq_append_getElem hlt, findIdx_snoc, getT_snoc, h2, List.length_take, Nat.min_eq_left (Nat.le_of_lt hlt)]
  by_cases hm : names[k] = m
  · subst hm; rw [hn]; simp
  · rw [if_neg hm, if_neg hm]
    cases (names.take k).findIdx? (fun x => x = m) <;> rfl
set_option maxRecDepth 100000 in
set_option maxHeartbeats 8000000 in
theorem NewGraph_any {w : World} {A : Option Addr} {n c : Nat} {its : List (ItP × List Value)} (hn : its.length = n) (h : GrR w (.slice A n c) its) (hm : n ≤ 1000000) :
    Calls Tryz.prog 45 #[.slice A n c] w fun e w' => ∃ r, e = .returned (.agg #[.slice A n c, .map (some r)]) ∧ NmI w' r (its.map (·.1.name)) ∧ Upd NoF w w' := by
  have HN := Lib.hid hn
  have HG := Lib.hid h
  have IA := Lib.hid item_alloc
  have aE : ∀ w, (isAgg 38).run Tryz.prog w = .ok true w := fun w => by kernel_rfl
  have zE : ∀ w, (Go.sizeOf 38).run Tryz.prog w = .ok 28 w := fun w => by kernel_rfl
  obtain ⟨kk, hkk⟩ : ∃ k, k = 28 := ⟨_, rfl⟩
  have HK := Lib.hid hkk
  rw [← hkk] at zE
  obtain ⟨iz, hiz⟩ : ∃ x, itZ = x := ⟨_, rfl⟩
  rw [hiz] at IA
  have HI8 := Lib.hid (show iz.size = 28 from by rw [← hiz]; exact itZ_size)
  clear h hn hkk hiz
  go_enter Tryz.func45, Tryz.ntmps45
  go_wp2_with (first
    | (refine wpList_alloc_row rfl 89 rfl #[.slice none 0 0, .map none] graph_alloc ?_; intro w1 hb1 hu1 hs1; have B1 := Lib.hid hb1; have U1 := Lib.hid hu1; have S1 := Lib.hid hs1; clear hb1 hu1 hs1)
    | (refine wl_makeMap rfl 87 _ _ (.tmp 9) _ rfl rfl Tryz.underlying87 ?_))
  obtain ⟨X, hX⟩ : ∃ x, w.heap.size = x := ⟨_, rfl⟩
  rw [hX] at B1 S1 ⊢
  have HX := Lib.hid hX
  obtain ⟨r, hr⟩ : ∃ r, w1.heap.size = r := ⟨_, rfl⟩
  have HR := Lib.hid hr
  have M1 := Lib.hid (show NmI (w1.alloc (.map #[] 0)) w1.heap.size (((its.map (·.1.name))).take 0) from ⟨[], MapN.fresh w1, fun m => rfl⟩)
  have B2 := Lib.hid (B1.out.alloc (.map #[] 0))
  have U2 := Lib.hid (U1.out.alloc (.map #[] 0))
  rw [hr] at M1 ⊢
  clear hX hr B1 U1
  go_loopg [13] n (fun kx s13 wr => ∃ k : Nat, s13 = .int .i64 (k : Int) ∧ k ≤ n ∧ n - k ≤ kx ∧ Hid (NmI wr r ((its.map (·.1.name)).take k)) ∧ Hid (Blk wr X 89 #[.slice none 0 0, .map none]) ∧ Hid (Upd NoF w wr))
  case atStart => exact ⟨0, rfl, by omega, by omega, M1, B2, U2⟩
  case round =>
    clear M1 B2 U2
    obtain ⟨k, rfl, hkn, hkx, HM, HB, HU⟩ := hrel
    by_cases hlt : k < n
    · have hltz : (k : Int) < (n : Int) := by omega
      obtain ⟨x, hx⟩ : ∃ x, its[k]? = some x := ⟨_, List.getElem?_eq_getElem (by have := HN.out; omega)⟩
      obtain ⟨g, o, rfl, hrg⟩ := (HG.out.keep HU.out).at_ HN.out hx
      have HOK := Lib.hid (HG.out.ok x (List.mem_of_getElem? hx))
      have HNK := Lib.hid (show (its.map (·.1.name))[k]? = some x.1.name from by rw [List.getElem?_map, hx]; rfl)
      rw [← HK.out] at hrg
      have HRG := Lib.hid hrg
      obtain ⟨ra, hra⟩ : ∃ y, (itemC x.1.name x.2).toArray = y := ⟨_, rfl⟩
      have HRA := Lib.hid hra
      have HR8 := Lib.hid (show ra.size = 28 from by rw [← hra]; simpa using itemC_len HOK.out)
      have HRO := Lib.hid (show ra.all (·.oneCell') = true from by rw [← hra]; exact itemC_one HOK.out)
      obtain ⟨nb, hnb⟩ : ∃ y, (x.1.name.map byteV).toArray = y := ⟨_, rfl⟩
      have HNB := Lib.hid hnb
      have e1 : ((k : Int)).toNat = k := by omega
      obtain ⟨es, hes1, hes2⟩ := HM.out
      have HE2 := Lib.hid hes2
      have hrl := Lib.hid hes1.lt
      have HXL := Lib.hid HB.out.lt
      clear hx hrg hra hnb
      cases hf : ((its.map (·.1.name)).take k).findIdx? (fun y => y = x.1.name) with
      | some i =>
        have HF := Lib.hid hf
        have HGT := Lib.hid (show getT es x.1.name = some (.int .i64 (i : Int)) from by rw [hes2, hf]; rfl)
        have HE1 := Lib.hid hes1
        clear hf hes1 hes2
        go_wp2_with (first
          | (refine wpList_load_row rfl 38 (.tmp 16) rfl g (o + k * kk) rfl (itemC x.1.name x.2) _ HRG.out Tryz.underlying38 rfl (by rw [item_size, itemC_len HOK.out]) ra HRA.out ?_)
          | (refine wpList_alloc_row rfl 38 rfl iz IA.out ?_; intro w3 hb3 hu3 hs3; have B3 := Lib.hid hb3; have U3 := Lib.hid hu3; clear hb3 hu3 hs3)
          | (refine wpList_store_row rfl 38 (.tmp 5) (.tmp 17) rfl _ rfl ra rfl 38 _ B3.out (by rw [HI8.out, HR8.out]) (by rw [item_size, HR8.out]) HRO.out ?_; intro w4 hb4 hu4 hs4; have B4 := Lib.hid hb4; have U4 := Lib.hid (U3.out.trans hu4 (F := NoF) (fun j hj e => by have e : j = wr.heap.size := e; omega)); have E4 := Lib.hid (HE1.out.keep U4.out); clear hb4 hu4 hs4)
          | (refine wl_load rfl 28 (.tmp 20) rfl _ _ rfl (x.1.name.map byteV) _ (item_name HRA.out B4.out HOK.out) Tryz.underlying28 rfl (by rw [name_size]; simp [HOK.out.fit.name]) nb HNB.out ?_)
          | (refine wl_lookup rfl 87 _ (.tmp 19) (.tmp 21) true rfl rfl rfl HNB.out HOK.out.fit.name E4.out Tryz.underlying87 (.int .i64 0) (fun w => by kernel_rfl) (.tuple #[.int .i64 (i : Int), .bool true]) (by rw [HGT.out]; rfl) ?_))
        go_roundg (n - (k + 1))
        case measure => omega
        case rel => exact ⟨k + 1, by first | rfl | go_num, by omega, by omega, Lib.hid (NmI.next_old (HM.out.keep U4.out) HNK.out HF.out), Lib.hid (U4.out.blk HB.out (fun f => f)), Lib.hid (HU.out.trans U4.out (fun _ _ f => f))⟩
      | none =>
        have HF := Lib.hid hf
        have HGT := Lib.hid (show getT es x.1.name = none from by rw [hes2, hf]; rfl)
        have HE1 := Lib.hid hes1
        clear hf hes1 hes2
        go_wp2_with (first
          | (refine wpList_load_row rfl 38 (.tmp 16) rfl g (o + k * kk) rfl (itemC x.1.name x.2) _ HRG.out Tryz.underlying38 rfl (by rw [item_size, itemC_len HOK.out]) ra HRA.out ?_)
          | (refine wpList_alloc_row rfl 38 rfl iz IA.out ?_; intro w3 hb3 hu3 hs3; have B3 := Lib.hid hb3; have U3 := Lib.hid hu3; clear hb3 hu3 hs3)
          | (refine wpList_store_row rfl 38 (.tmp 5) (.tmp 17) rfl _ rfl ra rfl 38 _ B3.out (by rw [HI8.out, HR8.out]) (by rw [item_size, HR8.out]) HRO.out ?_; intro w4 hb4 hu4 hs4; have B4 := Lib.hid hb4; have U4 := Lib.hid (U3.out.trans hu4 (F := NoF) (fun j hj e => by have e : j = wr.heap.size := e; omega)); have E4 := Lib.hid (HE1.out.keep U4.out); clear hb4 hu4 hs4)
          | (refine wl_load rfl 28 (.tmp 20) rfl _ _ rfl (x.1.name.map byteV) _ (item_name HRA.out B4.out HOK.out) Tryz.underlying28 rfl (by rw [name_size]; simp [HOK.out.fit.name]) nb HNB.out ?_)
          | (refine wl_lookup rfl 87 _ (.tmp 19) (.tmp 21) true rfl rfl rfl HNB.out HOK.out.fit.name E4.out Tryz.underlying87 (.int .i64 0) (fun w => by kernel_rfl) (.tuple #[.int .i64 0, .bool false]) (by rw [HGT.out]; rfl) ?_)
          | (refine wl_load rfl 28 (.tmp 28) rfl _ _ rfl (x.1.name.map byteV) _ (item_name HRA.out B4.out HOK.out) Tryz.underlying28 rfl (by rw [name_size]; simp [HOK.out.fit.name]) nb HNB.out ?_)
          | (refine wl_insert rfl 87 _ (.tmp 27) (.tmp 29) (.tmp 30) rfl rfl rfl HNB.out rfl HOK.out.fit.name E4.out Tryz.underlying87 HGT.out ?_; intro w5 hm5 hu5 hs5; have M5 := Lib.hid hm5; have U5 := Lib.hid hu5; clear hm5 hu5 hs5))
        go_roundg (n - (k + 1))
        case measure => omega
        case rel => exact ⟨k + 1, by first | rfl | go_num, by omega, by omega, Lib.hid (NmI.next_new HNK.out HE2.out M5.out HF.out), Lib.hid (U5.out.blk (U4.out.blk HB.out (fun f => f)) (fun f => by have f : X = r := f; have := HR.out; have := S1.out; have := HX.out; omega)), Lib.hid ((HU.out.trans U4.out (fun _ _ f => f)).trans U5.out (fun j hj f => by have f : j = r := f; have := HR.out; have := S1.out; have := HX.out; omega))⟩
    · have hltz : ¬ (k : Int) < (n : Int) := by omega
      obtain rfl : k = n := by omega
      have c0 : wr.cell? ⟨X, 0, none⟩ = some (.slice none 0 0) := HB.out.cell 0
      have c1 : wr.cell? ⟨X, 1, none⟩ = some (.map none) := HB.out.cell 1
      have f0 := HB.out.frozen 0
      have f1 := HB.out.frozen 1
      go_wp2
      refine bodyPost_ret (results_cell_row Tryz.results45 _ _ X 89 #[.slice A k c, .map (some r)] (0, 0) _ rfl ((HB.out.put 0 (.slice A k c)).put 1 (.map (some r))) Tryz.underlying89 rfl graph_size) rfl ⟨r, rfl, ?_, ?_⟩
      · have hu6 : Upd (fun j => j = X) wr ((wr.setCell ⟨X, 0, none⟩ (.slice A k c)).setCell ⟨X, 1, none⟩ (.map (some r))) := ((Upd.refl (fun j => j = X) wr).setCell (p := ⟨X, 0, none⟩) (.inl rfl) _).setCell (p := ⟨X, 1, none⟩) (.inl rfl) _
        have := HM.out.upd hu6 (fun f => by have f : r = X := f; have := HR.out; have := S1.out; have := HX.out; omega)
        rw [List.take_of_length_le (by rw [List.length_map]; have := HN.out; omega)] at this
        exact this
      · exact (HU.out.setCell (p := ⟨X, 0, none⟩) (.inr (by show w.heap.size ≤ X; have := HX.out; omega)) _).setCell (p := ⟨X, 1, none⟩) (.inr (by show w.heap.size ≤ X; have := HX.out; omega)) _
end
end Go.Proofs.YtengcmfdfmnacaaGreat
