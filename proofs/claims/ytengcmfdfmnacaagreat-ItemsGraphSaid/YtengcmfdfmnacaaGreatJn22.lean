/- The reference's Ancestors and IsAncestor. Conditions: sizes. The reference's Path. Conditions: sizes. ValidBlock of the reference, at a valid block. No condition. -/
import Derived.Test.YtengcmfdfmnacaaGreatJn21
import Derived.Test.YtengcmfdfmnacaaGreatJn16
import Derived.Test.YtengcmfdfmnacaaGreatJn7
import Derived.Deep.QuietTactic
import Derived.BigQuiet
namespace Go.Proofs.YtengcmfdfmnacaaGreat
section
open Go.RowKit Go.Shelf Go.Lib

theorem clo_all8 {l : List ItP} {todo seen fin : List (List UInt8)} (hf : ∀ i ∈ l, i.Fit) (h : Clo l todo seen fin) (h1 : All8 todo) (h2 : All8 seen) : All8 fin := by
  induction h with
  | done => exact h2
  | skip _ _ ih => exact ih (fun y hy => h1 y (List.mem_append_left _ hy)) h2
  | @take todo n seen fin i hi _ _ ih =>
    refine ih (fun y hy => ?_) (fun y hy => ?_)
    · rcases List.mem_append.1 hy with hy | hy
      · exact h1 y (List.mem_append_left _ hy)
      · exact ascSet_all8 (rawPar_all8 (hf i (List.mem_of_find?_eq_some hi))) y hy
    · rcases List.mem_append.1 hy with hy | hy
      · exact h2 y hy
      · exact h1 y (List.mem_append_right _ hy)
theorem ancP_all8 {l : List ItP} {n : List UInt8} {res : List (List UInt8)} (hf : ∀ i ∈ l, i.Fit) (h : AncP l n res) : All8 res := by
  rcases h with ⟨-, rfl⟩ | ⟨x, seen, h1, h2, rfl⟩
  · intro y hy; cases hy
  · intro y hy
    exact clo_all8 hf h2 (ascSet_all8 (rawPar_all8 (hf x (List.mem_of_find?_eq_some h1)))) (fun y hy => by cases hy) y (List.mem_filter.1 hy).1
theorem AncP.det {l : List ItP} {n : List UInt8} {r r' : List (List UInt8)} (h : AncP l n r) (h' : AncP l n r') : r = r' := by
  rcases h with ⟨h1, rfl⟩ | ⟨x, s, h1, h2, rfl⟩ <;> rcases h' with ⟨h3, rfl⟩ | ⟨y, t, h3, h4, rfl⟩
  · rfl
  · rw [h1] at h3; cases h3
  · rw [h1] at h3; cases h3
  · rw [h1] at h3; cases h3; rw [h2.det h4]
set_option maxRecDepth 100000 in
set_option maxHeartbeats 8000000 in
theorem rAncestors_any {w : World} {A : Option Addr} {n c : Nat} {its : List (ItP × List Value)} {nm : List UInt8} {zn : Array Value} (hn : its.length = n) (h : GrR w (.slice A n c) its) (hfew : Few its) (h8 : nm.length = 8) (hzn : (nm.map byteV).toArray = zn) :
    Calls Tryz.prog 17 #[.slice A n c, .agg zn] w fun e w' => ∃ res, AncP (its.map (·.1)) nm res ∧ NmPost w (ascSet res) e w' := by
  obtain ⟨i0, hi0, hz0, hz1, hz2⟩ := info_parts name_info
  have HBS := Lib.hid (fun (n : List UInt8) (hn : n.length = 8) (za : Array Value) (hz : (n.map byteV).toArray = za) w => bs_name hn hz w)
  have HNI := Lib.hid hn
  have HG := Lib.hid h
  have HFEW := Lib.hid hfew
  have HZN := Lib.hid hzn
  have H8N := Lib.hid h8
  cases hfi : (its.map (·.1.name)).findIdx? (fun y => y = nm) with
  | none =>
    have HIO := Lib.hid (itemOf_miss hfi)
    have CF := Lib.hid (show ∀ W, Upd NoF w W → Calls Tryz.prog 15 #[.slice A n c, .agg zn] W (fun e w' => e = .returned (.int .i64 (-1)) ∧ Upd NoF W w') from fun W hu => rFind_miss HNI.out (HG.out.keep hu) hfi H8N.out HZN.out)
    clear hn h hfew h8 hzn hfi
    go_enter Tryz.func17, Tryz.ntmps17
    go_wp2_with (first
      | (refine wl_box rfl 28 (.tmp 1) rfl zn (by rfl) ?_; intro v0 hb0 hu0 hs0; have BX0 := Lib.hid hb0; have V0 := Lib.hid hu0; clear hb0 hu0 hs0)
      | (refine wl_load rfl 28 (.tmp 3) rfl w.heap.size 0 (by rfl) (nm.map byteV) _ (name_cells HZN.out BX0.out) Tryz.underlying28 rfl (by rw [name_size]; simp [H8N.out]) zn HZN.out ?_)
      | (refine (CF.out _ V0.out).mono ?_; rintro e w1 ⟨rfl, hu1⟩; have U1 := Lib.hid (V0.out.trans hu1 (fun _ _ f => f)); clear hu1))
    go_ret
    exact ⟨[], .inl ⟨HIO.out, rfl⟩, none, 0, 0, rfl, rfl, NmR.nil _, U1.out⟩
  | some ki =>
    obtain ⟨x, hxk, hxn, hio⟩ := itemOf_hit hfi
    have HIO := Lib.hid hio
    have HXM := Lib.hid (List.mem_of_getElem? hxk)
    have HOK := Lib.hid (HG.out.ok x HXM.out)
    have hki : ki < n := by rw [← hn]; exact (List.getElem?_eq_some_iff.1 hxk).1
    have t5 : decide ((ki : Int) < 0) = false := decide_eq_false (by omega)
    have t5' : ¬ (ki : Int) < 0 := by omega
    have CF := Lib.hid (show ∀ W, Upd NoF w W → Calls Tryz.prog 15 #[.slice A n c, .agg zn] W (fun e w' => e = .returned (.int .i64 (ki : Int)) ∧ Upd NoF W w') from fun W hu => rFind_hit HNI.out (HG.out.keep hu) hfi H8N.out HZN.out)
    obtain ⟨gI, oI, rfl, hri⟩ := HG.out.at_ HNI.out hxk
    have HRI := Lib.hid (show ∀ W, Upd NoF w W → W.rangeAt gI (oI + ki * 28) (itemC x.1.name x.2) from fun W hu j v hj => hu.cell (hri j v hj) (fun f => f))
    have HIL := Lib.hid (itemC_len HOK.out)
    obtain ⟨ra, hra⟩ : ∃ y, (itemC x.1.name x.2).toArray = y := ⟨_, rfl⟩
    have HRA := Lib.hid hra
    obtain ⟨PL, hPL⟩ : ∃ y, parents x.1 = y := ⟨_, rfl⟩
    have HPL := Lib.hid hPL
    have HPB := Lib.hid (show PL.length ≤ 2001 from by have := parents_len x.1; have := hfew.2 x HXM.out; rw [← hPL]; omega)
    have CP := Lib.hid (fun W (hu : Upd NoF w W) => show Calls Tryz.prog 13 #[.agg ra] W (NmPost W PL) from by rw [← HRA.out, ← HPL.out]; exact rParents_any (HOK.out.keep hu) (HFEW.out.2 x HXM.out).1 (HFEW.out.2 x HXM.out).2)
    have CR := Lib.hid (fun W Ap mp cp (hu : Upd NoF w W) (hl : PL.length = mp) (hN : NmR W (.slice Ap mp cp) PL) => rReach_any (w := W) HNI.out (HG.out.keep hu) HFEW.out hl hN (by have := HPB.out; omega))
    have qi0 : (0 : Int) ≤ (ki : Int) := by omega
    have qi1 : (ki : Int) < (n : Int) := by omega
    have qi3 : ((ki : Int)).toNat = ki := by omega
    clear hn h hfew h8 hzn hfi hxk hio hri hra hPL
    go_enter Tryz.func17, Tryz.ntmps17
    go_wp2_with (first
      | (refine wl_box rfl 28 (.tmp 1) rfl zn (by rfl) ?_; intro v0 hb0 hu0 hs0; have BX0 := Lib.hid hb0; have V0 := Lib.hid hu0; clear hb0 hu0 hs0)
      | (refine wl_load rfl 28 (.tmp 3) rfl w.heap.size 0 (by rfl) (nm.map byteV) _ (name_cells HZN.out BX0.out) Tryz.underlying28 rfl (by rw [name_size]; simp [H8N.out]) zn HZN.out ?_)
      | (refine (CF.out _ V0.out).mono ?_; rintro e w1 ⟨rfl, hu1⟩; have U1 := Lib.hid (V0.out.trans hu1 (fun _ _ f => f)); have B1 := Lib.hid (hu1.blk BX0.out (fun f => f)); clear hu1)
      | (refine wl_load rfl 38 (.tmp 17) rfl gI (oI + ki * 28) (by first | rfl | simp) (itemC x.1.name x.2) _ (HRI.out w1 U1.out) Tryz.underlying38 rfl (by rw [HIL.out]; exact item_size) ra HRA.out ?_)
      | (refine (CP.out w1 U1.out).mono ?_; rintro e w2 ⟨A2, m2, c2, rfl, hl2, hn2, hu2⟩; have L2 := Lib.hid hl2; have N2 := Lib.hid hn2; have U2 := Lib.hid (U1.out.trans hu2 (fun _ _ f => f)); have B2 := Lib.hid (hu2.blk B1.out (fun f => f)); clear hl2 hn2 hu2)
      | (refine (CR.out w2 A2 m2 c2 U2.out L2.out N2.out).mono ?_; rintro e w3 ⟨seen, hcl, h8s, A6, m6, c6, rfl, hl6, hn6, hu6⟩; have HCL := Lib.hid hcl; have H8E := Lib.hid h8s; have L6 := Lib.hid hl6; have N6 := Lib.hid hn6; have U6 := Lib.hid (U2.out.trans hu6 (fun _ _ f => f)); have B6 := Lib.hid (hu6.blk B2.out (fun f => f)); clear hcl h8s hl6 hn6 hu6))
    obtain ⟨X, hX⟩ : ∃ x, w.heap.size = x := ⟨_, rfl⟩
    rw [hX] at B6 ⊢
    clear hX BX0 V0 U1 B1 U2 B2 L2 N2
    obtain ⟨Y, hY⟩ : ∃ x, w3.heap.size = x := ⟨_, rfl⟩
    have HY := Lib.hid hY
    obtain ⟨AS, hAS⟩ : ∃ x, ascSet seen = x := ⟨_, rfl⟩
    have HAS := Lib.hid hAS
    rw [hAS] at L6 N6
    have HMX := Lib.hid (show AS.length ≤ 1000 from by
      have h1 := HCL.out.len
      have h2 := unseen_le (its.map (·.1)) []
      have h3 := HFEW.out.1
      have h4 := ascSet_len seen
      rw [HAS.out] at h4
      rw [List.length_map] at h2
      simp at h1
      omega)
    have HM6 := Lib.hid (show m6 ≤ 1000 from by have := L6.out; have := HMX.out; omega)
    clear hY hAS
    go_loopw [7, 8] (fun s7 s8 wr => ∃ (k : Nat) (A7 : Option Addr) (m7 c7 : Nat), s8 = .int .i64 (k : Int) ∧ s7 = .slice A7 m7 c7 ∧ k ≤ m6 ∧ Hid (((AS.take k).filter (fun m => m ≠ nm)).length = m7) ∧ Hid (NwA Y 28 8 m7 (rowsN ((AS.take k).filter (fun m => m ≠ nm))) A7 c7 wr) ∧ Hid (Upd NoF w3 wr)) (fun _ i _ => m6 - (intOf i).toNat)
    case atStart => exact ⟨0, none, 0, 0, rfl, rfl, Nat.zero_le _, Lib.hid rfl, Lib.hid (NwA.nil _ _ _ _), Lib.hid (Upd.refl _ _)⟩
    case round =>
      obtain ⟨k, A7, m7, c7, rfl, rfl, hk, HL7, HN7, HU7⟩ := hrel
      have hmx := HM6.out
      by_cases hlt : k < m6
      · have t1 : decide ((k : Int) < (m6 : Int)) = true := by simp; omega
        obtain ⟨s, hs⟩ : ∃ y, AS[k]? = some y := ⟨_, List.getElem?_eq_getElem (by rw [L6.out]; exact hlt)⟩
        have H8S := Lib.hid (N6.out.1 s (List.mem_of_getElem? hs))
        obtain ⟨g, o, rfl, hrow⟩ := N6.out.at_ hs
        have XS := Lib.hid (show ∀ wq, Upd NoF wr.drew wq → wq.rangeAt g (o + k * 8) (s.map byteV) from fun wq hq j v hv => (HU7.out.drew.trans hq (fun _ _ f => f)).cell (hrow j v hv) (fun f => f))
        have HTK := Lib.hid (show AS.take (k + 1) = AS.take k ++ [s] from by rw [List.take_add_one, hs]; rfl)
        obtain ⟨zs, hzs⟩ : ∃ y, (s.map byteV).toArray = y := ⟨_, rfl⟩
        have HZS := Lib.hid hzs
        have HBX := Lib.hid (show Blk wr.drew X 28 zn from (HU7.out.blk B6.out (fun f => f)).drew)
        have HE := Lib.hid (show ∀ w, (binOp .neq 28 (.agg zs) (.agg zn)).run Tryz.prog w = .ok (.bool (!(decide (s = nm)))) w from fun w => by
          have q := neq_name' H8S.out H8N.out w
          rw [← HZS.out, ← HZN.out]
          exact q)
        have ww : IntKind.i64.wrap ((k : Int) + 1) = (k : Int) + 1 := IntWalk.i64_in _ (by omega)
        clear hzs hs hrow
        go_wp2_with fail
        refine wp_region_rgw (rgR [isV (.slice (some ⟨g, o, none⟩) m6 c6), isV (.int .i64 (k : Int)), isV (.pointer (some ⟨g, o + k * 8, none⟩)), isV (.agg zs), isV (.agg zn), isV (.bool (!(decide (s = nm))))]) (fun w w' => Upd NoF w w') (fun _ wq => Upd NoF wr.drew wq) (by kernel_rfl) (by kernel_rfl) (by kernel_rfl) (by rfl) (fun w => Upd.refl _ _) (rgR_keep (by
          intro p hp; simp only [List.mem_cons, List.not_mem_nil, or_false] at hp; rcases hp with rfl | rfl | rfl | rfl | rfl | rfl <;> first | exact stb_isV _ | exact stb_any)) (Upd.refl _ _) ?_ ?_
        · refine ⟨?_, ?_, ?_, ?_, ?_, ?_, trivial⟩
          · refine fun ρ w' L hW hLi hcl hd hdep hext hc hg hf => ?_
            rw [if_pos (show wantedR _ _ _ = true from rfl)]
            have e6 : ρ (.tmp 6) = .slice (some ⟨g, o, none⟩) m6 c6 := hext 6 (by kernel_rfl)
            clear hdep hext hcl
            have HW := Lib.hid hW
            clear hW
            unfold OpDone
            go_simp
            exact ⟨rfl, Upd.refl _ _, HW.out⟩
          · refine fun ρ w' L hW hLi hcl hd hdep hext hc hg hf => ?_
            rw [if_pos (show wantedR _ _ _ = true from rfl)]
            have e8 : ρ (.tmp 8) = .int .i64 (k : Int) := hext 8 (by kernel_rfl)
            clear hdep hext hcl
            have HW := Lib.hid hW
            clear hW
            unfold OpDone
            go_simp
            exact ⟨rfl, Upd.refl _ _, HW.out⟩
          · refine fun ρ w' L hW hLi hcl hd hdep hext hc hg hf => ?_
            rw [if_pos (show wantedR _ _ _ = true from rfl)]
            have e27 : ρ (.tmp 27) = .slice (some ⟨g, o, none⟩) m6 c6 := hdep 0 _ rfl (by kernel_rfl)
            have e28 : ρ (.tmp 28) = .int .i64 (k : Int) := hdep 1 _ rfl (by kernel_rfl)
            have q0 : (0 : Int) ≤ (k : Int) := by omega
            have q1 : (k : Int) < (m6 : Int) := by omega
            have q2 : k < m6 := by omega
            clear hdep hext hcl
            have HW := Lib.hid hW
            clear hW
            unfold OpDone
            go_simp
            exact ⟨rfl, Upd.refl _ _, HW.out⟩
          · refine fun ρ w' L hW hLi hcl hd hdep hext hc hg hf => ?_
            rw [if_pos (show wantedR _ _ _ = true from rfl)]
            have e29 : ρ (.tmp 29) = .pointer (some ⟨g, o + k * 8, none⟩) := hdep 2 _ rfl (by kernel_rfl)
            clear hdep hext
            refine od_load_row 28 (.tmp 29) rfl _ _ e29 (s.map byteV) _ (XS.out w' hW) Tryz.underlying28 rfl (by rw [name_size]; simp [H8S.out]) ?_
            rw [HZS.out]
            exact ⟨rfl, Upd.refl _ _, hW⟩
          · refine fun ρ w' L hW hLi hcl hd hdep hext hc hg hf => ?_
            rw [if_pos (show wantedR _ _ _ = true from rfl)]
            have e3 : ρ (.tmp 3) = .pointer (some ⟨X, 0, none⟩) := hext 3 (by kernel_rfl)
            clear hdep hext
            refine od_load_row 28 (.tmp 3) rfl _ _ e3 (nm.map byteV) _ (name_cells HZN.out (hW.blk HBX.out (fun f => f))) Tryz.underlying28 rfl (by rw [name_size]; simp [H8N.out]) ?_
            rw [HZN.out]
            exact ⟨rfl, Upd.refl _ _, hW⟩
          · refine fun ρ w' L hW hLi hcl hd hdep hext hc hg hf => ?_
            rw [if_pos (show wantedR _ _ _ = true from rfl)]
            have e30 : ρ (.tmp 30) = .agg zs := hdep 3 _ rfl (by kernel_rfl)
            have e31 : ρ (.tmp 31) = .agg zn := hdep 4 _ rfl (by kernel_rfl)
            clear hdep hext
            have hE : ∀ w, (binOp .neq 28 (.agg zs) (.agg zn)).run Tryz.prog w = .ok (.bool (!(decide (s = nm)))) w := fun w => HE.out w
            have HW := Lib.hid hW
            clear hW
            unfold OpDone
            go_simp
            exact ⟨rfl, Upd.refl _ _, HW.out⟩
        intro vs W8 L8 hL8 hW8 hR
        have hv0 : vs 0 = .slice (some ⟨g, o, none⟩) m6 c6 := hR 0 _ rfl
        have hv1 : vs 1 = .int .i64 (k : Int) := hR 1 _ rfl
        have hv2 : vs 2 = .pointer (some ⟨g, o + k * 8, none⟩) := hR 2 _ rfl
        have hv3 : vs 3 = .agg zs := hR 3 _ rfl
        have hv4 : vs 4 = .agg zn := hR 4 _ rfl
        have hv5 : vs 5 = .bool (!(decide (s = nm))) := hR 5 _ rfl
        simp only [putAll, Act.put, List.setIfInBounds_toArray, List.set_cons_zero, List.set_cons_succ, hv0, hv1, hv2, hv3, hv4, hv5]
        clear hR hv0 hv1 hv2 hv3 hv4 hv5
        have HUW := Lib.hid (show Upd NoF wr W8 from (Upd.refl NoF wr).drew.trans hW8 (fun _ _ f => f))
        have XS8 := Lib.hid (XS.out W8 hW8)
        clear hW8 XS
        cases hst : decide (s = nm) with
        | true =>
          have HEQ := Lib.hid (show (AS.take (k + 1)).filter (fun m => m ≠ nm) = (AS.take k).filter (fun m => m ≠ nm) from by rw [HTK.out, List.filter_append]; simp [of_decide_eq_true hst])
          clear hst
          rw [show (!true) = false from rfl]
          go_wp2
          go_roundw
          case rel => exact ⟨k + 1, A7, m7, c7, by go_num, rfl, by omega, Lib.hid (by rw [HEQ.out]; exact HL7.out), Lib.hid (by rw [HEQ.out]; exact HN7.out.keep HUW.out), Lib.hid (HU7.out.trans HUW.out (fun _ _ f => f))⟩
          case measure => simp [intOf]; omega
        | false =>
          have HNE := Lib.hid (show (AS.take (k + 1)).filter (fun m => m ≠ nm) = (AS.take k).filter (fun m => m ≠ nm) ++ [s] from by
            have : ¬ s = nm := of_decide_eq_false hst
            rw [HTK.out, List.filter_append]; simp [this])
          clear hst
          rw [show (!false) = true from rfl]
          have q0 : (0 : Int) ≤ (k : Int) := by omega
          have q1 : (k : Int) < (m6 : Int) := by omega
          have q2 : k < m6 := by omega
          have HB1 := Lib.hid (show m7 + 1 ≤ maxLen ∧ (m7 + 1) * 8 ≤ 140737488355328 from by have h1 := HL7.out; have h2 := List.length_filter_le (fun m => decide (m ≠ nm)) (AS.take k); rw [h1, List.length_take] at h2; unfold maxLen; omega)
          go_wp2_with (first
            | (refine wl_load rfl 28 (.tmp 36) rfl g (o + k * 8) (by first | rfl | simp) (s.map byteV) _ XS8.out Tryz.underlying28 rfl (by rw [name_size]; simp [H8S.out]) zs HZS.out ?_)
            | (refine wpList_bsRow rfl 22 28 (.tmp 37) rfl (.agg zs) (by rfl) zs (HBS.out _ H8S.out _ HZS.out _) ?_; intro w5 hb5 hu5 hs5; have B5 := Lib.hid hb5; have U5 := Lib.hid (HUW.out.trans hu5 (fun _ _ f => f)); clear hb5 hu5 hs5)
            | (at_builtin; refine wpList_append_to _ rfl (.tmp 33) (.tmp 38) 22 rfl 28 i0 _ 8 8 Tryz.underlying22 hi0 hz0 hz1 hz2 (by kernel_rfl) (.slice A7 m7 c7) m7 (rowsN ((AS.take k).filter (fun m => m ≠ nm))) (by rfl) ((HN7.out.keep U5.out).1) _ 1 (s.map byteV) rfl (rd_name H8S.out HZS.out B5.out) (name_ones _) HB1.out.1 HB1.out.2 ?_; intro A9 c9 w9 hown hupd hnew; have N9 := Lib.hid (NwA.app HN7.out U5.out (by have := HU7.out.size; have := HY.out; omega) hown hupd hnew); clear hown hupd hnew))
          go_roundw
          case rel => exact ⟨k + 1, A9, m7 + 1, c9, by go_num, rfl, by omega, Lib.hid (by rw [HNE.out, List.length_append, HL7.out]; rfl), Lib.hid (by rw [HNE.out, rowsN_snoc]; exact N9.out.1), Lib.hid (N9.out.2 (w := w3) (by have := HY.out; omega) HU7.out)⟩
          case measure => simp [intOf]; omega
      · obtain rfl : k = m6 := by omega
        have t1 : decide ((k : Int) < (k : Int)) = false := by simp
        have HALL := Lib.hid (show AS.take k = AS from List.take_of_length_le (by have := L6.out; omega))
        go_wp2
        go_ret
        rw [HALL.out] at HL7 HN7
        have HFI := Lib.hid (show AS.filter (fun m => m ≠ nm) = ascSet (seen.filter (fun m => m ≠ nm)) from by rw [← HAS.out]; exact asc_filter H8E.out)
        rw [HFI.out] at HL7 HN7
        refine ⟨seen.filter (fun m => m ≠ nm), .inr ⟨x.1, seen, HIO.out, by rw [HPL.out]; exact HCL.out, rfl⟩, A7, m7, c7, rfl, HL7.out, ⟨ascSet_all8 (fun y hy => H8E.out y (List.mem_filter.1 hy).1), ?_⟩, U6.out.trans HU7.out (fun _ _ f => f)⟩
        rw [HL7.out]
        exact HN7.out.1.rd
def RanV (l : List ItP) (n : List UInt8) (v : Value) (w : World) : Prop := ∃ res A m c, v = .slice A m c ∧ (ascSet res).length = m ∧ AncP l n res ∧ NmR w (.slice A m c) (ascSet res)
theorem stb_ran (l : List ItP) (n : List UInt8) : Stb (fun w w' => Upd NoF w w') (RanV l n) := fun _ _ _ ⟨r, A, m, c, e, h0, h, h2⟩ hu => ⟨r, A, m, c, e, h0, h, h2.keep hu⟩
def RiaV (l : List ItP) (n a : List UInt8) (v : Value) (_ : World) : Prop := ∃ res, v = .bool (decide (a ∈ res)) ∧ AncP l n res
theorem stb_ria (l : List ItP) (n a : List UInt8) : Stb (fun w w' => Upd NoF w w') (RiaV l n a) := fun _ _ _ h _ => h
set_option maxRecDepth 100000 in
set_option maxHeartbeats 8000000 in
theorem rIsAncestor_any {w : World} {A : Option Addr} {n c : Nat} {its : List (ItP × List Value)} {nm am : List UInt8} {zn za : Array Value} (hn : its.length = n) (h : GrR w (.slice A n c) its) (hfew : Few its) (h8 : nm.length = 8) (hzn : (nm.map byteV).toArray = zn) (h8a : am.length = 8) (hza : (am.map byteV).toArray = za) :
    Calls Tryz.prog 19 #[.slice A n c, .agg za, .agg zn] w fun e w' => ∃ res, AncP (its.map (·.1)) nm res ∧ e = .returned (.bool (decide (am ∈ res))) ∧ Upd NoF w w' := by
  have HZN := Lib.hid hzn
  have HZA := Lib.hid hza
  have H8N := Lib.hid h8
  have H8A := Lib.hid h8a
  have hAN := Lib.hid (fun res (ha : AncP (its.map (·.1)) nm res) => ancP_all8 (fun i hi => by obtain ⟨x, hx, rfl⟩ := List.mem_map.1 hi; exact (h.ok x hx).fit) ha)
  have CA0 := Lib.hid (fun W (hu : Upd NoF w W) => rAncestors_any (w := W) hn (h.keep hu) hfew h8 hzn)
  clear hn h hfew h8 hzn h8a hza
  go_enter Tryz.func19, Tryz.ntmps19
  go_wp2_with (first
    | (refine wl_box rfl 28 (.tmp 1) rfl za (by rfl) ?_; intro v0 hb0 hu0 hs0; have BA0 := Lib.hid hb0; have V0 := Lib.hid hu0; have S0 := Lib.hid hs0; clear hb0 hu0 hs0)
    | (refine wl_box rfl 28 (.tmp 2) rfl zn (by rfl) ?_; intro v1 hb1 hu1 hs1; have BN1 := Lib.hid hb1; have BA1 := Lib.hid (hu1.blk BA0.out (fun f => f)); have V1 := Lib.hid (V0.out.trans hu1 (fun _ _ f => f)); clear hb1 hu1 hs1))
  obtain ⟨XA, hXA⟩ : ∃ x, w.heap.size = x := ⟨_, rfl⟩
  obtain ⟨XN, hXN⟩ : ∃ x, v0.heap.size = x := ⟨_, rfl⟩
  rw [hXA] at BA1 ⊢
  rw [hXN] at BN1 ⊢
  obtain ⟨W1, hW1⟩ : ∃ x, x = v1 := ⟨_, rfl⟩
  rw [← hW1] at BN1 BA1 V1 ⊢
  have RNN := Lib.hid (fun w' (hu : Upd NoF W1.drew w') => show w'.rangeAt XN 0 (nm.map byteV) from name_cells HZN.out (((Upd.refl NoF W1).drew.trans hu (fun _ _ f => f)).blk BN1.out (fun f => f)))
  have RNA := Lib.hid (fun w' (hu : Upd NoF W1.drew w') => show w'.rangeAt XA 0 (am.map byteV) from name_cells HZA.out (((Upd.refl NoF W1).drew.trans hu (fun _ _ f => f)).blk BA1.out (fun f => f)))
  have UW := Lib.hid V1.out
  have CA := Lib.hid (fun W (hu : Upd NoF W1.drew W) => CA0.out W (UW.out.drew.trans hu (fun _ _ f => f)))
  clear hW1 hXA hXN CA0 BA0 V0 S0 BN1 BA1 V1
  refine wp_region_rgw (rgR [isV (.slice A n c), isV (.agg zn), RanV (its.map (·.1)) nm, isV (.agg za), RiaV (its.map (·.1)) nm am, RiaV (its.map (·.1)) nm am]) (fun w w' => Upd NoF w w') (fun _ wq => Upd NoF W1.drew wq) (by kernel_rfl) (by kernel_rfl) (by kernel_rfl) (by rfl) (fun w => Upd.refl _ _) (rgR_keep (by
    intro p hp; simp only [List.mem_cons, List.not_mem_nil, or_false] at hp; rcases hp with rfl | rfl | rfl | rfl | rfl | rfl <;> first | exact stb_isV _ | exact stb_any | exact stb_ran _ _ | exact stb_ria _ _ _)) (Upd.refl _ _) ?_ ?_
  · refine ⟨?_, ?_, ?_, ?_, ?_, ?_, trivial⟩
    · refine fun ρ w' L hW hLi hcl hd hdep hext hc hg hf => ?_
      rw [if_pos (show wantedR _ _ _ = true from rfl)]
      have e0 : ρ (.tmp 0) = .slice A n c := hext 0 (by kernel_rfl)
      clear hdep hext hcl
      have HW := Lib.hid hW
      clear hW
      unfold OpDone
      go_simp
      exact ⟨rfl, Upd.refl _ _, HW.out⟩
    · refine fun ρ w' L hW hLi hcl hd hdep hext hc hg hf => ?_
      rw [if_pos (show wantedR _ _ _ = true from rfl)]
      have e5 : ρ (.tmp 5) = .pointer (some ⟨XN, 0, none⟩) := hext 5 (by kernel_rfl)
      clear hdep hext
      refine od_load_row 28 (.tmp 5) rfl _ _ e5 (nm.map byteV) _ (RNN.out w' hW) Tryz.underlying28 rfl (by rw [name_size]; simp [H8N.out]) ?_
      rw [HZN.out]
      exact ⟨rfl, Upd.refl _ _, hW⟩
    · refine fun ρ w' L hW hLi hcl hd hdep hext hc hg hf => ?_
      rw [if_pos (show wantedR _ _ _ = true from rfl)]
      have e7 : ρ (.tmp 7) = .slice A n c := hdep 0 _ rfl (by kernel_rfl)
      have e8 : ρ (.tmp 8) = .agg zn := hdep 1 _ rfl (by kernel_rfl)
      clear hdep hext
      have CL := Lib.hid (CA.out w' hW)
      have HW := Lib.hid hW
      clear hW hcl hd hLi
      unfold OpDone
      go_simp
      refine CL.out.mono ?_
      rintro e w2 ⟨res, ha, A2, m2, c2, rfl, hl2, hn2, hu⟩
      exact ⟨_, rfl, ⟨res, A2, m2, c2, rfl, hl2, ha, hn2⟩, hu, HW.out.trans hu (fun _ _ f => f)⟩
    · refine fun ρ w' L hW hLi hcl hd hdep hext hc hg hf => ?_
      rw [if_pos (show wantedR _ _ _ = true from rfl)]
      have e4 : ρ (.tmp 4) = .pointer (some ⟨XA, 0, none⟩) := hext 4 (by kernel_rfl)
      clear hdep hext
      refine od_load_row 28 (.tmp 4) rfl _ _ e4 (am.map byteV) _ (RNA.out w' hW) Tryz.underlying28 rfl (by rw [name_size]; simp [H8A.out]) ?_
      rw [HZA.out]
      exact ⟨rfl, Upd.refl _ _, hW⟩
    · refine fun ρ w' L hW hLi hcl hd hdep hext hc hg hf => ?_
      rw [if_pos (show wantedR _ _ _ = true from rfl)]
      have e9 : (RanV (its.map (·.1)) nm) (ρ (.tmp 9)) w' := hdep 2 _ rfl (by kernel_rfl)
      have e10 : ρ (.tmp 10) = .agg za := hdep 3 _ rfl (by kernel_rfl)
      clear hdep hext
      obtain ⟨res, A2, m2, c2, e9, hl2, ha, hn2⟩ := e9
      have CL := Lib.hid (rHas_row (w := w') hl2 hn2 H8A.out HZA.out rfl)
      have HA := Lib.hid (show ∀ y, y ∈ ascSet res ↔ y ∈ res from fun y => mem_ascSet (hAN.out res ha) y)
      have HAA := Lib.hid ha
      clear hl2 ha hn2
      have HW := Lib.hid hW
      clear hW hcl hd hLi
      unfold OpDone
      go_simp
      refine CL.out.mono ?_
      rintro e w2 ⟨rfl, hu⟩
      exact ⟨_, rfl, ⟨res, by rw [show decide (am ∈ ascSet res) = decide (am ∈ res) from by rw [decide_eq_decide]; exact HA.out am]; rfl, HAA.out⟩, hu, HW.out.trans hu (fun _ _ f => f)⟩
    · refine fun ρ w' L hW hLi hcl hd hdep hext hc hg hf => ?_
      rw [if_pos (show wantedR _ _ _ = true from rfl)]
      have e11 : (RiaV (its.map (·.1)) nm am) (ρ (.tmp 11)) w' := hdep 4 _ rfl (by kernel_rfl)
      clear hdep hext
      obtain ⟨res, e11, ha⟩ := e11
      have HA := Lib.hid ha
      clear ha
      have HW := Lib.hid hW
      clear hW hcl hd hLi
      unfold OpDone
      go_simp
      exact ⟨⟨res, rfl, HA.out⟩, Upd.refl _ _, HW.out⟩
  intro vs W8 L8 hL8 hW8 hR
  have hv0 : vs 0 = .slice A n c := hR 0 _ rfl
  have hv1 : vs 1 = .agg zn := hR 1 _ rfl
  have hr2 : (RanV (its.map (·.1)) nm) (vs 2) W8 := hR 2 _ rfl
  obtain ⟨res9, A9, m9, c9, hv2, -⟩ := hr2
  have hv3 : vs 3 = .agg za := hR 3 _ rfl
  have hr4 : (RiaV (its.map (·.1)) nm am) (vs 4) W8 := hR 4 _ rfl
  obtain ⟨resY, hv4, -⟩ := hr4
  have hr5 : (RiaV (its.map (·.1)) nm am) (vs 5) W8 := hR 5 _ rfl
  obtain ⟨resZ, hv5, HZ0⟩ := hr5
  have HZ := Lib.hid HZ0
  clear HZ0
  simp only [putAll, Act.put, List.setIfInBounds_toArray, List.set_cons_zero, List.set_cons_succ, hv0, hv1, hv2, hv3, hv4, hv5]
  clear hR hv0 hv1 hv2 hv3 hv4 hv5
  have HUZ := Lib.hid (UW.out.trans ((Upd.refl NoF W1).drew.trans hW8 (fun _ _ f => f)) (fun _ _ f => f))
  clear hW8
  go_wp2
  go_ret
  exact ⟨resZ, HZ.out, rfl, HUZ.out⟩
end

section
open Go.RowKit Go.Shelf Go.Lib

theorem own_name {w : World} {g : Nat} {n : List UInt8} {za : Array Value} (hn : n.length = 8) (hz : (n.map byteV).toArray = za) (hb : Blk w g 28 za) : Own w 28 8 (.slice (some ⟨g, 0, none⟩) 1 1) 1 (n.map byteV) := by
  refine ⟨by simp [hn], .inr ⟨g, 1, za, rfl, hb, Nat.le_refl _, by unfold maxLen; omega, by rw [← hz]; simp [hn], ?_⟩⟩
  rw [← hz]
  exact List.take_of_length_le (by simp [hn])
set_option maxRecDepth 100000 in
set_option maxHeartbeats 8000000 in
theorem rPath_any {w : World} {A : Option Addr} {n c : Nat} {its : List (ItP × List Value)} {nm0 : List UInt8} {nb0 : Array Value} (hn : its.length = n) (h : GrR w (.slice A n c) its) (hm : its.length ≤ 1000) (h8 : nm0.length = 8) (hnb0 : (nm0.map byteV).toArray = nb0) :
    Calls Tryz.prog 21 #[.slice A n c, .agg nb0] w fun e w' => ∃ seen, Dwn (its.map (·.1)) nm0 [] seen ∧ NmPost w seen.reverse e w' := by
  obtain ⟨i0, hi0, hz0, hz1, hz2⟩ := info_parts name_info
  have HBS := Lib.hid (fun (n : List UInt8) (hn : n.length = 8) (za : Array Value) (hz : (n.map byteV).toArray = za) w => bs_name hn hz w)
  have HNI := Lib.hid hn
  have HG := Lib.hid h
  have HITS := Lib.hid hm
  have HNB0 := Lib.hid hnb0
  have H80 := Lib.hid h8
  clear hn h hm h8 hnb0
  go_enter Tryz.func21, Tryz.ntmps21
  go_wp2_with (first
    | (refine wl_box rfl 28 (.tmp 1) rfl nb0 (by rfl) ?_; intro v0 hb0 hu0 hs0; have BX0 := Lib.hid hb0; have V0 := Lib.hid hu0; clear hb0 hu0 hs0))
  obtain ⟨X, hX⟩ : ∃ x, w.heap.size = x := ⟨_, rfl⟩
  have HX := Lib.hid hX
  rw [hX] at BX0 ⊢
  clear hX
  go_loopg [5] its.length (fun kx s5 wr => ∃ (nm : List UInt8) (seen : List (List UInt8)) (Ao : Option Addr) (mo co : Nat), s5 = .slice Ao mo co ∧ unseen (its.map (·.1)) seen ≤ kx ∧ Hid (nm.length = 8) ∧ Hid (Blk wr X 28 (nm.map byteV).toArray) ∧ Hid (mo + unseen (its.map (·.1)) seen ≤ its.length) ∧ Hid (seen.length = mo) ∧ Hid (RdF (fun j => j = X) wr 8 (.slice Ao mo co) mo (rowsN seen.reverse)) ∧ Hid (Upd NoF w wr) ∧ Hid (All8 seen) ∧ Hid (∀ fin, Dwn (its.map (·.1)) nm seen fin → Dwn (its.map (·.1)) nm0 [] fin))
  case atStart => exact ⟨nm0, [], none, 0, 0, rfl, by have := unseen_le (its.map (·.1)) []; rw [List.length_map] at this; exact this, H80, Lib.hid (by rw [HNB0.out]; exact BX0.out), Lib.hid (by have := unseen_le (its.map (·.1)) []; rw [List.length_map] at this; omega), Lib.hid rfl, Lib.hid (RdF.nil _ _ _), V0, Lib.hid (fun n hn => by cases hn), Lib.hid (fun _ h => h)⟩
  case round =>
    clear BX0 V0
    obtain ⟨nm, seen, Ao, mo, co, rfl, hkx, H8N, HBN0, HMU, HSL, HOR, HU, HS8, HCL⟩ := hrel
    obtain ⟨nb, hnb⟩ : ∃ y, (nm.map byteV).toArray = y := ⟨_, rfl⟩
    have HNB := Lib.hid hnb
    have HBN := Lib.hid (show Blk wr X 28 nb from by rw [← hnb]; exact HBN0.out)
    have HMB := Lib.hid (show mo ≤ 1000 from by have := HMU.out; have := HITS.out; omega)
    have HSR8 := Lib.hid (show All8 seen.reverse from fun y hy => HS8.out y (List.mem_reverse.1 hy))
    have HB1 := Lib.hid (show 1 + mo ≤ maxLen ∧ (1 + mo) * 8 ≤ 140737488355328 from by have := HMB.out; unfold maxLen; omega)
    clear hnb HBN0
    cases hfi : (its.map (·.1.name)).findIdx? (fun y => y = nm) with
    | none =>
      have HIO := Lib.hid (itemOf_miss hfi)
      have CF := Lib.hid (show ∀ W, Upd NoF wr W → Calls Tryz.prog 15 #[.slice A n c, .agg nb] W (fun e w' => e = .returned (.int .i64 (-1)) ∧ Upd NoF W w') from fun W hu => rFind_miss HNI.out (HG.out.keep (HU.out.trans hu (fun _ _ f => f))) hfi H8N.out HNB.out)
      clear hfi
      go_wp2_with (first
        | (refine wl_load rfl 28 (.tmp 3) rfl X 0 (by rfl) (nm.map byteV) _ (name_cells HNB.out HBN.out) Tryz.underlying28 rfl (by rw [name_size]; simp [H8N.out]) nb HNB.out ?_)
        | (refine (CF.out wr (Upd.refl _ _)).mono ?_; rintro e w5 ⟨rfl, hu5⟩; have U5 := Lib.hid hu5; have B5 := Lib.hid (hu5.blk HBN.out (fun f => f)); clear hu5))
      go_ret
      refine ⟨seen, HCL.out _ (Dwn.stop (.inl HIO.out)), Ao, mo, co, rfl, by rw [List.length_reverse]; exact HSL.out, ⟨HSR8.out, ?_⟩, HU.out.trans U5.out (fun _ _ f => f)⟩
      have q := (HOR.out.upd (U5.out.mono (fun _ _ f => f.elim))).now
      rw [List.length_reverse, HSL.out]
      exact q
    | some ki =>
      obtain ⟨x, hxk, hxn, hio⟩ := itemOf_hit hfi
      have HIO := Lib.hid hio
      have HXM := Lib.hid (List.mem_of_getElem? hxk)
      have HOK := Lib.hid (HG.out.ok x HXM.out)
      have hnn := HNI.out
      have hki : ki < n := by rw [← hnn]; exact (List.getElem?_eq_some_iff.1 hxk).1
      have t5 : decide ((ki : Int) < 0) = false := decide_eq_false (by omega)
      have t5' : ¬ (ki : Int) < 0 := by omega
      have CF := Lib.hid (show ∀ W, Upd NoF wr W → Calls Tryz.prog 15 #[.slice A n c, .agg nb] W (fun e w' => e = .returned (.int .i64 (ki : Int)) ∧ Upd NoF W w') from fun W hu => rFind_hit HNI.out (HG.out.keep (HU.out.trans hu (fun _ _ f => f))) hfi H8N.out HNB.out)
      have HNO := Lib.hid (show NmR wr (.slice Ao mo co) seen.reverse from ⟨HSR8.out, by rw [List.length_reverse, HSL.out]; exact HOR.out.now⟩)
      have HLR := Lib.hid (show seen.reverse.length = mo from by rw [List.length_reverse]; exact HSL.out)
      obtain ⟨kd, hkd⟩ : ∃ kd, x.1.kind = kd := ⟨_, rfl⟩
      have HKD := Lib.hid hkd
      obtain ⟨gI, oI, rfl, hri⟩ := HG.out.at_ HNI.out hxk
      have HRI := Lib.hid hri
      have HKC := Lib.hid (show w.cell? ⟨gI, oI + ki * 28 + 8, none⟩ = some (.int .i64 kd) from by
        have q := hri 8 (.int .i64 kd) (by unfold itemC; rw [List.getElem?_append_right (by simp [HOK.out.fit.name])]; have := HOK.out.kind; rw [hkd] at this; simpa [HOK.out.fit.name] using this)
        exact q)
      have HRP := Lib.hid (show ∀ W, Upd NoF wr W → W.rangeAt gI (oI + ki * 28 + 10) (x.1.parent.map byteV) from fun W hu j v hj => (HU.out.trans hu (fun _ _ f => f)).cell (by
        have q := HRI.out (10 + j) v (by
          unfold itemC
          rw [List.getElem?_append_right (by simp [HOK.out.fit.name]; omega)]
          have q := HOK.out.par j v hj
          rw [show 10 + j - (x.1.name.map byteV).length = 2 + j from by simp [HOK.out.fit.name]; omega]
          exact q)
        rw [show oI + ki * 28 + (10 + j) = oI + ki * 28 + 10 + j from by omega] at q
        exact q) (fun f => f))
      clear hfi hxk hio hri hkd
      by_cases hse : nm ∈ seen
      · have HSE := Lib.hid hse
        have CH := Lib.hid (show ∀ W, Upd NoF wr W → Calls Tryz.prog 48 #[.slice Ao mo co, .agg nb] W (fun e w' => e = .returned (.bool true) ∧ Upd NoF W w') from fun W hu => rHas_row HLR.out (HNO.out.keep hu) H8N.out HNB.out (decide_eq_true (List.mem_reverse.2 HSE.out)))
        clear hse
        go_wp2_with (first
        | (refine wl_load rfl 28 (.tmp 3) rfl X 0 (by rfl) (nm.map byteV) _ (name_cells HNB.out HBN.out) Tryz.underlying28 rfl (by rw [name_size]; simp [H8N.out]) nb HNB.out ?_)
        | (refine (CF.out wr (Upd.refl _ _)).mono ?_; rintro e w5 ⟨rfl, hu5⟩; have U5 := Lib.hid hu5; have B5 := Lib.hid (hu5.blk HBN.out (fun f => f)); clear hu5)
        | (refine wl_load rfl 28 (.tmp 3) rfl X 0 (by rfl) (nm.map byteV) _ (name_cells HNB.out B5.out) Tryz.underlying28 rfl (by rw [name_size]; simp [H8N.out]) nb HNB.out ?_)
        | (refine (CH.out w5 U5.out).mono ?_; rintro e w6 ⟨rfl, hu6⟩; have U6 := Lib.hid (U5.out.trans hu6 (fun _ _ f => f)); have B6 := Lib.hid (hu6.blk B5.out (fun f => f)); have ck6 := (HU.out.trans U6.out (fun _ _ f => f)).cell HKC.out (fun f => f); clear hu6))
        go_ret
        refine ⟨seen, HCL.out _ (Dwn.stop (.inr HSE.out)), Ao, mo, co, rfl, by rw [List.length_reverse]; exact HSL.out, ⟨HSR8.out, ?_⟩, HU.out.trans U6.out (fun _ _ f => f)⟩
        have q := (HOR.out.upd (U6.out.mono (fun _ _ f => f.elim))).now
        rw [List.length_reverse, HSL.out]
        exact q
      · have HSE := Lib.hid hse
        have CH := Lib.hid (show ∀ W, Upd NoF wr W → Calls Tryz.prog 48 #[.slice Ao mo co, .agg nb] W (fun e w' => e = .returned (.bool false) ∧ Upd NoF W w') from fun W hu => rHas_row HLR.out (HNO.out.keep hu) H8N.out HNB.out (decide_eq_false (fun hm => HSE.out (List.mem_reverse.1 hm))))
        have HUS := Lib.hid (unseen_take HIO.out hse)
        have HS81 := Lib.hid (show All8 (seen ++ [nm]) from fun y hy => by rcases List.mem_append.1 hy with hy | hy; (· exact HS8.out y hy); rw [List.mem_singleton.1 hy]; exact H8N.out)
        have HSL1 := Lib.hid (show (seen ++ [nm]).length = 1 + mo from by rw [List.length_append, HSL.out, Nat.add_comm]; rfl)
        have HRW := Lib.hid (show rowsN (seen ++ [nm]).reverse = nm.map byteV ++ rowsN seen.reverse from by rw [List.reverse_append]; exact rowsN_cons _ _)
        have qi0 : (0 : Int) ≤ (ki : Int) := by omega
        have qi1 : (ki : Int) < (n : Int) := by omega
        have qi3 : ((ki : Int)).toNat = ki := by omega
        clear hse
        by_cases hk1 : kd = 1
        · subst hk1
          go_wp2_with (first
        | (refine wl_load rfl 28 (.tmp 3) rfl X 0 (by rfl) (nm.map byteV) _ (name_cells HNB.out HBN.out) Tryz.underlying28 rfl (by rw [name_size]; simp [H8N.out]) nb HNB.out ?_)
        | (refine (CF.out wr (Upd.refl _ _)).mono ?_; rintro e w5 ⟨rfl, hu5⟩; have U5 := Lib.hid hu5; have B5 := Lib.hid (hu5.blk HBN.out (fun f => f)); clear hu5)
        | (refine wl_load rfl 28 (.tmp 3) rfl X 0 (by rfl) (nm.map byteV) _ (name_cells HNB.out B5.out) Tryz.underlying28 rfl (by rw [name_size]; simp [H8N.out]) nb HNB.out ?_)
        | (refine (CH.out w5 U5.out).mono ?_; rintro e w6 ⟨rfl, hu6⟩; have U6 := Lib.hid (U5.out.trans hu6 (fun _ _ f => f)); have B6 := Lib.hid (hu6.blk B5.out (fun f => f)); have ck6 := (HU.out.trans U6.out (fun _ _ f => f)).cell HKC.out (fun f => f); clear hu6)
        | (refine wl_load rfl 28 (.tmp 3) rfl X 0 (by rfl) (nm.map byteV) _ (name_cells HNB.out B6.out) Tryz.underlying28 rfl (by rw [name_size]; simp [H8N.out]) nb HNB.out ?_)
        | (refine wpList_bsRow rfl 22 28 (.tmp 18) rfl (.agg nb) (by rfl) nb (HBS.out _ H8N.out _ HNB.out _) ?_; intro w7 hb7 hu7 hs7; have O7 := Lib.hid (own_name H8N.out HNB.out hb7); have U7 := Lib.hid (U6.out.trans hu7 (fun _ _ f => f)); have B7 := Lib.hid (hu7.blk B6.out (fun f => f)); have R7 := Lib.hid (HOR.out.upd (U7.out.mono (fun _ _ f => f.elim))); have SX := Lib.hid (show X < w6.heap.size from B6.out.lt); clear hb7 hu7 hs7)
        | (at_builtin; refine wpList_append_to _ rfl (.tmp 19) (.tmp 20) 22 rfl 28 i0 _ 8 8 Tryz.underlying22 hi0 hz0 hz1 hz2 (by kernel_rfl) (.slice (some ⟨w6.heap.size, 0, none⟩) 1 1) 1 (nm.map byteV) (by rfl) O7.out (.slice Ao mo co) mo (rowsN seen.reverse) (by rfl) R7.out.now (rowsN_one _) HB1.out.1 HB1.out.2 ?_; intro A8 c8 w8 hown hupd hnew; have HD := Lib.hid (fun j (f : OwnB (.slice (some ⟨w6.heap.size, 0, none⟩) 1 1) j) => show w6.heap.size = j from by simpa [OwnB, Value.ownBlock] using f); have O8 := Lib.hid hown; have U8 := Lib.hid (U7.out.trans hupd (F := NoF) (fun j hj f => by have := HD.out j f; have := U6.out.size; omega)); have B8 := Lib.hid (hupd.blk B7.out (fun f => by have := HD.out X f; have := SX.out; omega)); have N8 := Lib.hid (fun j (hj : OwnB (.slice A8 (1 + mo) c8) j) => show X < j from by rcases hnew j hj with f | f; (· have := HD.out j f; have := SX.out; omega); have := B7.out.lt; omega); have ck8 := (HU.out.trans U8.out (fun _ _ f => f)).cell HKC.out (fun f => f); clear hown hupd hnew))
          go_ret
          refine ⟨seen ++ [nm], HCL.out _ (Dwn.root HIO.out HSE.out HKD.out), A8, 1 + mo, c8, rfl, by rw [List.length_reverse]; exact HSL1.out, ⟨fun y hy => HS81.out y (List.mem_reverse.1 hy), ?_⟩, HU.out.trans U8.out (fun _ _ f => f)⟩
          rw [List.length_reverse, HSL1.out]
          have q := O8.out.rd
          rw [← HRW.out] at q
          exact q
        · have t1 : decide (kd = 1) = false := by simpa using hk1
          have HK1 := Lib.hid hk1
          obtain ⟨pb, hpb⟩ : ∃ y, (x.1.parent.map byteV).toArray = y := ⟨_, rfl⟩
          have HPB := Lib.hid hpb
          clear hpb
          go_wp2_with (first
        | (refine wl_load rfl 28 (.tmp 3) rfl X 0 (by rfl) (nm.map byteV) _ (name_cells HNB.out HBN.out) Tryz.underlying28 rfl (by rw [name_size]; simp [H8N.out]) nb HNB.out ?_)
        | (refine (CF.out wr (Upd.refl _ _)).mono ?_; rintro e w5 ⟨rfl, hu5⟩; have U5 := Lib.hid hu5; have B5 := Lib.hid (hu5.blk HBN.out (fun f => f)); clear hu5)
        | (refine wl_load rfl 28 (.tmp 3) rfl X 0 (by rfl) (nm.map byteV) _ (name_cells HNB.out B5.out) Tryz.underlying28 rfl (by rw [name_size]; simp [H8N.out]) nb HNB.out ?_)
        | (refine (CH.out w5 U5.out).mono ?_; rintro e w6 ⟨rfl, hu6⟩; have U6 := Lib.hid (U5.out.trans hu6 (fun _ _ f => f)); have B6 := Lib.hid (hu6.blk B5.out (fun f => f)); have ck6 := (HU.out.trans U6.out (fun _ _ f => f)).cell HKC.out (fun f => f); clear hu6)
        | (refine wl_load rfl 28 (.tmp 3) rfl X 0 (by rfl) (nm.map byteV) _ (name_cells HNB.out B6.out) Tryz.underlying28 rfl (by rw [name_size]; simp [H8N.out]) nb HNB.out ?_)
        | (refine wpList_bsRow rfl 22 28 (.tmp 18) rfl (.agg nb) (by rfl) nb (HBS.out _ H8N.out _ HNB.out _) ?_; intro w7 hb7 hu7 hs7; have O7 := Lib.hid (own_name H8N.out HNB.out hb7); have U7 := Lib.hid (U6.out.trans hu7 (fun _ _ f => f)); have B7 := Lib.hid (hu7.blk B6.out (fun f => f)); have R7 := Lib.hid (HOR.out.upd (U7.out.mono (fun _ _ f => f.elim))); have SX := Lib.hid (show X < w6.heap.size from B6.out.lt); clear hb7 hu7 hs7)
        | (at_builtin; refine wpList_append_to _ rfl (.tmp 19) (.tmp 20) 22 rfl 28 i0 _ 8 8 Tryz.underlying22 hi0 hz0 hz1 hz2 (by kernel_rfl) (.slice (some ⟨w6.heap.size, 0, none⟩) 1 1) 1 (nm.map byteV) (by rfl) O7.out (.slice Ao mo co) mo (rowsN seen.reverse) (by rfl) R7.out.now (rowsN_one _) HB1.out.1 HB1.out.2 ?_; intro A8 c8 w8 hown hupd hnew; have HD := Lib.hid (fun j (f : OwnB (.slice (some ⟨w6.heap.size, 0, none⟩) 1 1) j) => show w6.heap.size = j from by simpa [OwnB, Value.ownBlock] using f); have O8 := Lib.hid hown; have U8 := Lib.hid (U7.out.trans hupd (F := NoF) (fun j hj f => by have := HD.out j f; have := U6.out.size; omega)); have B8 := Lib.hid (hupd.blk B7.out (fun f => by have := HD.out X f; have := SX.out; omega)); have N8 := Lib.hid (fun j (hj : OwnB (.slice A8 (1 + mo) c8) j) => show X < j from by rcases hnew j hj with f | f; (· have := HD.out j f; have := SX.out; omega); have := B7.out.lt; omega); have ck8 := (HU.out.trans U8.out (fun _ _ f => f)).cell HKC.out (fun f => f); clear hown hupd hnew)
        | (refine wl_load rfl 28 (.tmp 32) rfl gI (oI + ki * 28 + 10) (by first | rfl | simp) (x.1.parent.map byteV) _ (HRP.out w8 U8.out) Tryz.underlying28 rfl (by rw [name_size]; simp [HOK.out.fit.parent]) pb HPB.out ?_)
        | (refine wpList_store_row rfl 28 (.tmp 3) (.tmp 33) rfl X (by rfl) pb (by rfl) 28 _ B8.out (by rw [(name_arr H8N.out HNB.out).1, (name_arr HOK.out.fit.parent HPB.out).1]) (by rw [name_size, (name_arr HOK.out.fit.parent HPB.out).1]) (name_arr HOK.out.fit.parent HPB.out).2 ?_; intro w9 hb9 hu9 hs9; have B9 := Lib.hid hb9; have D9 := Lib.hid hu9; clear hb9 hu9 hs9))
          go_roundg (unseen (its.map (·.1)) (seen ++ [nm]))
          case measure => have := HUS.out; omega
          case rel => exact ⟨x.1.parent, seen ++ [nm], A8, 1 + mo, c8, rfl, Nat.le_refl _, Lib.hid HOK.out.fit.parent, Lib.hid (by rw [HPB.out]; exact B9.out), Lib.hid (by have := HMU.out; have := HUS.out; omega), HSL1, Lib.hid (by rw [HRW.out]; exact (O8.out.rdF (F := fun j => j = X) (fun j hj f => by have := N8.out j hj; have f : j = X := f; omega)).upd D9.out), Lib.hid ((HU.out.trans U8.out (fun _ _ f => f)).trans D9.out (fun j hj f => by have f : j = X := f; have := HX.out; omega)), HS81, Lib.hid (fun fin hd => HCL.out fin (Dwn.step HIO.out HSE.out (by rw [HKD.out]; exact HK1.out) hd))⟩
end

section
open Go.RowKit

set_option maxRecDepth 100000 in
set_option maxHeartbeats 8000000 in
theorem r20ValidBlock_ok {w : World} {p : List UInt8} {A : Option Addr} {c n : Nat} {l : List (Int × List UInt8)} (hn : l.length = n) (hp : p.length = 8) (h : ChR w (.slice A n c) l) (hg : GoodCh l) :
    Calls Tryz.prog 55 #[.agg (blkC p (.slice A n c)).toArray] w fun e w' => e = .returned (.bool true) ∧ Upd NoF w w' := by
  obtain ⟨h1, h7, hv⟩ := hg
  rw [hn] at h1 h7
  obtain ⟨xa, hxa⟩ : ∃ x, (blkC p (.slice A n c)).toArray = x := ⟨_, rfl⟩
  have BX := Lib.hid (show Blk (w.alloc (.cells xa 67)) w.heap.size 67 (p.map byteV ++ [Value.slice A n c]).toArray from by rw [← hxa]; exact Blk.new w _ _)
  have c8 : (w.alloc (.cells xa 67)).cell? ⟨w.heap.size, 8, none⟩ = some (.slice A n c) := by
    rw [BX.out.cell 8, List.getElem?_toArray, List.getElem?_append_right (by simp [hp])]
    simp [hp]
  have HU := Lib.hid ((Upd.refl NoF w).alloc (.cells xa 67))
  have HC := Lib.hid (h.keep HU.out)
  have HV := Lib.hid hv
  have HN := Lib.hid hn
  have C0 := Lib.hid (fun W => r20within_any (n : Int) 1 7 W)
  rw [show (decide ((1 : Int) ≤ (n : Int)) && decide ((n : Int) ≤ 7)) = true by simp; omega] at C0
  rw [hxa]
  have C8 := Lib.hid c8
  clear h hv hn hxa BX
  go_enter Tryz.func55, Tryz.ntmps55
  go_wp2_with (refine (C0.out _).mono ?_; rintro e w' ⟨rfl, rfl⟩)
  clear c8
  go_loopg [3] n (fun kx s3 wr => ∃ k : Nat, s3 = .int .i64 (k : Int) ∧ k ≤ n ∧ n - k ≤ kx ∧ Hid (Upd NoF (w.alloc (.cells xa 67)) wr))
  case atStart => exact ⟨0, rfl, by omega, by omega, Lib.hid (Upd.refl _ _)⟩
  case round =>
    obtain ⟨k, rfl, hkn, hkx, HW⟩ := hrel
    have c8 : wr.cell? ⟨w.heap.size, 8, none⟩ = some (.slice A n c) := HW.out.cell C8.out (fun f => f)
    have HC' := Lib.hid (HC.out.keep HW.out)
    by_cases hlt : k < n
    · have hltz : (k : Int) < (n : Int) := by omega
      obtain ⟨z, hz⟩ : ∃ z, l[k]? = some z := ⟨_, List.getElem?_eq_getElem (by have := HN.out; omega)⟩
      have h1 := HV.out k z hz
      obtain ⟨g, o, rfl, hr⟩ := HC'.out.at_ hz hlt
      have c1 : wr.cell? ⟨g, o + k * 9, none⟩ = some (.int .i64 z.1) := hr 0 _ rfl
      have e1 : ((k : Int)).toNat = k := by omega
      have CZ := Lib.hid (fun W => r20within_any z.1 0 9 W)
      rw [show (decide ((0 : Int) ≤ z.1) && decide (z.1 ≤ 9)) = true by simp; omega] at CZ
      rcases Nat.eq_zero_or_pos k with hk0 | hk0
      · subst hk0
        have t4 : decide ((0 : Int) < ((0 : Nat) : Int)) = false := by simp
        rw [Nat.zero_mul, Nat.add_zero] at c1
        clear hz h1 hr
        go_wp2
        go_quiet ((go_at_call 95; exact Calls.quiet_of_same (CZ.out _)))
        go_wp2
        go_roundg (n - 1)
        case measure => omega
        case rel => exact ⟨1, by first | rfl | go_num, by omega, by omega, Lib.hid (HW.out.drewN _)⟩
      · obtain ⟨y, hy⟩ : ∃ y, l[k - 1]? = some y := ⟨_, List.getElem?_eq_getElem (by have := HN.out; omega)⟩
        have h2 := h1.2.2 (k - 1) y hy (by omega)
        obtain ⟨g', o', e', hr'⟩ := HC'.out.at_ hy (by omega)
        obtain ⟨rfl, rfl⟩ : g = g' ∧ o = o' := by injection e' with e'; injection e' with e1 e2; exact ⟨e1, e2⟩
        have c2 : wr.cell? ⟨g, o + (k - 1) * 9, none⟩ = some (.int .i64 y.1) := hr' 0 _ rfl
        have t3 : decide (z.1 ≤ y.1) = false := by simp; omega
        have t4 : decide ((0 : Int) < (k : Int)) = true := by simp; omega
        have t4' : decide (0 < k) = true := by simp; omega
        have e2 : ((k : Int) - 1).toNat = k - 1 := by omega
        have b1 : (0 : Int) ≤ (k : Int) - 1 := by omega
        have b2 : (k : Int) - 1 < (n : Int) := by omega
        clear hz h1 hr hy h2 e' hr'
        go_wp2
        go_quiet ((go_at_call 95; exact Calls.quiet_of_same (CZ.out _)))
        go_wp2
        go_roundg (n - (k + 1))
        case measure => omega
        case rel => exact ⟨k + 1, by first | rfl | go_num, by omega, by omega, Lib.hid (HW.out.drewN _)⟩
    · have hltz : ¬ (k : Int) < (n : Int) := by omega
      go_wp2
      go_ret
      exact ⟨rfl, HU.out.trans HW.out (fun _ _ f => f)⟩
end
end Go.Proofs.YtengcmfdfmnacaaGreat
