/- The law ItemsGraph, walked. Conditions: the arguments as they were opened. -/
import Derived.Test.YtengcmfdfmnacaaGreatJn17
import Derived.Test.YtengcmfdfmnacaaGreatJn22
import Derived.Test.YtengcmfdfmnacaaGreatJn21
import Derived.Test.YtengcmfdfmnacaaGreatJn24
namespace Go.Proofs.YtengcmfdfmnacaaGreat
open Go.RowKit Go.Shelf Go.Lib

def RpaV (l : List ItP) (n : List UInt8) (v : Value) (w : World) : Prop := ∃ seen A m c, v = .slice A m c ∧ seen.reverse.length = m ∧ Dwn l n [] seen ∧ NmR w (.slice A m c) seen.reverse
theorem stb_rpa (l : List ItP) (n : List UInt8) : Stb (fun w w' => Upd NoF w w') (RpaV l n) := fun _ _ _ ⟨r, A, m, c, e, h0, h, h2⟩ hu => ⟨r, A, m, c, e, h0, h, h2.keep hu⟩
set_option maxRecDepth 100000 in
set_option maxHeartbeats 16000000 in
theorem ItemsGraph_true {w : World} {A : Option Addr} {n c : Nat} {its : List (ItP × List Value)} {nm am : List UInt8} (hn : its.length = n) (h : GrR w (.slice A n c) its) (h8 : nm.length = 8) (h8a : am.length = 8) :
    Calls Tryz.prog 4 #[.slice A n c, nameV nm, nameV am] w fun e w' => e = .returned (.bool true) ∧ Upd NoF w w' := by
  obtain ⟨zn, hzn⟩ : ∃ y, (nm.map byteV).toArray = y := ⟨_, rfl⟩
  obtain ⟨za, hza⟩ : ∃ y, (am.map byteV).toArray = y := ⟨_, rfl⟩
  have HZN := Lib.hid hzn
  have HZA := Lib.hid hza
  have H8N := Lib.hid h8
  have H8A := Lib.hid h8a
  have HG := Lib.hid h
  have HN := Lib.hid hn
  have en : nameV nm = .agg zn := congrArg Value.agg hzn
  have ea : nameV am = .agg za := congrArg Value.agg hza
  rw [en, ea]
  obtain ⟨fv, hfv⟩ : ∃ y, findS (its.map (·.1.name)) nm = y := ⟨_, rfl⟩
  have CF1 := Lib.hid (fun W (hu : Upd NoF w W) => show Calls Tryz.prog 14 #[.slice A n c, .agg zn] W (fun e w' => e = .returned (.int .i64 fv) ∧ Upd NoF W w') from by have q := Find_any (w := W) (h.keep hu).row nm h8; rw [en, itN_map, hfv] at q; exact q)
  have CF2 := Lib.hid (fun W (hu : Upd NoF w W) => show Calls Tryz.prog 15 #[.slice A n c, .agg zn] W (fun e w' => e = .returned (.int .i64 fv) ∧ Upd NoF W w') from by have q := r25Find_any (w := W) (by rw [List.length_map]; exact hn) (h.keep hu).row h8; rw [en, itN_map, hfv] at q; exact q)
  have CA1 := Lib.hid (fun W (hl : Lite its) (hu : Upd NoF w W) => show Calls Tryz.prog 16 #[.slice A n c, .agg zn] W _ from by have q := itemsAncestors_any (w := W) hn (h.keep hu) hl.few h8; rw [en] at q; exact q)
  have CA2 := Lib.hid (fun W (hl : Lite its) (hu : Upd NoF w W) => rAncestors_any (w := W) hn (h.keep hu) hl.few h8 hzn)
  have CI1 := Lib.hid (fun W (hl : Lite its) (hu : Upd NoF w W) => show Calls Tryz.prog 18 #[.slice A n c, .agg za, .agg zn] W _ from by have q := itIsAncestor_any (w := W) hn (h.keep hu) hl.few h8a h8; rw [en, ea] at q; exact q)
  have CI2 := Lib.hid (fun W (hl : Lite its) (hu : Upd NoF w W) => rIsAncestor_any (w := W) hn (h.keep hu) hl.few h8 hzn h8a hza)
  have CT1 := Lib.hid (fun W (hl : Lite its) (hu : Upd NoF w W) => show Calls Tryz.prog 20 #[.slice A n c, .agg zn] W _ from by have q := itemsPath_any (w := W) hn (h.keep hu) hl.few h8; rw [en] at q; exact q)
  have CT2 := Lib.hid (fun W (hl : Lite its) (hu : Upd NoF w W) => rPath_any (w := W) hn (h.keep hu) (by have := hl.1; omega) h8 hzn)
  have CH := Lib.hid (fun W (hu : Upd NoF w W) => heavy25_any (w := W) hn (h.keep hu))
  clear h hn h8 h8a hzn hza en ea hfv
  go_enter Tryz.func4, Tryz.ntmps4
  go_wp2_with (first
    | (refine wl_box rfl 28 (.tmp 1) rfl zn (by rfl) ?_; intro v0 hb0 hu0 hs0; have BN0 := Lib.hid hb0; have V0 := Lib.hid hu0; clear hb0 hu0 hs0)
    | (refine wl_box rfl 28 (.tmp 2) rfl za (by rfl) ?_; intro v1 hb1 hu1 hs1; have BA1 := Lib.hid hb1; have BN1 := Lib.hid (hu1.blk BN0.out (fun f => f)); have V1 := Lib.hid (V0.out.trans hu1 (fun _ _ f => f)); clear hb1 hu1 hs1)
    | (refine (CH.out v1 V1.out).mono ?_; rintro e w1 ⟨b, rfl, hb, hu1⟩; have HB := Lib.hid hb; have U1 := Lib.hid (V1.out.trans hu1 (fun _ _ f => f)); have BN2 := Lib.hid (hu1.blk BN1.out (fun f => f)); have BA2 := Lib.hid (hu1.blk BA1.out (fun f => f)); clear hb hu1; rcases b with _ | _)
    | (refine (awake25_ok _).mono ?_; rintro e w2 ⟨rfl, hu2⟩; have U2 := Lib.hid (U1.out.trans hu2 (fun _ _ f => f)); clear hu2))
  · obtain ⟨XN, hXN⟩ : ∃ x, w.heap.size = x := ⟨_, rfl⟩
    obtain ⟨XA, hXA⟩ : ∃ x, v0.heap.size = x := ⟨_, rfl⟩
    rw [hXN] at BN2 ⊢
    rw [hXA] at BA2 ⊢
    have HL := Lib.hid (HB.out trivial)
    have hmx : n ≤ 300 := by have := HL.out.1; have := HN.out; omega
    clear hXN hXA BN0 BN1 BA1 V0 V1 HB CH
    go_loopw [7] (fun s7 wr => ∃ k : Nat, s7 = .int .i64 (k : Int) ∧ k ≤ n ∧ Upd NoF w1 wr) (fun i _ => n - (intOf i).toNat)
    case atStart => exact ⟨0, rfl, Nat.zero_le _, Upd.refl _ _⟩
    case round =>
      obtain ⟨k, rfl, hk, hu⟩ := hrel
      have HU := Lib.hid hu
      have UW := Lib.hid (show ∀ wq, Upd NoF wr.drew wq → Upd NoF w wq from fun wq hq => (U1.out.trans HU.out (fun _ _ f => f)).drew.trans hq (fun _ _ f => f))
      clear hu
      by_cases hlt : k < n
      · have t1 : decide ((k : Int) < (n : Int)) = true := by simp; omega
        obtain ⟨x, hx⟩ : ∃ y, its[k]? = some y := ⟨_, List.getElem?_eq_getElem (by rw [HN.out]; exact hlt)⟩
        have HXM := Lib.hid (List.mem_of_getElem? hx)
        have HOK := Lib.hid (HG.out.ok x HXM.out)
        obtain ⟨g, o, rfl, hrow⟩ := HG.out.at_ HN.out hx
        have XR := Lib.hid (show ∀ wq, Upd NoF wr.drew wq → wq.rangeAt g (o + k * 28) (itemC x.1.name x.2) from fun wq hq j v hv => (UW.out wq hq).cell (hrow j v hv) (fun f => f))
        have HIL := Lib.hid (itemC_len HOK.out)
        obtain ⟨ra, hra⟩ : ∃ y, (itemC x.1.name x.2).toArray = y := ⟨_, rfl⟩
        have HRA := Lib.hid hra
        have HP8 := Lib.hid (show All8 (parents x.1) from ascSet_all8 (rawPar_all8 HOK.out.fit))
        have CP1 := Lib.hid (fun W (hu : Upd NoF wr.drew W) => show Calls Tryz.prog 12 #[.agg ra] W (AscPost W (parents x.1)) from by rw [← HRA.out]; exact Parents_any (HOK.out.keep (UW.out W hu)) (by have := (HL.out.2 x HXM.out).1; omega) (by have := (HL.out.2 x HXM.out).2; omega))
        have CP2 := Lib.hid (fun W (hu : Upd NoF wr.drew W) => show Calls Tryz.prog 13 #[.agg ra] W (NmPost W (parents x.1)) from by rw [← HRA.out]; exact rParents_any (HOK.out.keep (UW.out W hu)) (by have := (HL.out.2 x HXM.out).1; omega) (by have := (HL.out.2 x HXM.out).2; omega))
        have ww : IntKind.i64.wrap ((k : Int) + 1) = (k : Int) + 1 := IntWalk.i64_in _ (by omega)
        clear hx hrow hra
        go_wp2_with fail
        refine wp_region_rgw (rgR [isV (.slice (some ⟨g, o, none⟩) n c), isV (.int .i64 (k : Int)), isV (.pointer (some ⟨g, o + k * 28, none⟩)), isV (.agg ra), NmP (parents x.1), isV (.slice (some ⟨g, o, none⟩) n c), isV (.int .i64 (k : Int)), isV (.pointer (some ⟨g, o + k * 28, none⟩)), isV (.agg ra), NmP (parents x.1), isV (.bool true), isV (.bool false)]) (fun w w' => Upd NoF w w') (fun _ wq => Upd NoF wr.drew wq) (by kernel_rfl) (by kernel_rfl) (by kernel_rfl) (by rfl) (fun w => Upd.refl _ _) (rgR_keep (by
          intro p hp; simp only [List.mem_cons, List.not_mem_nil, or_false] at hp; rcases hp with rfl | rfl | rfl | rfl | rfl | rfl | rfl | rfl | rfl | rfl | rfl | rfl <;> first | exact stb_isV _ | exact stb_any | exact stb_nmp _)) (Upd.refl _ _) ?_ ?_
        · refine ⟨?_, ?_, ?_, ?_, ?_, ?_, ?_, ?_, ?_, ?_, ?_, ?_, trivial⟩
          · refine fun ρ w' L hW hLi hcl hd hdep hext hc hg hf => ?_
            rw [if_pos (show wantedR _ _ _ = true from rfl)]
            have e0 : ρ (.tmp 0) = .slice (some ⟨g, o, none⟩) n c := hext 0 (by kernel_rfl)
            clear hdep hext hcl
            have HW := Lib.hid hW
            clear hW
            unfold OpDone
            go_simp
            exact ⟨rfl, Upd.refl _ _, HW.out⟩
          · refine fun ρ w' L hW hLi hcl hd hdep hext hc hg hf => ?_
            rw [if_pos (show wantedR _ _ _ = true from rfl)]
            have e7 : ρ (.tmp 7) = .int .i64 (k : Int) := hext 7 (by kernel_rfl)
            clear hdep hext hcl
            have HW := Lib.hid hW
            clear hW
            unfold OpDone
            go_simp
            exact ⟨rfl, Upd.refl _ _, HW.out⟩
          · refine fun ρ w' L hW hLi hcl hd hdep hext hc hg hf => ?_
            rw [if_pos (show wantedR _ _ _ = true from rfl)]
            have e17 : ρ (.tmp 17) = .slice (some ⟨g, o, none⟩) n c := hdep 0 _ rfl (by kernel_rfl)
            have e18 : ρ (.tmp 18) = .int .i64 (k : Int) := hdep 1 _ rfl (by kernel_rfl)
            have q0 : (0 : Int) ≤ (k : Int) := by omega
            have q1 : (k : Int) < (n : Int) := by omega
            have q2 : k < n := by omega
            clear hdep hext hcl
            have HW := Lib.hid hW
            clear hW
            unfold OpDone
            go_simp
            exact ⟨rfl, Upd.refl _ _, HW.out⟩
          · refine fun ρ w' L hW hLi hcl hd hdep hext hc hg hf => ?_
            rw [if_pos (show wantedR _ _ _ = true from rfl)]
            have e19 : ρ (.tmp 19) = .pointer (some ⟨g, o + k * 28, none⟩) := hdep 2 _ rfl (by kernel_rfl)
            clear hdep hext
            refine od_load_row 38 (.tmp 19) rfl _ _ e19 (itemC x.1.name x.2) _ (XR.out w' hW) Tryz.underlying38 rfl (by rw [item_size, HIL.out]) ?_
            rw [HRA.out]
            exact ⟨rfl, Upd.refl _ _, hW⟩
          · refine fun ρ w' L hW hLi hcl hd hdep hext hc hg hf => ?_
            rw [if_pos (show wantedR _ _ _ = true from rfl)]
            have e20 : ρ (.tmp 20) = .agg ra := hdep 3 _ rfl (by kernel_rfl)
            clear hdep hext
            have CL := Lib.hid (CP1.out w' hW)
            have HW := Lib.hid hW
            clear hW hcl hd hLi
            unfold OpDone
            go_simp
            refine CL.out.mono ?_
            rintro e w2 ⟨A2, c2, rfl, hn2, hu⟩
            exact ⟨_, rfl, ⟨A2, c2, rfl, ⟨HP8.out, hn2.1.rd⟩⟩, hu, HW.out.trans hu (fun _ _ f => f)⟩
          · refine fun ρ w' L hW hLi hcl hd hdep hext hc hg hf => ?_
            rw [if_pos (show wantedR _ _ _ = true from rfl)]
            have e0 : ρ (.tmp 0) = .slice (some ⟨g, o, none⟩) n c := hext 0 (by kernel_rfl)
            clear hdep hext hcl
            have HW := Lib.hid hW
            clear hW
            unfold OpDone
            go_simp
            exact ⟨rfl, Upd.refl _ _, HW.out⟩
          · refine fun ρ w' L hW hLi hcl hd hdep hext hc hg hf => ?_
            rw [if_pos (show wantedR _ _ _ = true from rfl)]
            have e7 : ρ (.tmp 7) = .int .i64 (k : Int) := hext 7 (by kernel_rfl)
            clear hdep hext hcl
            have HW := Lib.hid hW
            clear hW
            unfold OpDone
            go_simp
            exact ⟨rfl, Upd.refl _ _, HW.out⟩
          · refine fun ρ w' L hW hLi hcl hd hdep hext hc hg hf => ?_
            rw [if_pos (show wantedR _ _ _ = true from rfl)]
            have e22 : ρ (.tmp 22) = .slice (some ⟨g, o, none⟩) n c := hdep 5 _ rfl (by kernel_rfl)
            have e23 : ρ (.tmp 23) = .int .i64 (k : Int) := hdep 6 _ rfl (by kernel_rfl)
            have q0 : (0 : Int) ≤ (k : Int) := by omega
            have q1 : (k : Int) < (n : Int) := by omega
            have q2 : k < n := by omega
            clear hdep hext hcl
            have HW := Lib.hid hW
            clear hW
            unfold OpDone
            go_simp
            exact ⟨rfl, Upd.refl _ _, HW.out⟩
          · refine fun ρ w' L hW hLi hcl hd hdep hext hc hg hf => ?_
            rw [if_pos (show wantedR _ _ _ = true from rfl)]
            have e24 : ρ (.tmp 24) = .pointer (some ⟨g, o + k * 28, none⟩) := hdep 7 _ rfl (by kernel_rfl)
            clear hdep hext
            refine od_load_row 38 (.tmp 24) rfl _ _ e24 (itemC x.1.name x.2) _ (XR.out w' hW) Tryz.underlying38 rfl (by rw [item_size, HIL.out]) ?_
            rw [HRA.out]
            exact ⟨rfl, Upd.refl _ _, hW⟩
          · refine fun ρ w' L hW hLi hcl hd hdep hext hc hg hf => ?_
            rw [if_pos (show wantedR _ _ _ = true from rfl)]
            have e25 : ρ (.tmp 25) = .agg ra := hdep 8 _ rfl (by kernel_rfl)
            clear hdep hext
            have CL := Lib.hid (CP2.out w' hW)
            have HW := Lib.hid hW
            clear hW hcl hd hLi
            unfold OpDone
            go_simp
            refine CL.out.mono ?_
            rintro e w2 ⟨A2, m2, c2, rfl, hl2, hn2, hu⟩
            exact ⟨_, rfl, ⟨A2, c2, by subst hl2; rfl, by subst hl2; exact hn2⟩, hu, HW.out.trans hu (fun _ _ f => f)⟩
          · refine fun ρ w' L hW hLi hcl hd hdep hext hc hg hf => ?_
            rw [if_pos (show wantedR _ _ _ = true from rfl)]
            have e21 : (NmP (parents x.1)) (ρ (.tmp 21)) w' := hdep 4 _ rfl (by kernel_rfl)
            have e26 : (NmP (parents x.1)) (ρ (.tmp 26)) w' := hdep 9 _ rfl (by kernel_rfl)
            clear hdep hext
            obtain ⟨A1, c1, e21, q1⟩ := e21
            obtain ⟨A2, c2, e26, q2⟩ := e26
            have CL := Lib.hid (show Calls Tryz.prog 11 #[.slice A1 _ c1, .slice A2 _ c2] w' (fun e w2 => e = .returned (.bool true) ∧ Upd NoF w' w2) from by
              have q := r20SameNames_any (w := w') rfl q1 rfl q2
              rw [decide_eq_true (rfl : parents x.1 = parents x.1)] at q
              exact q)
            have HW := Lib.hid hW
            clear q1 q2 hW hcl hd hLi
            unfold OpDone
            go_simp
            refine CL.out.mono ?_
            rintro e w2 ⟨rfl, hu⟩
            exact ⟨_, rfl, rfl, hu, HW.out.trans hu (fun _ _ f => f)⟩
          · refine fun ρ w' L hW hLi hcl hd hdep hext hc hg hf => ?_
            rw [if_pos (show wantedR _ _ _ = true from rfl)]
            have e27 : ρ (.tmp 27) = .bool true := hdep 10 _ rfl (by kernel_rfl)
            clear hdep hext hcl
            have HW := Lib.hid hW
            clear hW
            unfold OpDone
            go_simp
            exact ⟨rfl, Upd.refl _ _, HW.out⟩
        intro vs W8 L8 hL8 hW8 hR
        have hv0 : vs 0 = .slice (some ⟨g, o, none⟩) n c := hR 0 _ rfl
        have hv1 : vs 1 = .int .i64 (k : Int) := hR 1 _ rfl
        have hv2 : vs 2 = .pointer (some ⟨g, o + k * 28, none⟩) := hR 2 _ rfl
        have hv3 : vs 3 = .agg ra := hR 3 _ rfl
        have hr4 : (NmP (parents x.1)) (vs 4) W8 := hR 4 _ rfl
        obtain ⟨A4, c4, hv4, -⟩ := hr4
        have hv5 : vs 5 = .slice (some ⟨g, o, none⟩) n c := hR 5 _ rfl
        have hv6 : vs 6 = .int .i64 (k : Int) := hR 6 _ rfl
        have hv7 : vs 7 = .pointer (some ⟨g, o + k * 28, none⟩) := hR 7 _ rfl
        have hv8 : vs 8 = .agg ra := hR 8 _ rfl
        have hr9 : (NmP (parents x.1)) (vs 9) W8 := hR 9 _ rfl
        obtain ⟨A9, c9, hv9, -⟩ := hr9
        have hv10 : vs 10 = .bool true := hR 10 _ rfl
        have hv11 : vs 11 = .bool false := hR 11 _ rfl
        simp only [putAll, Act.put, List.setIfInBounds_toArray, List.set_cons_zero, List.set_cons_succ, hv0, hv1, hv2, hv3, hv4, hv5, hv6, hv7, hv8, hv9, hv10, hv11]
        clear hR hv0 hv1 hv2 hv3 hv4 hv5 hv6 hv7 hv8 hv9 hv10 hv11
        have HU8 := Lib.hid (show Upd NoF w1 W8 from HU.out.trans (((Upd.refl NoF wr).drew).trans hW8 (fun _ _ f => f)) (fun _ _ f => f))
        clear hW8 HU
        go_wp2
        go_roundw
        case rel => exact ⟨k + 1, by go_num, by omega, HU8.out⟩
        case measure => simp [intOf]; omega
      · obtain rfl : k = n := by omega
        have t1 : decide ((k : Int) < (k : Int)) = false := by simp
        have BN := Lib.hid (show Blk wr.drew XN 28 zn from (HU.out.blk BN2.out (fun f => f)).drew)
        have BA := Lib.hid (show Blk wr.drew XA 28 za from (HU.out.blk BA2.out (fun f => f)).drew)
        replace CF1 := Lib.hid (fun W (hu : Upd NoF wr.drew W) => CF1.out W (UW.out W hu))
        replace CF2 := Lib.hid (fun W (hu : Upd NoF wr.drew W) => CF2.out W (UW.out W hu))
        replace CA1 := Lib.hid (fun W (hu : Upd NoF wr.drew W) => CA1.out W HL.out (UW.out W hu))
        replace CA2 := Lib.hid (fun W (hu : Upd NoF wr.drew W) => CA2.out W HL.out (UW.out W hu))
        replace CI1 := Lib.hid (fun W (hu : Upd NoF wr.drew W) => CI1.out W HL.out (UW.out W hu))
        replace CI2 := Lib.hid (fun W (hu : Upd NoF wr.drew W) => CI2.out W HL.out (UW.out W hu))
        replace CT1 := Lib.hid (fun W (hu : Upd NoF wr.drew W) => CT1.out W HL.out (UW.out W hu))
        replace CT2 := Lib.hid (fun W (hu : Upd NoF wr.drew W) => CT2.out W HL.out (UW.out W hu))
        have CAW := Lib.hid (fun W (_ : Upd NoF wr.drew W) => awake25_ok W)
        go_wp2_with fail
        refine wp_region_rgw (rgR [isV (.slice A k c), isV (.agg zn), isV (.int .i64 fv), isV (.slice A k c), isV (.agg zn), isV (.int .i64 fv), isV (.bool true), isV (.bool true), isV (.slice A k c), isV (.agg zn), SoV (its.map (·.1)) nm, isV (.slice A k c), isV (.agg zn), RanV (its.map (·.1)) nm, isV (.bool true), isV (.bool true), isV (.bool true), isV (.slice A k c), isV (.agg za), isV (.agg zn), RiaV (its.map (·.1)) nm am, isV (.slice A k c), isV (.agg za), isV (.agg zn), RiaV (its.map (·.1)) nm am, isV (.bool true), isV (.bool true), isV (.bool true), isV (.slice A k c), isV (.agg zn), PaV (its.map (·.1)) nm, isV (.slice A k c), isV (.agg zn), RpaV (its.map (·.1)) nm, isV (.bool true), isV (.bool true), isV (.bool true), isV (.bool true), isV (.bool true), isV (.bool true)]) (fun w w' => Upd NoF w w') (fun _ wq => Upd NoF wr.drew wq) (by kernel_rfl) (by kernel_rfl) (by kernel_rfl) (by rfl) (fun w => Upd.refl _ _) (rgR_keep (by
          intro p hp; simp only [List.mem_cons, List.not_mem_nil, or_false] at hp; rcases hp with rfl | rfl | rfl | rfl | rfl | rfl | rfl | rfl | rfl | rfl | rfl | rfl | rfl | rfl | rfl | rfl | rfl | rfl | rfl | rfl | rfl | rfl | rfl | rfl | rfl | rfl | rfl | rfl | rfl | rfl | rfl | rfl | rfl | rfl | rfl | rfl | rfl | rfl | rfl | rfl <;> first | exact stb_isV _ | exact stb_any | exact stb_sov _ _ | exact stb_ran _ _ | exact stb_ria _ _ _ | exact stb_pav _ _ | exact stb_rpa _ _)) (Upd.refl _ _) ?_ ?_
        · refine ⟨?_, ?_, ?_, ?_, ?_, ?_, ?_, ?_, ?_, ?_, ?_, ?_, ?_, ?_, ?_, ?_, ?_, ?_, ?_, ?_, ?_, ?_, ?_, ?_, ?_, ?_, ?_, ?_, ?_, ?_, ?_, ?_, ?_, ?_, ?_, ?_, ?_, ?_, ?_, ?_, trivial⟩
          · refine fun ρ w' L hW hLi hcl hd hdep hext hc hg hf => ?_
            rw [if_pos (show wantedR _ _ _ = true from rfl)]
            have e0 : ρ (.tmp 0) = .slice A k c := hext 0 (by kernel_rfl)
            clear hdep hext hcl
            have HW := Lib.hid hW
            clear hW
            unfold OpDone
            go_simp
            exact ⟨rfl, Upd.refl _ _, HW.out⟩
          · refine fun ρ w' L hW hLi hcl hd hdep hext hc hg hf => ?_
            rw [if_pos (show wantedR _ _ _ = true from rfl)]
            have e4 : ρ (.tmp 4) = .pointer (some ⟨XN, 0, none⟩) := hext 4 (by kernel_rfl)
            clear hdep hext
            refine od_load_row 28 (.tmp 4) rfl _ _ e4 (nm.map byteV) _ (name_cells HZN.out (hW.blk BN.out (fun f => f))) Tryz.underlying28 rfl (by rw [name_size]; simp [H8N.out]) ?_
            rw [HZN.out]
            exact ⟨rfl, Upd.refl _ _, hW⟩
          · refine fun ρ w' L hW hLi hcl hd hdep hext hc hg hf => ?_
            rw [if_pos (show wantedR _ _ _ = true from rfl)]
            have e29 : ρ (.tmp 29) = .slice A k c := hdep 0 _ rfl (by kernel_rfl)
            have e30 : ρ (.tmp 30) = .agg zn := hdep 1 _ rfl (by kernel_rfl)
            clear hdep hext
            have CL := Lib.hid (CF1.out w' hW)
            have HW := Lib.hid hW
            clear hW hcl hd hLi
            unfold OpDone
            go_simp
            refine CL.out.mono ?_
            rintro e w2 ⟨rfl, hu⟩
            exact ⟨_, rfl, rfl, hu, HW.out.trans hu (fun _ _ f => f)⟩
          · refine fun ρ w' L hW hLi hcl hd hdep hext hc hg hf => ?_
            rw [if_pos (show wantedR _ _ _ = true from rfl)]
            have e0 : ρ (.tmp 0) = .slice A k c := hext 0 (by kernel_rfl)
            clear hdep hext hcl
            have HW := Lib.hid hW
            clear hW
            unfold OpDone
            go_simp
            exact ⟨rfl, Upd.refl _ _, HW.out⟩
          · refine fun ρ w' L hW hLi hcl hd hdep hext hc hg hf => ?_
            rw [if_pos (show wantedR _ _ _ = true from rfl)]
            have e4 : ρ (.tmp 4) = .pointer (some ⟨XN, 0, none⟩) := hext 4 (by kernel_rfl)
            clear hdep hext
            refine od_load_row 28 (.tmp 4) rfl _ _ e4 (nm.map byteV) _ (name_cells HZN.out (hW.blk BN.out (fun f => f))) Tryz.underlying28 rfl (by rw [name_size]; simp [H8N.out]) ?_
            rw [HZN.out]
            exact ⟨rfl, Upd.refl _ _, hW⟩
          · refine fun ρ w' L hW hLi hcl hd hdep hext hc hg hf => ?_
            rw [if_pos (show wantedR _ _ _ = true from rfl)]
            have e32 : ρ (.tmp 32) = .slice A k c := hdep 3 _ rfl (by kernel_rfl)
            have e33 : ρ (.tmp 33) = .agg zn := hdep 4 _ rfl (by kernel_rfl)
            clear hdep hext
            have CL := Lib.hid (CF2.out w' hW)
            have HW := Lib.hid hW
            clear hW hcl hd hLi
            unfold OpDone
            go_simp
            refine CL.out.mono ?_
            rintro e w2 ⟨rfl, hu⟩
            exact ⟨_, rfl, rfl, hu, HW.out.trans hu (fun _ _ f => f)⟩
          · refine fun ρ w' L hW hLi hcl hd hdep hext hc hg hf => ?_
            rw [if_pos (show wantedR _ _ _ = true from rfl)]
            have e31 : ρ (.tmp 31) = .int .i64 fv := hdep 2 _ rfl (by kernel_rfl)
            have e34 : ρ (.tmp 34) = .int .i64 fv := hdep 5 _ rfl (by kernel_rfl)
            clear hdep hext hcl
            have HW := Lib.hid hW
            clear hW
            unfold OpDone
            go_simp
            exact ⟨rfl, Upd.refl _ _, HW.out⟩
          · refine fun ρ w' L hW hLi hcl hd hdep hext hc hg hf => ?_
            rw [if_pos (show wantedR _ _ _ = true from rfl)]
            have e35 : ρ (.tmp 35) = .bool true := hdep 6 _ rfl (by kernel_rfl)
            clear hdep hext hcl
            have HW := Lib.hid hW
            clear hW
            unfold OpDone
            go_simp
            exact ⟨rfl, Upd.refl _ _, HW.out⟩
          · refine fun ρ w' L hW hLi hcl hd hdep hext hc hg hf => ?_
            have eg : ρ (.tmp 36) = .bool true := hdep 7 _ rfl (by kernel_rfl)
            refine wanted_go ?_ ?_
            · show (match ρ (.tmp 36) with | .bool c => c == true | _ => false) = true
              rw [eg]
              rfl
            clear eg
            have e0 : ρ (.tmp 0) = .slice A k c := hext 0 (by kernel_rfl)
            clear hdep hext hcl
            have HW := Lib.hid hW
            clear hW
            unfold OpDone
            go_simp
            exact ⟨rfl, Upd.refl _ _, HW.out⟩
          · refine fun ρ w' L hW hLi hcl hd hdep hext hc hg hf => ?_
            have eg : ρ (.tmp 36) = .bool true := hdep 7 _ rfl (by kernel_rfl)
            refine wanted_go ?_ ?_
            · show (match ρ (.tmp 36) with | .bool c => c == true | _ => false) = true
              rw [eg]
              rfl
            clear eg
            have e4 : ρ (.tmp 4) = .pointer (some ⟨XN, 0, none⟩) := hext 4 (by kernel_rfl)
            clear hdep hext
            refine od_load_row 28 (.tmp 4) rfl _ _ e4 (nm.map byteV) _ (name_cells HZN.out (hW.blk BN.out (fun f => f))) Tryz.underlying28 rfl (by rw [name_size]; simp [H8N.out]) ?_
            rw [HZN.out]
            exact ⟨rfl, Upd.refl _ _, hW⟩
          · refine fun ρ w' L hW hLi hcl hd hdep hext hc hg hf => ?_
            have eg : ρ (.tmp 36) = .bool true := hdep 7 _ rfl (by kernel_rfl)
            refine wanted_go ?_ ?_
            · show (match ρ (.tmp 36) with | .bool c => c == true | _ => false) = true
              rw [eg]
              rfl
            clear eg
            have e37 : ρ (.tmp 37) = .slice A k c := hdep 8 _ rfl (by kernel_rfl)
            have e38 : ρ (.tmp 38) = .agg zn := hdep 9 _ rfl (by kernel_rfl)
            clear hdep hext
            have CL := Lib.hid (CA1.out w' hW)
            have HW := Lib.hid hW
            clear hW hcl hd hLi
            unfold OpDone
            go_simp
            refine CL.out.mono ?_
            rintro e w2 ⟨res, A2, c2, ha, rfl, hn2, hu⟩
            exact ⟨_, rfl, ⟨res, A2, c2, rfl, ha, hn2⟩, hu, HW.out.trans hu (fun _ _ f => f)⟩
          · refine fun ρ w' L hW hLi hcl hd hdep hext hc hg hf => ?_
            have eg : ρ (.tmp 36) = .bool true := hdep 7 _ rfl (by kernel_rfl)
            refine wanted_go ?_ ?_
            · show (match ρ (.tmp 36) with | .bool c => c == true | _ => false) = true
              rw [eg]
              rfl
            clear eg
            have e0 : ρ (.tmp 0) = .slice A k c := hext 0 (by kernel_rfl)
            clear hdep hext hcl
            have HW := Lib.hid hW
            clear hW
            unfold OpDone
            go_simp
            exact ⟨rfl, Upd.refl _ _, HW.out⟩
          · refine fun ρ w' L hW hLi hcl hd hdep hext hc hg hf => ?_
            have eg : ρ (.tmp 36) = .bool true := hdep 7 _ rfl (by kernel_rfl)
            refine wanted_go ?_ ?_
            · show (match ρ (.tmp 36) with | .bool c => c == true | _ => false) = true
              rw [eg]
              rfl
            clear eg
            have e4 : ρ (.tmp 4) = .pointer (some ⟨XN, 0, none⟩) := hext 4 (by kernel_rfl)
            clear hdep hext
            refine od_load_row 28 (.tmp 4) rfl _ _ e4 (nm.map byteV) _ (name_cells HZN.out (hW.blk BN.out (fun f => f))) Tryz.underlying28 rfl (by rw [name_size]; simp [H8N.out]) ?_
            rw [HZN.out]
            exact ⟨rfl, Upd.refl _ _, hW⟩
          · refine fun ρ w' L hW hLi hcl hd hdep hext hc hg hf => ?_
            have eg : ρ (.tmp 36) = .bool true := hdep 7 _ rfl (by kernel_rfl)
            refine wanted_go ?_ ?_
            · show (match ρ (.tmp 36) with | .bool c => c == true | _ => false) = true
              rw [eg]
              rfl
            clear eg
            have e40 : ρ (.tmp 40) = .slice A k c := hdep 11 _ rfl (by kernel_rfl)
            have e41 : ρ (.tmp 41) = .agg zn := hdep 12 _ rfl (by kernel_rfl)
            clear hdep hext
            have CL := Lib.hid (CA2.out w' hW)
            have HW := Lib.hid hW
            clear hW hcl hd hLi
            unfold OpDone
            go_simp
            refine CL.out.mono ?_
            rintro e w2 ⟨res, ha, A2, m2, c2, rfl, hl2, hn2, hu⟩
            exact ⟨_, rfl, ⟨res, A2, m2, c2, rfl, hl2, ha, hn2⟩, hu, HW.out.trans hu (fun _ _ f => f)⟩
          · refine fun ρ w' L hW hLi hcl hd hdep hext hc hg hf => ?_
            have eg : ρ (.tmp 36) = .bool true := hdep 7 _ rfl (by kernel_rfl)
            refine wanted_go ?_ ?_
            · show (match ρ (.tmp 36) with | .bool c => c == true | _ => false) = true
              rw [eg]
              rfl
            clear eg
            have e39 : (SoV (its.map (·.1)) nm) (ρ (.tmp 39)) w' := hdep 10 _ rfl (by kernel_rfl)
            have e42 : (RanV (its.map (·.1)) nm) (ρ (.tmp 42)) w' := hdep 13 _ rfl (by kernel_rfl)
            clear hdep hext
            obtain ⟨r1, A1, c1, e39, ha1, q1⟩ := e39
            obtain ⟨r2, A2, m2, c2, e42, hl2, ha2, q2⟩ := e42
            obtain rfl := ha1.det ha2
            have CL := Lib.hid (show Calls Tryz.prog 11 #[.slice A1 _ c1, .slice A2 m2 c2] w' (fun e w2 => e = .returned (.bool true) ∧ Upd NoF w' w2) from by
              have q := r20SameNames_any (w := w') rfl q1 hl2 q2
              rw [decide_eq_true (rfl : ascSet r1 = ascSet r1)] at q
              exact q)
            have HW := Lib.hid hW
            clear q1 q2 ha1 ha2 hl2 hW hcl hd hLi
            unfold OpDone
            go_simp
            refine CL.out.mono ?_
            rintro e w2 ⟨rfl, hu⟩
            exact ⟨_, rfl, rfl, hu, HW.out.trans hu (fun _ _ f => f)⟩
          · refine fun ρ w' L hW hLi hcl hd hdep hext hc hg hf => ?_
            rw [if_pos (show wantedR _ _ _ = true from rfl)]
            have e36 : ρ (.tmp 36) = .bool true := hdep 7 _ rfl (by kernel_rfl)
            have e43 : ρ (.tmp 43) = .bool true := hdep 14 _ rfl (by kernel_rfl)
            clear hdep hext hcl
            have HW := Lib.hid hW
            clear hW
            unfold OpDone
            go_simp
            exact ⟨rfl, Upd.refl _ _, HW.out⟩
          · refine fun ρ w' L hW hLi hcl hd hdep hext hc hg hf => ?_
            rw [if_pos (show wantedR _ _ _ = true from rfl)]
            have e44 : ρ (.tmp 44) = .bool true := hdep 15 _ rfl (by kernel_rfl)
            clear hdep hext hcl
            have HW := Lib.hid hW
            clear hW
            unfold OpDone
            go_simp
            exact ⟨rfl, Upd.refl _ _, HW.out⟩
          · refine fun ρ w' L hW hLi hcl hd hdep hext hc hg hf => ?_
            have eg : ρ (.tmp 45) = .bool true := hdep 16 _ rfl (by kernel_rfl)
            refine wanted_go ?_ ?_
            · show (match ρ (.tmp 45) with | .bool c => c == true | _ => false) = true
              rw [eg]
              rfl
            clear eg
            have e0 : ρ (.tmp 0) = .slice A k c := hext 0 (by kernel_rfl)
            clear hdep hext hcl
            have HW := Lib.hid hW
            clear hW
            unfold OpDone
            go_simp
            exact ⟨rfl, Upd.refl _ _, HW.out⟩
          · refine fun ρ w' L hW hLi hcl hd hdep hext hc hg hf => ?_
            have eg : ρ (.tmp 45) = .bool true := hdep 16 _ rfl (by kernel_rfl)
            refine wanted_go ?_ ?_
            · show (match ρ (.tmp 45) with | .bool c => c == true | _ => false) = true
              rw [eg]
              rfl
            clear eg
            have e5 : ρ (.tmp 5) = .pointer (some ⟨XA, 0, none⟩) := hext 5 (by kernel_rfl)
            clear hdep hext
            refine od_load_row 28 (.tmp 5) rfl _ _ e5 (am.map byteV) _ (name_cells HZA.out (hW.blk BA.out (fun f => f))) Tryz.underlying28 rfl (by rw [name_size]; simp [H8A.out]) ?_
            rw [HZA.out]
            exact ⟨rfl, Upd.refl _ _, hW⟩
          · refine fun ρ w' L hW hLi hcl hd hdep hext hc hg hf => ?_
            have eg : ρ (.tmp 45) = .bool true := hdep 16 _ rfl (by kernel_rfl)
            refine wanted_go ?_ ?_
            · show (match ρ (.tmp 45) with | .bool c => c == true | _ => false) = true
              rw [eg]
              rfl
            clear eg
            have e4 : ρ (.tmp 4) = .pointer (some ⟨XN, 0, none⟩) := hext 4 (by kernel_rfl)
            clear hdep hext
            refine od_load_row 28 (.tmp 4) rfl _ _ e4 (nm.map byteV) _ (name_cells HZN.out (hW.blk BN.out (fun f => f))) Tryz.underlying28 rfl (by rw [name_size]; simp [H8N.out]) ?_
            rw [HZN.out]
            exact ⟨rfl, Upd.refl _ _, hW⟩
          · refine fun ρ w' L hW hLi hcl hd hdep hext hc hg hf => ?_
            have eg : ρ (.tmp 45) = .bool true := hdep 16 _ rfl (by kernel_rfl)
            refine wanted_go ?_ ?_
            · show (match ρ (.tmp 45) with | .bool c => c == true | _ => false) = true
              rw [eg]
              rfl
            clear eg
            have e46 : ρ (.tmp 46) = .slice A k c := hdep 17 _ rfl (by kernel_rfl)
            have e47 : ρ (.tmp 47) = .agg za := hdep 18 _ rfl (by kernel_rfl)
            have e48 : ρ (.tmp 48) = .agg zn := hdep 19 _ rfl (by kernel_rfl)
            clear hdep hext
            have CL := Lib.hid (CI1.out w' hW)
            have HW := Lib.hid hW
            clear hW hcl hd hLi
            unfold OpDone
            go_simp
            refine CL.out.mono ?_
            rintro e w2 ⟨res, ha, rfl, hu⟩
            exact ⟨_, rfl, ⟨res, rfl, ha⟩, hu, HW.out.trans hu (fun _ _ f => f)⟩
          · refine fun ρ w' L hW hLi hcl hd hdep hext hc hg hf => ?_
            have eg : ρ (.tmp 45) = .bool true := hdep 16 _ rfl (by kernel_rfl)
            refine wanted_go ?_ ?_
            · show (match ρ (.tmp 45) with | .bool c => c == true | _ => false) = true
              rw [eg]
              rfl
            clear eg
            have e0 : ρ (.tmp 0) = .slice A k c := hext 0 (by kernel_rfl)
            clear hdep hext hcl
            have HW := Lib.hid hW
            clear hW
            unfold OpDone
            go_simp
            exact ⟨rfl, Upd.refl _ _, HW.out⟩
          · refine fun ρ w' L hW hLi hcl hd hdep hext hc hg hf => ?_
            have eg : ρ (.tmp 45) = .bool true := hdep 16 _ rfl (by kernel_rfl)
            refine wanted_go ?_ ?_
            · show (match ρ (.tmp 45) with | .bool c => c == true | _ => false) = true
              rw [eg]
              rfl
            clear eg
            have e5 : ρ (.tmp 5) = .pointer (some ⟨XA, 0, none⟩) := hext 5 (by kernel_rfl)
            clear hdep hext
            refine od_load_row 28 (.tmp 5) rfl _ _ e5 (am.map byteV) _ (name_cells HZA.out (hW.blk BA.out (fun f => f))) Tryz.underlying28 rfl (by rw [name_size]; simp [H8A.out]) ?_
            rw [HZA.out]
            exact ⟨rfl, Upd.refl _ _, hW⟩
          · refine fun ρ w' L hW hLi hcl hd hdep hext hc hg hf => ?_
            have eg : ρ (.tmp 45) = .bool true := hdep 16 _ rfl (by kernel_rfl)
            refine wanted_go ?_ ?_
            · show (match ρ (.tmp 45) with | .bool c => c == true | _ => false) = true
              rw [eg]
              rfl
            clear eg
            have e4 : ρ (.tmp 4) = .pointer (some ⟨XN, 0, none⟩) := hext 4 (by kernel_rfl)
            clear hdep hext
            refine od_load_row 28 (.tmp 4) rfl _ _ e4 (nm.map byteV) _ (name_cells HZN.out (hW.blk BN.out (fun f => f))) Tryz.underlying28 rfl (by rw [name_size]; simp [H8N.out]) ?_
            rw [HZN.out]
            exact ⟨rfl, Upd.refl _ _, hW⟩
          · refine fun ρ w' L hW hLi hcl hd hdep hext hc hg hf => ?_
            have eg : ρ (.tmp 45) = .bool true := hdep 16 _ rfl (by kernel_rfl)
            refine wanted_go ?_ ?_
            · show (match ρ (.tmp 45) with | .bool c => c == true | _ => false) = true
              rw [eg]
              rfl
            clear eg
            have e50 : ρ (.tmp 50) = .slice A k c := hdep 21 _ rfl (by kernel_rfl)
            have e51 : ρ (.tmp 51) = .agg za := hdep 22 _ rfl (by kernel_rfl)
            have e52 : ρ (.tmp 52) = .agg zn := hdep 23 _ rfl (by kernel_rfl)
            clear hdep hext
            have CL := Lib.hid (CI2.out w' hW)
            have HW := Lib.hid hW
            clear hW hcl hd hLi
            unfold OpDone
            go_simp
            refine CL.out.mono ?_
            rintro e w2 ⟨res, ha, rfl, hu⟩
            exact ⟨_, rfl, ⟨res, rfl, ha⟩, hu, HW.out.trans hu (fun _ _ f => f)⟩
          · refine fun ρ w' L hW hLi hcl hd hdep hext hc hg hf => ?_
            have eg : ρ (.tmp 45) = .bool true := hdep 16 _ rfl (by kernel_rfl)
            refine wanted_go ?_ ?_
            · show (match ρ (.tmp 45) with | .bool c => c == true | _ => false) = true
              rw [eg]
              rfl
            clear eg
            have e49 : (RiaV (its.map (·.1)) nm am) (ρ (.tmp 49)) w' := hdep 20 _ rfl (by kernel_rfl)
            have e53 : (RiaV (its.map (·.1)) nm am) (ρ (.tmp 53)) w' := hdep 24 _ rfl (by kernel_rfl)
            clear hdep hext
            obtain ⟨r1, e49, ha1⟩ := e49
            obtain ⟨r2, e53, ha2⟩ := e53
            obtain rfl := ha1.det ha2
            obtain ⟨b, hb⟩ : ∃ b, decide (am ∈ r1) = b := ⟨_, rfl⟩
            rw [hb] at e49 e53
            clear hb ha1 ha2
            have HW := Lib.hid hW
            clear hW
            unfold OpDone
            go_simp
            exact ⟨rfl, Upd.refl _ _, HW.out⟩
          · refine fun ρ w' L hW hLi hcl hd hdep hext hc hg hf => ?_
            rw [if_pos (show wantedR _ _ _ = true from rfl)]
            have e45 : ρ (.tmp 45) = .bool true := hdep 16 _ rfl (by kernel_rfl)
            have e54 : ρ (.tmp 54) = .bool true := hdep 25 _ rfl (by kernel_rfl)
            clear hdep hext hcl
            have HW := Lib.hid hW
            clear hW
            unfold OpDone
            go_simp
            exact ⟨rfl, Upd.refl _ _, HW.out⟩
          · refine fun ρ w' L hW hLi hcl hd hdep hext hc hg hf => ?_
            rw [if_pos (show wantedR _ _ _ = true from rfl)]
            have e55 : ρ (.tmp 55) = .bool true := hdep 26 _ rfl (by kernel_rfl)
            clear hdep hext hcl
            have HW := Lib.hid hW
            clear hW
            unfold OpDone
            go_simp
            exact ⟨rfl, Upd.refl _ _, HW.out⟩
          · refine fun ρ w' L hW hLi hcl hd hdep hext hc hg hf => ?_
            have eg : ρ (.tmp 56) = .bool true := hdep 27 _ rfl (by kernel_rfl)
            refine wanted_go ?_ ?_
            · show (match ρ (.tmp 56) with | .bool c => c == true | _ => false) = true
              rw [eg]
              rfl
            clear eg
            have e0 : ρ (.tmp 0) = .slice A k c := hext 0 (by kernel_rfl)
            clear hdep hext hcl
            have HW := Lib.hid hW
            clear hW
            unfold OpDone
            go_simp
            exact ⟨rfl, Upd.refl _ _, HW.out⟩
          · refine fun ρ w' L hW hLi hcl hd hdep hext hc hg hf => ?_
            have eg : ρ (.tmp 56) = .bool true := hdep 27 _ rfl (by kernel_rfl)
            refine wanted_go ?_ ?_
            · show (match ρ (.tmp 56) with | .bool c => c == true | _ => false) = true
              rw [eg]
              rfl
            clear eg
            have e4 : ρ (.tmp 4) = .pointer (some ⟨XN, 0, none⟩) := hext 4 (by kernel_rfl)
            clear hdep hext
            refine od_load_row 28 (.tmp 4) rfl _ _ e4 (nm.map byteV) _ (name_cells HZN.out (hW.blk BN.out (fun f => f))) Tryz.underlying28 rfl (by rw [name_size]; simp [H8N.out]) ?_
            rw [HZN.out]
            exact ⟨rfl, Upd.refl _ _, hW⟩
          · refine fun ρ w' L hW hLi hcl hd hdep hext hc hg hf => ?_
            have eg : ρ (.tmp 56) = .bool true := hdep 27 _ rfl (by kernel_rfl)
            refine wanted_go ?_ ?_
            · show (match ρ (.tmp 56) with | .bool c => c == true | _ => false) = true
              rw [eg]
              rfl
            clear eg
            have e57 : ρ (.tmp 57) = .slice A k c := hdep 28 _ rfl (by kernel_rfl)
            have e58 : ρ (.tmp 58) = .agg zn := hdep 29 _ rfl (by kernel_rfl)
            clear hdep hext
            have CL := Lib.hid (CT1.out w' hW)
            have HW := Lib.hid hW
            clear hW hcl hd hLi
            unfold OpDone
            go_simp
            refine CL.out.mono ?_
            rintro e w2 ⟨res, A2, c2, ha, rfl, hn2, hu⟩
            exact ⟨_, rfl, ⟨res, A2, c2, rfl, ha, hn2⟩, hu, HW.out.trans hu (fun _ _ f => f)⟩
          · refine fun ρ w' L hW hLi hcl hd hdep hext hc hg hf => ?_
            have eg : ρ (.tmp 56) = .bool true := hdep 27 _ rfl (by kernel_rfl)
            refine wanted_go ?_ ?_
            · show (match ρ (.tmp 56) with | .bool c => c == true | _ => false) = true
              rw [eg]
              rfl
            clear eg
            have e0 : ρ (.tmp 0) = .slice A k c := hext 0 (by kernel_rfl)
            clear hdep hext hcl
            have HW := Lib.hid hW
            clear hW
            unfold OpDone
            go_simp
            exact ⟨rfl, Upd.refl _ _, HW.out⟩
          · refine fun ρ w' L hW hLi hcl hd hdep hext hc hg hf => ?_
            have eg : ρ (.tmp 56) = .bool true := hdep 27 _ rfl (by kernel_rfl)
            refine wanted_go ?_ ?_
            · show (match ρ (.tmp 56) with | .bool c => c == true | _ => false) = true
              rw [eg]
              rfl
            clear eg
            have e4 : ρ (.tmp 4) = .pointer (some ⟨XN, 0, none⟩) := hext 4 (by kernel_rfl)
            clear hdep hext
            refine od_load_row 28 (.tmp 4) rfl _ _ e4 (nm.map byteV) _ (name_cells HZN.out (hW.blk BN.out (fun f => f))) Tryz.underlying28 rfl (by rw [name_size]; simp [H8N.out]) ?_
            rw [HZN.out]
            exact ⟨rfl, Upd.refl _ _, hW⟩
          · refine fun ρ w' L hW hLi hcl hd hdep hext hc hg hf => ?_
            have eg : ρ (.tmp 56) = .bool true := hdep 27 _ rfl (by kernel_rfl)
            refine wanted_go ?_ ?_
            · show (match ρ (.tmp 56) with | .bool c => c == true | _ => false) = true
              rw [eg]
              rfl
            clear eg
            have e60 : ρ (.tmp 60) = .slice A k c := hdep 31 _ rfl (by kernel_rfl)
            have e61 : ρ (.tmp 61) = .agg zn := hdep 32 _ rfl (by kernel_rfl)
            clear hdep hext
            have CL := Lib.hid (CT2.out w' hW)
            have HW := Lib.hid hW
            clear hW hcl hd hLi
            unfold OpDone
            go_simp
            refine CL.out.mono ?_
            rintro e w2 ⟨res, ha, A2, m2, c2, rfl, hl2, hn2, hu⟩
            exact ⟨_, rfl, ⟨res, A2, m2, c2, rfl, hl2, ha, hn2⟩, hu, HW.out.trans hu (fun _ _ f => f)⟩
          · refine fun ρ w' L hW hLi hcl hd hdep hext hc hg hf => ?_
            have eg : ρ (.tmp 56) = .bool true := hdep 27 _ rfl (by kernel_rfl)
            refine wanted_go ?_ ?_
            · show (match ρ (.tmp 56) with | .bool c => c == true | _ => false) = true
              rw [eg]
              rfl
            clear eg
            have e59 : (PaV (its.map (·.1)) nm) (ρ (.tmp 59)) w' := hdep 30 _ rfl (by kernel_rfl)
            have e62 : (RpaV (its.map (·.1)) nm) (ρ (.tmp 62)) w' := hdep 33 _ rfl (by kernel_rfl)
            clear hdep hext
            obtain ⟨r1, A1, c1, e59, ha1, q1⟩ := e59
            obtain ⟨r2, A2, m2, c2, e62, hl2, ha2, q2⟩ := e62
            obtain rfl := ha1.det ha2
            have CL := Lib.hid (show Calls Tryz.prog 11 #[.slice A1 r1.length c1, .slice A2 m2 c2] w' (fun e w2 => e = .returned (.bool true) ∧ Upd NoF w' w2) from by
              have q := r20SameNames_any (w := w') (show r1.reverse.length = r1.length from List.length_reverse) q1 hl2 q2
              rw [decide_eq_true (rfl : r1.reverse = r1.reverse)] at q
              exact q)
            have HW := Lib.hid hW
            clear q1 q2 ha1 ha2 hl2 hW hcl hd hLi
            unfold OpDone
            go_simp
            refine CL.out.mono ?_
            rintro e w2 ⟨rfl, hu⟩
            exact ⟨_, rfl, rfl, hu, HW.out.trans hu (fun _ _ f => f)⟩
          · refine fun ρ w' L hW hLi hcl hd hdep hext hc hg hf => ?_
            rw [if_pos (show wantedR _ _ _ = true from rfl)]
            have e56 : ρ (.tmp 56) = .bool true := hdep 27 _ rfl (by kernel_rfl)
            have e63 : ρ (.tmp 63) = .bool true := hdep 34 _ rfl (by kernel_rfl)
            clear hdep hext hcl
            have HW := Lib.hid hW
            clear hW
            unfold OpDone
            go_simp
            exact ⟨rfl, Upd.refl _ _, HW.out⟩
          · refine fun ρ w' L hW hLi hcl hd hdep hext hc hg hf => ?_
            rw [if_pos (show wantedR _ _ _ = true from rfl)]
            have e64 : ρ (.tmp 64) = .bool true := hdep 35 _ rfl (by kernel_rfl)
            clear hdep hext hcl
            have HW := Lib.hid hW
            clear hW
            unfold OpDone
            go_simp
            exact ⟨rfl, Upd.refl _ _, HW.out⟩
          · refine fun ρ w' L hW hLi hcl hd hdep hext hc hg hf => ?_
            have eg : ρ (.tmp 65) = .bool true := hdep 36 _ rfl (by kernel_rfl)
            refine wanted_go ?_ ?_
            · show (match ρ (.tmp 65) with | .bool c => c == true | _ => false) = true
              rw [eg]
              rfl
            clear eg
            clear hdep hext
            have CL := Lib.hid (CAW.out w' hW)
            have HW := Lib.hid hW
            clear hW hcl hd hLi
            unfold OpDone
            go_simp
            refine CL.out.mono ?_
            rintro e w2 ⟨rfl, hu⟩
            exact ⟨_, rfl, rfl, hu, HW.out.trans hu (fun _ _ f => f)⟩
          · refine fun ρ w' L hW hLi hcl hd hdep hext hc hg hf => ?_
            rw [if_pos (show wantedR _ _ _ = true from rfl)]
            have e65 : ρ (.tmp 65) = .bool true := hdep 36 _ rfl (by kernel_rfl)
            have e66 : ρ (.tmp 66) = .bool true := hdep 37 _ rfl (by kernel_rfl)
            clear hdep hext hcl
            have HW := Lib.hid hW
            clear hW
            unfold OpDone
            go_simp
            exact ⟨rfl, Upd.refl _ _, HW.out⟩
          · refine fun ρ w' L hW hLi hcl hd hdep hext hc hg hf => ?_
            rw [if_pos (show wantedR _ _ _ = true from rfl)]
            have e67 : ρ (.tmp 67) = .bool true := hdep 38 _ rfl (by kernel_rfl)
            clear hdep hext hcl
            have HW := Lib.hid hW
            clear hW
            unfold OpDone
            go_simp
            exact ⟨rfl, Upd.refl _ _, HW.out⟩
        intro vs W9 L9 hL9 hW9 hR
        have hv0 : vs 0 = .slice A k c := hR 0 _ rfl
        have hv1 : vs 1 = .agg zn := hR 1 _ rfl
        have hv2 : vs 2 = .int .i64 fv := hR 2 _ rfl
        have hv3 : vs 3 = .slice A k c := hR 3 _ rfl
        have hv4 : vs 4 = .agg zn := hR 4 _ rfl
        have hv5 : vs 5 = .int .i64 fv := hR 5 _ rfl
        have hv6 : vs 6 = .bool true := hR 6 _ rfl
        have hv7 : vs 7 = .bool true := hR 7 _ rfl
        have hv8 : vs 8 = .slice A k c := hR 8 _ rfl
        have hv9 : vs 9 = .agg zn := hR 9 _ rfl
        have hr10 : (SoV (its.map (·.1)) nm) (vs 10) W9 := hR 10 _ rfl
        obtain ⟨r10, A10, c10, hv10, -, -⟩ := hr10
        have hv11 : vs 11 = .slice A k c := hR 11 _ rfl
        have hv12 : vs 12 = .agg zn := hR 12 _ rfl
        have hr13 : (RanV (its.map (·.1)) nm) (vs 13) W9 := hR 13 _ rfl
        obtain ⟨r13, A13, m13, c13, hv13, -, -, -⟩ := hr13
        have hv14 : vs 14 = .bool true := hR 14 _ rfl
        have hv15 : vs 15 = .bool true := hR 15 _ rfl
        have hv16 : vs 16 = .bool true := hR 16 _ rfl
        have hv17 : vs 17 = .slice A k c := hR 17 _ rfl
        have hv18 : vs 18 = .agg za := hR 18 _ rfl
        have hv19 : vs 19 = .agg zn := hR 19 _ rfl
        have hr20 : (RiaV (its.map (·.1)) nm am) (vs 20) W9 := hR 20 _ rfl
        obtain ⟨r20, hv20, -⟩ := hr20
        have hv21 : vs 21 = .slice A k c := hR 21 _ rfl
        have hv22 : vs 22 = .agg za := hR 22 _ rfl
        have hv23 : vs 23 = .agg zn := hR 23 _ rfl
        have hr24 : (RiaV (its.map (·.1)) nm am) (vs 24) W9 := hR 24 _ rfl
        obtain ⟨r24, hv24, -⟩ := hr24
        have hv25 : vs 25 = .bool true := hR 25 _ rfl
        have hv26 : vs 26 = .bool true := hR 26 _ rfl
        have hv27 : vs 27 = .bool true := hR 27 _ rfl
        have hv28 : vs 28 = .slice A k c := hR 28 _ rfl
        have hv29 : vs 29 = .agg zn := hR 29 _ rfl
        have hr30 : (PaV (its.map (·.1)) nm) (vs 30) W9 := hR 30 _ rfl
        obtain ⟨r30, A30, c30, hv30, -, -⟩ := hr30
        have hv31 : vs 31 = .slice A k c := hR 31 _ rfl
        have hv32 : vs 32 = .agg zn := hR 32 _ rfl
        have hr33 : (RpaV (its.map (·.1)) nm) (vs 33) W9 := hR 33 _ rfl
        obtain ⟨r33, A33, m33, c33, hv33, -, -, -⟩ := hr33
        have hv34 : vs 34 = .bool true := hR 34 _ rfl
        have hv35 : vs 35 = .bool true := hR 35 _ rfl
        have hv36 : vs 36 = .bool true := hR 36 _ rfl
        have hv37 : vs 37 = .bool true := hR 37 _ rfl
        have hv38 : vs 38 = .bool true := hR 38 _ rfl
        have hv39 : vs 39 = .bool true := hR 39 _ rfl
        simp only [putAll, Act.put, List.setIfInBounds_toArray, List.set_cons_zero, List.set_cons_succ, hv0, hv1, hv2, hv3, hv4, hv5, hv6, hv7, hv8, hv9, hv10, hv11, hv12, hv13, hv14, hv15, hv16, hv17, hv18, hv19, hv20, hv21, hv22, hv23, hv24, hv25, hv26, hv27, hv28, hv29, hv30, hv31, hv32, hv33, hv34, hv35, hv36, hv37, hv38, hv39]
        clear hR hv0 hv1 hv2 hv3 hv4 hv5 hv6 hv7 hv8 hv9 hv10 hv11 hv12 hv13 hv14 hv15 hv16 hv17 hv18 hv19 hv20 hv21 hv22 hv23 hv24 hv25 hv26 hv27 hv28 hv29 hv30 hv31 hv32 hv33 hv34 hv35 hv36 hv37 hv38 hv39
        have HU9 := Lib.hid (UW.out W9 hW9)
        clear hW9
        go_wp2
        go_ret
        exact ⟨rfl, HU9.out⟩
  · go_ret
    exact ⟨rfl, U2.out⟩
end Go.Proofs.YtengcmfdfmnacaaGreat
