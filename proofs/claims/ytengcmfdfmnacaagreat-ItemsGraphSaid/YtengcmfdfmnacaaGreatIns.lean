/- The reference's insert. Conditions: sizes. -/
import Derived.Test.YtengcmfdfmnacaaGreatJn17
import Derived.Test.YtengcmfdfmnacaaGreatJn4
import Derived.Test.YtengcmfdfmnacaaGreatJn16
import Derived.WalkSpells
namespace Go.Proofs.YtengcmfdfmnacaaGreat
open Go.RowKit Go.Shelf Go.Lib

set_option maxRecDepth 100000 in
set_option maxHeartbeats 16000000 in
theorem r25insert_F {w : World} {A : Option Addr} {c n : Nat} {nm : List UInt8} {l : List (List UInt8)} {F : Nat → Prop} (hF : ∀ k, F k → k < w.heap.size) (hl : l.length = n) (h8l : All8 l) (hrf : RdF F w 8 (.slice A n c) n (rowsN l)) (h8 : nm.length = 8) (hs : n ≤ 1000000) :
    Calls Tryz.prog 41 #[.slice A n c, nameV nm] w fun e w' => ∃ A' c', e = .returned (.slice A' (insN nm l).length c') ∧ RdF F w' 8 (.slice A' (insN nm l).length c') (insN nm l).length (rowsN (insN nm l)) ∧ Upd NoF w w' := by
  have h : NmR w (.slice A n c) l := ⟨h8l, by have q := hrf.now; rw [← hl] at q; rw [← hl]; exact q⟩
  have HRF := Lib.hid hrf
  have HFX := Lib.hid hF
  obtain ⟨i0, hi0, hz0, hz1, hz2⟩ := info_parts name_info
  have HBS := Lib.hid (fun (n : List UInt8) (hn : n.length = 8) (za : Array Value) (hz : (n.map byteV).toArray = za) w => bs_name hn hz w)
  obtain ⟨zn, hzn⟩ : ∃ y, (nm.map byteV).toArray = y := ⟨_, rfl⟩
  have HZN := Lib.hid hzn
  have H8N := Lib.hid h8
  have HR := Lib.hid h
  have HN := Lib.hid hl
  have HS := Lib.hid hs
  have HRD := Lib.hid (show Rd w 8 (.slice A n c) n (rowsN l) from by have q := h.2; rw [hl] at q; exact q)
  rw [show nameV nm = .agg zn from congrArg Value.agg hzn]
  obtain ⟨RES, hres⟩ : ∃ x, insN nm l = x := ⟨_, rfl⟩
  rw [hres]
  have HHERE := Lib.hid (fun k (hk : k ≤ n) (h1 : ∀ (j : Nat) x, j < k → l[j]? = some x → be x < be nm) (h2 : ∀ x, l[k]? = some x → ¬ be x < be nm) (h : l[k]? = some nm) => show RES = l from by rw [← hres, insN_here (by rw [hl]; exact hk) h1 h2 h])
  have HNEW := Lib.hid (fun k (hk : k ≤ n) (h1 : ∀ (j : Nat) x, j < k → l[j]? = some x → be x < be nm) (h2 : ∀ x, l[k]? = some x → ¬ be x < be nm) (h : l[k]? ≠ some nm) => show RES = l.take k ++ nm :: l.drop k from by rw [← hres, insN_new (by rw [hl]; exact hk) h1 h2 h])
  clear hl h h8 hzn hres h8l hrf hF
  go_enter Tryz.func41, Tryz.ntmps41
  go_wp2_with (first
    | (refine wl_box rfl 28 (.tmp 1) rfl zn (by rfl) ?_; intro v0 hb0 hu0 hs0; have BX0 := Lib.hid hb0; have V0 := Lib.hid hu0; clear hb0 hu0 hs0))
  obtain ⟨X, hX⟩ : ∃ x, w.heap.size = x := ⟨_, rfl⟩
  have HX := Lib.hid hX
  rw [hX] at BX0 ⊢
  clear hX
  go_loopw [5] (fun s5 wr => ∃ k : Nat, s5 = .int .i64 (k : Int) ∧ k ≤ n ∧ (∀ (j : Nat) x, j < k → l[j]? = some x → be x < be nm) ∧ Upd NoF v0 wr) (fun i _ => n - (intOf i).toNat)
  case atStart => exact ⟨0, rfl, Nat.zero_le _, fun j x hj => by omega, Upd.refl _ _⟩
  case round =>
    obtain ⟨k, rfl, hk, hno, hu⟩ := hrel
    have HNO := Lib.hid hno
    have HU := Lib.hid hu
    have HBX := Lib.hid (show Blk wr.drew X 28 zn from (hu.blk BX0.out (fun f => f)).drew)
    clear hno hu
    by_cases hlt : k < n
    · have t1 : decide ((k : Int) < (n : Int)) = true := by simp; omega
      obtain ⟨s, hs⟩ : ∃ y, l[k]? = some y := ⟨_, List.getElem?_eq_getElem (by rw [HN.out]; exact hlt)⟩
      have H8S := Lib.hid (HR.out.1 s (List.mem_of_getElem? hs))
      obtain ⟨g, o, rfl, hrow⟩ := HR.out.at_ hs
      have XS := Lib.hid (show ∀ wq, Upd NoF wr.drew wq → wq.rangeAt g (o + k * 8) (s.map byteV) from fun wq hq j v hv => ((V0.out.trans HU.out (fun _ _ f => f)).drew.trans hq (fun _ _ f => f)).cell (hrow j v hv) (fun f => f))
      have HLK := Lib.hid hs
      obtain ⟨zs, hzs⟩ : ∃ y, (s.map byteV).toArray = y := ⟨_, rfl⟩
      have HZS := Lib.hid hzs
      have CLS0 := Lib.hid (fun W => show Calls Tryz.prog 78 #[.agg zs, .agg zn] W (fun e w' => e = .returned (.bool (lessN s nm)) ∧ Upd NoF W w') from by have q := r1Less_any s nm H8S.out H8N.out W; rw [show nameV s = .agg zs from congrArg Value.agg HZS.out, show nameV nm = .agg zn from congrArg Value.agg HZN.out] at q; exact q)
      have ww : IntKind.i64.wrap ((k : Int) + 1) = (k : Int) + 1 := IntWalk.i64_in _ (by omega)
      clear hzs hs hrow
      cases hls : lessN s nm with
      | true =>
        have HLS := Lib.hid (show be s < be nm from of_decide_eq_true hls)
        have CLS := Lib.hid (fun W => show Calls Tryz.prog 78 #[.agg zs, .agg zn] W (fun e w' => e = .returned (.bool true) ∧ Upd NoF W w') from by rw [← hls]; exact CLS0.out W)
        clear hls CLS0
        go_wp2_with fail
        refine wp_region_rgw (rgR [isV (.int .i64 (k : Int)), isV (.slice (some ⟨g, o, none⟩) n c), isV (.int .i64 (n : Int)), isV (.bool true), isV (.bool true), isV (.slice (some ⟨g, o, none⟩) n c), isV (.int .i64 (k : Int)), isV (.pointer (some ⟨g, o + k * 8, none⟩)), isV (.agg zs), isV (.agg zn), isV (.bool true), isV (.bool true)]) (fun w w' => Upd NoF w w') (fun _ wq => Upd NoF wr.drew wq) (by kernel_rfl) (by kernel_rfl) (by kernel_rfl) (by rfl) (fun w => Upd.refl _ _) (rgR_keep (by
          intro p hp; simp only [List.mem_cons, List.not_mem_nil, or_false] at hp; rcases hp with rfl | rfl | rfl | rfl | rfl | rfl | rfl | rfl | rfl | rfl | rfl | rfl <;> first | exact stb_isV _ | exact stb_any)) (Upd.refl _ _) ?_ ?_
        · refine ⟨?_, ?_, ?_, ?_, ?_, ?_, ?_, ?_, ?_, ?_, ?_, ?_, trivial⟩
          · refine fun ρ w' L hW hLi hcl hd hdep hext hc hg hf => ?_
            rw [if_pos (show wantedR _ _ _ = true from rfl)]
            have e5 : ρ (.tmp 5) = .int .i64 (k : Int) := hext 5 (by kernel_rfl)
            clear hdep hext hcl
            have HW := Lib.hid hW
            clear hW
            unfold OpDone
            go_simp
            exact ⟨rfl, Upd.refl _ _, HW.out⟩
          · refine fun ρ w' L hW hLi hcl hd hdep hext hc hg hf => ?_
            rw [if_pos (show wantedR _ _ _ = true from rfl)]
            have e0 : ρ (.tmp 0) = .slice (some ⟨g, o, none⟩) n c := hext 0 (by kernel_rfl)
            clear hdep hext hcl
            have HW := Lib.hid hW
            clear hW
            unfold OpDone
            go_simp
            exact ⟨rfl, Upd.refl _ _, HW.out⟩
          · refine fun ρ w' L hW hLi hcl hd hdep hext hc hg hf => ?_
            rw [if_pos (show wantedR _ _ _ = true from rfl)]
            have e8 : ρ (.tmp 8) = .slice (some ⟨g, o, none⟩) n c := hdep 1 _ rfl (by kernel_rfl)
            clear hdep hext hcl
            have HW := Lib.hid hW
            clear hW
            unfold OpDone
            go_simp
            exact ⟨rfl, Upd.refl _ _, HW.out⟩
          · refine fun ρ w' L hW hLi hcl hd hdep hext hc hg hf => ?_
            rw [if_pos (show wantedR _ _ _ = true from rfl)]
            have e7 : ρ (.tmp 7) = .int .i64 (k : Int) := hdep 0 _ rfl (by kernel_rfl)
            have e9 : ρ (.tmp 9) = .int .i64 (n : Int) := hdep 2 _ rfl (by kernel_rfl)
            clear hdep hext hcl
            have HW := Lib.hid hW
            clear hW
            unfold OpDone
            go_simp
            exact ⟨rfl, Upd.refl _ _, HW.out⟩
          · refine fun ρ w' L hW hLi hcl hd hdep hext hc hg hf => ?_
            rw [if_pos (show wantedR _ _ _ = true from rfl)]
            have e10 : ρ (.tmp 10) = .bool true := hdep 3 _ rfl (by kernel_rfl)
            clear hdep hext hcl
            have HW := Lib.hid hW
            clear hW
            unfold OpDone
            go_simp
            exact ⟨rfl, Upd.refl _ _, HW.out⟩
          · refine fun ρ w' L hW hLi hcl hd hdep hext hc hg hf => ?_
            have eg : ρ (.tmp 11) = .bool true := hdep 4 _ rfl (by kernel_rfl)
            refine wanted_go ?_ ?_
            · show (match ρ (.tmp 11) with | .bool c => c == true | _ => false) = true
              rw [eg]
              rfl
            clear eg
            have e0 : ρ (.tmp 0) = .slice (some ⟨g, o, none⟩) n c := hext 0 (by kernel_rfl)
            clear hdep hext hcl
            have HW := Lib.hid hW
            clear hW
            unfold OpDone
            go_simp
            exact ⟨rfl, Upd.refl _ _, HW.out⟩
          · refine fun ρ w' L hW hLi hcl hd hdep hext hc hg hf => ?_
            have eg : ρ (.tmp 11) = .bool true := hdep 4 _ rfl (by kernel_rfl)
            refine wanted_go ?_ ?_
            · show (match ρ (.tmp 11) with | .bool c => c == true | _ => false) = true
              rw [eg]
              rfl
            clear eg
            have e5 : ρ (.tmp 5) = .int .i64 (k : Int) := hext 5 (by kernel_rfl)
            clear hdep hext hcl
            have HW := Lib.hid hW
            clear hW
            unfold OpDone
            go_simp
            exact ⟨rfl, Upd.refl _ _, HW.out⟩
          · refine fun ρ w' L hW hLi hcl hd hdep hext hc hg hf => ?_
            have eg : ρ (.tmp 11) = .bool true := hdep 4 _ rfl (by kernel_rfl)
            refine wanted_go ?_ ?_
            · show (match ρ (.tmp 11) with | .bool c => c == true | _ => false) = true
              rw [eg]
              rfl
            clear eg
            have e12 : ρ (.tmp 12) = .slice (some ⟨g, o, none⟩) n c := hdep 5 _ rfl (by kernel_rfl)
            have e13 : ρ (.tmp 13) = .int .i64 (k : Int) := hdep 6 _ rfl (by kernel_rfl)
            have q0 : (0 : Int) ≤ (k : Int) := by omega
            have q1 : (k : Int) < (n : Int) := by omega
            have q2 : k < n := by omega
            clear hdep hext hcl
            have HW := Lib.hid hW
            clear hW
            unfold OpDone
            go_simp
            exact ⟨rfl, Upd.refl _ _, HW.out⟩
          · refine fun ρ w' L hW hLi hcl hd hdep hext hc hg hf => ?_
            have eg : ρ (.tmp 11) = .bool true := hdep 4 _ rfl (by kernel_rfl)
            refine wanted_go ?_ ?_
            · show (match ρ (.tmp 11) with | .bool c => c == true | _ => false) = true
              rw [eg]
              rfl
            clear eg
            have e14 : ρ (.tmp 14) = .pointer (some ⟨g, o + k * 8, none⟩) := hdep 7 _ rfl (by kernel_rfl)
            clear hdep hext
            refine od_load_row 28 (.tmp 14) rfl _ _ e14 (s.map byteV) _ (XS.out w' hW) Tryz.underlying28 rfl (by rw [name_size]; simp [H8S.out]) ?_
            rw [HZS.out]
            exact ⟨rfl, Upd.refl _ _, hW⟩
          · refine fun ρ w' L hW hLi hcl hd hdep hext hc hg hf => ?_
            have eg : ρ (.tmp 11) = .bool true := hdep 4 _ rfl (by kernel_rfl)
            refine wanted_go ?_ ?_
            · show (match ρ (.tmp 11) with | .bool c => c == true | _ => false) = true
              rw [eg]
              rfl
            clear eg
            have e3 : ρ (.tmp 3) = .pointer (some ⟨X, 0, none⟩) := hext 3 (by kernel_rfl)
            clear hdep hext
            refine od_load_row 28 (.tmp 3) rfl _ _ e3 (nm.map byteV) _ (name_cells HZN.out (hW.blk HBX.out (fun f => f))) Tryz.underlying28 rfl (by rw [name_size]; simp [H8N.out]) ?_
            rw [HZN.out]
            exact ⟨rfl, Upd.refl _ _, hW⟩
          · refine fun ρ w' L hW hLi hcl hd hdep hext hc hg hf => ?_
            have eg : ρ (.tmp 11) = .bool true := hdep 4 _ rfl (by kernel_rfl)
            refine wanted_go ?_ ?_
            · show (match ρ (.tmp 11) with | .bool c => c == true | _ => false) = true
              rw [eg]
              rfl
            clear eg
            have e15 : ρ (.tmp 15) = .agg zs := hdep 8 _ rfl (by kernel_rfl)
            have e16 : ρ (.tmp 16) = .agg zn := hdep 9 _ rfl (by kernel_rfl)
            clear hdep hext
            have CL := Lib.hid (CLS.out w')
            have HW := Lib.hid hW
            clear hW hcl hd hLi
            unfold OpDone
            go_simp
            refine CL.out.mono ?_
            rintro e w2 ⟨rfl, hu⟩
            exact ⟨_, rfl, rfl, hu, HW.out.trans hu (fun _ _ f => f)⟩
          · refine fun ρ w' L hW hLi hcl hd hdep hext hc hg hf => ?_
            rw [if_pos (show wantedR _ _ _ = true from rfl)]
            have e11 : ρ (.tmp 11) = .bool true := hdep 4 _ rfl (by kernel_rfl)
            have e17 : ρ (.tmp 17) = .bool true := hdep 10 _ rfl (by kernel_rfl)
            clear hdep hext hcl
            have HW := Lib.hid hW
            clear hW
            unfold OpDone
            go_simp
            exact ⟨rfl, Upd.refl _ _, HW.out⟩
        intro vs W8 L8 hL8 hW8 hR
        have hv0 : vs 0 = .int .i64 (k : Int) := hR 0 _ rfl
        have hv1 : vs 1 = .slice (some ⟨g, o, none⟩) n c := hR 1 _ rfl
        have hv2 : vs 2 = .int .i64 (n : Int) := hR 2 _ rfl
        have hv3 : vs 3 = .bool true := hR 3 _ rfl
        have hv4 : vs 4 = .bool true := hR 4 _ rfl
        have hv5 : vs 5 = .slice (some ⟨g, o, none⟩) n c := hR 5 _ rfl
        have hv6 : vs 6 = .int .i64 (k : Int) := hR 6 _ rfl
        have hv7 : vs 7 = .pointer (some ⟨g, o + k * 8, none⟩) := hR 7 _ rfl
        have hv8 : vs 8 = .agg zs := hR 8 _ rfl
        have hv9 : vs 9 = .agg zn := hR 9 _ rfl
        have hv10 : vs 10 = .bool true := hR 10 _ rfl
        have hv11 : vs 11 = .bool true := hR 11 _ rfl
        simp only [putAll, Act.put, List.setIfInBounds_toArray, List.set_cons_zero, List.set_cons_succ, hv0, hv1, hv2, hv3, hv4, hv5, hv6, hv7, hv8, hv9, hv10, hv11]
        clear hR hv0 hv1 hv2 hv3 hv4 hv5 hv6 hv7 hv8 hv9 hv10 hv11
        have HU8 := Lib.hid (show Upd NoF v0 W8 from HU.out.trans (((Upd.refl NoF wr).drew).trans hW8 (fun _ _ f => f)) (fun _ _ f => f))
        clear hW8
        go_wp2
        go_roundw
        case rel =>
          refine ⟨k + 1, by go_num, by omega, fun j x hj hx => ?_, HU8.out⟩
          rcases Nat.lt_succ_iff_lt_or_eq.1 hj with h | rfl
          · exact HNO.out j x h hx
          · rw [HLK.out] at hx; cases hx; exact HLS.out
        case measure => simp [intOf]; omega
      | false =>
        have HGE := Lib.hid (show ∀ x, l[k]? = some x → ¬ be x < be nm from fun x hx => by
          rw [HLK.out] at hx
          cases hx
          have : decide (be s < be nm) = false := hls
          simpa using this)
        have CLS := Lib.hid (fun W => show Calls Tryz.prog 78 #[.agg zs, .agg zn] W (fun e w' => e = .returned (.bool false) ∧ Upd NoF W w') from by rw [← hls]; exact CLS0.out W)
        clear hls CLS0
        go_wp2_with fail
        refine wp_region_rgw (rgR [isV (.int .i64 (k : Int)), isV (.slice (some ⟨g, o, none⟩) n c), isV (.int .i64 (n : Int)), isV (.bool true), isV (.bool true), isV (.slice (some ⟨g, o, none⟩) n c), isV (.int .i64 (k : Int)), isV (.pointer (some ⟨g, o + k * 8, none⟩)), isV (.agg zs), isV (.agg zn), isV (.bool false), isV (.bool false)]) (fun w w' => Upd NoF w w') (fun _ wq => Upd NoF wr.drew wq) (by kernel_rfl) (by kernel_rfl) (by kernel_rfl) (by rfl) (fun w => Upd.refl _ _) (rgR_keep (by
          intro p hp; simp only [List.mem_cons, List.not_mem_nil, or_false] at hp; rcases hp with rfl | rfl | rfl | rfl | rfl | rfl | rfl | rfl | rfl | rfl | rfl | rfl <;> first | exact stb_isV _ | exact stb_any)) (Upd.refl _ _) ?_ ?_
        · refine ⟨?_, ?_, ?_, ?_, ?_, ?_, ?_, ?_, ?_, ?_, ?_, ?_, trivial⟩
          · refine fun ρ w' L hW hLi hcl hd hdep hext hc hg hf => ?_
            rw [if_pos (show wantedR _ _ _ = true from rfl)]
            have e5 : ρ (.tmp 5) = .int .i64 (k : Int) := hext 5 (by kernel_rfl)
            clear hdep hext hcl
            have HW := Lib.hid hW
            clear hW
            unfold OpDone
            go_simp
            exact ⟨rfl, Upd.refl _ _, HW.out⟩
          · refine fun ρ w' L hW hLi hcl hd hdep hext hc hg hf => ?_
            rw [if_pos (show wantedR _ _ _ = true from rfl)]
            have e0 : ρ (.tmp 0) = .slice (some ⟨g, o, none⟩) n c := hext 0 (by kernel_rfl)
            clear hdep hext hcl
            have HW := Lib.hid hW
            clear hW
            unfold OpDone
            go_simp
            exact ⟨rfl, Upd.refl _ _, HW.out⟩
          · refine fun ρ w' L hW hLi hcl hd hdep hext hc hg hf => ?_
            rw [if_pos (show wantedR _ _ _ = true from rfl)]
            have e8 : ρ (.tmp 8) = .slice (some ⟨g, o, none⟩) n c := hdep 1 _ rfl (by kernel_rfl)
            clear hdep hext hcl
            have HW := Lib.hid hW
            clear hW
            unfold OpDone
            go_simp
            exact ⟨rfl, Upd.refl _ _, HW.out⟩
          · refine fun ρ w' L hW hLi hcl hd hdep hext hc hg hf => ?_
            rw [if_pos (show wantedR _ _ _ = true from rfl)]
            have e7 : ρ (.tmp 7) = .int .i64 (k : Int) := hdep 0 _ rfl (by kernel_rfl)
            have e9 : ρ (.tmp 9) = .int .i64 (n : Int) := hdep 2 _ rfl (by kernel_rfl)
            clear hdep hext hcl
            have HW := Lib.hid hW
            clear hW
            unfold OpDone
            go_simp
            exact ⟨rfl, Upd.refl _ _, HW.out⟩
          · refine fun ρ w' L hW hLi hcl hd hdep hext hc hg hf => ?_
            rw [if_pos (show wantedR _ _ _ = true from rfl)]
            have e10 : ρ (.tmp 10) = .bool true := hdep 3 _ rfl (by kernel_rfl)
            clear hdep hext hcl
            have HW := Lib.hid hW
            clear hW
            unfold OpDone
            go_simp
            exact ⟨rfl, Upd.refl _ _, HW.out⟩
          · refine fun ρ w' L hW hLi hcl hd hdep hext hc hg hf => ?_
            have eg : ρ (.tmp 11) = .bool true := hdep 4 _ rfl (by kernel_rfl)
            refine wanted_go ?_ ?_
            · show (match ρ (.tmp 11) with | .bool c => c == true | _ => false) = true
              rw [eg]
              rfl
            clear eg
            have e0 : ρ (.tmp 0) = .slice (some ⟨g, o, none⟩) n c := hext 0 (by kernel_rfl)
            clear hdep hext hcl
            have HW := Lib.hid hW
            clear hW
            unfold OpDone
            go_simp
            exact ⟨rfl, Upd.refl _ _, HW.out⟩
          · refine fun ρ w' L hW hLi hcl hd hdep hext hc hg hf => ?_
            have eg : ρ (.tmp 11) = .bool true := hdep 4 _ rfl (by kernel_rfl)
            refine wanted_go ?_ ?_
            · show (match ρ (.tmp 11) with | .bool c => c == true | _ => false) = true
              rw [eg]
              rfl
            clear eg
            have e5 : ρ (.tmp 5) = .int .i64 (k : Int) := hext 5 (by kernel_rfl)
            clear hdep hext hcl
            have HW := Lib.hid hW
            clear hW
            unfold OpDone
            go_simp
            exact ⟨rfl, Upd.refl _ _, HW.out⟩
          · refine fun ρ w' L hW hLi hcl hd hdep hext hc hg hf => ?_
            have eg : ρ (.tmp 11) = .bool true := hdep 4 _ rfl (by kernel_rfl)
            refine wanted_go ?_ ?_
            · show (match ρ (.tmp 11) with | .bool c => c == true | _ => false) = true
              rw [eg]
              rfl
            clear eg
            have e12 : ρ (.tmp 12) = .slice (some ⟨g, o, none⟩) n c := hdep 5 _ rfl (by kernel_rfl)
            have e13 : ρ (.tmp 13) = .int .i64 (k : Int) := hdep 6 _ rfl (by kernel_rfl)
            have q0 : (0 : Int) ≤ (k : Int) := by omega
            have q1 : (k : Int) < (n : Int) := by omega
            have q2 : k < n := by omega
            clear hdep hext hcl
            have HW := Lib.hid hW
            clear hW
            unfold OpDone
            go_simp
            exact ⟨rfl, Upd.refl _ _, HW.out⟩
          · refine fun ρ w' L hW hLi hcl hd hdep hext hc hg hf => ?_
            have eg : ρ (.tmp 11) = .bool true := hdep 4 _ rfl (by kernel_rfl)
            refine wanted_go ?_ ?_
            · show (match ρ (.tmp 11) with | .bool c => c == true | _ => false) = true
              rw [eg]
              rfl
            clear eg
            have e14 : ρ (.tmp 14) = .pointer (some ⟨g, o + k * 8, none⟩) := hdep 7 _ rfl (by kernel_rfl)
            clear hdep hext
            refine od_load_row 28 (.tmp 14) rfl _ _ e14 (s.map byteV) _ (XS.out w' hW) Tryz.underlying28 rfl (by rw [name_size]; simp [H8S.out]) ?_
            rw [HZS.out]
            exact ⟨rfl, Upd.refl _ _, hW⟩
          · refine fun ρ w' L hW hLi hcl hd hdep hext hc hg hf => ?_
            have eg : ρ (.tmp 11) = .bool true := hdep 4 _ rfl (by kernel_rfl)
            refine wanted_go ?_ ?_
            · show (match ρ (.tmp 11) with | .bool c => c == true | _ => false) = true
              rw [eg]
              rfl
            clear eg
            have e3 : ρ (.tmp 3) = .pointer (some ⟨X, 0, none⟩) := hext 3 (by kernel_rfl)
            clear hdep hext
            refine od_load_row 28 (.tmp 3) rfl _ _ e3 (nm.map byteV) _ (name_cells HZN.out (hW.blk HBX.out (fun f => f))) Tryz.underlying28 rfl (by rw [name_size]; simp [H8N.out]) ?_
            rw [HZN.out]
            exact ⟨rfl, Upd.refl _ _, hW⟩
          · refine fun ρ w' L hW hLi hcl hd hdep hext hc hg hf => ?_
            have eg : ρ (.tmp 11) = .bool true := hdep 4 _ rfl (by kernel_rfl)
            refine wanted_go ?_ ?_
            · show (match ρ (.tmp 11) with | .bool c => c == true | _ => false) = true
              rw [eg]
              rfl
            clear eg
            have e15 : ρ (.tmp 15) = .agg zs := hdep 8 _ rfl (by kernel_rfl)
            have e16 : ρ (.tmp 16) = .agg zn := hdep 9 _ rfl (by kernel_rfl)
            clear hdep hext
            have CL := Lib.hid (CLS.out w')
            have HW := Lib.hid hW
            clear hW hcl hd hLi
            unfold OpDone
            go_simp
            refine CL.out.mono ?_
            rintro e w2 ⟨rfl, hu⟩
            exact ⟨_, rfl, rfl, hu, HW.out.trans hu (fun _ _ f => f)⟩
          · refine fun ρ w' L hW hLi hcl hd hdep hext hc hg hf => ?_
            rw [if_pos (show wantedR _ _ _ = true from rfl)]
            have e11 : ρ (.tmp 11) = .bool true := hdep 4 _ rfl (by kernel_rfl)
            have e17 : ρ (.tmp 17) = .bool false := hdep 10 _ rfl (by kernel_rfl)
            clear hdep hext hcl
            have HW := Lib.hid hW
            clear hW
            unfold OpDone
            go_simp
            exact ⟨rfl, Upd.refl _ _, HW.out⟩
        intro vs W8 L8 hL8 hW8 hR
        have hv0 : vs 0 = .int .i64 (k : Int) := hR 0 _ rfl
        have hv1 : vs 1 = .slice (some ⟨g, o, none⟩) n c := hR 1 _ rfl
        have hv2 : vs 2 = .int .i64 (n : Int) := hR 2 _ rfl
        have hv3 : vs 3 = .bool true := hR 3 _ rfl
        have hv4 : vs 4 = .bool true := hR 4 _ rfl
        have hv5 : vs 5 = .slice (some ⟨g, o, none⟩) n c := hR 5 _ rfl
        have hv6 : vs 6 = .int .i64 (k : Int) := hR 6 _ rfl
        have hv7 : vs 7 = .pointer (some ⟨g, o + k * 8, none⟩) := hR 7 _ rfl
        have hv8 : vs 8 = .agg zs := hR 8 _ rfl
        have hv9 : vs 9 = .agg zn := hR 9 _ rfl
        have hv10 : vs 10 = .bool false := hR 10 _ rfl
        have hv11 : vs 11 = .bool false := hR 11 _ rfl
        simp only [putAll, Act.put, List.setIfInBounds_toArray, List.set_cons_zero, List.set_cons_succ, hv0, hv1, hv2, hv3, hv4, hv5, hv6, hv7, hv8, hv9, hv10, hv11]
        clear hR hv0 hv1 hv2 hv3 hv4 hv5 hv6 hv7 hv8 hv9 hv10 hv11
        have HU8 := Lib.hid (show Upd NoF v0 W8 from HU.out.trans (((Upd.refl NoF wr).drew).trans hW8 (fun _ _ f => f)) (fun _ _ f => f))
        replace XS := Lib.hid (show ∀ wq, Upd NoF W8.drew wq → wq.rangeAt g (o + k * 8) (s.map byteV) from fun wq hq => XS.out wq ((hW8.drew).trans hq (fun _ _ f => f)))
        replace HBX := Lib.hid (show Blk W8.drew X 28 zn from (hW8.blk HBX.out (fun f => f)).drew)
        clear hW8
        by_cases hst : s = nm
        · have HLK2 := Lib.hid (show l[k]? = some nm from by rw [HLK.out, hst])
          have HE := Lib.hid (show ∀ w, (binOp .eql 28 (.agg zs) (.agg zn)).run Tryz.prog w = .ok (.bool true) w from fun w => by
            have q := eql_name' H8S.out H8N.out w
            rw [show decide (s = nm) = true from decide_eq_true hst] at q
            rw [← HZS.out, ← HZN.out]
            exact q)
          clear hst
          go_wp2_with fail
          refine wp_region_rgw (rgR [isV (.int .i64 (k : Int)), isV (.slice (some ⟨g, o, none⟩) n c), isV (.int .i64 (n : Int)), isV (.bool true), isV (.bool true), isV (.slice (some ⟨g, o, none⟩) n c), isV (.int .i64 (k : Int)), isV (.pointer (some ⟨g, o + k * 8, none⟩)), isV (.agg zs), isV (.agg zn), isV (.bool true), isV (.bool true)]) (fun w w' => Upd NoF w w') (fun _ wq => Upd NoF W8.drew wq) (by kernel_rfl) (by kernel_rfl) (by kernel_rfl) (by rfl) (fun w => Upd.refl _ _) (rgR_keep (by
            intro p hp; simp only [List.mem_cons, List.not_mem_nil, or_false] at hp; rcases hp with rfl | rfl | rfl | rfl | rfl | rfl | rfl | rfl | rfl | rfl | rfl | rfl <;> first | exact stb_isV _ | exact stb_any)) (Upd.refl _ _) ?_ ?_
          · refine ⟨?_, ?_, ?_, ?_, ?_, ?_, ?_, ?_, ?_, ?_, ?_, ?_, trivial⟩
            · refine fun ρ w' L hW hLi hcl hd hdep hext hc hg hf => ?_
              rw [if_pos (show wantedR _ _ _ = true from rfl)]
              have e5 : ρ (.tmp 5) = .int .i64 (k : Int) := hext 5 (by kernel_rfl)
              clear hdep hext hcl
              have HW := Lib.hid hW
              clear hW
              unfold OpDone
              go_simp
              exact ⟨rfl, Upd.refl _ _, HW.out⟩
            · refine fun ρ w' L hW hLi hcl hd hdep hext hc hg hf => ?_
              rw [if_pos (show wantedR _ _ _ = true from rfl)]
              have e0 : ρ (.tmp 0) = .slice (some ⟨g, o, none⟩) n c := hext 0 (by kernel_rfl)
              clear hdep hext hcl
              have HW := Lib.hid hW
              clear hW
              unfold OpDone
              go_simp
              exact ⟨rfl, Upd.refl _ _, HW.out⟩
            · refine fun ρ w' L hW hLi hcl hd hdep hext hc hg hf => ?_
              rw [if_pos (show wantedR _ _ _ = true from rfl)]
              have e22 : ρ (.tmp 22) = .slice (some ⟨g, o, none⟩) n c := hdep 1 _ rfl (by kernel_rfl)
              clear hdep hext hcl
              have HW := Lib.hid hW
              clear hW
              unfold OpDone
              go_simp
              exact ⟨rfl, Upd.refl _ _, HW.out⟩
            · refine fun ρ w' L hW hLi hcl hd hdep hext hc hg hf => ?_
              rw [if_pos (show wantedR _ _ _ = true from rfl)]
              have e21 : ρ (.tmp 21) = .int .i64 (k : Int) := hdep 0 _ rfl (by kernel_rfl)
              have e23 : ρ (.tmp 23) = .int .i64 (n : Int) := hdep 2 _ rfl (by kernel_rfl)
              clear hdep hext hcl
              have HW := Lib.hid hW
              clear hW
              unfold OpDone
              go_simp
              exact ⟨rfl, Upd.refl _ _, HW.out⟩
            · refine fun ρ w' L hW hLi hcl hd hdep hext hc hg hf => ?_
              rw [if_pos (show wantedR _ _ _ = true from rfl)]
              have e24 : ρ (.tmp 24) = .bool true := hdep 3 _ rfl (by kernel_rfl)
              clear hdep hext hcl
              have HW := Lib.hid hW
              clear hW
              unfold OpDone
              go_simp
              exact ⟨rfl, Upd.refl _ _, HW.out⟩
            · refine fun ρ w' L hW hLi hcl hd hdep hext hc hg hf => ?_
              have eg : ρ (.tmp 25) = .bool true := hdep 4 _ rfl (by kernel_rfl)
              refine wanted_go ?_ ?_
              · show (match ρ (.tmp 25) with | .bool c => c == true | _ => false) = true
                rw [eg]
                rfl
              clear eg
              have e0 : ρ (.tmp 0) = .slice (some ⟨g, o, none⟩) n c := hext 0 (by kernel_rfl)
              clear hdep hext hcl
              have HW := Lib.hid hW
              clear hW
              unfold OpDone
              go_simp
              exact ⟨rfl, Upd.refl _ _, HW.out⟩
            · refine fun ρ w' L hW hLi hcl hd hdep hext hc hg hf => ?_
              have eg : ρ (.tmp 25) = .bool true := hdep 4 _ rfl (by kernel_rfl)
              refine wanted_go ?_ ?_
              · show (match ρ (.tmp 25) with | .bool c => c == true | _ => false) = true
                rw [eg]
                rfl
              clear eg
              have e5 : ρ (.tmp 5) = .int .i64 (k : Int) := hext 5 (by kernel_rfl)
              clear hdep hext hcl
              have HW := Lib.hid hW
              clear hW
              unfold OpDone
              go_simp
              exact ⟨rfl, Upd.refl _ _, HW.out⟩
            · refine fun ρ w' L hW hLi hcl hd hdep hext hc hg hf => ?_
              have eg : ρ (.tmp 25) = .bool true := hdep 4 _ rfl (by kernel_rfl)
              refine wanted_go ?_ ?_
              · show (match ρ (.tmp 25) with | .bool c => c == true | _ => false) = true
                rw [eg]
                rfl
              clear eg
              have e26 : ρ (.tmp 26) = .slice (some ⟨g, o, none⟩) n c := hdep 5 _ rfl (by kernel_rfl)
              have e27 : ρ (.tmp 27) = .int .i64 (k : Int) := hdep 6 _ rfl (by kernel_rfl)
              have q0 : (0 : Int) ≤ (k : Int) := by omega
              have q1 : (k : Int) < (n : Int) := by omega
              have q2 : k < n := by omega
              clear hdep hext hcl
              have HW := Lib.hid hW
              clear hW
              unfold OpDone
              go_simp
              exact ⟨rfl, Upd.refl _ _, HW.out⟩
            · refine fun ρ w' L hW hLi hcl hd hdep hext hc hg hf => ?_
              have eg : ρ (.tmp 25) = .bool true := hdep 4 _ rfl (by kernel_rfl)
              refine wanted_go ?_ ?_
              · show (match ρ (.tmp 25) with | .bool c => c == true | _ => false) = true
                rw [eg]
                rfl
              clear eg
              have e28 : ρ (.tmp 28) = .pointer (some ⟨g, o + k * 8, none⟩) := hdep 7 _ rfl (by kernel_rfl)
              clear hdep hext
              refine od_load_row 28 (.tmp 28) rfl _ _ e28 (s.map byteV) _ (XS.out w' hW) Tryz.underlying28 rfl (by rw [name_size]; simp [H8S.out]) ?_
              rw [HZS.out]
              exact ⟨rfl, Upd.refl _ _, hW⟩
            · refine fun ρ w' L hW hLi hcl hd hdep hext hc hg hf => ?_
              have eg : ρ (.tmp 25) = .bool true := hdep 4 _ rfl (by kernel_rfl)
              refine wanted_go ?_ ?_
              · show (match ρ (.tmp 25) with | .bool c => c == true | _ => false) = true
                rw [eg]
                rfl
              clear eg
              have e3 : ρ (.tmp 3) = .pointer (some ⟨X, 0, none⟩) := hext 3 (by kernel_rfl)
              clear hdep hext
              refine od_load_row 28 (.tmp 3) rfl _ _ e3 (nm.map byteV) _ (name_cells HZN.out (hW.blk HBX.out (fun f => f))) Tryz.underlying28 rfl (by rw [name_size]; simp [H8N.out]) ?_
              rw [HZN.out]
              exact ⟨rfl, Upd.refl _ _, hW⟩
            · refine fun ρ w' L hW hLi hcl hd hdep hext hc hg hf => ?_
              have eg : ρ (.tmp 25) = .bool true := hdep 4 _ rfl (by kernel_rfl)
              refine wanted_go ?_ ?_
              · show (match ρ (.tmp 25) with | .bool c => c == true | _ => false) = true
                rw [eg]
                rfl
              clear eg
              have e29 : ρ (.tmp 29) = .agg zs := hdep 8 _ rfl (by kernel_rfl)
              have e30 : ρ (.tmp 30) = .agg zn := hdep 9 _ rfl (by kernel_rfl)
              clear hdep hext
              have hE : ∀ w, (binOp .eql 28 (.agg zs) (.agg zn)).run Tryz.prog w = .ok (.bool true) w := fun w => HE.out w
              have HW := Lib.hid hW
              clear hW
              unfold OpDone
              go_simp
              exact ⟨rfl, Upd.refl _ _, HW.out⟩
            · refine fun ρ w' L hW hLi hcl hd hdep hext hc hg hf => ?_
              rw [if_pos (show wantedR _ _ _ = true from rfl)]
              have e25 : ρ (.tmp 25) = .bool true := hdep 4 _ rfl (by kernel_rfl)
              have e31 : ρ (.tmp 31) = .bool true := hdep 10 _ rfl (by kernel_rfl)
              clear hdep hext hcl
              have HW := Lib.hid hW
              clear hW
              unfold OpDone
              go_simp
              exact ⟨rfl, Upd.refl _ _, HW.out⟩
          intro vs W9 L9 hL9 hW9 hR
          have hv0 : vs 0 = .int .i64 (k : Int) := hR 0 _ rfl
          have hv1 : vs 1 = .slice (some ⟨g, o, none⟩) n c := hR 1 _ rfl
          have hv2 : vs 2 = .int .i64 (n : Int) := hR 2 _ rfl
          have hv3 : vs 3 = .bool true := hR 3 _ rfl
          have hv4 : vs 4 = .bool true := hR 4 _ rfl
          have hv5 : vs 5 = .slice (some ⟨g, o, none⟩) n c := hR 5 _ rfl
          have hv6 : vs 6 = .int .i64 (k : Int) := hR 6 _ rfl
          have hv7 : vs 7 = .pointer (some ⟨g, o + k * 8, none⟩) := hR 7 _ rfl
          have hv8 : vs 8 = .agg zs := hR 8 _ rfl
          have hv9 : vs 9 = .agg zn := hR 9 _ rfl
          have hv10 : vs 10 = .bool true := hR 10 _ rfl
          have hv11 : vs 11 = .bool true := hR 11 _ rfl
          simp only [putAll, Act.put, List.setIfInBounds_toArray, List.set_cons_zero, List.set_cons_succ, hv0, hv1, hv2, hv3, hv4, hv5, hv6, hv7, hv8, hv9, hv10, hv11]
          clear hR hv0 hv1 hv2 hv3 hv4 hv5 hv6 hv7 hv8 hv9 hv10 hv11
          have UZ := Lib.hid (show Upd NoF w W9 from (V0.out.trans HU8.out (fun _ _ f => f)).trans ((Upd.refl NoF W8).drew.trans hW9 (fun _ _ f => f)) (fun _ _ f => f))
          clear hW9
          have HEQ := Lib.hid (HHERE.out k hk HNO.out HGE.out HLK2.out)
          go_wp2
          go_ret
          refine ⟨_, c, by rw [HEQ.out, HN.out]; rfl, ?_, UZ.out⟩
          rw [HEQ.out, HN.out]
          exact HRF.out.upd (UZ.out.mono (fun _ _ f => f.elim))
        · have HIN := Lib.hid (HNEW.out k hk HNO.out HGE.out (fun e => hst (by rw [HLK.out] at e; injection e)))
          have HE := Lib.hid (show ∀ w, (binOp .eql 28 (.agg zs) (.agg zn)).run Tryz.prog w = .ok (.bool false) w from fun w => by
            have q := eql_name' H8S.out H8N.out w
            rw [show decide (s = nm) = false from decide_eq_false hst] at q
            rw [← HZS.out, ← HZN.out]
            exact q)
          clear hst
          go_wp2_with fail
          refine wp_region_rgw (rgR [isV (.int .i64 (k : Int)), isV (.slice (some ⟨g, o, none⟩) n c), isV (.int .i64 (n : Int)), isV (.bool true), isV (.bool true), isV (.slice (some ⟨g, o, none⟩) n c), isV (.int .i64 (k : Int)), isV (.pointer (some ⟨g, o + k * 8, none⟩)), isV (.agg zs), isV (.agg zn), isV (.bool false), isV (.bool false)]) (fun w w' => Upd NoF w w') (fun _ wq => Upd NoF W8.drew wq) (by kernel_rfl) (by kernel_rfl) (by kernel_rfl) (by rfl) (fun w => Upd.refl _ _) (rgR_keep (by
            intro p hp; simp only [List.mem_cons, List.not_mem_nil, or_false] at hp; rcases hp with rfl | rfl | rfl | rfl | rfl | rfl | rfl | rfl | rfl | rfl | rfl | rfl <;> first | exact stb_isV _ | exact stb_any)) (Upd.refl _ _) ?_ ?_
          · refine ⟨?_, ?_, ?_, ?_, ?_, ?_, ?_, ?_, ?_, ?_, ?_, ?_, trivial⟩
            · refine fun ρ w' L hW hLi hcl hd hdep hext hc hg hf => ?_
              rw [if_pos (show wantedR _ _ _ = true from rfl)]
              have e5 : ρ (.tmp 5) = .int .i64 (k : Int) := hext 5 (by kernel_rfl)
              clear hdep hext hcl
              have HW := Lib.hid hW
              clear hW
              unfold OpDone
              go_simp
              exact ⟨rfl, Upd.refl _ _, HW.out⟩
            · refine fun ρ w' L hW hLi hcl hd hdep hext hc hg hf => ?_
              rw [if_pos (show wantedR _ _ _ = true from rfl)]
              have e0 : ρ (.tmp 0) = .slice (some ⟨g, o, none⟩) n c := hext 0 (by kernel_rfl)
              clear hdep hext hcl
              have HW := Lib.hid hW
              clear hW
              unfold OpDone
              go_simp
              exact ⟨rfl, Upd.refl _ _, HW.out⟩
            · refine fun ρ w' L hW hLi hcl hd hdep hext hc hg hf => ?_
              rw [if_pos (show wantedR _ _ _ = true from rfl)]
              have e22 : ρ (.tmp 22) = .slice (some ⟨g, o, none⟩) n c := hdep 1 _ rfl (by kernel_rfl)
              clear hdep hext hcl
              have HW := Lib.hid hW
              clear hW
              unfold OpDone
              go_simp
              exact ⟨rfl, Upd.refl _ _, HW.out⟩
            · refine fun ρ w' L hW hLi hcl hd hdep hext hc hg hf => ?_
              rw [if_pos (show wantedR _ _ _ = true from rfl)]
              have e21 : ρ (.tmp 21) = .int .i64 (k : Int) := hdep 0 _ rfl (by kernel_rfl)
              have e23 : ρ (.tmp 23) = .int .i64 (n : Int) := hdep 2 _ rfl (by kernel_rfl)
              clear hdep hext hcl
              have HW := Lib.hid hW
              clear hW
              unfold OpDone
              go_simp
              exact ⟨rfl, Upd.refl _ _, HW.out⟩
            · refine fun ρ w' L hW hLi hcl hd hdep hext hc hg hf => ?_
              rw [if_pos (show wantedR _ _ _ = true from rfl)]
              have e24 : ρ (.tmp 24) = .bool true := hdep 3 _ rfl (by kernel_rfl)
              clear hdep hext hcl
              have HW := Lib.hid hW
              clear hW
              unfold OpDone
              go_simp
              exact ⟨rfl, Upd.refl _ _, HW.out⟩
            · refine fun ρ w' L hW hLi hcl hd hdep hext hc hg hf => ?_
              have eg : ρ (.tmp 25) = .bool true := hdep 4 _ rfl (by kernel_rfl)
              refine wanted_go ?_ ?_
              · show (match ρ (.tmp 25) with | .bool c => c == true | _ => false) = true
                rw [eg]
                rfl
              clear eg
              have e0 : ρ (.tmp 0) = .slice (some ⟨g, o, none⟩) n c := hext 0 (by kernel_rfl)
              clear hdep hext hcl
              have HW := Lib.hid hW
              clear hW
              unfold OpDone
              go_simp
              exact ⟨rfl, Upd.refl _ _, HW.out⟩
            · refine fun ρ w' L hW hLi hcl hd hdep hext hc hg hf => ?_
              have eg : ρ (.tmp 25) = .bool true := hdep 4 _ rfl (by kernel_rfl)
              refine wanted_go ?_ ?_
              · show (match ρ (.tmp 25) with | .bool c => c == true | _ => false) = true
                rw [eg]
                rfl
              clear eg
              have e5 : ρ (.tmp 5) = .int .i64 (k : Int) := hext 5 (by kernel_rfl)
              clear hdep hext hcl
              have HW := Lib.hid hW
              clear hW
              unfold OpDone
              go_simp
              exact ⟨rfl, Upd.refl _ _, HW.out⟩
            · refine fun ρ w' L hW hLi hcl hd hdep hext hc hg hf => ?_
              have eg : ρ (.tmp 25) = .bool true := hdep 4 _ rfl (by kernel_rfl)
              refine wanted_go ?_ ?_
              · show (match ρ (.tmp 25) with | .bool c => c == true | _ => false) = true
                rw [eg]
                rfl
              clear eg
              have e26 : ρ (.tmp 26) = .slice (some ⟨g, o, none⟩) n c := hdep 5 _ rfl (by kernel_rfl)
              have e27 : ρ (.tmp 27) = .int .i64 (k : Int) := hdep 6 _ rfl (by kernel_rfl)
              have q0 : (0 : Int) ≤ (k : Int) := by omega
              have q1 : (k : Int) < (n : Int) := by omega
              have q2 : k < n := by omega
              clear hdep hext hcl
              have HW := Lib.hid hW
              clear hW
              unfold OpDone
              go_simp
              exact ⟨rfl, Upd.refl _ _, HW.out⟩
            · refine fun ρ w' L hW hLi hcl hd hdep hext hc hg hf => ?_
              have eg : ρ (.tmp 25) = .bool true := hdep 4 _ rfl (by kernel_rfl)
              refine wanted_go ?_ ?_
              · show (match ρ (.tmp 25) with | .bool c => c == true | _ => false) = true
                rw [eg]
                rfl
              clear eg
              have e28 : ρ (.tmp 28) = .pointer (some ⟨g, o + k * 8, none⟩) := hdep 7 _ rfl (by kernel_rfl)
              clear hdep hext
              refine od_load_row 28 (.tmp 28) rfl _ _ e28 (s.map byteV) _ (XS.out w' hW) Tryz.underlying28 rfl (by rw [name_size]; simp [H8S.out]) ?_
              rw [HZS.out]
              exact ⟨rfl, Upd.refl _ _, hW⟩
            · refine fun ρ w' L hW hLi hcl hd hdep hext hc hg hf => ?_
              have eg : ρ (.tmp 25) = .bool true := hdep 4 _ rfl (by kernel_rfl)
              refine wanted_go ?_ ?_
              · show (match ρ (.tmp 25) with | .bool c => c == true | _ => false) = true
                rw [eg]
                rfl
              clear eg
              have e3 : ρ (.tmp 3) = .pointer (some ⟨X, 0, none⟩) := hext 3 (by kernel_rfl)
              clear hdep hext
              refine od_load_row 28 (.tmp 3) rfl _ _ e3 (nm.map byteV) _ (name_cells HZN.out (hW.blk HBX.out (fun f => f))) Tryz.underlying28 rfl (by rw [name_size]; simp [H8N.out]) ?_
              rw [HZN.out]
              exact ⟨rfl, Upd.refl _ _, hW⟩
            · refine fun ρ w' L hW hLi hcl hd hdep hext hc hg hf => ?_
              have eg : ρ (.tmp 25) = .bool true := hdep 4 _ rfl (by kernel_rfl)
              refine wanted_go ?_ ?_
              · show (match ρ (.tmp 25) with | .bool c => c == true | _ => false) = true
                rw [eg]
                rfl
              clear eg
              have e29 : ρ (.tmp 29) = .agg zs := hdep 8 _ rfl (by kernel_rfl)
              have e30 : ρ (.tmp 30) = .agg zn := hdep 9 _ rfl (by kernel_rfl)
              clear hdep hext
              have hE : ∀ w, (binOp .eql 28 (.agg zs) (.agg zn)).run Tryz.prog w = .ok (.bool false) w := fun w => HE.out w
              have HW := Lib.hid hW
              clear hW
              unfold OpDone
              go_simp
              exact ⟨rfl, Upd.refl _ _, HW.out⟩
            · refine fun ρ w' L hW hLi hcl hd hdep hext hc hg hf => ?_
              rw [if_pos (show wantedR _ _ _ = true from rfl)]
              have e25 : ρ (.tmp 25) = .bool true := hdep 4 _ rfl (by kernel_rfl)
              have e31 : ρ (.tmp 31) = .bool false := hdep 10 _ rfl (by kernel_rfl)
              clear hdep hext hcl
              have HW := Lib.hid hW
              clear hW
              unfold OpDone
              go_simp
              exact ⟨rfl, Upd.refl _ _, HW.out⟩
          intro vs W9 L9 hL9 hW9 hR
          have hv0 : vs 0 = .int .i64 (k : Int) := hR 0 _ rfl
          have hv1 : vs 1 = .slice (some ⟨g, o, none⟩) n c := hR 1 _ rfl
          have hv2 : vs 2 = .int .i64 (n : Int) := hR 2 _ rfl
          have hv3 : vs 3 = .bool true := hR 3 _ rfl
          have hv4 : vs 4 = .bool true := hR 4 _ rfl
          have hv5 : vs 5 = .slice (some ⟨g, o, none⟩) n c := hR 5 _ rfl
          have hv6 : vs 6 = .int .i64 (k : Int) := hR 6 _ rfl
          have hv7 : vs 7 = .pointer (some ⟨g, o + k * 8, none⟩) := hR 7 _ rfl
          have hv8 : vs 8 = .agg zs := hR 8 _ rfl
          have hv9 : vs 9 = .agg zn := hR 9 _ rfl
          have hv10 : vs 10 = .bool false := hR 10 _ rfl
          have hv11 : vs 11 = .bool false := hR 11 _ rfl
          simp only [putAll, Act.put, List.setIfInBounds_toArray, List.set_cons_zero, List.set_cons_succ, hv0, hv1, hv2, hv3, hv4, hv5, hv6, hv7, hv8, hv9, hv10, hv11]
          clear hR hv0 hv1 hv2 hv3 hv4 hv5 hv6 hv7 hv8 hv9 hv10 hv11
          have UZ := Lib.hid (show Upd NoF w W9 from (V0.out.trans HU8.out (fun _ _ f => f)).trans ((Upd.refl NoF W8).drew.trans hW9 (fun _ _ f => f)) (fun _ _ f => f))
          have B9 := Lib.hid (hW9.blk HBX.out (fun f => f))
          clear hW9
          have HXL := Lib.hid B9.out.lt
          have HTK := Lib.hid (show (rowsN l).take (k * 8) = rowsN (l.take k) from by
            rw [rowsN_drop (l := l) k, List.take_append_of_le_length (Nat.le_of_eq ?_)]
            · exact List.take_of_length_le (Nat.le_of_eq (rowsN_len (fun y hy => HR.out.1 y (List.mem_of_mem_take hy)) (by rw [List.length_take, HN.out]; omega)))
            · exact (rowsN_len (fun y hy => HR.out.1 y (List.mem_of_mem_take hy)) (by rw [List.length_take, HN.out]; omega)).symm)
          have HDK := Lib.hid (show (rowsN l).drop (k * 8) = rowsN (l.drop k) from by
            rw [rowsN_drop (l := l) k, List.drop_append_of_le_length (Nat.le_of_eq ?_), List.drop_eq_nil_of_le (Nat.le_of_eq ?_)]
            · rfl
            · exact rowsN_len (fun y hy => HR.out.1 y (List.mem_of_mem_take hy)) (by rw [List.length_take, HN.out]; omega)
            · exact (rowsN_len (fun y hy => HR.out.1 y (List.mem_of_mem_take hy)) (by rw [List.length_take, HN.out]; omega)).symm)
          have HLEN := Lib.hid (show RES.length = k + 1 + (n - k) from by rw [HIN.out, List.length_append, List.length_cons, List.length_take, List.length_drop, HN.out]; omega)
          have HROW := Lib.hid (show rowsN RES = rowsN (l.take k) ++ nm.map byteV ++ rowsN (l.drop k) from by rw [HIN.out, rowsN_append, rowsN_cons, List.append_assoc])
          have HB3 := Lib.hid (show 0 + k ≤ maxLen ∧ (0 + k) * 8 ≤ 140737488355328 from by have := HS.out; unfold maxLen; omega)
          have HB6 := Lib.hid (show k + 1 ≤ maxLen ∧ (k + 1) * 8 ≤ 140737488355328 from by have := HS.out; unfold maxLen; omega)
          have HB8 := Lib.hid (show k + 1 + (n - k) ≤ maxLen ∧ (k + 1 + (n - k)) * 8 ≤ 140737488355328 from by have := HS.out; unfold maxLen; omega)
          have HKN := Lib.hid hk
          go_wp2_with (first
            | (refine wl_names0 rfl rfl ?_; intro w2 ho2 hu2 hs2; have N2 := Lib.hid (show NwA (X + 1) 28 8 0 (rowsN []) (some ⟨W9.heap.size, 0, none⟩) 0 w2 from ⟨ho2, fun j hj => by have : W9.heap.size = j := (by simpa [OwnB, Value.ownBlock] using hj); have := HXL.out; omega⟩); have U2 := Lib.hid (UZ.out.trans hu2 (fun _ _ f => f)); have B2 := Lib.hid (hu2.blk B9.out (fun f => f)); clear ho2 hu2 hs2)
            | (refine wpList_cut_to' rfl (.tmp 35) (.tmp 36) rfl rfl rfl (HRD.out.keep U2.out) Tryz.underlying22 (fun _ => by kernel_rfl) (k := k) HKN.out ?_; intro A3 hcut; have HC3 := Lib.hid hcut; clear hcut)
            | (at_builtin; refine wpList_append_to _ rfl (.tmp 34) (.tmp 37) 22 rfl 28 i0 _ 8 8 Tryz.underlying22 hi0 hz0 hz1 hz2 (by kernel_rfl) (.slice (some ⟨W9.heap.size, 0, none⟩) 0 0) 0 (rowsN []) (by rfl) N2.out.1 (.slice A3 k c) k (rowsN (l.take k)) (by rfl) (by rw [← HTK.out]; exact HC3.out) (rowsN_one _) HB3.out.1 HB3.out.2 ?_; intro A4 c4 w4 hown hupd hnew; have N4 := Lib.hid (show NwA (X + 1) 28 8 k (rowsN (l.take k)) A4 c4 w4 from by have q := (NwA.appM N2.out (Upd.refl _ _) B2.out.lt hown hupd hnew).1; rw [Nat.zero_add] at q; exact q); have U4 := Lib.hid ((NwA.appM N2.out (Upd.refl _ _) B2.out.lt hown hupd hnew).2 (w := w) (fun j h1 h2 => by have := HX.out; omega) U2.out); have B4 := Lib.hid (hupd.blk B2.out (fun f => by have := N2.out.2 X f; omega)); clear hown hupd hnew; try simp only [Nat.zero_add])
            | (refine wl_load rfl 28 (.tmp 3) rfl X 0 (by rfl) (nm.map byteV) _ (name_cells HZN.out B4.out) Tryz.underlying28 rfl (by rw [name_size]; simp [H8N.out]) zn HZN.out ?_)
            | (refine wpList_bsRow rfl 22 28 (.tmp 40) rfl (.agg zn) (by rfl) zn (HBS.out _ H8N.out _ HZN.out _) ?_; intro w5 hb5 hu5 hs5; have B5 := Lib.hid hb5; have U5 := Lib.hid hu5; clear hb5 hu5 hs5)
            | (at_builtin; refine wpList_append_to _ rfl (.tmp 39) (.tmp 41) 22 rfl 28 i0 _ 8 8 Tryz.underlying22 hi0 hz0 hz1 hz2 (by kernel_rfl) (.slice A4 k c4) k (rowsN (l.take k)) (by rfl) (N4.out.keep U5.out).1 (.slice (some ⟨w4.heap.size, 0, none⟩) 1 1) 1 (nm.map byteV) (by rfl) (rd_name H8N.out HZN.out B5.out) (name_ones _) HB6.out.1 HB6.out.2 ?_; intro A6 c6 w6 hown hupd hnew; have N6 := Lib.hid (NwA.appM N4.out U5.out B4.out.lt hown hupd hnew).1; have U6 := Lib.hid ((NwA.appM N4.out U5.out B4.out.lt hown hupd hnew).2 (w := w) (fun j h1 h2 => by have := HX.out; omega) U4.out); have B6 := Lib.hid (hupd.blk (U5.out.blk B4.out (fun f => f)) (fun f => by have := N4.out.2 X f; omega)); clear hown hupd hnew)
            | (refine wpList_cut_from' rfl (.tmp 44) (.tmp 45) rfl rfl rfl (HRD.out.keep U6.out) Tryz.underlying22 (fun _ => by kernel_rfl) (k := k) HKN.out ?_; intro A7 hcut; have HC7 := Lib.hid hcut; clear hcut)
            | (at_builtin; refine wpList_append_to _ rfl (.tmp 43) (.tmp 46) 22 rfl 28 i0 _ 8 8 Tryz.underlying22 hi0 hz0 hz1 hz2 (by kernel_rfl) (.slice A6 (k + 1) c6) (k + 1) (rowsN (l.take k) ++ nm.map byteV) (by rfl) N6.out.1 (.slice A7 (n - k) (c - k)) (n - k) (rowsN (l.drop k)) (by rfl) (by rw [← HDK.out]; exact HC7.out) (rowsN_one _) HB8.out.1 HB8.out.2 ?_; intro A8 c8 w8 hown hupd hnew; have N8 := Lib.hid (NwA.appM N6.out (Upd.refl _ _) B6.out.lt hown hupd hnew).1; have U8 := Lib.hid ((NwA.appM N6.out (Upd.refl _ _) B6.out.lt hown hupd hnew).2 (w := w) (fun j h1 h2 => by have := HX.out; omega) U6.out); clear hown hupd hnew))
          go_ret
          refine ⟨A8, c8, by rw [HLEN.out]; rfl, ?_, U8.out⟩
          have q := N8.out.1.rdF (F := F) (fun j hj hf => by have := N8.out.2 j hj; have := HFX.out j hf; have := HX.out; omega)
          rw [← HROW.out] at q
          rw [HLEN.out]
          exact q
    · obtain rfl : k = n := by omega
      have t1 : decide ((k : Int) < (k : Int)) = false := by simp
      have HIN := Lib.hid (HNEW.out k hk HNO.out (fun x hx => by rw [List.getElem?_eq_none (by rw [HN.out]; exact Nat.le_refl _)] at hx; cases hx) (fun e => by rw [List.getElem?_eq_none (by rw [HN.out]; exact Nat.le_refl _)] at e; cases e))
      go_wp2_with fail
      refine wp_region_rgw (rgR [isV (.int .i64 (k : Int)), isV (.slice A k c), isV (.int .i64 (k : Int)), isV (.bool false), isV (.bool false), isV (undef), isV (undef), isV (undef), isV (undef), isV (undef), isV (undef), isV (.bool false)]) (fun w w' => Upd NoF w w') (fun _ wq => Upd NoF wr.drew wq) (by kernel_rfl) (by kernel_rfl) (by kernel_rfl) (by rfl) (fun w => Upd.refl _ _) (rgR_keep (by
        intro p hp; simp only [List.mem_cons, List.not_mem_nil, or_false] at hp; rcases hp with rfl | rfl | rfl | rfl | rfl | rfl | rfl | rfl | rfl | rfl | rfl | rfl <;> first | exact stb_isV _ | exact stb_any)) (Upd.refl _ _) ?_ ?_
      · refine ⟨?_, ?_, ?_, ?_, ?_, ?_, ?_, ?_, ?_, ?_, ?_, ?_, trivial⟩
        · refine fun ρ w' L hW hLi hcl hd hdep hext hc hg hf => ?_
          rw [if_pos (show wantedR _ _ _ = true from rfl)]
          have e5 : ρ (.tmp 5) = .int .i64 (k : Int) := hext 5 (by kernel_rfl)
          clear hdep hext hcl
          have HW := Lib.hid hW
          clear hW
          unfold OpDone
          go_simp
          exact ⟨rfl, Upd.refl _ _, HW.out⟩
        · refine fun ρ w' L hW hLi hcl hd hdep hext hc hg hf => ?_
          rw [if_pos (show wantedR _ _ _ = true from rfl)]
          have e0 : ρ (.tmp 0) = .slice A k c := hext 0 (by kernel_rfl)
          clear hdep hext hcl
          have HW := Lib.hid hW
          clear hW
          unfold OpDone
          go_simp
          exact ⟨rfl, Upd.refl _ _, HW.out⟩
        · refine fun ρ w' L hW hLi hcl hd hdep hext hc hg hf => ?_
          rw [if_pos (show wantedR _ _ _ = true from rfl)]
          have e8 : ρ (.tmp 8) = .slice A k c := hdep 1 _ rfl (by kernel_rfl)
          clear hdep hext hcl
          have HW := Lib.hid hW
          clear hW
          unfold OpDone
          go_simp
          exact ⟨rfl, Upd.refl _ _, HW.out⟩
        · refine fun ρ w' L hW hLi hcl hd hdep hext hc hg hf => ?_
          rw [if_pos (show wantedR _ _ _ = true from rfl)]
          have e7 : ρ (.tmp 7) = .int .i64 (k : Int) := hdep 0 _ rfl (by kernel_rfl)
          have e9 : ρ (.tmp 9) = .int .i64 (k : Int) := hdep 2 _ rfl (by kernel_rfl)
          clear hdep hext hcl
          have HW := Lib.hid hW
          clear hW
          unfold OpDone
          go_simp
          exact ⟨rfl, Upd.refl _ _, HW.out⟩
        · refine fun ρ w' L hW hLi hcl hd hdep hext hc hg hf => ?_
          rw [if_pos (show wantedR _ _ _ = true from rfl)]
          have e10 : ρ (.tmp 10) = .bool false := hdep 3 _ rfl (by kernel_rfl)
          clear hdep hext hcl
          have HW := Lib.hid hW
          clear hW
          unfold OpDone
          go_simp
          exact ⟨rfl, Upd.refl _ _, HW.out⟩
        · refine fun ρ w' L hW hLi hcl hd hdep hext hc hg hf => ?_
          have eg : ρ (.tmp 11) = .bool false := hdep 4 _ rfl (by kernel_rfl)
          rw [if_neg (show ¬ wantedR _ _ _ = true from by show ¬ (match ρ (.tmp 11) with | .bool c => c == true | _ => false) = true; rw [eg]; decide)]
          exact ⟨rfl, hW⟩
        · refine fun ρ w' L hW hLi hcl hd hdep hext hc hg hf => ?_
          have eg : ρ (.tmp 11) = .bool false := hdep 4 _ rfl (by kernel_rfl)
          rw [if_neg (show ¬ wantedR _ _ _ = true from by show ¬ (match ρ (.tmp 11) with | .bool c => c == true | _ => false) = true; rw [eg]; decide)]
          exact ⟨rfl, hW⟩
        · refine fun ρ w' L hW hLi hcl hd hdep hext hc hg hf => ?_
          have eg : ρ (.tmp 11) = .bool false := hdep 4 _ rfl (by kernel_rfl)
          rw [if_neg (show ¬ wantedR _ _ _ = true from by show ¬ (match ρ (.tmp 11) with | .bool c => c == true | _ => false) = true; rw [eg]; decide)]
          exact ⟨rfl, hW⟩
        · refine fun ρ w' L hW hLi hcl hd hdep hext hc hg hf => ?_
          have eg : ρ (.tmp 11) = .bool false := hdep 4 _ rfl (by kernel_rfl)
          rw [if_neg (show ¬ wantedR _ _ _ = true from by show ¬ (match ρ (.tmp 11) with | .bool c => c == true | _ => false) = true; rw [eg]; decide)]
          exact ⟨rfl, hW⟩
        · refine fun ρ w' L hW hLi hcl hd hdep hext hc hg hf => ?_
          have eg : ρ (.tmp 11) = .bool false := hdep 4 _ rfl (by kernel_rfl)
          rw [if_neg (show ¬ wantedR _ _ _ = true from by show ¬ (match ρ (.tmp 11) with | .bool c => c == true | _ => false) = true; rw [eg]; decide)]
          exact ⟨rfl, hW⟩
        · refine fun ρ w' L hW hLi hcl hd hdep hext hc hg hf => ?_
          have eg : ρ (.tmp 11) = .bool false := hdep 4 _ rfl (by kernel_rfl)
          rw [if_neg (show ¬ wantedR _ _ _ = true from by show ¬ (match ρ (.tmp 11) with | .bool c => c == true | _ => false) = true; rw [eg]; decide)]
          exact ⟨rfl, hW⟩
        · refine fun ρ w' L hW hLi hcl hd hdep hext hc hg hf => ?_
          rw [if_pos (show wantedR _ _ _ = true from rfl)]
          have e11 : ρ (.tmp 11) = .bool false := hdep 4 _ rfl (by kernel_rfl)
          have e17 : ρ (.tmp 17) = undef := hdep 10 _ rfl (by kernel_rfl)
          clear hdep hext hcl
          have HW := Lib.hid hW
          clear hW
          unfold OpDone
          go_simp
          exact ⟨rfl, Upd.refl _ _, HW.out⟩
      intro vs W8 L8 hL8 hW8 hR
      have hv0 : vs 0 = .int .i64 (k : Int) := hR 0 _ rfl
      have hv1 : vs 1 = .slice A k c := hR 1 _ rfl
      have hv2 : vs 2 = .int .i64 (k : Int) := hR 2 _ rfl
      have hv3 : vs 3 = .bool false := hR 3 _ rfl
      have hv4 : vs 4 = .bool false := hR 4 _ rfl
      have hv5 : vs 5 = undef := hR 5 _ rfl
      have hv6 : vs 6 = undef := hR 6 _ rfl
      have hv7 : vs 7 = undef := hR 7 _ rfl
      have hv8 : vs 8 = undef := hR 8 _ rfl
      have hv9 : vs 9 = undef := hR 9 _ rfl
      have hv10 : vs 10 = undef := hR 10 _ rfl
      have hv11 : vs 11 = .bool false := hR 11 _ rfl
      simp only [putAll, Act.put, List.setIfInBounds_toArray, List.set_cons_zero, List.set_cons_succ, hv0, hv1, hv2, hv3, hv4, hv5, hv6, hv7, hv8, hv9, hv10, hv11]
      clear hR hv0 hv1 hv2 hv3 hv4 hv5 hv6 hv7 hv8 hv9 hv10 hv11
      have HU8 := Lib.hid (show Upd NoF v0 W8 from HU.out.trans (((Upd.refl NoF wr).drew).trans hW8 (fun _ _ f => f)) (fun _ _ f => f))
      replace HBX := Lib.hid (show Blk W8.drew X 28 zn from (hW8.blk HBX.out (fun f => f)).drew)
      clear hW8
      go_wp2_with fail
      refine wp_region_rgw (rgR [isV (.int .i64 (k : Int)), isV (.slice A k c), isV (.int .i64 (k : Int)), isV (.bool false), isV (.bool false), isV (undef), isV (undef), isV (undef), isV (undef), isV (undef), isV (undef), isV (.bool false)]) (fun w w' => Upd NoF w w') (fun _ wq => Upd NoF W8.drew wq) (by kernel_rfl) (by kernel_rfl) (by kernel_rfl) (by rfl) (fun w => Upd.refl _ _) (rgR_keep (by
        intro p hp; simp only [List.mem_cons, List.not_mem_nil, or_false] at hp; rcases hp with rfl | rfl | rfl | rfl | rfl | rfl | rfl | rfl | rfl | rfl | rfl | rfl <;> first | exact stb_isV _ | exact stb_any)) (Upd.refl _ _) ?_ ?_
      · refine ⟨?_, ?_, ?_, ?_, ?_, ?_, ?_, ?_, ?_, ?_, ?_, ?_, trivial⟩
        · refine fun ρ w' L hW hLi hcl hd hdep hext hc hg hf => ?_
          rw [if_pos (show wantedR _ _ _ = true from rfl)]
          have e5 : ρ (.tmp 5) = .int .i64 (k : Int) := hext 5 (by kernel_rfl)
          clear hdep hext hcl
          have HW := Lib.hid hW
          clear hW
          unfold OpDone
          go_simp
          exact ⟨rfl, Upd.refl _ _, HW.out⟩
        · refine fun ρ w' L hW hLi hcl hd hdep hext hc hg hf => ?_
          rw [if_pos (show wantedR _ _ _ = true from rfl)]
          have e0 : ρ (.tmp 0) = .slice A k c := hext 0 (by kernel_rfl)
          clear hdep hext hcl
          have HW := Lib.hid hW
          clear hW
          unfold OpDone
          go_simp
          exact ⟨rfl, Upd.refl _ _, HW.out⟩
        · refine fun ρ w' L hW hLi hcl hd hdep hext hc hg hf => ?_
          rw [if_pos (show wantedR _ _ _ = true from rfl)]
          have e22 : ρ (.tmp 22) = .slice A k c := hdep 1 _ rfl (by kernel_rfl)
          clear hdep hext hcl
          have HW := Lib.hid hW
          clear hW
          unfold OpDone
          go_simp
          exact ⟨rfl, Upd.refl _ _, HW.out⟩
        · refine fun ρ w' L hW hLi hcl hd hdep hext hc hg hf => ?_
          rw [if_pos (show wantedR _ _ _ = true from rfl)]
          have e21 : ρ (.tmp 21) = .int .i64 (k : Int) := hdep 0 _ rfl (by kernel_rfl)
          have e23 : ρ (.tmp 23) = .int .i64 (k : Int) := hdep 2 _ rfl (by kernel_rfl)
          clear hdep hext hcl
          have HW := Lib.hid hW
          clear hW
          unfold OpDone
          go_simp
          exact ⟨rfl, Upd.refl _ _, HW.out⟩
        · refine fun ρ w' L hW hLi hcl hd hdep hext hc hg hf => ?_
          rw [if_pos (show wantedR _ _ _ = true from rfl)]
          have e24 : ρ (.tmp 24) = .bool false := hdep 3 _ rfl (by kernel_rfl)
          clear hdep hext hcl
          have HW := Lib.hid hW
          clear hW
          unfold OpDone
          go_simp
          exact ⟨rfl, Upd.refl _ _, HW.out⟩
        · refine fun ρ w' L hW hLi hcl hd hdep hext hc hg hf => ?_
          have eg : ρ (.tmp 25) = .bool false := hdep 4 _ rfl (by kernel_rfl)
          rw [if_neg (show ¬ wantedR _ _ _ = true from by show ¬ (match ρ (.tmp 25) with | .bool c => c == true | _ => false) = true; rw [eg]; decide)]
          exact ⟨rfl, hW⟩
        · refine fun ρ w' L hW hLi hcl hd hdep hext hc hg hf => ?_
          have eg : ρ (.tmp 25) = .bool false := hdep 4 _ rfl (by kernel_rfl)
          rw [if_neg (show ¬ wantedR _ _ _ = true from by show ¬ (match ρ (.tmp 25) with | .bool c => c == true | _ => false) = true; rw [eg]; decide)]
          exact ⟨rfl, hW⟩
        · refine fun ρ w' L hW hLi hcl hd hdep hext hc hg hf => ?_
          have eg : ρ (.tmp 25) = .bool false := hdep 4 _ rfl (by kernel_rfl)
          rw [if_neg (show ¬ wantedR _ _ _ = true from by show ¬ (match ρ (.tmp 25) with | .bool c => c == true | _ => false) = true; rw [eg]; decide)]
          exact ⟨rfl, hW⟩
        · refine fun ρ w' L hW hLi hcl hd hdep hext hc hg hf => ?_
          have eg : ρ (.tmp 25) = .bool false := hdep 4 _ rfl (by kernel_rfl)
          rw [if_neg (show ¬ wantedR _ _ _ = true from by show ¬ (match ρ (.tmp 25) with | .bool c => c == true | _ => false) = true; rw [eg]; decide)]
          exact ⟨rfl, hW⟩
        · refine fun ρ w' L hW hLi hcl hd hdep hext hc hg hf => ?_
          have eg : ρ (.tmp 25) = .bool false := hdep 4 _ rfl (by kernel_rfl)
          rw [if_neg (show ¬ wantedR _ _ _ = true from by show ¬ (match ρ (.tmp 25) with | .bool c => c == true | _ => false) = true; rw [eg]; decide)]
          exact ⟨rfl, hW⟩
        · refine fun ρ w' L hW hLi hcl hd hdep hext hc hg hf => ?_
          have eg : ρ (.tmp 25) = .bool false := hdep 4 _ rfl (by kernel_rfl)
          rw [if_neg (show ¬ wantedR _ _ _ = true from by show ¬ (match ρ (.tmp 25) with | .bool c => c == true | _ => false) = true; rw [eg]; decide)]
          exact ⟨rfl, hW⟩
        · refine fun ρ w' L hW hLi hcl hd hdep hext hc hg hf => ?_
          rw [if_pos (show wantedR _ _ _ = true from rfl)]
          have e25 : ρ (.tmp 25) = .bool false := hdep 4 _ rfl (by kernel_rfl)
          have e31 : ρ (.tmp 31) = undef := hdep 10 _ rfl (by kernel_rfl)
          clear hdep hext hcl
          have HW := Lib.hid hW
          clear hW
          unfold OpDone
          go_simp
          exact ⟨rfl, Upd.refl _ _, HW.out⟩
      intro vs W9 L9 hL9 hW9 hR
      have hv0 : vs 0 = .int .i64 (k : Int) := hR 0 _ rfl
      have hv1 : vs 1 = .slice A k c := hR 1 _ rfl
      have hv2 : vs 2 = .int .i64 (k : Int) := hR 2 _ rfl
      have hv3 : vs 3 = .bool false := hR 3 _ rfl
      have hv4 : vs 4 = .bool false := hR 4 _ rfl
      have hv5 : vs 5 = undef := hR 5 _ rfl
      have hv6 : vs 6 = undef := hR 6 _ rfl
      have hv7 : vs 7 = undef := hR 7 _ rfl
      have hv8 : vs 8 = undef := hR 8 _ rfl
      have hv9 : vs 9 = undef := hR 9 _ rfl
      have hv10 : vs 10 = undef := hR 10 _ rfl
      have hv11 : vs 11 = .bool false := hR 11 _ rfl
      simp only [putAll, Act.put, List.setIfInBounds_toArray, List.set_cons_zero, List.set_cons_succ, hv0, hv1, hv2, hv3, hv4, hv5, hv6, hv7, hv8, hv9, hv10, hv11]
      clear hR hv0 hv1 hv2 hv3 hv4 hv5 hv6 hv7 hv8 hv9 hv10 hv11
      have UZ := Lib.hid (show Upd NoF w W9 from (V0.out.trans HU8.out (fun _ _ f => f)).trans ((Upd.refl NoF W8).drew.trans hW9 (fun _ _ f => f)) (fun _ _ f => f))
      have B9 := Lib.hid (hW9.blk HBX.out (fun f => f))
      clear hW9
      have HXL := Lib.hid B9.out.lt
      have HTK := Lib.hid (show (rowsN l).take (k * 8) = rowsN (l.take k) from by
        rw [rowsN_drop (l := l) k, List.take_append_of_le_length (Nat.le_of_eq ?_)]
        · exact List.take_of_length_le (Nat.le_of_eq (rowsN_len (fun y hy => HR.out.1 y (List.mem_of_mem_take hy)) (by rw [List.length_take, HN.out]; omega)))
        · exact (rowsN_len (fun y hy => HR.out.1 y (List.mem_of_mem_take hy)) (by rw [List.length_take, HN.out]; omega)).symm)
      have HDK := Lib.hid (show (rowsN l).drop (k * 8) = rowsN (l.drop k) from by
        rw [rowsN_drop (l := l) k, List.drop_append_of_le_length (Nat.le_of_eq ?_), List.drop_eq_nil_of_le (Nat.le_of_eq ?_)]
        · rfl
        · exact rowsN_len (fun y hy => HR.out.1 y (List.mem_of_mem_take hy)) (by rw [List.length_take, HN.out]; omega)
        · exact (rowsN_len (fun y hy => HR.out.1 y (List.mem_of_mem_take hy)) (by rw [List.length_take, HN.out]; omega)).symm)
      have HLEN := Lib.hid (show RES.length = k + 1 + (k - k) from by rw [HIN.out, List.length_append, List.length_cons, List.length_take, List.length_drop, HN.out]; omega)
      have HROW := Lib.hid (show rowsN RES = rowsN (l.take k) ++ nm.map byteV ++ rowsN (l.drop k) from by rw [HIN.out, rowsN_append, rowsN_cons, List.append_assoc])
      have HB3 := Lib.hid (show 0 + k ≤ maxLen ∧ (0 + k) * 8 ≤ 140737488355328 from by have := HS.out; unfold maxLen; omega)
      have HB6 := Lib.hid (show k + 1 ≤ maxLen ∧ (k + 1) * 8 ≤ 140737488355328 from by have := HS.out; unfold maxLen; omega)
      have HB8 := Lib.hid (show k + 1 + (k - k) ≤ maxLen ∧ (k + 1 + (k - k)) * 8 ≤ 140737488355328 from by have := HS.out; unfold maxLen; omega)
      have HKN := Lib.hid hk
      go_wp2_with (first
        | (refine wl_names0 rfl rfl ?_; intro w2 ho2 hu2 hs2; have N2 := Lib.hid (show NwA (X + 1) 28 8 0 (rowsN []) (some ⟨W9.heap.size, 0, none⟩) 0 w2 from ⟨ho2, fun j hj => by have : W9.heap.size = j := (by simpa [OwnB, Value.ownBlock] using hj); have := HXL.out; omega⟩); have U2 := Lib.hid (UZ.out.trans hu2 (fun _ _ f => f)); have B2 := Lib.hid (hu2.blk B9.out (fun f => f)); clear ho2 hu2 hs2)
        | (refine wpList_cut_to' rfl (.tmp 35) (.tmp 36) rfl rfl rfl (HRD.out.keep U2.out) Tryz.underlying22 (fun _ => by kernel_rfl) (k := k) HKN.out ?_; intro A3 hcut; have HC3 := Lib.hid hcut; clear hcut)
        | (at_builtin; refine wpList_append_to _ rfl (.tmp 34) (.tmp 37) 22 rfl 28 i0 _ 8 8 Tryz.underlying22 hi0 hz0 hz1 hz2 (by kernel_rfl) (.slice (some ⟨W9.heap.size, 0, none⟩) 0 0) 0 (rowsN []) (by rfl) N2.out.1 (.slice A3 k c) k (rowsN (l.take k)) (by rfl) (by rw [← HTK.out]; exact HC3.out) (rowsN_one _) HB3.out.1 HB3.out.2 ?_; intro A4 c4 w4 hown hupd hnew; have N4 := Lib.hid (show NwA (X + 1) 28 8 k (rowsN (l.take k)) A4 c4 w4 from by have q := (NwA.appM N2.out (Upd.refl _ _) B2.out.lt hown hupd hnew).1; rw [Nat.zero_add] at q; exact q); have U4 := Lib.hid ((NwA.appM N2.out (Upd.refl _ _) B2.out.lt hown hupd hnew).2 (w := w) (fun j h1 h2 => by have := HX.out; omega) U2.out); have B4 := Lib.hid (hupd.blk B2.out (fun f => by have := N2.out.2 X f; omega)); clear hown hupd hnew; try simp only [Nat.zero_add])
        | (refine wl_load rfl 28 (.tmp 3) rfl X 0 (by rfl) (nm.map byteV) _ (name_cells HZN.out B4.out) Tryz.underlying28 rfl (by rw [name_size]; simp [H8N.out]) zn HZN.out ?_)
        | (refine wpList_bsRow rfl 22 28 (.tmp 40) rfl (.agg zn) (by rfl) zn (HBS.out _ H8N.out _ HZN.out _) ?_; intro w5 hb5 hu5 hs5; have B5 := Lib.hid hb5; have U5 := Lib.hid hu5; clear hb5 hu5 hs5)
        | (at_builtin; refine wpList_append_to _ rfl (.tmp 39) (.tmp 41) 22 rfl 28 i0 _ 8 8 Tryz.underlying22 hi0 hz0 hz1 hz2 (by kernel_rfl) (.slice A4 k c4) k (rowsN (l.take k)) (by rfl) (N4.out.keep U5.out).1 (.slice (some ⟨w4.heap.size, 0, none⟩) 1 1) 1 (nm.map byteV) (by rfl) (rd_name H8N.out HZN.out B5.out) (name_ones _) HB6.out.1 HB6.out.2 ?_; intro A6 c6 w6 hown hupd hnew; have N6 := Lib.hid (NwA.appM N4.out U5.out B4.out.lt hown hupd hnew).1; have U6 := Lib.hid ((NwA.appM N4.out U5.out B4.out.lt hown hupd hnew).2 (w := w) (fun j h1 h2 => by have := HX.out; omega) U4.out); have B6 := Lib.hid (hupd.blk (U5.out.blk B4.out (fun f => f)) (fun f => by have := N4.out.2 X f; omega)); clear hown hupd hnew)
        | (refine wpList_cut_from' rfl (.tmp 44) (.tmp 45) rfl rfl rfl (HRD.out.keep U6.out) Tryz.underlying22 (fun _ => by kernel_rfl) (k := k) HKN.out ?_; intro A7 hcut; have HC7 := Lib.hid hcut; clear hcut)
        | (at_builtin; refine wpList_append_to _ rfl (.tmp 43) (.tmp 46) 22 rfl 28 i0 _ 8 8 Tryz.underlying22 hi0 hz0 hz1 hz2 (by kernel_rfl) (.slice A6 (k + 1) c6) (k + 1) (rowsN (l.take k) ++ nm.map byteV) (by rfl) N6.out.1 (.slice A7 (k - k) (c - k)) (k - k) (rowsN (l.drop k)) (by rfl) (by rw [← HDK.out]; exact HC7.out) (rowsN_one _) HB8.out.1 HB8.out.2 ?_; intro A8 c8 w8 hown hupd hnew; have N8 := Lib.hid (NwA.appM N6.out (Upd.refl _ _) B6.out.lt hown hupd hnew).1; have U8 := Lib.hid ((NwA.appM N6.out (Upd.refl _ _) B6.out.lt hown hupd hnew).2 (w := w) (fun j h1 h2 => by have := HX.out; omega) U6.out); clear hown hupd hnew))
      go_ret
      refine ⟨A8, c8, by rw [HLEN.out, Nat.sub_self, Nat.add_zero]; rfl, ?_, U8.out⟩
      have q := N8.out.1.rdF (F := F) (fun j hj hf => by have := N8.out.2 j hj; have := HFX.out j hf; have := HX.out; omega)
      rw [← HROW.out] at q
      rw [HLEN.out]
      exact q
theorem r25insert_any {w : World} {A : Option Addr} {c n : Nat} {nm : List UInt8} {l : List (List UInt8)} (hl : l.length = n) (h : NmR w (.slice A n c) l) (h8 : nm.length = 8) (hs : n ≤ 1000000) :
    Calls Tryz.prog 41 #[.slice A n c, nameV nm] w fun e w' => ∃ A' c', e = .returned (.slice A' (insN nm l).length c') ∧ NmR w' (.slice A' (insN nm l).length c') (insN nm l) ∧ Upd NoF w w' :=
  (r25insert_F (F := NoF) (fun _ f => f.elim) hl h.1 (fun _ hu => by have q := (h.keep hu).2; rw [hl] at q; exact q) h8 hs).mono (fun _ _ ⟨A', c', h1, h2, h3⟩ => ⟨A', c', h1, ⟨all8_insN h8 h.1, h2.now⟩, h3⟩)
end Go.Proofs.YtengcmfdfmnacaaGreat
