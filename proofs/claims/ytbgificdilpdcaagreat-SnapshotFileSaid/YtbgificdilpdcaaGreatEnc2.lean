/- EncodeView of the reference. Conditions: sizes. -/
import Derived.Test.YtbgificdilpdcaaGreatJn15
namespace Go.Proofs.YtbgificdilpdcaaGreat
open Go.RowKit

set_option maxRecDepth 100000 in
set_option maxHeartbeats 16000000 in
theorem EncodeView_any {w : World} {a b : Value} {V : ViewS} (h : VwR w a b V) (hs1 : V.votes.length ≤ 1000000) (hs2 : V.texts.length ≤ 1000000) : Calls Tryz.prog 10 #[.agg #[a, b]] w (EncPost w (encodeS V)) := by
  obtain ⟨A, ca, rfl, hlc, hcm⟩ := h.1.form
  obtain ⟨B, cb, rfl, hld, hdm⟩ := h.2.form
  have HVW := Lib.hid h
  have HV := Lib.hid h.1
  have HT := Lib.hid h.2
  obtain ⟨n, hn⟩ : ∃ n, V.votes.length = n := ⟨_, rfl⟩
  obtain ⟨m, hm⟩ : ∃ n, V.texts.length = n := ⟨_, rfl⟩
  have BV := Lib.hid (Blk.new w 25 #[.slice A V.votes.length ca, .slice B V.texts.length cb])
  have UW := Lib.hid ((Upd.refl NoF w).alloc (.cells #[.slice A V.votes.length ca, .slice B V.texts.length cb] 25))
  have HN := Lib.hid hn
  have HM := Lib.hid hm
  rw [hn] at hlc hs1 BV UW HV HVW ⊢
  rw [hm] at hld hs2 BV UW HT HVW ⊢
  obtain ⟨W1, hW1⟩ : ∃ x, x = w.alloc (.cells #[.slice A n ca, .slice B m cb] 25) := ⟨_, rfl⟩
  rw [← hW1] at BV UW
  obtain ⟨i1, hi1, hy0, hy1, hy2⟩ := info_parts byte_info
  have wn : IntKind.u64.wrap (n : Int) = n := wrap_u64_nat _ (by omega)
  have wm : IntKind.u64.wrap (m : Int) = m := wrap_u64_nat _ (by omega)
  clear h hn hm
  go_enter Tryz.func10, Tryz.ntmps10
  go_wp2_with fail
  rw [← hW1]
  refine (r1AU4 W1 n).mono ?_
  rintro e w2 ⟨A2, c2, rfl, ho2, hn2, hu2⟩
  have E2 := Lib.hid (show NewO W1 (encVs V.votes 0) A2 c2 w2 from by
    have e0 : encVs V.votes 0 = beB n 4 := by unfold encVs; rw [HN.out]; simp
    have e1 : (beB (n : Int) 4).length = 4 := beB_len _ _
    unfold NewO
    rw [e0, e1]
    exact ⟨ho2, hn2, hu2⟩)
  have HL0 := Lib.hid (show (encVs V.votes 0).length = 4 from by simp [encVs, beB_len])
  clear hW1 ho2 hn2 hu2
  go_wp2
  go_loopw [4, 5] (fun b i wr => EvRel V.votes W1 b i wr) (fun _ i _ => n - (intOf i).toNat)
  case atStart => exact ⟨0, A2, c2, rfl, by omega, by rw [HL0.out], E2.out, fun j _ h => absurd h (by omega)⟩
  case round =>
    obtain ⟨k, Ab, cb', rfl, hk, rfl, hE, hok⟩ := hrel
    have hnn := HN.out
    have hlen := encVs_len (k := k) HV.out.1 hok
    have c00 : wr.cell? ⟨w.heap.size, 0, none⟩ = some (.slice A n ca) := (hE.2.2.blk BV.out (fun h => h)).cell 0
    by_cases hlt : k < n
    · obtain ⟨s, hx⟩ : ∃ x, V.votes[k]? = some x := ⟨_, List.getElem?_eq_getElem (by omega)⟩
      obtain ⟨g, o, Au, cu, hA, r1, r2, r3, r4⟩ := (HV.out.keep (UW.out.trans hE.2.2 (fun _ _ h => h))).at_ hx
      subst hA
      have hl2 : (encVs V.votes k).length ≤ 393000004 := by omega
      have FS := Lib.hid (HV.out.fit hx)
      have t1 : decide ((k : Int) < (n : Int)) = true := by simp; omega
      have q0 : (0 : Int) ≤ (k : Int) := by omega
      have q1 : (k : Int) < (n : Int) := by omega
      have R1 := Lib.hid r1
      have R2 := Lib.hid r2
      have HE := Lib.hid hE
      obtain ⟨ra, hra⟩ : ∃ z, (rowS s (.slice Au s.sig.length cu)).toArray = z := ⟨_, rfl⟩
      have HRA := Lib.hid hra
      have HX := Lib.hid hx
      have HOK := Lib.hid hok
      clear hnn hlen hx r1 r2 hE hok hra hk
      cases hs : okS s with
      | true =>
        have CE := Lib.hid (show Calls Tryz.prog 31 #[.agg ra] wr (PairPost wr (encS s)) from by
          rw [← HRA.out]
          exact rEncS_yes FS.out wr R2.out hs)
        have HLS := Lib.hid (encS_len FS.out (okS_true.1 hs).2)
        have HOK2 := Lib.hid (upto_next HOK.out HX.out hs)
        clear hs
        go_wp2_with (refine wpList_load_signed rfl (.tmp 29) rfl g (o + k * 23) rfl s (.slice Au s.sig.length cu) FS.out R1.out (.agg ra) (congrArg Value.agg HRA.out) ?_)
        refine CE.out.mono ?_
        rintro e w5 ⟨A5, c5, rfl, ho5, hn5, hu5⟩
        have U5 := Lib.hid hu5
        have O5' := Lib.hid (show Rd w5 1 (.slice A5 393 c5) 393 ((encS s).map byteV) from by have := ho5.rd; rw [HLS.out] at this; exact this)
        rw [HLS.out]
        clear ho5 hn5 hu5 c00
        go_wp2_with (at_builtin; refine wpList_append_to _ rfl (.tmp 36) (.tmp 37) 28 rfl 5 i1 _ 1 1 Tryz.underlying28 hi1 hy0 hy1 hy2 rfl _ _ _ rfl (HE.out.own U5.out) _ _ _ rfl (O5'.out) (bytes_oneCell _) (by unfold maxLen; omega) (by omega) ?_; intro pA pc pw hown hupd hnew; have pO := Lib.hid hown; have pV := Lib.hid hupd; have pN := Lib.hid hnew; clear hown hupd hnew)
        have HF := Lib.hid (show NewO W1 (encVs V.votes (k + 1)) pA pc pw from by
          rw [encVs_next HX.out]
          exact HE.out.app U5.out (by rw [HLS.out]; exact pO.out) pV.out (by rw [HLS.out]; exact pN.out))
        have HLN := Lib.hid (show (encVs V.votes (k + 1)).length = (encVs V.votes k).length + 393 from by rw [encVs_next HX.out, List.length_append, HLS.out])
        go_wp2
        go_roundw
        case rel => exact ⟨k + 1, pA, pc, by go_num, by have := HN.out; omega, by rw [HLN.out], HF.out, HOK2.out⟩
        case measure => simp [intOf]; omega
      | false =>
        have CE := Lib.hid (show Calls Tryz.prog 31 #[.agg ra] wr (NilFalse wr) from by
          rw [← HRA.out]
          exact rEncS_no FS.out wr R2.out hs)
        have HEN := Lib.hid (encode_arg (V := V) (by unfold argB; rw [all_no HX.out hs]; rfl))
        clear hs
        go_wp2_with (refine wpList_load_signed rfl (.tmp 29) rfl g (o + k * 23) rfl s (.slice Au s.sig.length cu) FS.out R1.out (.agg ra) (congrArg Value.agg HRA.out) ?_)
        refine CE.out.mono ?_
        rintro e w5 ⟨rfl, hu5⟩
        have U5 := Lib.hid hu5
        clear hu5
        go_wp2
        go_ret2
        rw [HEN.out]
        exact ⟨none, 0, rfl, encNil _ _ (UW.out.trans (HE.out.2.2.trans U5.out (fun _ _ h => h)) (fun _ _ h => h))⟩
    · obtain rfl : n = k := by omega
      have t1 : decide ((n : Int) < (n : Int)) = false := by simp
      have HOKV := Lib.hid (all_upto hok (by omega))
      have HE := Lib.hid hE
      have hl2 : (encVs V.votes n).length ≤ 393000004 := by omega
      have c01 : wr.cell? ⟨w.heap.size, 1, none⟩ = some (.slice B m cb) := (hE.2.2.blk BV.out (fun h => h)).cell 1
      have CA := Lib.hid (r1AppendUint_any (show Rd wr 1 (.slice Ab (encVs V.votes n).length cb') (encVs V.votes n).length ((encVs V.votes n).map byteV) from hE.1.rd) (m : Int) (by omega) 4 (by omega) (by omega))
      clear hnn hlen hE hok hlt hk
      generalize hxv : encVs V.votes n = XV at hl2 HE CA ⊢
      have HXV := Lib.hid hxv
      clear hxv
      go_wp2_with fail
      refine CA.out.mono ?_
      rintro e w3 ⟨A3, c3, rfl, ho3⟩
      have HF := Lib.hid (show NewO W1 (encTs XV V.texts 0) A3 c3 w3 from by
        have e0 : encTs XV V.texts 0 = XV ++ beB m 4 := by unfold encTs; rw [HM.out]; simp
        rw [e0]
        exact NewO.from_ ho3 HE.out.2.2)
      have HL1 := Lib.hid (show (XV ++ beB (m : Int) 4).length = (encTs XV V.texts 0).length from by unfold encTs; rw [HM.out]; simp)
      rw [HL1.out]
      clear ho3 c00 c01 CA HE
      go_wp2
      obtain ⟨wo, rfl⟩ : ∃ wo : World, wo = wr := ⟨_, rfl⟩
      go_loopw [4, 8] (fun b i wr => EtRel XV V.texts W1 b i wr) (fun _ i _ => m - (intOf i).toNat)
      case atStart => exact ⟨0, A3, c3, rfl, by omega, rfl, HF.out, fun j _ h => absurd h (by omega)⟩
      case round =>
        obtain ⟨j, Ab, cb', rfl, hk, rfl, hE, hok⟩ := hrel
        have hmm := HM.out
        have hlen := encTs_len (x := XV) (k := j) hok
        have hl3 : (encTs XV V.texts j).length ≤ 549755813888 := by omega
        have c11 : wr.cell? ⟨w.heap.size, 1, none⟩ = some (.slice B m cb) := (hE.2.2.blk BV.out (fun h => h)).cell 1
        by_cases hlt : j < m
        · obtain ⟨s, hx⟩ : ∃ x, V.texts[j]? = some x := ⟨_, List.getElem?_eq_getElem (by omega)⟩
          obtain ⟨g, o, Au, cu, hA, r1, r2, r3, r4⟩ := (HT.out.keep (UW.out.trans hE.2.2 (fun _ _ h => h))).at_ hx
          subst hA
          have t2 : decide ((j : Int) < (m : Int)) = true := by simp; omega
          have q0 : (0 : Int) ≤ (j : Int) := by omega
          have q1 : (j : Int) < (m : Int) := by omega
          have R2 := Lib.hid r2
          have HE := Lib.hid hE
          have HX := Lib.hid hx
          have HOK := Lib.hid hok
          clear hmm hlen hx r2 hE hok hk
          by_cases hs : s.length ≤ 65535
          · have CE := Lib.hid (r1AppendBytes_yes (show Rd wr 1 (.slice Ab (encTs XV V.texts j).length cb') (encTs XV V.texts j).length ((encTs XV V.texts j).map byteV) from HE.out.1.rd) (show Rd wr 1 (.slice Au s.length cu) s.length (s.map byteV) from R2.out) hs (by omega))
            have HOK2 := Lib.hid (upto_next HOK.out HX.out (show okT s = true by simp [okT, hs]))
            have HNX := Lib.hid (encTs_next (x := XV) HX.out)
            go_wp2_with fail
            refine CE.out.mono ?_
            rintro e w5 ⟨A5, c5, rfl, ho5⟩
            rw [← HNX.out]
            rw [← HNX.out] at ho5
            have HF2 := Lib.hid (NewO.from_ ho5 HE.out.2.2)
            clear ho5 c11
            go_wp2
            go_roundw
            case rel => exact ⟨j + 1, A5, c5, by go_num, by have := HM.out; omega, rfl, HF2.out, HOK2.out⟩
            case measure => simp [intOf]; omega
          · have CE := Lib.hid (r1AppendBytes_no (show Rd wr 1 (.slice Ab (encTs XV V.texts j).length cb') (encTs XV V.texts j).length ((encTs XV V.texts j).map byteV) from HE.out.1.rd) (show Rd wr 1 (.slice Au s.length cu) s.length (s.map byteV) from R2.out) (by omega))
            have HEN := Lib.hid (encode_arg (V := V) (by unfold argB; rw [all_no (p := okT) HX.out (by simp [okT]; omega)]; simp))
            go_wp2_with fail
            refine CE.out.mono ?_
            rintro e w5 ⟨rfl, hu5⟩
            have U5 := Lib.hid hu5
            clear hu5
            go_wp2
            go_ret2
            rw [HEN.out]
            exact ⟨none, 0, rfl, encNil _ _ (UW.out.trans (HE.out.2.2.trans U5.out (fun _ _ h => h)) (fun _ _ h => h))⟩
        · obtain rfl : m = j := by omega
          have t2 : decide ((m : Int) < (m : Int)) = false := by simp
          have HOKT := Lib.hid (all_upto hok (by omega))
          have HARG := Lib.hid (show argB V = true from by unfold argB; rw [HOKV.out, HOKT.out]; rfl)
          have HE := Lib.hid hE
          have HEV := Lib.hid (show encTs (encVs V.votes V.votes.length) V.texts V.texts.length = encTs XV V.texts m from by rw [HN.out, HXV.out, HM.out])
          have OB := Lib.hid (show ordB V = (chainB lessS V.votes && chainB lessT V.texts) from rfl)
          clear hmm hlen hE hok hlt hk
          generalize encTs XV V.texts m = XT at hl3 HE HEV ⊢
          go_wp2
          obtain ⟨wo2, rfl⟩ : ∃ wo : World, wo = wr := ⟨_, rfl⟩
          clear c11 t1 t2
          go_loopw [11] (fun i wr => OrdRel lessS V.votes wo2 i wr) (fun i _ => n + 1 - (intOf i).toNat)
          case atStart => exact ⟨0, rfl, .inl rfl, fun j _ _ h => absurd h (by omega), Upd.refl _ _⟩
          case round =>
            obtain ⟨k, rfl, hk, hch, hu0⟩ := hrel
            have hu := HE.out.2.2.trans hu0 (fun _ _ h => h)
            have c00 : wr.cell? ⟨w.heap.size, 0, none⟩ = some (.slice A n ca) := (hu.blk BV.out (fun h => h)).cell 0
            have hnn := HN.out
            by_cases hlt : k + 1 < n
            · obtain ⟨s, hx⟩ : ∃ x, V.votes[k]? = some x := ⟨_, List.getElem?_eq_getElem (by omega)⟩
              obtain ⟨t, hy⟩ : ∃ x, V.votes[k + 1]? = some x := ⟨_, List.getElem?_eq_getElem (by omega)⟩
              have t1 : decide ((k : Int) + 1 < (n : Int)) = true := by simp; omega
              have HU0 := Lib.hid hu0
              clear hnn
              cases hless : lessS s t with
              | true =>
                obtain ⟨g, o, Au, cu, Av, cv, rfl, r1, r2, r3, r4⟩ := (HV.out.keep (UW.out.trans hu (fun _ _ h => h))).two hx hy
                have FS := Lib.hid (HV.out.fit hx)
                have FT := Lib.hid (HV.out.fit hy)
                have c0 : wr.drew.cell? ⟨w.heap.size, 0, none⟩ = some (.slice (some ⟨g, o, none⟩) n ca) := (hu.blk BV.out (fun h => h)).cell 0
                have RA := Lib.hid (show ∀ wq, Upd NoF wr.drew wq → wq.rangeAt g (o + k * 23) (rowS s (.slice Au s.sig.length cu)) from fun wq hq j x hj => hq.cell (r1 j x hj) (fun h => h))
                have RB := Lib.hid (show ∀ wq, Upd NoF wr.drew wq → wq.rangeAt g (o + (k + 1) * 23) (rowS t (.slice Av t.sig.length cv)) from fun wq hq j x hj => hq.cell (r2 j x hj) (fun h => h))
                obtain ⟨ra, hra⟩ : ∃ z, (rowS s (.slice Au s.sig.length cu)).toArray = z := ⟨_, rfl⟩
                obtain ⟨rb, hrb⟩ : ∃ z, (rowS t (.slice Av t.sig.length cv)).toArray = z := ⟨_, rfl⟩
                have HRA := Lib.hid hra
                have HRB := Lib.hid hrb
                have CALL := Lib.hid (show ∀ wq, Upd NoF wr.drew wq → Calls Tryz.prog 33 #[.agg ra, .agg rb] wq (fun e w' => e = .returned (.bool (lessS s t)) ∧ Upd NoF wq w') from fun wq hq => by
                  rw [← hra, ← hrb]
                  exact rLessS_any FS.out FT.out wq (Rd.keep r3 ((((Upd.refl NoF wr).drew)).trans hq (fun _ _ h => h))) (Rd.keep r4 ((((Upd.refl NoF wr).drew)).trans hq (fun _ _ h => h))))
                clear r1 r2 r3 r4 hra hrb
                rw [hless] at CALL
                have HCH := Lib.hid (chain_next hch hx hy hless)
                clear hx hy hch hless hu hu0
                go_wp2
                refine wp_region_rgw (rgR [isV (.pointer (some ⟨w.heap.size, 0, none⟩)), isV (.slice (some ⟨g, o, none⟩) n ca), isV (.int .i64 ((k : Int) + 1)), isV (.int .i64 (k : Int)), isV (.pointer (some ⟨g, o + k * 23, none⟩)), isV (.agg ra), isV (.pointer (some ⟨w.heap.size, 0, none⟩)), isV (.slice (some ⟨g, o, none⟩) n ca), isV (.int .i64 ((k : Int) + 1)), isV (.pointer (some ⟨g, o + (k + 1) * 23, none⟩)), isV (.agg rb), isV (.bool (true)), isV (.bool (false))]) (fun w w' => Upd NoF w w') (fun _ wq => Upd NoF wr.drew wq) (by kernel_rfl) (by kernel_rfl) (by kernel_rfl) (by rfl) (fun w => Upd.refl _ _) (rgR_keep (by
                  intro p hp; simp only [List.mem_cons, List.not_mem_nil, or_false] at hp; rcases hp with rfl | rfl | rfl | rfl | rfl | rfl | rfl | rfl | rfl | rfl | rfl | rfl | rfl <;> first | exact stb_isV _ | exact stb_any)) (Upd.refl _ _) ?_ ?_
                · refine ⟨?_, ?_, ?_, ?_, ?_, ?_, ?_, ?_, ?_, ?_, ?_, ?_, ?_, trivial⟩
                  · refine fun ρ w' L hW hLi hcl hd hdep hext hc hg hf => ?_
                    rw [if_pos (show wantedR _ _ _ = true from rfl)]
                    have e1 : ρ (.tmp 1) = .pointer (some ⟨w.heap.size, 0, none⟩) := hext 1 (by kernel_rfl)
                    clear hdep hext hcl
                    have HW := Lib.hid hW
                    clear hW
                    unfold OpDone
                    go_simp
                    exact ⟨rfl, Upd.refl _ _, HW.out⟩
                  · refine fun ρ w' L hW hLi hcl hd hdep hext hc hg hf => ?_
                    rw [if_pos (show wantedR _ _ _ = true from rfl)]
                    have e72 : ρ (.tmp 72) = .pointer (some ⟨w.heap.size, 0, none⟩) := hdep 0 _ rfl (by kernel_rfl)
                    have xx : w'.cell? ⟨w.heap.size, 0, none⟩ = some (.slice (some ⟨g, o, none⟩) n ca) := hW.cell c0 (fun h => h)
                    clear hdep hext hcl
                    have HW := Lib.hid hW
                    clear hW
                    unfold OpDone
                    go_simp
                    exact ⟨rfl, Upd.refl _ _, HW.out⟩
                  · refine fun ρ w' L hW hLi hcl hd hdep hext hc hg hf => ?_
                    rw [if_pos (show wantedR _ _ _ = true from rfl)]
                    have e11 : ρ (.tmp 11) = .int .i64 ((k : Int) + 1) := hext 11 (by kernel_rfl)
                    clear hdep hext hcl
                    have HW := Lib.hid hW
                    clear hW
                    unfold OpDone
                    go_simp
                    exact ⟨rfl, Upd.refl _ _, HW.out⟩
                  · refine fun ρ w' L hW hLi hcl hd hdep hext hc hg hf => ?_
                    rw [if_pos (show wantedR _ _ _ = true from rfl)]
                    have e74 : ρ (.tmp 74) = .int .i64 ((k : Int) + 1) := hdep 2 _ rfl (by kernel_rfl)
                    have ww : IntKind.i64.wrap (k : Int) = k := IntWalk.i64_in _ (by omega)
                    clear hdep hext hcl
                    have HW := Lib.hid hW
                    clear hW
                    unfold OpDone
                    go_simp
                    exact ⟨rfl, Upd.refl _ _, HW.out⟩
                  · refine fun ρ w' L hW hLi hcl hd hdep hext hc hg hf => ?_
                    rw [if_pos (show wantedR _ _ _ = true from rfl)]
                    have e73 : ρ (.tmp 73) = .slice (some ⟨g, o, none⟩) n ca := hdep 1 _ rfl (by kernel_rfl)
                    have e75 : ρ (.tmp 75) = .int .i64 (k : Int) := hdep 3 _ rfl (by kernel_rfl)
                    have q0 : (0 : Int) ≤ (k : Int) := by omega
                    have q1 : (k : Int) < (n : Int) := by omega
                    have q2 : k < n := by omega
                    clear hdep hext hcl
                    have HW := Lib.hid hW
                    clear hW
                    unfold OpDone
                    go_simp
                    exact ⟨rfl, Upd.refl _ _, HW.out⟩
                  · refine fun ρ w' L hW hLi hcl hd hdep hext hc hg hf => ?_
                    rw [if_pos (show wantedR _ _ _ = true from rfl)]
                    have e76 : ρ (.tmp 76) = .pointer (some ⟨g, o + k * 23, none⟩) := hdep 4 _ rfl (by kernel_rfl)
                    clear hdep hext
                    refine od_load_row 57 (.tmp 76) rfl g (o + k * 23) e76 (rowS s (.slice Au s.sig.length cu)) _ (RA.out w' hW) Tryz.underlying57 rfl (by rw [signed_size, rowS_len FS.out]) ?_
                    rw [HRA.out]
                    exact ⟨rfl, Upd.refl _ _, hW⟩
                  · refine fun ρ w' L hW hLi hcl hd hdep hext hc hg hf => ?_
                    rw [if_pos (show wantedR _ _ _ = true from rfl)]
                    have e1 : ρ (.tmp 1) = .pointer (some ⟨w.heap.size, 0, none⟩) := hext 1 (by kernel_rfl)
                    clear hdep hext hcl
                    have HW := Lib.hid hW
                    clear hW
                    unfold OpDone
                    go_simp
                    exact ⟨rfl, Upd.refl _ _, HW.out⟩
                  · refine fun ρ w' L hW hLi hcl hd hdep hext hc hg hf => ?_
                    rw [if_pos (show wantedR _ _ _ = true from rfl)]
                    have e78 : ρ (.tmp 78) = .pointer (some ⟨w.heap.size, 0, none⟩) := hdep 6 _ rfl (by kernel_rfl)
                    have xx : w'.cell? ⟨w.heap.size, 0, none⟩ = some (.slice (some ⟨g, o, none⟩) n ca) := hW.cell c0 (fun h => h)
                    clear hdep hext hcl
                    have HW := Lib.hid hW
                    clear hW
                    unfold OpDone
                    go_simp
                    exact ⟨rfl, Upd.refl _ _, HW.out⟩
                  · refine fun ρ w' L hW hLi hcl hd hdep hext hc hg hf => ?_
                    rw [if_pos (show wantedR _ _ _ = true from rfl)]
                    have e11 : ρ (.tmp 11) = .int .i64 ((k : Int) + 1) := hext 11 (by kernel_rfl)
                    clear hdep hext hcl
                    have HW := Lib.hid hW
                    clear hW
                    unfold OpDone
                    go_simp
                    exact ⟨rfl, Upd.refl _ _, HW.out⟩
                  · refine fun ρ w' L hW hLi hcl hd hdep hext hc hg hf => ?_
                    rw [if_pos (show wantedR _ _ _ = true from rfl)]
                    have e79 : ρ (.tmp 79) = .slice (some ⟨g, o, none⟩) n ca := hdep 7 _ rfl (by kernel_rfl)
                    have e80 : ρ (.tmp 80) = .int .i64 ((k : Int) + 1) := hdep 8 _ rfl (by kernel_rfl)
                    have q0 : (0 : Int) ≤ (k : Int) + 1 := by omega
                    have q1 : (k : Int) + 1 < (n : Int) := by omega
                    have q3 : ((k : Int) + 1).toNat = k + 1 := by omega
                    have q2 : k + 1 < n := by omega
                    clear hdep hext hcl
                    have HW := Lib.hid hW
                    clear hW
                    unfold OpDone
                    go_simp
                    exact ⟨rfl, Upd.refl _ _, HW.out⟩
                  · refine fun ρ w' L hW hLi hcl hd hdep hext hc hg hf => ?_
                    rw [if_pos (show wantedR _ _ _ = true from rfl)]
                    have e81 : ρ (.tmp 81) = .pointer (some ⟨g, o + (k + 1) * 23, none⟩) := hdep 9 _ rfl (by kernel_rfl)
                    clear hdep hext
                    refine od_load_row 57 (.tmp 81) rfl g (o + (k + 1) * 23) e81 (rowS t (.slice Av t.sig.length cv)) _ (RB.out w' hW) Tryz.underlying57 rfl (by rw [signed_size, rowS_len FT.out]) ?_
                    rw [HRB.out]
                    exact ⟨rfl, Upd.refl _ _, hW⟩
                  · refine fun ρ w' L hW hLi hcl hd hdep hext hc hg hf => ?_
                    rw [if_pos (show wantedR _ _ _ = true from rfl)]
                    have e77 : ρ (.tmp 77) = .agg ra := hdep 5 _ rfl (by kernel_rfl)
                    have e82 : ρ (.tmp 82) = .agg rb := hdep 10 _ rfl (by kernel_rfl)
                    clear hdep hext
                    have CL := Lib.hid (CALL.out w' hW)
                    have HW := Lib.hid hW
                    clear hW
                    unfold OpDone
                    go_simp
                    refine CL.out.mono ?_
                    rintro e w5 ⟨rfl, hu5⟩
                    exact ⟨_, rfl, rfl, hu5, HW.out.trans hu5 (fun _ _ f => f)⟩
                  · refine fun ρ w' L hW hLi hcl hd hdep hext hc hg hf => ?_
                    rw [if_pos (show wantedR _ _ _ = true from rfl)]
                    have e83 : ρ (.tmp 83) = .bool (true) := hdep 11 _ rfl (by kernel_rfl)
                    clear hdep hext hcl
                    have HW := Lib.hid hW
                    clear hW
                    unfold OpDone
                    go_simp
                    exact ⟨rfl, Upd.refl _ _, HW.out⟩
                intro vs W8 L8 hL8 hW8 hR
                have hv0 : vs 0 = .pointer (some ⟨w.heap.size, 0, none⟩) := hR 0 _ rfl
                have hv1 : vs 1 = .slice (some ⟨g, o, none⟩) n ca := hR 1 _ rfl
                have hv2 : vs 2 = .int .i64 ((k : Int) + 1) := hR 2 _ rfl
                have hv3 : vs 3 = .int .i64 (k : Int) := hR 3 _ rfl
                have hv4 : vs 4 = .pointer (some ⟨g, o + k * 23, none⟩) := hR 4 _ rfl
                have hv5 : vs 5 = .agg ra := hR 5 _ rfl
                have hv6 : vs 6 = .pointer (some ⟨w.heap.size, 0, none⟩) := hR 6 _ rfl
                have hv7 : vs 7 = .slice (some ⟨g, o, none⟩) n ca := hR 7 _ rfl
                have hv8 : vs 8 = .int .i64 ((k : Int) + 1) := hR 8 _ rfl
                have hv9 : vs 9 = .pointer (some ⟨g, o + (k + 1) * 23, none⟩) := hR 9 _ rfl
                have hv10 : vs 10 = .agg rb := hR 10 _ rfl
                have hv11 : vs 11 = .bool (true) := hR 11 _ rfl
                have hv12 : vs 12 = .bool (false) := hR 12 _ rfl
                simp only [putAll, Act.put, List.setIfInBounds_toArray, List.set_cons_zero, List.set_cons_succ, hv0, hv1, hv2, hv3, hv4, hv5, hv6, hv7, hv8, hv9, hv10, hv11, hv12]
                clear hR hv0 hv1 hv2 hv3 hv4 hv5 hv6 hv7 hv8 hv9 hv10 hv11 hv12
                have U8 := Lib.hid (show Upd NoF wo2 W8 from (HU0.out.drew).trans hW8 (fun _ _ h => h))
                clear hW8 hL8 c00 c0
                go_wp2
                exact ⟨⟨k + 1, by go_num, .inr (by have := HN.out; omega), HCH.out, U8.out⟩, by simp [intOf]; omega⟩
              | false =>
                obtain ⟨g, o, Au, cu, Av, cv, rfl, r1, r2, r3, r4⟩ := (HV.out.keep (UW.out.trans hu (fun _ _ h => h))).two hx hy
                have FS := Lib.hid (HV.out.fit hx)
                have FT := Lib.hid (HV.out.fit hy)
                have c0 : wr.drew.cell? ⟨w.heap.size, 0, none⟩ = some (.slice (some ⟨g, o, none⟩) n ca) := (hu.blk BV.out (fun h => h)).cell 0
                have RA := Lib.hid (show ∀ wq, Upd NoF wr.drew wq → wq.rangeAt g (o + k * 23) (rowS s (.slice Au s.sig.length cu)) from fun wq hq j x hj => hq.cell (r1 j x hj) (fun h => h))
                have RB := Lib.hid (show ∀ wq, Upd NoF wr.drew wq → wq.rangeAt g (o + (k + 1) * 23) (rowS t (.slice Av t.sig.length cv)) from fun wq hq j x hj => hq.cell (r2 j x hj) (fun h => h))
                obtain ⟨ra, hra⟩ : ∃ z, (rowS s (.slice Au s.sig.length cu)).toArray = z := ⟨_, rfl⟩
                obtain ⟨rb, hrb⟩ : ∃ z, (rowS t (.slice Av t.sig.length cv)).toArray = z := ⟨_, rfl⟩
                have HRA := Lib.hid hra
                have HRB := Lib.hid hrb
                have CALL := Lib.hid (show ∀ wq, Upd NoF wr.drew wq → Calls Tryz.prog 33 #[.agg ra, .agg rb] wq (fun e w' => e = .returned (.bool (lessS s t)) ∧ Upd NoF wq w') from fun wq hq => by
                  rw [← hra, ← hrb]
                  exact rLessS_any FS.out FT.out wq (Rd.keep r3 ((((Upd.refl NoF wr).drew)).trans hq (fun _ _ h => h))) (Rd.keep r4 ((((Upd.refl NoF wr).drew)).trans hq (fun _ _ h => h))))
                clear r1 r2 r3 r4 hra hrb
                rw [hless] at CALL
                have HEN := Lib.hid (encode_ord HARG.out (by rw [OB.out, chainB_false (r := lessS) hx hy hless]; rfl))
                clear hx hy hch hless hu hu0
                go_wp2
                refine wp_region_rgw (rgR [isV (.pointer (some ⟨w.heap.size, 0, none⟩)), isV (.slice (some ⟨g, o, none⟩) n ca), isV (.int .i64 ((k : Int) + 1)), isV (.int .i64 (k : Int)), isV (.pointer (some ⟨g, o + k * 23, none⟩)), isV (.agg ra), isV (.pointer (some ⟨w.heap.size, 0, none⟩)), isV (.slice (some ⟨g, o, none⟩) n ca), isV (.int .i64 ((k : Int) + 1)), isV (.pointer (some ⟨g, o + (k + 1) * 23, none⟩)), isV (.agg rb), isV (.bool (false)), isV (.bool (true))]) (fun w w' => Upd NoF w w') (fun _ wq => Upd NoF wr.drew wq) (by kernel_rfl) (by kernel_rfl) (by kernel_rfl) (by rfl) (fun w => Upd.refl _ _) (rgR_keep (by
                  intro p hp; simp only [List.mem_cons, List.not_mem_nil, or_false] at hp; rcases hp with rfl | rfl | rfl | rfl | rfl | rfl | rfl | rfl | rfl | rfl | rfl | rfl | rfl <;> first | exact stb_isV _ | exact stb_any)) (Upd.refl _ _) ?_ ?_
                · refine ⟨?_, ?_, ?_, ?_, ?_, ?_, ?_, ?_, ?_, ?_, ?_, ?_, ?_, trivial⟩
                  · refine fun ρ w' L hW hLi hcl hd hdep hext hc hg hf => ?_
                    rw [if_pos (show wantedR _ _ _ = true from rfl)]
                    have e1 : ρ (.tmp 1) = .pointer (some ⟨w.heap.size, 0, none⟩) := hext 1 (by kernel_rfl)
                    clear hdep hext hcl
                    have HW := Lib.hid hW
                    clear hW
                    unfold OpDone
                    go_simp
                    exact ⟨rfl, Upd.refl _ _, HW.out⟩
                  · refine fun ρ w' L hW hLi hcl hd hdep hext hc hg hf => ?_
                    rw [if_pos (show wantedR _ _ _ = true from rfl)]
                    have e72 : ρ (.tmp 72) = .pointer (some ⟨w.heap.size, 0, none⟩) := hdep 0 _ rfl (by kernel_rfl)
                    have xx : w'.cell? ⟨w.heap.size, 0, none⟩ = some (.slice (some ⟨g, o, none⟩) n ca) := hW.cell c0 (fun h => h)
                    clear hdep hext hcl
                    have HW := Lib.hid hW
                    clear hW
                    unfold OpDone
                    go_simp
                    exact ⟨rfl, Upd.refl _ _, HW.out⟩
                  · refine fun ρ w' L hW hLi hcl hd hdep hext hc hg hf => ?_
                    rw [if_pos (show wantedR _ _ _ = true from rfl)]
                    have e11 : ρ (.tmp 11) = .int .i64 ((k : Int) + 1) := hext 11 (by kernel_rfl)
                    clear hdep hext hcl
                    have HW := Lib.hid hW
                    clear hW
                    unfold OpDone
                    go_simp
                    exact ⟨rfl, Upd.refl _ _, HW.out⟩
                  · refine fun ρ w' L hW hLi hcl hd hdep hext hc hg hf => ?_
                    rw [if_pos (show wantedR _ _ _ = true from rfl)]
                    have e74 : ρ (.tmp 74) = .int .i64 ((k : Int) + 1) := hdep 2 _ rfl (by kernel_rfl)
                    have ww : IntKind.i64.wrap (k : Int) = k := IntWalk.i64_in _ (by omega)
                    clear hdep hext hcl
                    have HW := Lib.hid hW
                    clear hW
                    unfold OpDone
                    go_simp
                    exact ⟨rfl, Upd.refl _ _, HW.out⟩
                  · refine fun ρ w' L hW hLi hcl hd hdep hext hc hg hf => ?_
                    rw [if_pos (show wantedR _ _ _ = true from rfl)]
                    have e73 : ρ (.tmp 73) = .slice (some ⟨g, o, none⟩) n ca := hdep 1 _ rfl (by kernel_rfl)
                    have e75 : ρ (.tmp 75) = .int .i64 (k : Int) := hdep 3 _ rfl (by kernel_rfl)
                    have q0 : (0 : Int) ≤ (k : Int) := by omega
                    have q1 : (k : Int) < (n : Int) := by omega
                    have q2 : k < n := by omega
                    clear hdep hext hcl
                    have HW := Lib.hid hW
                    clear hW
                    unfold OpDone
                    go_simp
                    exact ⟨rfl, Upd.refl _ _, HW.out⟩
                  · refine fun ρ w' L hW hLi hcl hd hdep hext hc hg hf => ?_
                    rw [if_pos (show wantedR _ _ _ = true from rfl)]
                    have e76 : ρ (.tmp 76) = .pointer (some ⟨g, o + k * 23, none⟩) := hdep 4 _ rfl (by kernel_rfl)
                    clear hdep hext
                    refine od_load_row 57 (.tmp 76) rfl g (o + k * 23) e76 (rowS s (.slice Au s.sig.length cu)) _ (RA.out w' hW) Tryz.underlying57 rfl (by rw [signed_size, rowS_len FS.out]) ?_
                    rw [HRA.out]
                    exact ⟨rfl, Upd.refl _ _, hW⟩
                  · refine fun ρ w' L hW hLi hcl hd hdep hext hc hg hf => ?_
                    rw [if_pos (show wantedR _ _ _ = true from rfl)]
                    have e1 : ρ (.tmp 1) = .pointer (some ⟨w.heap.size, 0, none⟩) := hext 1 (by kernel_rfl)
                    clear hdep hext hcl
                    have HW := Lib.hid hW
                    clear hW
                    unfold OpDone
                    go_simp
                    exact ⟨rfl, Upd.refl _ _, HW.out⟩
                  · refine fun ρ w' L hW hLi hcl hd hdep hext hc hg hf => ?_
                    rw [if_pos (show wantedR _ _ _ = true from rfl)]
                    have e78 : ρ (.tmp 78) = .pointer (some ⟨w.heap.size, 0, none⟩) := hdep 6 _ rfl (by kernel_rfl)
                    have xx : w'.cell? ⟨w.heap.size, 0, none⟩ = some (.slice (some ⟨g, o, none⟩) n ca) := hW.cell c0 (fun h => h)
                    clear hdep hext hcl
                    have HW := Lib.hid hW
                    clear hW
                    unfold OpDone
                    go_simp
                    exact ⟨rfl, Upd.refl _ _, HW.out⟩
                  · refine fun ρ w' L hW hLi hcl hd hdep hext hc hg hf => ?_
                    rw [if_pos (show wantedR _ _ _ = true from rfl)]
                    have e11 : ρ (.tmp 11) = .int .i64 ((k : Int) + 1) := hext 11 (by kernel_rfl)
                    clear hdep hext hcl
                    have HW := Lib.hid hW
                    clear hW
                    unfold OpDone
                    go_simp
                    exact ⟨rfl, Upd.refl _ _, HW.out⟩
                  · refine fun ρ w' L hW hLi hcl hd hdep hext hc hg hf => ?_
                    rw [if_pos (show wantedR _ _ _ = true from rfl)]
                    have e79 : ρ (.tmp 79) = .slice (some ⟨g, o, none⟩) n ca := hdep 7 _ rfl (by kernel_rfl)
                    have e80 : ρ (.tmp 80) = .int .i64 ((k : Int) + 1) := hdep 8 _ rfl (by kernel_rfl)
                    have q0 : (0 : Int) ≤ (k : Int) + 1 := by omega
                    have q1 : (k : Int) + 1 < (n : Int) := by omega
                    have q3 : ((k : Int) + 1).toNat = k + 1 := by omega
                    have q2 : k + 1 < n := by omega
                    clear hdep hext hcl
                    have HW := Lib.hid hW
                    clear hW
                    unfold OpDone
                    go_simp
                    exact ⟨rfl, Upd.refl _ _, HW.out⟩
                  · refine fun ρ w' L hW hLi hcl hd hdep hext hc hg hf => ?_
                    rw [if_pos (show wantedR _ _ _ = true from rfl)]
                    have e81 : ρ (.tmp 81) = .pointer (some ⟨g, o + (k + 1) * 23, none⟩) := hdep 9 _ rfl (by kernel_rfl)
                    clear hdep hext
                    refine od_load_row 57 (.tmp 81) rfl g (o + (k + 1) * 23) e81 (rowS t (.slice Av t.sig.length cv)) _ (RB.out w' hW) Tryz.underlying57 rfl (by rw [signed_size, rowS_len FT.out]) ?_
                    rw [HRB.out]
                    exact ⟨rfl, Upd.refl _ _, hW⟩
                  · refine fun ρ w' L hW hLi hcl hd hdep hext hc hg hf => ?_
                    rw [if_pos (show wantedR _ _ _ = true from rfl)]
                    have e77 : ρ (.tmp 77) = .agg ra := hdep 5 _ rfl (by kernel_rfl)
                    have e82 : ρ (.tmp 82) = .agg rb := hdep 10 _ rfl (by kernel_rfl)
                    clear hdep hext
                    have CL := Lib.hid (CALL.out w' hW)
                    have HW := Lib.hid hW
                    clear hW
                    unfold OpDone
                    go_simp
                    refine CL.out.mono ?_
                    rintro e w5 ⟨rfl, hu5⟩
                    exact ⟨_, rfl, rfl, hu5, HW.out.trans hu5 (fun _ _ f => f)⟩
                  · refine fun ρ w' L hW hLi hcl hd hdep hext hc hg hf => ?_
                    rw [if_pos (show wantedR _ _ _ = true from rfl)]
                    have e83 : ρ (.tmp 83) = .bool (false) := hdep 11 _ rfl (by kernel_rfl)
                    clear hdep hext hcl
                    have HW := Lib.hid hW
                    clear hW
                    unfold OpDone
                    go_simp
                    exact ⟨rfl, Upd.refl _ _, HW.out⟩
                intro vs W8 L8 hL8 hW8 hR
                have hv0 : vs 0 = .pointer (some ⟨w.heap.size, 0, none⟩) := hR 0 _ rfl
                have hv1 : vs 1 = .slice (some ⟨g, o, none⟩) n ca := hR 1 _ rfl
                have hv2 : vs 2 = .int .i64 ((k : Int) + 1) := hR 2 _ rfl
                have hv3 : vs 3 = .int .i64 (k : Int) := hR 3 _ rfl
                have hv4 : vs 4 = .pointer (some ⟨g, o + k * 23, none⟩) := hR 4 _ rfl
                have hv5 : vs 5 = .agg ra := hR 5 _ rfl
                have hv6 : vs 6 = .pointer (some ⟨w.heap.size, 0, none⟩) := hR 6 _ rfl
                have hv7 : vs 7 = .slice (some ⟨g, o, none⟩) n ca := hR 7 _ rfl
                have hv8 : vs 8 = .int .i64 ((k : Int) + 1) := hR 8 _ rfl
                have hv9 : vs 9 = .pointer (some ⟨g, o + (k + 1) * 23, none⟩) := hR 9 _ rfl
                have hv10 : vs 10 = .agg rb := hR 10 _ rfl
                have hv11 : vs 11 = .bool (false) := hR 11 _ rfl
                have hv12 : vs 12 = .bool (true) := hR 12 _ rfl
                simp only [putAll, Act.put, List.setIfInBounds_toArray, List.set_cons_zero, List.set_cons_succ, hv0, hv1, hv2, hv3, hv4, hv5, hv6, hv7, hv8, hv9, hv10, hv11, hv12]
                clear hR hv0 hv1 hv2 hv3 hv4 hv5 hv6 hv7 hv8 hv9 hv10 hv11 hv12
                have U8 := Lib.hid (show Upd NoF wo2 W8 from (HU0.out.drew).trans hW8 (fun _ _ h => h))
                clear hW8 hL8 c00 c0
                go_wp2
                go_ret2
                rw [HEN.out]
                exact ⟨none, 0, rfl, encNil _ _ (UW.out.trans (HE.out.2.2.trans U8.out (fun _ _ h => h)) (fun _ _ h => h))⟩
            · have t1 : decide ((k : Int) + 1 < (n : Int)) = false := by simp; omega
              have HCV := Lib.hid (chain_end hch (by omega))
              have HU0 := Lib.hid hu0
              clear hnn hch hu hu0
              go_wp2
              obtain ⟨wo3, rfl⟩ : ∃ wo : World, wo = wr := ⟨_, rfl⟩
              clear c00
              go_loopw [12] (fun i wr => OrdRel lessT V.texts wo3 i wr) (fun i _ => m + 1 - (intOf i).toNat)
              case atStart => exact ⟨0, rfl, .inl rfl, fun j _ _ h => absurd h (by omega), Upd.refl _ _⟩
              case round =>
                clear t1 hlt hk
                obtain ⟨k, rfl, hk, hch, hu1⟩ := hrel
                have hu := (HE.out.2.2.trans HU0.out (fun _ _ h => h)).trans hu1 (fun _ _ h => h)
                have c11 : wr.cell? ⟨w.heap.size, 1, none⟩ = some (.slice B m cb) := (hu.blk BV.out (fun h => h)).cell 1
                have hnn := HM.out
                by_cases hlt : k + 1 < m
                · obtain ⟨s, hx⟩ : ∃ x, V.texts[k]? = some x := ⟨_, List.getElem?_eq_getElem (by omega)⟩
                  obtain ⟨t, hy⟩ : ∃ x, V.texts[k + 1]? = some x := ⟨_, List.getElem?_eq_getElem (by omega)⟩
                  have t1 : decide ((k : Int) + 1 < (m : Int)) = true := by simp; omega
                  have HU1 := Lib.hid hu1
                  clear hnn
                  cases hless : lessT s t with
                  | true =>
                    obtain ⟨g, o, Au, cu, Av, cv, rfl, r1, r2, r3, r4⟩ := (HT.out.keep (UW.out.trans hu (fun _ _ h => h))).two hx hy
                    have c1 : wr.drew.cell? ⟨w.heap.size, 1, none⟩ = some (.slice (some ⟨g, o, none⟩) m cb) := (hu.blk BV.out (fun h => h)).cell 1
                    have XA := Lib.hid (show wr.drew.cell? ⟨g, o + k, none⟩ = some (.slice Au s.length cu) from r1)
                    have XB := Lib.hid (show wr.drew.cell? ⟨g, o + (k + 1), none⟩ = some (.slice Av t.length cv) from r2)
                    have STA := Lib.hid (show ∀ wq, Upd NoF wr.drew wq → (convert 28 9 (.slice Au s.length cu)).run Tryz.prog wq = .ok (strV s) wq from fun wq hq => run_str (Rd.keep r3 ((((Upd.refl NoF wr).drew)).trans hq (fun _ _ h => h))))
                    have STB := Lib.hid (show ∀ wq, Upd NoF wr.drew wq → (convert 28 9 (.slice Av t.length cv)).run Tryz.prog wq = .ok (strV t) wq from fun wq hq => run_str (Rd.keep r4 ((((Upd.refl NoF wr).drew)).trans hq (fun _ _ h => h))))
                    clear r1 r2 r3 r4
                    have GEQ := Lib.hid (fun (_ : World) => (show Op.bytesLess s t = true from hless))
                    have HCH := Lib.hid (chain_next hch hx hy hless)
                    clear hx hy hch hless hu hu1
                    go_wp2
                    refine wp_region_rgw (rgR [isV (.pointer (some ⟨w.heap.size, 1, none⟩)), isV (.slice (some ⟨g, o, none⟩) m cb), isV (.int .i64 ((k : Int) + 1)), isV (.int .i64 (k : Int)), isV (.pointer (some ⟨g, o + k, none⟩)), isV (.slice Au s.length cu), isV (strV s), isV (.pointer (some ⟨w.heap.size, 1, none⟩)), isV (.slice (some ⟨g, o, none⟩) m cb), isV (.int .i64 ((k : Int) + 1)), isV (.pointer (some ⟨g, o + (k + 1), none⟩)), isV (.slice Av t.length cv), isV (strV t), isV (.bool (false))]) (fun w w' => Upd NoF w w') (fun _ wq => Upd NoF wr.drew wq) (by kernel_rfl) (by kernel_rfl) (by kernel_rfl) (by rfl) (fun w => Upd.refl _ _) (rgR_keep (by
                      intro p hp; simp only [List.mem_cons, List.not_mem_nil, or_false] at hp; rcases hp with rfl | rfl | rfl | rfl | rfl | rfl | rfl | rfl | rfl | rfl | rfl | rfl | rfl | rfl <;> first | exact stb_isV _ | exact stb_any)) (Upd.refl _ _) ?_ ?_
                    · refine ⟨?_, ?_, ?_, ?_, ?_, ?_, ?_, ?_, ?_, ?_, ?_, ?_, ?_, ?_, trivial⟩
                      · refine fun ρ w' L hW hLi hcl hd hdep hext hc hg hf => ?_
                        rw [if_pos (show wantedR _ _ _ = true from rfl)]
                        have e1 : ρ (.tmp 1) = .pointer (some ⟨w.heap.size, 0, none⟩) := hext 1 (by kernel_rfl)
                        clear hdep hext hcl
                        have HW := Lib.hid hW
                        clear hW
                        unfold OpDone
                        go_simp
                        exact ⟨rfl, Upd.refl _ _, HW.out⟩
                      · refine fun ρ w' L hW hLi hcl hd hdep hext hc hg hf => ?_
                        rw [if_pos (show wantedR _ _ _ = true from rfl)]
                        have e92 : ρ (.tmp 92) = .pointer (some ⟨w.heap.size, 1, none⟩) := hdep 0 _ rfl (by kernel_rfl)
                        have xx : w'.cell? ⟨w.heap.size, 1, none⟩ = some (.slice (some ⟨g, o, none⟩) m cb) := hW.cell c1 (fun h => h)
                        clear hdep hext hcl
                        have HW := Lib.hid hW
                        clear hW
                        unfold OpDone
                        go_simp
                        exact ⟨rfl, Upd.refl _ _, HW.out⟩
                      · refine fun ρ w' L hW hLi hcl hd hdep hext hc hg hf => ?_
                        rw [if_pos (show wantedR _ _ _ = true from rfl)]
                        have e12 : ρ (.tmp 12) = .int .i64 ((k : Int) + 1) := hext 12 (by kernel_rfl)
                        clear hdep hext hcl
                        have HW := Lib.hid hW
                        clear hW
                        unfold OpDone
                        go_simp
                        exact ⟨rfl, Upd.refl _ _, HW.out⟩
                      · refine fun ρ w' L hW hLi hcl hd hdep hext hc hg hf => ?_
                        rw [if_pos (show wantedR _ _ _ = true from rfl)]
                        have e94 : ρ (.tmp 94) = .int .i64 ((k : Int) + 1) := hdep 2 _ rfl (by kernel_rfl)
                        have ww : IntKind.i64.wrap (k : Int) = k := IntWalk.i64_in _ (by omega)
                        clear hdep hext hcl
                        have HW := Lib.hid hW
                        clear hW
                        unfold OpDone
                        go_simp
                        exact ⟨rfl, Upd.refl _ _, HW.out⟩
                      · refine fun ρ w' L hW hLi hcl hd hdep hext hc hg hf => ?_
                        rw [if_pos (show wantedR _ _ _ = true from rfl)]
                        have e93 : ρ (.tmp 93) = .slice (some ⟨g, o, none⟩) m cb := hdep 1 _ rfl (by kernel_rfl)
                        have e95 : ρ (.tmp 95) = .int .i64 (k : Int) := hdep 3 _ rfl (by kernel_rfl)
                        have q0 : (0 : Int) ≤ (k : Int) := by omega
                        have q1 : (k : Int) < (m : Int) := by omega
                        have q2 : k < m := by omega
                        clear hdep hext hcl
                        have HW := Lib.hid hW
                        clear hW
                        unfold OpDone
                        go_simp
                        exact ⟨rfl, Upd.refl _ _, HW.out⟩
                      · refine fun ρ w' L hW hLi hcl hd hdep hext hc hg hf => ?_
                        rw [if_pos (show wantedR _ _ _ = true from rfl)]
                        have e96 : ρ (.tmp 96) = .pointer (some ⟨g, o + k, none⟩) := hdep 4 _ rfl (by kernel_rfl)
                        have yy : w'.cell? ⟨g, o + k, none⟩ = some (.slice Au s.length cu) := hW.cell XA.out (fun h => h)
                        clear hdep hext hcl
                        have HW := Lib.hid hW
                        clear hW
                        unfold OpDone
                        go_simp
                        exact ⟨rfl, Upd.refl _ _, HW.out⟩
                      · refine fun ρ w' L hW hLi hcl hd hdep hext hc hg hf => ?_
                        rw [if_pos (show wantedR _ _ _ = true from rfl)]
                        have e97 : ρ (.tmp 97) = .slice Au s.length cu := hdep 5 _ rfl (by kernel_rfl)
                        have kk := STA.out w' hW
                        clear hdep hext hcl
                        have HW := Lib.hid hW
                        clear hW
                        unfold OpDone
                        go_simp
                        exact ⟨rfl, Upd.refl _ _, HW.out⟩
                      · refine fun ρ w' L hW hLi hcl hd hdep hext hc hg hf => ?_
                        rw [if_pos (show wantedR _ _ _ = true from rfl)]
                        have e1 : ρ (.tmp 1) = .pointer (some ⟨w.heap.size, 0, none⟩) := hext 1 (by kernel_rfl)
                        clear hdep hext hcl
                        have HW := Lib.hid hW
                        clear hW
                        unfold OpDone
                        go_simp
                        exact ⟨rfl, Upd.refl _ _, HW.out⟩
                      · refine fun ρ w' L hW hLi hcl hd hdep hext hc hg hf => ?_
                        rw [if_pos (show wantedR _ _ _ = true from rfl)]
                        have e99 : ρ (.tmp 99) = .pointer (some ⟨w.heap.size, 1, none⟩) := hdep 7 _ rfl (by kernel_rfl)
                        have xx : w'.cell? ⟨w.heap.size, 1, none⟩ = some (.slice (some ⟨g, o, none⟩) m cb) := hW.cell c1 (fun h => h)
                        clear hdep hext hcl
                        have HW := Lib.hid hW
                        clear hW
                        unfold OpDone
                        go_simp
                        exact ⟨rfl, Upd.refl _ _, HW.out⟩
                      · refine fun ρ w' L hW hLi hcl hd hdep hext hc hg hf => ?_
                        rw [if_pos (show wantedR _ _ _ = true from rfl)]
                        have e12 : ρ (.tmp 12) = .int .i64 ((k : Int) + 1) := hext 12 (by kernel_rfl)
                        clear hdep hext hcl
                        have HW := Lib.hid hW
                        clear hW
                        unfold OpDone
                        go_simp
                        exact ⟨rfl, Upd.refl _ _, HW.out⟩
                      · refine fun ρ w' L hW hLi hcl hd hdep hext hc hg hf => ?_
                        rw [if_pos (show wantedR _ _ _ = true from rfl)]
                        have e100 : ρ (.tmp 100) = .slice (some ⟨g, o, none⟩) m cb := hdep 8 _ rfl (by kernel_rfl)
                        have e101 : ρ (.tmp 101) = .int .i64 ((k : Int) + 1) := hdep 9 _ rfl (by kernel_rfl)
                        have q0 : (0 : Int) ≤ (k : Int) + 1 := by omega
                        have q1 : (k : Int) + 1 < (m : Int) := by omega
                        have q3 : ((k : Int) + 1).toNat = k + 1 := by omega
                        have q2 : k + 1 < m := by omega
                        clear hdep hext hcl
                        have HW := Lib.hid hW
                        clear hW
                        unfold OpDone
                        go_simp
                        exact ⟨rfl, Upd.refl _ _, HW.out⟩
                      · refine fun ρ w' L hW hLi hcl hd hdep hext hc hg hf => ?_
                        rw [if_pos (show wantedR _ _ _ = true from rfl)]
                        have e102 : ρ (.tmp 102) = .pointer (some ⟨g, o + (k + 1), none⟩) := hdep 10 _ rfl (by kernel_rfl)
                        have yy : w'.cell? ⟨g, o + (k + 1), none⟩ = some (.slice Av t.length cv) := hW.cell XB.out (fun h => h)
                        clear hdep hext hcl
                        have HW := Lib.hid hW
                        clear hW
                        unfold OpDone
                        go_simp
                        exact ⟨rfl, Upd.refl _ _, HW.out⟩
                      · refine fun ρ w' L hW hLi hcl hd hdep hext hc hg hf => ?_
                        rw [if_pos (show wantedR _ _ _ = true from rfl)]
                        have e103 : ρ (.tmp 103) = .slice Av t.length cv := hdep 11 _ rfl (by kernel_rfl)
                        have kk := STB.out w' hW
                        clear hdep hext hcl
                        have HW := Lib.hid hW
                        clear hW
                        unfold OpDone
                        go_simp
                        exact ⟨rfl, Upd.refl _ _, HW.out⟩
                      · refine fun ρ w' L hW hLi hcl hd hdep hext hc hg hf => ?_
                        rw [if_pos (show wantedR _ _ _ = true from rfl)]
                        have e98 : ρ (.tmp 98) = strV s := hdep 6 _ rfl (by kernel_rfl)
                        have e104 : ρ (.tmp 104) = strV t := hdep 12 _ rfl (by kernel_rfl)
                        have gg := GEQ.out w'
                        clear hdep hext hcl
                        have HW := Lib.hid hW
                        clear hW
                        unfold OpDone
                        go_simp
                        exact ⟨rfl, Upd.refl _ _, HW.out⟩
                    intro vs W8 L8 hL8 hW8 hR
                    have hv0 : vs 0 = .pointer (some ⟨w.heap.size, 1, none⟩) := hR 0 _ rfl
                    have hv1 : vs 1 = .slice (some ⟨g, o, none⟩) m cb := hR 1 _ rfl
                    have hv2 : vs 2 = .int .i64 ((k : Int) + 1) := hR 2 _ rfl
                    have hv3 : vs 3 = .int .i64 (k : Int) := hR 3 _ rfl
                    have hv4 : vs 4 = .pointer (some ⟨g, o + k, none⟩) := hR 4 _ rfl
                    have hv5 : vs 5 = .slice Au s.length cu := hR 5 _ rfl
                    have hv6 : vs 6 = strV s := hR 6 _ rfl
                    have hv7 : vs 7 = .pointer (some ⟨w.heap.size, 1, none⟩) := hR 7 _ rfl
                    have hv8 : vs 8 = .slice (some ⟨g, o, none⟩) m cb := hR 8 _ rfl
                    have hv9 : vs 9 = .int .i64 ((k : Int) + 1) := hR 9 _ rfl
                    have hv10 : vs 10 = .pointer (some ⟨g, o + (k + 1), none⟩) := hR 10 _ rfl
                    have hv11 : vs 11 = .slice Av t.length cv := hR 11 _ rfl
                    have hv12 : vs 12 = strV t := hR 12 _ rfl
                    have hv13 : vs 13 = .bool (false) := hR 13 _ rfl
                    simp only [putAll, Act.put, List.setIfInBounds_toArray, List.set_cons_zero, List.set_cons_succ, hv0, hv1, hv2, hv3, hv4, hv5, hv6, hv7, hv8, hv9, hv10, hv11, hv12, hv13]
                    clear hR hv0 hv1 hv2 hv3 hv4 hv5 hv6 hv7 hv8 hv9 hv10 hv11 hv12 hv13
                    have U8 := Lib.hid (show Upd NoF wo3 W8 from (HU1.out.drew).trans hW8 (fun _ _ h => h))
                    clear hW8 hL8 c11 c1
                    go_wp2
                    exact ⟨⟨k + 1, by go_num, .inr (by have := HM.out; omega), HCH.out, U8.out⟩, by simp [intOf]; omega⟩
                  | false =>
                    obtain ⟨g, o, Au, cu, Av, cv, rfl, r1, r2, r3, r4⟩ := (HT.out.keep (UW.out.trans hu (fun _ _ h => h))).two hx hy
                    have c1 : wr.drew.cell? ⟨w.heap.size, 1, none⟩ = some (.slice (some ⟨g, o, none⟩) m cb) := (hu.blk BV.out (fun h => h)).cell 1
                    have XA := Lib.hid (show wr.drew.cell? ⟨g, o + k, none⟩ = some (.slice Au s.length cu) from r1)
                    have XB := Lib.hid (show wr.drew.cell? ⟨g, o + (k + 1), none⟩ = some (.slice Av t.length cv) from r2)
                    have STA := Lib.hid (show ∀ wq, Upd NoF wr.drew wq → (convert 28 9 (.slice Au s.length cu)).run Tryz.prog wq = .ok (strV s) wq from fun wq hq => run_str (Rd.keep r3 ((((Upd.refl NoF wr).drew)).trans hq (fun _ _ h => h))))
                    have STB := Lib.hid (show ∀ wq, Upd NoF wr.drew wq → (convert 28 9 (.slice Av t.length cv)).run Tryz.prog wq = .ok (strV t) wq from fun wq hq => run_str (Rd.keep r4 ((((Upd.refl NoF wr).drew)).trans hq (fun _ _ h => h))))
                    clear r1 r2 r3 r4
                    have GEQ := Lib.hid (fun (_ : World) => (show Op.bytesLess s t = false from hless))
                    have HEN := Lib.hid (encode_ord HARG.out (by rw [OB.out, chainB_false (r := lessT) hx hy hless]; simp))
                    clear hx hy hch hless hu hu1
                    go_wp2
                    refine wp_region_rgw (rgR [isV (.pointer (some ⟨w.heap.size, 1, none⟩)), isV (.slice (some ⟨g, o, none⟩) m cb), isV (.int .i64 ((k : Int) + 1)), isV (.int .i64 (k : Int)), isV (.pointer (some ⟨g, o + k, none⟩)), isV (.slice Au s.length cu), isV (strV s), isV (.pointer (some ⟨w.heap.size, 1, none⟩)), isV (.slice (some ⟨g, o, none⟩) m cb), isV (.int .i64 ((k : Int) + 1)), isV (.pointer (some ⟨g, o + (k + 1), none⟩)), isV (.slice Av t.length cv), isV (strV t), isV (.bool (true))]) (fun w w' => Upd NoF w w') (fun _ wq => Upd NoF wr.drew wq) (by kernel_rfl) (by kernel_rfl) (by kernel_rfl) (by rfl) (fun w => Upd.refl _ _) (rgR_keep (by
                      intro p hp; simp only [List.mem_cons, List.not_mem_nil, or_false] at hp; rcases hp with rfl | rfl | rfl | rfl | rfl | rfl | rfl | rfl | rfl | rfl | rfl | rfl | rfl | rfl <;> first | exact stb_isV _ | exact stb_any)) (Upd.refl _ _) ?_ ?_
                    · refine ⟨?_, ?_, ?_, ?_, ?_, ?_, ?_, ?_, ?_, ?_, ?_, ?_, ?_, ?_, trivial⟩
                      · refine fun ρ w' L hW hLi hcl hd hdep hext hc hg hf => ?_
                        rw [if_pos (show wantedR _ _ _ = true from rfl)]
                        have e1 : ρ (.tmp 1) = .pointer (some ⟨w.heap.size, 0, none⟩) := hext 1 (by kernel_rfl)
                        clear hdep hext hcl
                        have HW := Lib.hid hW
                        clear hW
                        unfold OpDone
                        go_simp
                        exact ⟨rfl, Upd.refl _ _, HW.out⟩
                      · refine fun ρ w' L hW hLi hcl hd hdep hext hc hg hf => ?_
                        rw [if_pos (show wantedR _ _ _ = true from rfl)]
                        have e92 : ρ (.tmp 92) = .pointer (some ⟨w.heap.size, 1, none⟩) := hdep 0 _ rfl (by kernel_rfl)
                        have xx : w'.cell? ⟨w.heap.size, 1, none⟩ = some (.slice (some ⟨g, o, none⟩) m cb) := hW.cell c1 (fun h => h)
                        clear hdep hext hcl
                        have HW := Lib.hid hW
                        clear hW
                        unfold OpDone
                        go_simp
                        exact ⟨rfl, Upd.refl _ _, HW.out⟩
                      · refine fun ρ w' L hW hLi hcl hd hdep hext hc hg hf => ?_
                        rw [if_pos (show wantedR _ _ _ = true from rfl)]
                        have e12 : ρ (.tmp 12) = .int .i64 ((k : Int) + 1) := hext 12 (by kernel_rfl)
                        clear hdep hext hcl
                        have HW := Lib.hid hW
                        clear hW
                        unfold OpDone
                        go_simp
                        exact ⟨rfl, Upd.refl _ _, HW.out⟩
                      · refine fun ρ w' L hW hLi hcl hd hdep hext hc hg hf => ?_
                        rw [if_pos (show wantedR _ _ _ = true from rfl)]
                        have e94 : ρ (.tmp 94) = .int .i64 ((k : Int) + 1) := hdep 2 _ rfl (by kernel_rfl)
                        have ww : IntKind.i64.wrap (k : Int) = k := IntWalk.i64_in _ (by omega)
                        clear hdep hext hcl
                        have HW := Lib.hid hW
                        clear hW
                        unfold OpDone
                        go_simp
                        exact ⟨rfl, Upd.refl _ _, HW.out⟩
                      · refine fun ρ w' L hW hLi hcl hd hdep hext hc hg hf => ?_
                        rw [if_pos (show wantedR _ _ _ = true from rfl)]
                        have e93 : ρ (.tmp 93) = .slice (some ⟨g, o, none⟩) m cb := hdep 1 _ rfl (by kernel_rfl)
                        have e95 : ρ (.tmp 95) = .int .i64 (k : Int) := hdep 3 _ rfl (by kernel_rfl)
                        have q0 : (0 : Int) ≤ (k : Int) := by omega
                        have q1 : (k : Int) < (m : Int) := by omega
                        have q2 : k < m := by omega
                        clear hdep hext hcl
                        have HW := Lib.hid hW
                        clear hW
                        unfold OpDone
                        go_simp
                        exact ⟨rfl, Upd.refl _ _, HW.out⟩
                      · refine fun ρ w' L hW hLi hcl hd hdep hext hc hg hf => ?_
                        rw [if_pos (show wantedR _ _ _ = true from rfl)]
                        have e96 : ρ (.tmp 96) = .pointer (some ⟨g, o + k, none⟩) := hdep 4 _ rfl (by kernel_rfl)
                        have yy : w'.cell? ⟨g, o + k, none⟩ = some (.slice Au s.length cu) := hW.cell XA.out (fun h => h)
                        clear hdep hext hcl
                        have HW := Lib.hid hW
                        clear hW
                        unfold OpDone
                        go_simp
                        exact ⟨rfl, Upd.refl _ _, HW.out⟩
                      · refine fun ρ w' L hW hLi hcl hd hdep hext hc hg hf => ?_
                        rw [if_pos (show wantedR _ _ _ = true from rfl)]
                        have e97 : ρ (.tmp 97) = .slice Au s.length cu := hdep 5 _ rfl (by kernel_rfl)
                        have kk := STA.out w' hW
                        clear hdep hext hcl
                        have HW := Lib.hid hW
                        clear hW
                        unfold OpDone
                        go_simp
                        exact ⟨rfl, Upd.refl _ _, HW.out⟩
                      · refine fun ρ w' L hW hLi hcl hd hdep hext hc hg hf => ?_
                        rw [if_pos (show wantedR _ _ _ = true from rfl)]
                        have e1 : ρ (.tmp 1) = .pointer (some ⟨w.heap.size, 0, none⟩) := hext 1 (by kernel_rfl)
                        clear hdep hext hcl
                        have HW := Lib.hid hW
                        clear hW
                        unfold OpDone
                        go_simp
                        exact ⟨rfl, Upd.refl _ _, HW.out⟩
                      · refine fun ρ w' L hW hLi hcl hd hdep hext hc hg hf => ?_
                        rw [if_pos (show wantedR _ _ _ = true from rfl)]
                        have e99 : ρ (.tmp 99) = .pointer (some ⟨w.heap.size, 1, none⟩) := hdep 7 _ rfl (by kernel_rfl)
                        have xx : w'.cell? ⟨w.heap.size, 1, none⟩ = some (.slice (some ⟨g, o, none⟩) m cb) := hW.cell c1 (fun h => h)
                        clear hdep hext hcl
                        have HW := Lib.hid hW
                        clear hW
                        unfold OpDone
                        go_simp
                        exact ⟨rfl, Upd.refl _ _, HW.out⟩
                      · refine fun ρ w' L hW hLi hcl hd hdep hext hc hg hf => ?_
                        rw [if_pos (show wantedR _ _ _ = true from rfl)]
                        have e12 : ρ (.tmp 12) = .int .i64 ((k : Int) + 1) := hext 12 (by kernel_rfl)
                        clear hdep hext hcl
                        have HW := Lib.hid hW
                        clear hW
                        unfold OpDone
                        go_simp
                        exact ⟨rfl, Upd.refl _ _, HW.out⟩
                      · refine fun ρ w' L hW hLi hcl hd hdep hext hc hg hf => ?_
                        rw [if_pos (show wantedR _ _ _ = true from rfl)]
                        have e100 : ρ (.tmp 100) = .slice (some ⟨g, o, none⟩) m cb := hdep 8 _ rfl (by kernel_rfl)
                        have e101 : ρ (.tmp 101) = .int .i64 ((k : Int) + 1) := hdep 9 _ rfl (by kernel_rfl)
                        have q0 : (0 : Int) ≤ (k : Int) + 1 := by omega
                        have q1 : (k : Int) + 1 < (m : Int) := by omega
                        have q3 : ((k : Int) + 1).toNat = k + 1 := by omega
                        have q2 : k + 1 < m := by omega
                        clear hdep hext hcl
                        have HW := Lib.hid hW
                        clear hW
                        unfold OpDone
                        go_simp
                        exact ⟨rfl, Upd.refl _ _, HW.out⟩
                      · refine fun ρ w' L hW hLi hcl hd hdep hext hc hg hf => ?_
                        rw [if_pos (show wantedR _ _ _ = true from rfl)]
                        have e102 : ρ (.tmp 102) = .pointer (some ⟨g, o + (k + 1), none⟩) := hdep 10 _ rfl (by kernel_rfl)
                        have yy : w'.cell? ⟨g, o + (k + 1), none⟩ = some (.slice Av t.length cv) := hW.cell XB.out (fun h => h)
                        clear hdep hext hcl
                        have HW := Lib.hid hW
                        clear hW
                        unfold OpDone
                        go_simp
                        exact ⟨rfl, Upd.refl _ _, HW.out⟩
                      · refine fun ρ w' L hW hLi hcl hd hdep hext hc hg hf => ?_
                        rw [if_pos (show wantedR _ _ _ = true from rfl)]
                        have e103 : ρ (.tmp 103) = .slice Av t.length cv := hdep 11 _ rfl (by kernel_rfl)
                        have kk := STB.out w' hW
                        clear hdep hext hcl
                        have HW := Lib.hid hW
                        clear hW
                        unfold OpDone
                        go_simp
                        exact ⟨rfl, Upd.refl _ _, HW.out⟩
                      · refine fun ρ w' L hW hLi hcl hd hdep hext hc hg hf => ?_
                        rw [if_pos (show wantedR _ _ _ = true from rfl)]
                        have e98 : ρ (.tmp 98) = strV s := hdep 6 _ rfl (by kernel_rfl)
                        have e104 : ρ (.tmp 104) = strV t := hdep 12 _ rfl (by kernel_rfl)
                        have gg := GEQ.out w'
                        clear hdep hext hcl
                        have HW := Lib.hid hW
                        clear hW
                        unfold OpDone
                        go_simp
                        exact ⟨rfl, Upd.refl _ _, HW.out⟩
                    intro vs W8 L8 hL8 hW8 hR
                    have hv0 : vs 0 = .pointer (some ⟨w.heap.size, 1, none⟩) := hR 0 _ rfl
                    have hv1 : vs 1 = .slice (some ⟨g, o, none⟩) m cb := hR 1 _ rfl
                    have hv2 : vs 2 = .int .i64 ((k : Int) + 1) := hR 2 _ rfl
                    have hv3 : vs 3 = .int .i64 (k : Int) := hR 3 _ rfl
                    have hv4 : vs 4 = .pointer (some ⟨g, o + k, none⟩) := hR 4 _ rfl
                    have hv5 : vs 5 = .slice Au s.length cu := hR 5 _ rfl
                    have hv6 : vs 6 = strV s := hR 6 _ rfl
                    have hv7 : vs 7 = .pointer (some ⟨w.heap.size, 1, none⟩) := hR 7 _ rfl
                    have hv8 : vs 8 = .slice (some ⟨g, o, none⟩) m cb := hR 8 _ rfl
                    have hv9 : vs 9 = .int .i64 ((k : Int) + 1) := hR 9 _ rfl
                    have hv10 : vs 10 = .pointer (some ⟨g, o + (k + 1), none⟩) := hR 10 _ rfl
                    have hv11 : vs 11 = .slice Av t.length cv := hR 11 _ rfl
                    have hv12 : vs 12 = strV t := hR 12 _ rfl
                    have hv13 : vs 13 = .bool (true) := hR 13 _ rfl
                    simp only [putAll, Act.put, List.setIfInBounds_toArray, List.set_cons_zero, List.set_cons_succ, hv0, hv1, hv2, hv3, hv4, hv5, hv6, hv7, hv8, hv9, hv10, hv11, hv12, hv13]
                    clear hR hv0 hv1 hv2 hv3 hv4 hv5 hv6 hv7 hv8 hv9 hv10 hv11 hv12 hv13
                    have U8 := Lib.hid (show Upd NoF wo3 W8 from (HU1.out.drew).trans hW8 (fun _ _ h => h))
                    clear hW8 hL8 c11 c1
                    go_wp2
                    go_ret2
                    rw [HEN.out]
                    exact ⟨none, 0, rfl, encNil _ _ (UW.out.trans ((HE.out.2.2.trans HU0.out (fun _ _ h => h)).trans U8.out (fun _ _ h => h)) (fun _ _ h => h))⟩
                · have t1 : decide ((k : Int) + 1 < (m : Int)) = false := by simp; omega
                  have HCT := Lib.hid (chain_end hch (by omega))
                  have HEN := Lib.hid (encode_ok HARG.out (by rw [OB.out, HCV.out, HCT.out]; rfl))
                  have HU1 := Lib.hid (HU0.out.trans hu1 (fun _ _ h => h))
                  clear hnn hch hu hu1
                  go_wp2
                  go_ret2
                  rw [HEN.out, HEV.out]
                  exact ⟨Ab, cb', rfl, NewO.from_ ⟨HE.out.own HU1.out, HE.out.2.1, HE.out.2.2.trans HU1.out (fun _ _ h => h)⟩ UW.out⟩
end Go.Proofs.YtbgificdilpdcaaGreat
