/- Decode of package snapshot. Conditions: sizes. slices.Grow and slices.Concat of texts and of signed votes. Conditions: sizes. Writes into blocks of given types; texts and signed votes that own their blocks. No condition. -/
import Derived.Test.YtbgificdilpdcaaJn13
import Derived.Lib.AppendZeros
namespace Go.Proofs.Ytbgificdilpdcaa
section
open Go.RowKit
theorem bytes_info' : (Try.prog.info? 36).map (fun i => (i.zero, i.size, i.bytes)) = some (some (.slice none 0 0), 1, 24) := by kernel_rfl
theorem SgM.res {w w' : World} {F G : Nat → Prop} {A : Option Addr} {c : Nat} {l : List SignedS} (h : SgM w F A c l) (hn : ∀ k, OwnB (.slice A l.length c) k → ¬ G k) (hg : ∀ k, G k → F k) (hu : Upd G w w') : SgR w' (.slice A l.length c) l := (SgM.upd h hu hn (fun k _ f => hg k f)).rd
theorem TxM.res {w w' : World} {F G : Nat → Prop} {A : Option Addr} {c : Nat} {l : List (List UInt8)} (h : TxM w F A c l) (hn : ∀ k, OwnB (.slice A l.length c) k → ¬ G k) (hg : ∀ k, G k → F k) (hu : Upd G w w') : TxR w' (.slice A l.length c) l := (TxM.upd h hu hn (fun k _ f => hg k f)).rd
theorem SgM.ne {w : World} {F : Nat → Prop} {A : Option Addr} {c g : Nat} {l : List SignedS} {cs : Array Value} (h : SgM w F A c l) (hb : Blk w g 25 cs) : ¬ OwnB (.slice A l.length c) g := by
  obtain ⟨hf, us, e1, e2, e3⟩ := h
  exact e2.blk_ne hb (by decide)
theorem TxM.ne {w : World} {F : Nat → Prop} {A : Option Addr} {c g : Nat} {l : List (List UInt8)} {cs : Array Value} (h : TxM w F A c l) (hb : Blk w g 25 cs) : ¬ OwnB (.slice A l.length c) g := by
  obtain ⟨us, e1, e2, e0, e3⟩ := h
  exact e2.blk_ne hb (by decide)
theorem be4_lt (l : List UInt8) : be (l.take 4) < 4294967296 := by
  have h := be_lt (l.take 4)
  have h1 : (l.take 4).length ≤ 4 := by simp; omega
  have h2 : 256 ^ (l.take 4).length ≤ 256 ^ 4 := Nat.pow_le_pow_right (by omega) h1
  omega


set_option maxRecDepth 100000 in
set_option maxHeartbeats 16000000 in
theorem Decode_long {w : World} {v : Value} {bs : List UInt8} (hr : Rd w 1 v bs.length (bs.map byteV)) (h4 : 4 ≤ bs.length) (hm : bs.length ≤ 1000000000) : Calls Try.prog 11 #[v] w (DecPost w (decodeS bs)) := by
  obtain ⟨A, c, rfl, hlc, hcm⟩ := hr.slice
  have HR := Lib.hid hr
  have CN := Lib.hid (fun W => curNew_any (.slice A bs.length c) bs.length c A rfl W)
  clear hr
  go_enter Try.func11, Try.ntmps11
  go_wp2_with fail
  refine (CN.out _).mono ?_
  rintro e w2 ⟨rfl, hc2, hu2⟩
  have hsz : (w.alloc (.cells nil2 25)).heap.size = w.heap.size + 1 := by simp
  rw [hsz] at hc2
  have hb2 := hu2.blk (Blk.new w 25 nil2) (fun h => h)
  have hlt2 : w.heap.size + 1 < w2.heap.size := hc2.lt
  have D3 := Lib.hid (show DcSt w (w2.alloc (.cells nil2 25)) (w.heap.size + 1) w2.heap.size (.slice A bs.length c) 0 false (.slice none 0 0) (.slice none 0 0) (fun k => k = w.heap.size + 1 ∨ k = w2.heap.size ∨ k = w.heap.size ∨ k < w.heap.size) from
    ⟨Blk.alloc hc2 _, Blk.new w2 _ _, hb2.alloc _, (((Upd.refl NoF w).alloc _).trans hu2 (fun _ _ f => f)).alloc _, .inl rfl, .inr (.inl rfl), .inr (.inr (.inl rfl)), fun k hk => by rcases hk with e | e | e | e <;> (simp; omega), by omega, by omega, by omega, fun k hk => .inr (.inr (.inr hk))⟩)
  obtain ⟨W3, hW3⟩ : ∃ x, x = w2.alloc (.cells nil2 25) := ⟨_, rfl⟩
  rw [← hW3] at D3
  clear hsz hc2 hu2 hb2
  go_wp2_with fail
  rw [← hW3]
  clear hW3
  refine (curUint_ok D3.out.cur (HR.out.keep D3.out.upd) (by omega) (by omega)).mono ?_
  rintro e w4 ⟨rfl, hc4, hu4⟩
  obtain ⟨N, hN⟩ : ∃ n, be ((bs.drop 0).take 4) = n := ⟨_, rfl⟩
  have hNlt : N < 4294967296 := by rw [← hN]; exact be4_lt _
  rw [hN]
  rw [List.drop_zero] at hN
  have HN := Lib.hid hN
  have D4 := Lib.hid (D3.out.cursor hc4 hu4)
  clear hc4 hu4 hN D3
  obtain ⟨Cb, hCb⟩ : ∃ x, x = (w.heap.size + 1) := ⟨_, rfl⟩
  obtain ⟨Vb, hVb⟩ : ∃ x, x = w2.heap.size := ⟨_, rfl⟩
  rw [← hCb] at D4 ⊢
  rw [← hVb] at D4 ⊢
  clear hCb hVb hlt2 CN
  go_wp2
  obtain ⟨i1, hi1, hy0, hy1, hy2⟩ := info_parts signed_info
  obtain ⟨ti, hi0', hi1', hi2', hi3'⟩ := info_parts bytes_info'
  go_loopw [6] (fun n wr => D1Rel w Cb Vb (.slice A bs.length c) bs N n wr) (fun n _ => (intOf n).toNat)
  case atStart => exact ⟨N, [], none, 0, 4, _, rfl, VAt.start h4 N, D4.out, SgM.nil _ _, fun k hk => by simp [OwnB, Value.ownBlock] at hk⟩
  case round =>
    obtain ⟨r, vs, Av, cv, a, M, rfl, hat, hD, hS, hO⟩ := hrel
    have DD := Lib.hid hD
    have HAT := Lib.hid hat
    have HS := Lib.hid hS
    have HO := Lib.hid hO
    have hrN : r ≤ N := by have := hat.1; omega
    have hva : 393 * vs.length ≤ 1000000000 := by have := hat.2.1; have := hat.2.2.1; omega
    have haL : a ≤ bs.length := hat.2.2.1
    clear hat hD hS hO D4
    by_cases hr0 : r = 0
    · have t1 : decide ((0 : Int) < (r : Int)) = false := by simp; omega
      go_wp2_with fail
      have HDR := Lib.hid (show decodeS bs = decRest vs (bs.drop a) from dec_rest h4 (by rw [HN.out]; have := HAT.out; rw [hr0] at this; exact this))
      clear HAT t1
      by_cases h2 : a + 4 ≤ bs.length
      · refine (curUint_ok DD.out.cur (HR.out.keep DD.out.upd) (by omega) h2).mono ?_
        rintro e w5 ⟨rfl, hc5, hu5⟩
        have D5 := Lib.hid (DD.out.cursor hc5 hu5)
        have HS5 := Lib.hid (show SgM w5 M Av cv vs from by
          obtain ⟨hf, us, e1, e2, e3⟩ := HS.out
          exact SgM.upd ⟨hf, us, e1, e2, e3⟩ hu5 (fun k hk e => by rw [show k = Cb from e] at hk; exact e2.blk_ne DD.out.cur (by decide) hk) (fun k _ e => by rw [show k = Cb from e]; exact DD.out.mC))
        obtain ⟨K, hK⟩ : ∃ n, be ((bs.drop a).take 4) = n := ⟨_, rfl⟩
        have hKlt : K < 4294967296 := by rw [← hK]; exact be4_lt _
        rw [hK]
        have HK := Lib.hid hK
        clear hc5 hu5 hK DD HS
        have HO5 := Lib.hid HO.out
        clear HO
        go_wp2
        obtain ⟨wo, rfl⟩ : ∃ wo : World, wo = wr := ⟨_, rfl⟩
        go_loopw [9] (fun n wr => D2Rel w Cb Vb (.slice A bs.length c) bs vs (a + 4) K n wr) (fun n _ => (intOf n).toNat)
        case atStart => exact ⟨K, rfl, Nat.le_refl _, .inl ⟨[], Av, none, cv, 0, a + 4, M, TAt.start h2 K, D5.out, HS5.out, HO5.out, TxM.nil _ _, fun k hk => by simp [OwnB, Value.ownBlock] at hk⟩⟩
        case round =>
          obtain ⟨q, rfl, hqK, hgb⟩ := hrel
          clear D5 HS5 HO5 hr0
          rcases hgb with hgood | hbad
          · obtain ⟨ts, Av, At, cv, ct, a1, M, hat, hD, hS, hO, hT, hO'⟩ := hgood
            have DD := Lib.hid hD
            have HAT := Lib.hid hat
            have HS := Lib.hid hS
            have HO := Lib.hid hO
            have HT := Lib.hid hT
            have HO' := Lib.hid hO'
            have hta : 2 * ts.length ≤ 1000000000 := by have := hat.2.1; have := hat.2.2.1; omega
            have haL1 : a1 ≤ bs.length := hat.2.2.1
            clear hat hD hS hO hT hO'
            by_cases hq0 : q = 0
            · have t1 : decide ((0 : Int) < (q : Int)) = false := by simp; omega
              have HRF := Lib.hid (show decodeS bs = if a1 = bs.length then if ordB ⟨vs, ts⟩ then some ⟨vs, ts⟩ else none else none from HDR.out.trans (rest_fin h2 (by rw [HK.out]; have := HAT.out; rw [hq0] at this; exact this)))
              clear HAT
              by_cases hend : a1 = bs.length
              · have d0 : wr.cell? ⟨Vb, 0, none⟩ = some (.slice Av vs.length cv) := DD.out.view.cell 0
                have d1 : wr.cell? ⟨Vb, 1, none⟩ = some (.slice At ts.length ct) := DD.out.view.cell 1
                go_wp2_with fail
                refine (curDone_any DD.out.cur).mono ?_
                rintro e w7 ⟨rfl, hu7⟩
                have hde : decide (a1 = bs.length) = true := by simp [hend]
                rw [hde]
                have D7 := Lib.hid (DD.out.more hu7)
                have HS7 := Lib.hid (SgM.upd HS.out hu7 (fun _ _ f => f) (fun _ _ f => f.elim))
                have HT7 := Lib.hid (TxM.upd HT.out hu7 (fun _ _ f => f) (fun _ _ f => f.elim))
                have d0 : w7.cell? ⟨Vb, 0, none⟩ = some (.slice Av vs.length cv) := D7.out.view.cell 0
                have d1 : w7.cell? ⟨Vb, 1, none⟩ = some (.slice At ts.length ct) := D7.out.view.cell 1
                clear hu7
                go_wp2_with fail
                have CO := ordered_any (w := w7) (V := ⟨vs, ts⟩) ⟨HS7.out.rd, HT7.out.rd⟩ (show vs.length ≤ 1099511627776 by omega) (show ts.length ≤ 1099511627776 by omega)
                refine CO.mono ?_
                rintro e w8 ⟨rfl, hu8⟩
                have D8 := Lib.hid (D7.out.more hu8)
                have x0 : w8.cell? ⟨w.heap.size, 0, none⟩ = some (.slice none 0 0) := D8.out.res.cell 0; have x1 : w8.cell? ⟨w.heap.size, 1, none⟩ = some (.slice none 0 0) := D8.out.res.cell 1; have x2 : w8.frozen? ⟨w.heap.size, 0, none⟩ = false := D8.out.res.frozen 0; have x3 : w8.frozen? ⟨w.heap.size, 1, none⟩ = false := D8.out.res.frozen 1
                have d0 : w8.cell? ⟨Vb, 0, none⟩ = some (.slice Av vs.length cv) := D8.out.view.cell 0
                have d1 : w8.cell? ⟨Vb, 1, none⟩ = some (.slice At ts.length ct) := D8.out.view.cell 1
                clear CO
                have HS8 := Lib.hid (SgM.upd HS7.out hu8 (fun _ _ f => f) (fun _ _ f => f.elim))
                have HT8 := Lib.hid (TxM.upd HT7.out hu8 (fun _ _ f => f) (fun _ _ f => f.elim))
                clear hu8
                cases ho : ordB ⟨vs, ts⟩ with
                | true =>
                  have HNO := Lib.hid (show decodeS bs = some ⟨vs, ts⟩ from by rw [HRF.out, if_pos hend, if_pos ho])
                  go_wp2
                  refine bodyPost_ret (results_cell_tmp Try.results11 _ _ w.heap.size [.slice Av vs.length cv, .slice At ts.length ct] _ rfl (range_blk ((D8.out.res.put 0 (.slice Av vs.length cv)).put 1 (.slice At ts.length ct))) Try.underlying25 rfl (by rw [view_size]; rfl)) rfl ?_
                  rw [HNO.out]
                  have hz : Upd (fun k => k = w.heap.size) w8 ((w8.setCell ⟨w.heap.size, 0, none⟩ (.slice Av vs.length cv)).setCell ⟨w.heap.size, 1, none⟩ (.slice At ts.length ct)) := ((Upd.refl (fun k => k = w.heap.size) w8).setCell (p := ⟨w.heap.size, 0, none⟩) (.inl rfl) _).setCell (p := ⟨w.heap.size, 1, none⟩) (.inl rfl) _
                  have hGM : ∀ k, k = w.heap.size ∨ k < w.heap.size → M k := fun k f => by
                    rcases f with f | f
                    · rw [f]; exact D8.out.mR
                    · exact D8.out.mL k f
                  have hu9 : ∀ w9, Upd (fun k => k < w.heap.size) ((w8.setCell ⟨w.heap.size, 0, none⟩ (.slice Av vs.length cv)).setCell ⟨w.heap.size, 1, none⟩ (.slice At ts.length ct)) w9 → Upd (fun k => k = w.heap.size ∨ k < w.heap.size) w8 w9 := fun w9 h9 => (hz.mono (fun _ _ f => .inl f)).trans h9 (fun _ _ f => .inr f)
                  exact ⟨_, _, rfl, fun w9 h9 => ⟨HS8.out.res (fun k hk f => by
                    rcases f with f | f
                    · rw [f] at hk; exact HS8.out.ne D8.out.res hk
                    · have := (HO.out k hk).2; omega) hGM (hu9 w9 h9), HT8.out.res (fun k hk f => by
                    rcases f with f | f
                    · rw [f] at hk; exact HT8.out.ne D8.out.res hk
                    · have := (HO'.out k hk).2; omega) hGM (hu9 w9 h9)⟩, (D8.out.upd.setCell (p := ⟨w.heap.size, 0, none⟩) (.inr (Nat.le_refl _)) _).setCell (p := ⟨w.heap.size, 1, none⟩) (.inr (Nat.le_refl _)) _⟩
                | false =>
                  have HNO := Lib.hid (show decodeS bs = none from by rw [HRF.out, if_pos hend, if_neg (by rw [ho]; decide)])
                  go_wp2
                  refine bodyPost_ret (results_cell_tmp Try.results11 _ _ w.heap.size [.slice none 0 0, .slice none 0 0] _ rfl (range_blk ((D8.out.res.put 0 (.slice none 0 0)).put 1 (.slice none 0 0))) Try.underlying25 rfl (by rw [view_size]; rfl)) rfl ?_
                  rw [HNO.out]
                  exact ⟨rfl, (D8.out.upd.setCell (p := ⟨w.heap.size, 0, none⟩) (.inr (Nat.le_refl _)) _).setCell (p := ⟨w.heap.size, 1, none⟩) (.inr (Nat.le_refl _)) _⟩
              · have HNO := Lib.hid (show decodeS bs = none from by rw [HRF.out, if_neg hend])
                go_wp2_with fail
                refine (curDone_any DD.out.cur).mono ?_
                rintro e w7 ⟨rfl, hu7⟩
                have hde : decide (a1 = bs.length) = false := by simp [hend]
                rw [hde]
                have D7 := Lib.hid (DD.out.more hu7)
                have x0 : w7.cell? ⟨w.heap.size, 0, none⟩ = some (.slice none 0 0) := D7.out.res.cell 0; have x1 : w7.cell? ⟨w.heap.size, 1, none⟩ = some (.slice none 0 0) := D7.out.res.cell 1; have x2 : w7.frozen? ⟨w.heap.size, 0, none⟩ = false := D7.out.res.frozen 0; have x3 : w7.frozen? ⟨w.heap.size, 1, none⟩ = false := D7.out.res.frozen 1
                clear hu7
                go_wp2
                refine bodyPost_ret (results_cell_tmp Try.results11 _ _ w.heap.size [.slice none 0 0, .slice none 0 0] _ rfl (range_blk ((D7.out.res.put 0 (.slice none 0 0)).put 1 (.slice none 0 0))) Try.underlying25 rfl (by rw [view_size]; rfl)) rfl ?_
                rw [HNO.out]
                exact ⟨rfl, (D7.out.upd.setCell (p := ⟨w.heap.size, 0, none⟩) (.inr (Nat.le_refl _)) _).setCell (p := ⟨w.heap.size, 1, none⟩) (.inr (Nat.le_refl _)) _⟩
            · obtain ⟨q', hq'⟩ : ∃ q', q = q' + 1 := ⟨q - 1, by omega⟩
              have t1 : decide ((0 : Int) < (q : Int)) = true := by simp; omega
              have t1' : decide (0 < q) = true := by simp; omega
              obtain ⟨x, a', bad', hcb, ha', hgo, hno⟩ := text_step (v := (.slice A bs.length c)) (by have := HAT.out; rw [hq'] at this; exact this) (by omega)
              have HCB0 := Lib.hid hcb
              have HGO := Lib.hid hgo
              have HNO := Lib.hid hno
              obtain ⟨us, f1, f2, f0, f3⟩ := HT.out
              obtain ⟨n, hn⟩ : ∃ n, ts.length = n := ⟨_, rfl⟩
              have HF0 := Lib.hid f0
              have HF1 := Lib.hid f1
              have HF3 := Lib.hid f3
              have HOW := Lib.hid f2
              have HVW := Lib.hid DD.out.view
              have HLN := Lib.hid hn
              rw [hn] at HOW HVW hta
              have HNC := Lib.hid (HOW.out.blk_ne DD.out.cur (by decide))
              have HNV := Lib.hid (HOW.out.blk_ne HVW.out (by decide))
              have HTF := Lib.hid (show ∀ k, TxF Cb Vb At n ct k → k < wr.heap.size from fun k f => by
                rcases f with f | f | f
                · rw [f]; exact DD.out.cur.lt
                · rw [f]; exact HVW.out.lt
                · exact HOW.out.lt f)
              have HCV := Lib.hid DD.out.hCV
              have HCB := Lib.hid (show ∀ W, CurB W Cb (.slice A bs.length c) a1 false → Upd (fun k => k = Cb) wr.drew W → Calls Try.prog 41 #[ptrV Cb] W (BytAny W Cb (.slice A bs.length c) x a' bad') from fun W hc hu => HCB0.out W Cb hc (HR.out.keep (DD.out.upd.trans (((Upd.refl (fun k => k = Cb) wr).drew).trans hu (fun _ _ f => f)) (fun k hk e => by have h1 := DD.out.hC; have e : k = Cb := e; omega))))
              have hql : q < 4294967296 := by omega
              clear hcb hgo hno f0 f1 f2 f3 hn HT
              go_wp2_with fail
              refine (curOK_any DD.out.cur).mono ?_
              rintro e w' ⟨rfl, rfl⟩
              rw [Bool.not_false]
              go_wp2_with fail
              refine wp_region_rgl (rgR [isV (.pointer (some ⟨Vb, 1, none⟩)), isV (.slice At n ct), isV (ptrV Cb), TxR3 wr.heap.size x, TxR4 wr.heap.size x, TxR5 wr.heap.size At n ct us x, isV (.pointer (some ⟨Vb, 1, none⟩)), anyV]) (TxSt Cb Vb At n ct) (TxPh wr.drew Cb Vb (.slice A bs.length c) a1 a' bad' (.slice Av vs.length cv) At n ct (TxR5 wr.heap.size At n ct us x)) (by kernel_rfl) (by kernel_rfl) (by kernel_rfl) (by rfl) (fun L w => ⟨Upd.refl _ _, fun _ => Upd.refl _ _⟩) (rgR_keepL ⟨stbL_isV _, stbL_isV _, stbL_isV _, stbL_3 HTF.out, stbL_4 HTF.out, stbL_5 HTF.out HNV.out, stbL_isV _, stbL_any, trivial⟩) (TxPh.start (Blk.drew DD.out.cur) (Blk.drew HVW.out)) ?_ ?_
              · refine ⟨?_, ?_, ?_, ?_, ?_, ?_, ?_, ?_, trivial⟩
                · refine fun ρ w' L hW hLi hcl hd hdep hext hc hg hf => ?_
                  rw [if_pos (show wantedR _ _ _ = true from rfl)]
                  have e5 : ρ (.tmp 5) = ptrV Vb := hext 5 (by kernel_rfl)
                  clear hdep hext hcl
                  have HW := Lib.hid hW
                  clear hW
                  unfold OpDone
                  go_simp
                  exact ⟨rfl, ⟨Upd.refl _ _, fun _ => Upd.refl _ _⟩, (HW.out.same (by decide) (by decide) (by decide))⟩
                · refine fun ρ w' L hW hLi hcl hd hdep hext hc hg hf => ?_
                  rw [if_pos (show wantedR _ _ _ = true from rfl)]
                  have e47 : ρ (.tmp 47) = .pointer (some ⟨Vb, 1, none⟩) := hdep 0 _ rfl (by kernel_rfl)
                  have hcz : w'.cell? ⟨Vb, 1, none⟩ = some (.slice At n ct) := by
                    refine (hW.v0 ?_).cell 1
                    cases h : L 7 with
                    | false => rfl
                    | true => exact absurd (hcl 5 1 (hcl 7 5 h (by kernel_rfl)) (by kernel_rfl)) (by rw [hLi]; decide)
                  clear hdep hext hcl
                  have HW := Lib.hid hW
                  clear hW
                  unfold OpDone
                  go_simp
                  exact ⟨rfl, ⟨Upd.refl _ _, fun _ => Upd.refl _ _⟩, (HW.out.same (by decide) (by decide) (by decide))⟩
                · refine fun ρ w' L hW hLi hcl hd hdep hext hc hg hf => ?_
                  rw [if_pos (show wantedR _ _ _ = true from rfl)]
                  have e4 : ρ (.tmp 4) = ptrV Cb := hext 4 (by kernel_rfl)
                  clear hdep hext hcl
                  have HW := Lib.hid hW
                  clear hW
                  unfold OpDone
                  go_simp
                  exact ⟨rfl, ⟨Upd.refl _ _, fun _ => Upd.refl _ _⟩, (HW.out.same (by decide) (by decide) (by decide))⟩
                · refine fun ρ w' L hW hLi hcl hd hdep hext hc hg hf => ?_
                  rw [if_pos (show wantedR _ _ _ = true from rfl)]
                  have e49 : ρ (.tmp 49) = ptrV Cb := hdep 2 _ rfl (by kernel_rfl)
                  clear hdep hext
                  have h5 : L 5 = false := by
                    cases h : L 5 with
                    | false => rfl
                    | true => exact absurd (hcl 4 3 (hcl 5 4 h (by kernel_rfl)) (by kernel_rfl)) (by rw [hLi]; decide)
                  have h7 : L 7 = false := by
                    cases h : L 7 with
                    | false => rfl
                    | true => exact absurd (hcl 7 5 h (by kernel_rfl)) (by rw [h5]; decide)
                  have hcb := HCB.out w' (hW.c0 hLi) (hW.u0 h5)
                  unfold OpDone
                  go_simp
                  refine hcb.mono ?_
                  rintro e w2 ⟨A2, c2, rfl, hx2, hc2, hu2⟩
                  have hs2 := (hW.u0 h5).size
                  exact ⟨_, rfl, ⟨A2, c2, rfl, hx2.mono (fun k _ hk => by have hk : k < wr.heap.size := hk; have : wr.heap.size ≤ w'.heap.size := hs2; omega)⟩, ⟨hu2.mono (fun _ _ f => .inl f), fun e => by rw [h5] at e; cases e⟩, hW.call h5 h7 HCV.out hc2 hu2⟩
                · refine fun ρ w' L hW hLi hcl hd hdep hext hc hg hf => ?_
                  rw [if_pos (show wantedR _ _ _ = true from rfl)]
                  have e50 : (TxR3 wr.heap.size x) (ρ (.tmp 50)) w' := hdep 3 _ rfl (by kernel_rfl)
                  clear hdep hext
                  have h3 : L 3 = true := hd 3 (by kernel_rfl)
                  have h5 : L 5 = false := by
                    cases h : L 5 with
                    | false => rfl
                    | true => exact absurd (hcl 5 4 h (by kernel_rfl)) (by rw [hLi]; decide)
                  have h7 : L 7 = false := by
                    cases h : L 7 with
                    | false => rfl
                    | true => exact absurd (hcl 7 5 h (by kernel_rfl)) (by rw [h5]; decide)
                  obtain ⟨A2, c2, hv2, hx2⟩ := e50
                  unfold OpDone
                  go_simp
                  have hs2 : wr.heap.size ≤ w'.heap.size := hW.u1.size
                  exact ⟨⟨_, _, rfl, Blk.new w' _ _, hs2, rfl, hx2.upd ((Upd.refl (fun k => k < wr.heap.size) w').alloc _)⟩, ⟨(Upd.refl _ w').alloc _, fun _ => (Upd.refl _ w').alloc _⟩, hW.built h3 h5 h7 ((Upd.refl _ w').alloc _)⟩
                · refine fun ρ w' L hW hLi hcl hd hdep hext hc hg hf => ?_
                  rw [if_pos (show wantedR _ _ _ = true from rfl)]
                  have e48 : ρ (.tmp 48) = .slice At n ct := hdep 1 _ rfl (by kernel_rfl)
                  have e51 : (TxR4 wr.heap.size x) (ρ (.tmp 51)) w' := hdep 4 _ rfl (by kernel_rfl)
                  clear hdep hext
                  have h4 : L 4 = true := hd 4 (by kernel_rfl)
                  have h3 : L 3 = true := hcl 4 3 h4 (by kernel_rfl)
                  have h7 : L 7 = false := by
                    cases h : L 7 with
                    | false => rfl
                    | true => exact absurd (hcl 7 5 h (by kernel_rfl)) (by rw [hLi]; decide)
                  obtain ⟨g, u, hv2, hb2, hg2, hu2, hx2⟩ := e51
                  refine od_append (.tmp 48) (.tmp 51) 23 rfl 36 ti _ 1 24 Try.underlying23 hi0' hi1' hi2' hi3' rfl _ n us e48 (HOW.out.upd (((Upd.refl (fun k => k = Cb) wr).drew).trans (hW.u0 hLi) (fun _ _ f => f)) (fun k hk e => HNC.out (by rw [← show k = Cb from e]; exact hk))) _ 1 [u] hv2 (Rd.of_blk hb2 (by omega) (by unfold maxLen; omega) rfl (fun j y hy => by rw [Nat.zero_add]; cases j with | zero => simpa using hy | succ j => simp at hy)) (by intro y hy; simp at hy; rw [hy]; exact hu2) (by unfold maxLen; omega) (by omega) ?_
                  intro A3 c3 w3 ho3 hu3 hn3
                  have hs2 : wr.heap.size ≤ w'.heap.size := hW.u1.size
                  refine ⟨⟨A3, c3, u, rfl, hu2, ho3, ?_, fun k hk => ?_⟩, ⟨hu3.mono (fun _ _ f => .inr (.inr f)), fun e => by rw [hLi] at e; cases e⟩, hW.app h3 h7 HNC.out HNV.out hu3⟩
                  · refine hx2.upd' (hu3.mono (fun k _ f => HTF.out k (.inr (.inr f)))) (fun k hk f => ?_)
                    rcases f with f | f
                    · exact f
                    · rcases hn3 k f with q | q
                      · exact HTF.out k (.inr (.inr q))
                      · omega
                  · rcases hn3 k hk with q | q
                    · exact .inl q
                    · exact .inr (by omega)
                · refine fun ρ w' L hW hLi hcl hd hdep hext hc hg hf => ?_
                  rw [if_pos (show wantedR _ _ _ = true from rfl)]
                  have e5 : ρ (.tmp 5) = ptrV Vb := hext 5 (by kernel_rfl)
                  clear hdep hext hcl
                  have HW := Lib.hid hW
                  clear hW
                  unfold OpDone
                  go_simp
                  exact ⟨rfl, ⟨Upd.refl _ _, fun _ => Upd.refl _ _⟩, (HW.out.same (by decide) (by decide) (by decide))⟩
                · refine fun ρ w' L hW hLi hcl hd hdep hext hc hg hf => ?_
                  rw [if_pos (show wantedR _ _ _ = true from rfl)]
                  have e53 : ρ (.tmp 53) = .pointer (some ⟨Vb, 1, none⟩) := hdep 6 _ rfl (by kernel_rfl)
                  have e52 : (TxR5 wr.heap.size At n ct us x) (ρ (.tmp 52)) w' := hdep 5 _ rfl (by kernel_rfl)
                  clear hdep hext
                  have h5 : L 5 = true := hd 5 (by kernel_rfl)
                  have h4 : L 4 = true := hcl 5 4 h5 (by kernel_rfl)
                  have h3 : L 3 = true := hcl 4 3 h4 (by kernel_rfl)
                  have hfz : w'.frozen? ⟨Vb, 1, none⟩ = false := (hW.v0 hLi).frozen 1
                  have hcz : w'.cell? ⟨Vb, 1, none⟩ = some (.slice At n ct) := (hW.v0 hLi).cell 1
                  have HW := Lib.hid hW
                  have E52 := Lib.hid e52
                  obtain ⟨A3, c3, u3, hv3, -⟩ := e52
                  clear hW
                  unfold OpDone
                  rw [hv3] at E52
                  go_simp
                  have hu : Upd (fun k => k = Vb) w' (w'.setCell ⟨Vb, 1, none⟩ (.slice A3 (n + 1) c3)) := (Upd.refl (fun k => k = Vb) w').setCell (p := ⟨Vb, 1, none⟩) (.inl rfl) _
                  exact ⟨trivial, ⟨hu.mono (fun _ _ f => .inr (.inl f)), fun _ => hu⟩, HW.out.store h3 h5 hLi HCV.out (E52.out.to HTF.out HNV.out hu)⟩
              intro vs wz L hL hW hR
              have hv0 : vs 0 = .pointer (some ⟨Vb, 1, none⟩) := hR 0 _ rfl
              have hv1 : vs 1 = .slice At n ct := hR 1 _ rfl
              have hv2 : vs 2 = ptrV Cb := hR 2 _ rfl
              have hr3 : (TxR3 wr.heap.size x) (vs 3) wz := hR 3 _ rfl
              obtain ⟨yA, yc, hv3, -⟩ := hr3
              have hr4 : (TxR4 wr.heap.size x) (vs 4) wz := hR 4 _ rfl
              obtain ⟨yg, yu, hv4, -⟩ := hr4
              have hr5 : (TxR5 wr.heap.size At n ct us x) (vs 5) wz := hR 5 _ rfl
              obtain ⟨zA, zc, zu, hv5, -⟩ := hr5
              have hv6 : vs 6 = .pointer (some ⟨Vb, 1, none⟩) := hR 6 _ rfl
              simp only [putAll, Act.put, List.setIfInBounds_toArray, List.set_cons_zero, List.set_cons_succ, hv0, hv1, hv2, hv3, hv4, hv5, hv6]
              clear hR hv0 hv1 hv2 hv3 hv4 hv5 hv6
              go_wp2
              go_roundw
              case rel =>
                have hz := D2_next DD.out HS.out HO.out HO'.out HF0.out HF1.out (by rw [HLN.out]; exact HOW.out) HF3.out (by rw [HLN.out]; exact hW) (fun i hi => hL i hi)
                obtain ⟨A', c', M', g1, g2, g3, g4, g5⟩ := hz
                refine ⟨q', ?_, by omega, ?_⟩
                · have : (q : Int) - 1 = (q' : Int) := by omega
                  rw [← this]
                · cases hb : bad' with
                  | false => exact .inl ⟨ts ++ [x], Av, A', cv, c', a', M', HGO.out hb, by rw [← hb]; exact g1, g2, g3, g4, g5⟩
                  | true => exact .inr ⟨HNO.out hb, a', _, _, M', ha', by rw [← hb]; exact g1⟩
              case measure => simp [intOf]; omega
          · obtain ⟨hnone, a1, vb, tb, M, ha1, hD⟩ := hbad
            have HNO := Lib.hid (show decodeS bs = none from HDR.out.trans (rest_none2 h2 (by rw [HK.out]; exact hnone)))
            have DD := Lib.hid hD
            clear hnone hD
            by_cases hq0 : q = 0
            · have t1 : decide ((0 : Int) < (q : Int)) = false := by simp; omega
              go_wp2_with fail
              refine (curDone_any DD.out.cur).mono ?_
              rintro e w7 ⟨rfl, hu7⟩
              have D7 := Lib.hid (DD.out.more hu7)
              have x0 : w7.cell? ⟨w.heap.size, 0, none⟩ = some (.slice none 0 0) := D7.out.res.cell 0; have x1 : w7.cell? ⟨w.heap.size, 1, none⟩ = some (.slice none 0 0) := D7.out.res.cell 1; have x2 : w7.frozen? ⟨w.heap.size, 0, none⟩ = false := D7.out.res.frozen 0; have x3 : w7.frozen? ⟨w.heap.size, 1, none⟩ = false := D7.out.res.frozen 1
              clear hu7
              go_wp2
              refine bodyPost_ret (results_cell_tmp Try.results11 _ _ w.heap.size [.slice none 0 0, .slice none 0 0] _ rfl (range_blk ((D7.out.res.put 0 (.slice none 0 0)).put 1 (.slice none 0 0))) Try.underlying25 rfl (by rw [view_size]; rfl)) rfl ?_
              rw [HNO.out]
              exact ⟨rfl, (D7.out.upd.setCell (p := ⟨w.heap.size, 0, none⟩) (.inr (Nat.le_refl _)) _).setCell (p := ⟨w.heap.size, 1, none⟩) (.inr (Nat.le_refl _)) _⟩
            · have t1 : decide ((0 : Int) < (q : Int)) = true := by simp; omega
              have t1' : decide (0 < q) = true := by simp; omega
              go_wp2_with fail
              refine (curOK_any DD.out.cur).mono ?_
              rintro e w' ⟨rfl, rfl⟩
              rw [Bool.not_true]
              go_wp2_with fail
              refine (curDone_any DD.out.cur).mono ?_
              rintro e w7 ⟨rfl, hu7⟩
              have D7 := Lib.hid (DD.out.more hu7)
              have x0 : w7.cell? ⟨w.heap.size, 0, none⟩ = some (.slice none 0 0) := D7.out.res.cell 0; have x1 : w7.cell? ⟨w.heap.size, 1, none⟩ = some (.slice none 0 0) := D7.out.res.cell 1; have x2 : w7.frozen? ⟨w.heap.size, 0, none⟩ = false := D7.out.res.frozen 0; have x3 : w7.frozen? ⟨w.heap.size, 1, none⟩ = false := D7.out.res.frozen 1
              clear hu7
              go_wp2
              refine bodyPost_ret (results_cell_tmp Try.results11 _ _ w.heap.size [.slice none 0 0, .slice none 0 0] _ rfl (range_blk ((D7.out.res.put 0 (.slice none 0 0)).put 1 (.slice none 0 0))) Try.underlying25 rfl (by rw [view_size]; rfl)) rfl ?_
              rw [HNO.out]
              exact ⟨rfl, (D7.out.upd.setCell (p := ⟨w.heap.size, 0, none⟩) (.inr (Nat.le_refl _)) _).setCell (p := ⟨w.heap.size, 1, none⟩) (.inr (Nat.le_refl _)) _⟩
      · have HNO := Lib.hid (show decodeS bs = none from HDR.out.trans (rest_none1 (by omega)))
        refine (curUint_short DD.out.cur (HR.out.keep DD.out.upd) (by omega) (by omega) haL).mono ?_
        rintro e w5 ⟨rfl, hc5, hu5⟩
        have D5 := Lib.hid (DD.out.cursor hc5 hu5)
        clear hc5 hu5 DD
        go_wp2
        refine wp_loop_once ?_
        go_wp2_with fail
        refine (curDone_any D5.out.cur).mono ?_
        rintro e w7 ⟨rfl, hu7⟩
        have D7 := Lib.hid (D5.out.more hu7)
        have x0 : w7.cell? ⟨w.heap.size, 0, none⟩ = some (.slice none 0 0) := D7.out.res.cell 0; have x1 : w7.cell? ⟨w.heap.size, 1, none⟩ = some (.slice none 0 0) := D7.out.res.cell 1; have x2 : w7.frozen? ⟨w.heap.size, 0, none⟩ = false := D7.out.res.frozen 0; have x3 : w7.frozen? ⟨w.heap.size, 1, none⟩ = false := D7.out.res.frozen 1
        clear hu7
        go_wp2
        refine bodyPost_ret (results_cell_tmp Try.results11 _ _ w.heap.size [.slice none 0 0, .slice none 0 0] _ rfl (range_blk ((D7.out.res.put 0 (.slice none 0 0)).put 1 (.slice none 0 0))) Try.underlying25 rfl (by rw [view_size]; rfl)) rfl ?_
        rw [HNO.out]
        exact ⟨rfl, (D7.out.upd.setCell (p := ⟨w.heap.size, 0, none⟩) (.inr (Nat.le_refl _)) _).setCell (p := ⟨w.heap.size, 1, none⟩) (.inr (Nat.le_refl _)) _⟩
    · obtain ⟨r', hr'⟩ : ∃ r', r = r' + 1 := ⟨r - 1, by omega⟩
      have t1 : decide ((0 : Int) < (r : Int)) = true := by simp; omega
      have t1' : decide (0 < r) = true := by simp; omega
      have hrl : r < 4294967296 := by omega
      go_wp2_with fail
      refine (curOK_any DD.out.cur).mono ?_
      rintro e w' ⟨rfl, rfl⟩
      rw [Bool.not_false]
      have HAT1 := Lib.hid (show VAt bs N vs (r' + 1) a from by have := HAT.out; rw [hr'] at this; exact this)
      clear HAT
      cases hk : okDec ((bs.drop a).take 393) with
      | true =>
        have HAT2 := Lib.hid (HAT1.out.next hk)
        have CF := Lib.hid (curFixed_yes DD.out.cur (HR.out.keep DD.out.upd) (by omega) hk)
        have CS := Lib.hid (show ∀ W A5 c5, Rd W 1 (.slice A5 ((bs.drop a).take 393).length c5) ((bs.drop a).take 393).length (((bs.drop a).take 393).map byteV) → Calls Try.prog 39 #[.slice A5 ((bs.drop a).take 393).length c5] W (SDecOk W (decS ((bs.drop a).take 393))) from fun W A5 c5 h => sDecode_yes h hk)
        have HFT := Lib.hid (decS_fit (okDec_len hk))
        generalize hs0 : decS ((bs.drop a).take 393) = s at HAT2 CS HFT
        generalize (bs.drop a).take 393 = xb at CF CS
        clear hs0 hk
        obtain ⟨hf, us, f1, f2, f3⟩ := HS.out
        have HF := Lib.hid hf
        have HF1 := Lib.hid f1
        have HF2 := Lib.hid f2
        have HF3 := Lib.hid f3
        obtain ⟨nv, hnv⟩ : ∃ n, vs.length = n := ⟨_, rfl⟩
        have HNV := Lib.hid hnv
        have HOW := Lib.hid f2
        rw [hnv] at HOW hva
        have HVW := Lib.hid DD.out.view
        rw [hnv] at HVW
        clear hf f1 f2 f3 HS hnv
        go_wp2_with fail
        refine CF.out.mono ?_
        rintro e w5 ⟨A5, c5, rfl, hr5, hc5, hu5⟩
        have R5 := Lib.hid hr5
        have C5 := Lib.hid hc5
        have U5 := Lib.hid hu5
        clear hr5 hc5 hu5
        go_wp2_with fail
        refine (CS.out _ _ _ R5.out).mono ?_
        rintro e w6 ⟨A6, c6, rfl, hx6, hu6⟩
        have X6 := Lib.hid hx6
        have U6 := Lib.hid hu6
        have BSR := Lib.hid (fun W => bs_signed HFT.out A6 s.sig.length c6 W)
        obtain ⟨ra, hra⟩ : ∃ z, (rowS s (.slice A6 s.sig.length c6)).toArray = z := ⟨_, rfl⟩
        rw [hra]
        rw [hra] at BSR
        have HRA := Lib.hid hra
        have RS := Lib.hid (show zeroRow.size = ra.size ∧ (Try.prog.info? 38).map (·.size) = some ra.size ∧ ra.all (·.oneCell') = true from by
          rw [← hra]
          exact ⟨by rw [zeroRow_size]; simp [rowS_len HFT.out], row_info HFT.out _, row_one _ rfl⟩)
        have RB := Lib.hid (show ∀ W, Blk W w6.heap.size 38 ra → W.rangeAt w6.heap.size 0 (rowS s (.slice A6 s.sig.length c6)) from fun W h => by rw [← HRA.out] at h; exact range_blk h)
        clear hx6 hu6 hra
        have VW6 := Lib.hid (show ∀ W, Upd NoF w6 W → Blk W Vb 25 #[.slice Av nv cv, .slice none 0 0] from fun W hu => hu.blk (U6.out.blk (U5.out.blk HVW.out (fun e => DD.out.hCV e.symm)) (fun f => f)) (fun f => f))
        have OW6 := Lib.hid (show ∀ W, Upd NoF w6 W → Own W 38 23 (.slice Av nv cv) nv (List.zipWith rowS vs us).flatten from fun W hu => ((HOW.out.upd U5.out (fun k hk e => by rw [show k = Cb from e] at hk; exact HOW.out.blk_ne DD.out.cur (by decide) hk)).upd U6.out (fun _ _ f => f)).upd hu (fun _ _ f => f))
        have ROW := Lib.hid (show ∀ W g, Blk W g 38 ra → Rd W 23 (.slice (some ⟨g, 0, none⟩) 1 1) 1 (rowS s (.slice A6 s.sig.length c6)) from fun W g h => by
          rw [← HRA.out] at h
          exact Rd.of_blk h (by omega) (by unfold maxLen; omega) (by rw [rowS_len HFT.out]) (fun j y hy => by rw [Nat.zero_add]; simpa using hy))
        have ONE := Lib.hid (show ∀ y ∈ rowS s (.slice A6 s.sig.length c6), y.oneCell' = true from fun y hy => by
          have := row_one s (u := .slice A6 s.sig.length c6) rfl
          rw [List.all_toArray, List.all_eq_true] at this
          exact this y hy)
        go_wp2_with (first
          | (refine wpList_alloc_row rfl 38 rfl zeroRow alloc_signed ?_; intro w7 hb7 hu7 hs7; have B7 := Lib.hid hb7; have U7 := Lib.hid hu7; clear hb7 hu7 hs7)
          | (refine wpList_store_row rfl 38 (.tmp 7) (.tmp 26) rfl w6.heap.size rfl ra rfl 38 _ B7.out RS.out.1 RS.out.2.1 RS.out.2.2 ?_; intro w8 hb8 hu8 hs8; have B8 := Lib.hid hb8; have U8 := Lib.hid (U7.out.trans hu8 (fun k hk e => by have e : k = w6.heap.size := e; omega)); have d0 : w8.cell? ⟨Vb, 0, none⟩ = some (.slice Av nv cv) := (VW6.out w8 U8.out).cell 0; clear hb8 hu8 hs8)
          | (refine wpList_load_signed rfl (.tmp 7) rfl w6.heap.size 0 rfl s (.slice A6 s.sig.length c6) HFT.out (RB.out _ B8.out) (.agg ra) (congrArg Value.agg HRA.out) ?_)
          | (refine wpList_buildSlice_row rfl 22 38 (.tmp 33) rfl (.agg ra) rfl ra (BSR.out _) ?_; intro w9 hb9 hu9 hs9; have B9 := Lib.hid hb9; have U9 := Lib.hid (U8.out.trans hu9 (fun _ _ f => f)); clear hb9 hu9 hs9)
          | (at_builtin; refine wpList_append_to _ rfl (.tmp 32) (.tmp 34) 22 rfl 38 i1 _ 23 88 Try.underlying22 hi1 hy0 hy1 hy2 zeroRow_size _ _ _ rfl (OW6.out _ U9.out) _ _ _ rfl (ROW.out _ _ B9.out) ONE.out (by unfold maxLen; omega) (by omega) ?_; intro pA pc pw hown hupd hnew; have pO := Lib.hid hown; have pV := Lib.hid hupd; have pN := Lib.hid hnew; have pf : pw.frozen? ⟨Vb, 0, none⟩ = false := (hupd.blk (VW6.out _ U9.out) ((OW6.out _ U9.out).blk_ne (VW6.out _ U9.out) (by decide))).frozen 0; have pz : pw.cell? ⟨Vb, 0, none⟩ = some (.slice Av nv cv) := (hupd.blk (VW6.out _ U9.out) ((OW6.out _ U9.out).blk_ne (VW6.out _ U9.out) (by decide))).cell 0; clear hown hupd hnew))
        go_roundw
        case rel =>
          have hz := D1_next (s := s) DD.out HO.out C5.out U5.out (U6.out.trans U9.out (fun _ _ f => f)) HF.out HF1.out HF2.out HF3.out HFT.out (X6.out.upd (U9.out.mono (fun _ _ f => f.elim))) (by rw [HNV.out]; exact pO.out) (by rw [HNV.out]; exact pV.out) (by rw [HNV.out]; exact pN.out)
          rw [HNV.out] at hz
          obtain ⟨M', g1, g2, g3⟩ := hz
          exact ⟨r', vs ++ [s], pA, pc, a + 393, M', rfl, HAT2.out, g1, g2, g3⟩
        case measure => simp [intOf]; omega
      | false =>
        have HNO := Lib.hid (show decodeS bs = none from dec_none2 h4 (by rw [HN.out]; exact HAT1.out.fail hk))
        have CF := Lib.hid (curFixed_no DD.out.cur (HR.out.keep DD.out.upd) (by omega) haL hk)
        clear hk
        go_wp2_with fail
        refine CF.out.mono ?_
        rintro e w5 ⟨xb, A5, c5, a5, bad5, rfl, hr5, hk5, hc5, hu5⟩
        have CS := Lib.hid (sDecode_bad hr5 hk5)
        have D5 := Lib.hid (DD.out.cursor hc5 hu5)
        clear hr5 hk5 hc5 hu5
        go_wp2_with fail
        refine CS.out.mono ?_
        rintro e w6 ⟨z, hz, rfl, hu6⟩
        have D6 := Lib.hid (D5.out.more hu6)
        have t2 : decide (z = 0) = false := by simp [hz]
        have t3 : (z == 0) = false := by simp [hz]
        clear hu6
        go_wp2_with (first
          | (refine wpList_alloc_row rfl 38 rfl zeroRow alloc_signed ?_; intro w7 hb7 hu7 hs7; have B7 := Lib.hid hb7; have U7 := Lib.hid hu7; clear hb7 hu7 hs7)
          | (refine wpList_store_row rfl 38 (.tmp 7) (.tmp 26) rfl w6.heap.size rfl zeroRow rfl 38 _ B7.out rfl (by rw [signed_size, zeroRow_size]) (row_one zeroS rfl) ?_; intro w8 hb8 hu8 hs8; have D8 := Lib.hid (D6.out.more (U7.out.trans hu8 (fun k hk e => by have e : k = w6.heap.size := e; omega))); have x0 : w8.cell? ⟨w.heap.size, 0, none⟩ = some (.slice none 0 0) := D8.out.res.cell 0; have x1 : w8.cell? ⟨w.heap.size, 1, none⟩ = some (.slice none 0 0) := D8.out.res.cell 1; have x2 : w8.frozen? ⟨w.heap.size, 0, none⟩ = false := D8.out.res.frozen 0; have x3 : w8.frozen? ⟨w.heap.size, 1, none⟩ = false := D8.out.res.frozen 1; clear hb8 hu8 hs8))
        refine bodyPost_ret (results_cell_tmp Try.results11 _ _ w.heap.size [.slice none 0 0, .slice none 0 0] _ rfl (range_blk ((D8.out.res.put 0 (.slice none 0 0)).put 1 (.slice none 0 0))) Try.underlying25 rfl (by rw [view_size]; rfl)) rfl ?_
        rw [HNO.out]
        exact ⟨rfl, (D8.out.upd.setCell (p := ⟨w.heap.size, 0, none⟩) (.inr (Nat.le_refl _)) _).setCell (p := ⟨w.heap.size, 1, none⟩) (.inr (Nat.le_refl _)) _⟩
end

section
open Go.RowKit

/-- A new slice of rows. -/
def NewR (w : World) (e : TypeId) (size n : Nat) (xs : List Value) (v : Value) (w' : World) : Prop := Own w' e size v n xs ∧ (∀ k, OwnB v k → w.heap.size ≤ k) ∧ Upd NoF w w'
theorem size_zeros (z : Array Value) (n : Nat) : (Builtin.zeroCells z n).size = n * z.size := by simp [Builtin.zeroCells]
set_option maxRecDepth 10000 in
/-- 'append(nil, make([]T, n)...)'. -/
theorem run_zeros (w : World) (t tn ty e : TypeId) (i : TypeInfo) (z : Value) (size bytes : Nat) (ht : Try.prog.underlying t = some (.slice e)) (htn : Try.prog.underlying tn = some (.int .i64)) (hi : Try.prog.info? e = some i) (hz : i.zero = some z)
    (hsize : i.size = size) (hby : i.bytes = bytes) (hzs : z.cells.size = size) (hs0 : 0 < size) (n : Nat) (h0 : 0 < n) (h63 : n ≤ maxLen) (hbytes : n * bytes ≤ 140737488355328) :
    ∃ c w', (Builtin.append_ #[t, tn] ty #[.slice none 0 0, .int .i64 n]).run Try.prog w = .ok (.slice (some ⟨w.heap.size, 0, none⟩) n c) w' ∧ n ≤ c ∧ c ≤ maxLen ∧ NewR w e size 0 [] (.slice (some ⟨w.heap.size, 0, none⟩) 0 c) w' := by
  subst hsize
  subst hby
  have hr := Go.Lib.run_append_nil_zeros (P := Try.prog) w t tn ty e i z .i64 .i64 ht htn hi hz n h0 hs0 (by unfold maxLen at h63; omega) (by omega)
  have hge := grownCap_ge w n 0 e
  have hcm : grownCap w n 0 e ≤ maxLen := grownCap_le_maxLen w n 0 e h63
  refine ⟨_, _, hr, hge, hcm, ⟨(Nat.zero_mul _).symm, .inr ⟨w.heap.size, _, _, rfl, Blk.new w.drew _ _, Nat.zero_le _, hcm, ?_, by rw [Nat.zero_mul]; rfl⟩⟩, fun k hk => ?_, ((Upd.refl _ w).drew).alloc _⟩
  · rw [Array.size_append, size_zeros, size_zeros, hzs, ← Nat.add_mul]
    exact Nat.le_of_eq (by congr 1; omega)
  · simp [OwnB, Value.ownBlock] at hk
    omega
theorem wpList_append_zeros (w : World) {ops : Array Oper} {rest : List Oper} {o : Oper} {a : Act} {Q : Exit → Act → World → Prop} (hgd : o.guard = none) (s x : Operand) (t tn : TypeId)
    (ho : o.op = .call { callee := .builtin .append, args := #[s, x], argTypes := #[t, tn] })
    (e : TypeId) (i : TypeInfo) (z : Value) (size bytes : Nat) (ht : Try.prog.underlying t = some (.slice e)) (htn : Try.prog.underlying tn = some (.int .i64)) (hi : Try.prog.info? e = some i) (hz : i.zero = some z)
    (hsize : i.size = size) (hby : i.bytes = bytes) (hzs : z.cells.size = size) (hs0 : 0 < size) (n : Nat) (h0 : 0 < n) (h63 : n ≤ maxLen) (hbytes : n * bytes ≤ 140737488355328)
    (hs : a.eval s = .slice none 0 0) (hx : a.eval x = .int .i64 n)
    (h : ∀ c w', n ≤ c → c ≤ maxLen → NewR w e size 0 [] (.slice (some ⟨w.heap.size, 0, none⟩) 0 c) w' → wpList Try.prog ops Q rest (a.put o.dst (.slice (some ⟨w.heap.size, 0, none⟩) n c)) w') : wpList Try.prog ops Q (o :: rest) a w := by
  refine wpList_plain hgd fun _ hK => ?_
  obtain ⟨c, w', hrun, h1, h2, h3⟩ := run_zeros w t tn o.type e i z size bytes ht htn hi hz hsize hby hzs hs0 n h0 h63 hbytes
  unfold Oper.wp execOp
  simp only [ho, resolve, invoke, builtin, Sem.run_bind, Sem.run_pure, Result.andThen_ok, List.map_toArray, List.map_cons, List.map_nil, hs, hx, hrun]
  exact hK _ _ (h c w' h1 h2 h3)
def GrowPost (w : World) (e : TypeId) (size : Nat) (en : Ending) (w' : World) : Prop := ∃ A c, en = .returned (.slice A 0 c) ∧ NewR w e size 0 [] (.slice A 0 c) w'
def ConcatPost (w : World) (e : TypeId) (size n : Nat) (xs : List Value) (en : Ending) (w' : World) : Prop := ∃ A c, en = .returned (.slice A n c) ∧ NewR w e size n xs (.slice A n c) w'
theorem NewR.app {W wr w6 : World} {e : TypeId} {size n m : Nat} {xs ys : List Value} {A A' : Option Addr} {c c' : Nat} (h : NewR W e size n xs (.slice A n c) wr) (ho : Own w6 e size (.slice A' (n + m) c') (n + m) (xs ++ ys)) (hu : Upd (OwnB (.slice A n c)) wr w6) (hn : ∀ k, OwnB (.slice A' (n + m) c') k → OwnB (.slice A n c) k ∨ wr.heap.size ≤ k) : NewR W e size (n + m) (xs ++ ys) (.slice A' (n + m) c') w6 := by
  obtain ⟨h1, h2, h3⟩ := h
  have hs := h3.size
  refine ⟨ho, fun k hk => ?_, h3.trans hu (fun k hk f => by have := h2 k f; omega)⟩
  rcases hn k hk with f | f
  · exact h2 k f
  · omega


set_option maxRecDepth 100000 in
set_option maxHeartbeats 4000000 in
theorem GrowT_any (w : World) (n : Nat) (hm : n ≤ 100000000) : Calls Try.prog 51 #[.slice none 0 0, .int .i64 (n : Int)] w (GrowPost w 36 1) := by
  obtain ⟨i1, hi1, hy0, hy1, hy2⟩ := info_parts bytes_info'
  rcases Nat.eq_zero_or_pos n with h0 | h0
  · subst h0
    go_enter Try.func51, Try.ntmps51
    go_wp2
    go_ret
    exact ⟨none, 0, rfl, Own.nil _ _ _, (fun k hk => by simp [OwnB, Value.ownBlock] at hk), Upd.refl _ _⟩
  · have t0 : decide ((n : Int) < 0) = false := by simp
    have t1 : decide ((0 : Int) < (n : Int)) = true := by simp; omega
    have t1' : decide (0 < n) = true := by simp; omega
    go_enter Try.func51, Try.ntmps51
    go_wp2_with (at_builtin; refine wpList_append_zeros _ rfl (.tmp 20) (.tmp 21) 23 3 rfl 36 i1 _ 1 24 Try.underlying23 Try.underlying3 hi1 hy0 hy1 hy2 rfl (by omega) n h0 (by unfold maxLen; omega) (by omega) rfl rfl ?_; intro pc pw hp1 hp2 hp3; have P3 := Lib.hid hp3; have hp2' : pc ≤ 9223372036854775807 := hp2; have z0 : (0 : Int) ≤ (pc : Int) := (by omega); clear hp3)
    go_ret
    exact ⟨_, _, rfl, P3.out⟩
set_option maxRecDepth 100000 in
set_option maxHeartbeats 8000000 in
theorem ConcatT_any {w : World} {g n m : Nat} {x y : Value} {xs ys : List Value} (hb : Blk w g 23 #[x, y]) (hx : Rd w 1 x n xs) (hy : Rd w 1 y m ys) (h1 : ∀ u ∈ xs, u.oneCell' = true) (h2 : ∀ u ∈ ys, u.oneCell' = true) (hn : n ≤ 1000000) (hm : m ≤ 1000000) :
    Calls Try.prog 17 #[.slice (some ⟨g, 0, none⟩) 2 2] w (ConcatPost w 36 1 (n + m) (xs ++ ys)) := by
  obtain ⟨i1, hi1, hy0, hy1, hy2⟩ := info_parts bytes_info'
  have hx' := hx
  have hy' := hy
  obtain ⟨Ax, cx, rfl, hx1, hx2, -⟩ := hx'
  obtain ⟨Ay, cy, rfl, hy3, hy4, -⟩ := hy'
  have c0 : w.cell? ⟨g, 0, none⟩ = some (.slice Ax n cx) := hb.cell 0
  have c1 : w.cell? ⟨g, 1, none⟩ = some (.slice Ay m cy) := hb.cell 1
  have HB := Lib.hid hb
  have HX := Lib.hid hx
  have HY := Lib.hid hy
  have H1 := Lib.hid h1
  have H2 := Lib.hid h2
  have CG := Lib.hid (GrowT_any w (n + m) (by omega))
  have t0 : decide ((n : Int) < 0) = false := by simp
  have t1 : decide ((n : Int) + (m : Int) < 0) = false := by simp; omega
  clear hb hx hy h1 h2
  go_enter Try.func17, Try.ntmps17
  go_wp2
  refine wp_loop_rounds 3 ?_
  rw [rounds_succ]
  go_wp2
  rw [rounds_succ]
  go_wp2
  rw [rounds_succ]
  go_wp2_with fail
  refine CG.out.mono ?_
  rintro e w2 ⟨A2, c2, rfl, hp2⟩
  have P2 := Lib.hid hp2
  have c0 : w2.cell? ⟨g, 0, none⟩ = some (.slice Ax n cx) := (hp2.2.2.blk HB.out (fun f => f)).cell 0
  have X2 := Lib.hid (HX.out.keep hp2.2.2)
  clear hp2
  go_wp2
  refine wp_loop_rounds 3 ?_
  rw [rounds_succ]
  go_wp2_with (at_builtin; refine wpList_append_to _ rfl (.tmp 31) (.tmp 32) 23 rfl 36 i1 _ 1 24 Try.underlying23 hi1 hy0 hy1 hy2 rfl _ 0 [] rfl P2.out.1 _ n xs rfl X2.out H1.out (by unfold maxLen; omega) (by omega) ?_; intro pA pc pw hown hupd hnew; have P3 := Lib.hid (P2.out.app hown hupd hnew); clear hown hupd hnew)
  rw [Nat.zero_add, List.nil_append] at P3
  have c1 : pw.cell? ⟨g, 1, none⟩ = some (.slice Ay m cy) := (P3.out.2.2.blk HB.out (fun f => f)).cell 1
  have Y3 := Lib.hid (HY.out.keep P3.out.2.2)
  rw [rounds_succ]
  go_wp2_with (at_builtin; refine wpList_append_to _ rfl (.tmp 31) (.tmp 32) 23 rfl 36 i1 _ 1 24 Try.underlying23 hi1 hy0 hy1 hy2 rfl _ n xs rfl P3.out.1 _ m ys rfl Y3.out H2.out (by unfold maxLen; omega) (by omega) ?_; intro qA qc qw hown hupd hnew; have P4 := Lib.hid (P3.out.app hown hupd hnew); clear hown hupd hnew)
  rw [rounds_succ]
  go_wp2
  go_ret
  exact ⟨_, _, rfl, P4.out⟩


set_option maxRecDepth 100000 in
set_option maxHeartbeats 4000000 in
theorem GrowS_any (w : World) (n : Nat) (hm : n ≤ 100000000) : Calls Try.prog 50 #[.slice none 0 0, .int .i64 (n : Int)] w (GrowPost w 38 23) := by
  obtain ⟨i1, hi1, hy0, hy1, hy2⟩ := info_parts signed_info
  rcases Nat.eq_zero_or_pos n with h0 | h0
  · subst h0
    go_enter Try.func50, Try.ntmps50
    go_wp2
    go_ret
    exact ⟨none, 0, rfl, Own.nil _ _ _, (fun k hk => by simp [OwnB, Value.ownBlock] at hk), Upd.refl _ _⟩
  · have t0 : decide ((n : Int) < 0) = false := by simp
    have t1 : decide ((0 : Int) < (n : Int)) = true := by simp; omega
    have t1' : decide (0 < n) = true := by simp; omega
    go_enter Try.func50, Try.ntmps50
    go_wp2_with (at_builtin; refine wpList_append_zeros _ rfl (.tmp 20) (.tmp 21) 22 3 rfl 38 i1 _ 23 88 Try.underlying22 Try.underlying3 hi1 hy0 hy1 hy2 zeroRow_size (by omega) n h0 (by unfold maxLen; omega) (by omega) rfl rfl ?_; intro pc pw hp1 hp2 hp3; have P3 := Lib.hid hp3; have hp2' : pc ≤ 9223372036854775807 := hp2; have z0 : (0 : Int) ≤ (pc : Int) := (by omega); clear hp3)
    go_ret
    exact ⟨_, _, rfl, P3.out⟩
set_option maxRecDepth 100000 in
set_option maxHeartbeats 8000000 in
theorem ConcatS_any {w : World} {g n m : Nat} {x y : Value} {xs ys : List Value} (hb : Blk w g 22 #[x, y]) (hx : Rd w 23 x n xs) (hy : Rd w 23 y m ys) (h1 : ∀ u ∈ xs, u.oneCell' = true) (h2 : ∀ u ∈ ys, u.oneCell' = true) (hn : n ≤ 1000000) (hm : m ≤ 1000000) :
    Calls Try.prog 16 #[.slice (some ⟨g, 0, none⟩) 2 2] w (ConcatPost w 38 23 (n + m) (xs ++ ys)) := by
  obtain ⟨i1, hi1, hy0, hy1, hy2⟩ := info_parts signed_info
  have hx' := hx
  have hy' := hy
  obtain ⟨Ax, cx, rfl, hx1, hx2, -⟩ := hx'
  obtain ⟨Ay, cy, rfl, hy3, hy4, -⟩ := hy'
  have c0 : w.cell? ⟨g, 0, none⟩ = some (.slice Ax n cx) := hb.cell 0
  have c1 : w.cell? ⟨g, 1, none⟩ = some (.slice Ay m cy) := hb.cell 1
  have HB := Lib.hid hb
  have HX := Lib.hid hx
  have HY := Lib.hid hy
  have H1 := Lib.hid h1
  have H2 := Lib.hid h2
  have CG := Lib.hid (GrowS_any w (n + m) (by omega))
  have t0 : decide ((n : Int) < 0) = false := by simp
  have t1 : decide ((n : Int) + (m : Int) < 0) = false := by simp; omega
  clear hb hx hy h1 h2
  go_enter Try.func16, Try.ntmps16
  go_wp2
  refine wp_loop_rounds 3 ?_
  rw [rounds_succ]
  go_wp2
  rw [rounds_succ]
  go_wp2
  rw [rounds_succ]
  go_wp2_with fail
  refine CG.out.mono ?_
  rintro e w2 ⟨A2, c2, rfl, hp2⟩
  have P2 := Lib.hid hp2
  have c0 : w2.cell? ⟨g, 0, none⟩ = some (.slice Ax n cx) := (hp2.2.2.blk HB.out (fun f => f)).cell 0
  have X2 := Lib.hid (HX.out.keep hp2.2.2)
  clear hp2
  go_wp2
  refine wp_loop_rounds 3 ?_
  rw [rounds_succ]
  go_wp2_with (at_builtin; refine wpList_append_to _ rfl (.tmp 31) (.tmp 32) 22 rfl 38 i1 _ 23 88 Try.underlying22 hi1 hy0 hy1 hy2 zeroRow_size _ 0 [] rfl P2.out.1 _ n xs rfl X2.out H1.out (by unfold maxLen; omega) (by omega) ?_; intro pA pc pw hown hupd hnew; have P3 := Lib.hid (P2.out.app hown hupd hnew); clear hown hupd hnew)
  rw [Nat.zero_add, List.nil_append] at P3
  have c1 : pw.cell? ⟨g, 1, none⟩ = some (.slice Ay m cy) := (P3.out.2.2.blk HB.out (fun f => f)).cell 1
  have Y3 := Lib.hid (HY.out.keep P3.out.2.2)
  rw [rounds_succ]
  go_wp2_with (at_builtin; refine wpList_append_to _ rfl (.tmp 31) (.tmp 32) 22 rfl 38 i1 _ 23 88 Try.underlying22 hi1 hy0 hy1 hy2 zeroRow_size _ n xs rfl P3.out.1 _ m ys rfl Y3.out H2.out (by unfold maxLen; omega) (by omega) ?_; intro qA qc qw hown hupd hnew; have P4 := Lib.hid (P3.out.app hown hupd hnew); clear hown hupd hnew)
  rw [rounds_succ]
  go_wp2
  go_ret
  exact ⟨_, _, rfl, P4.out⟩
end

section
open Go.RowKit

/-- A block of one of these types. -/
def TyF (ts : List TypeId) (w : World) (k : Nat) : Prop := ∃ t ∈ ts, ∃ cs, Blk w k t cs
/-- Of the blocks that were there only those of the types ts may have turned. -/
def UpdT (ts : List TypeId) (w w' : World) : Prop := Upd (TyF ts w) w w'
section
variable {ts us : List TypeId} {w w' w'' : World}
theorem UpdT.refl (ts : List TypeId) (w : World) : UpdT ts w w := Upd.refl _ _
theorem UpdT.none (h : Upd NoF w w') : UpdT ts w w' := h.mono (fun _ _ f => f.elim)
theorem UpdT.of {F : Nat → Prop} (h : Upd F w w') (hF : ∀ k, F k → TyF ts w k) : UpdT ts w w' := h.mono (fun k _ f => hF k f)
theorem UpdT.trans (h : UpdT ts w w') (k : UpdT ts w' w'') : UpdT ts w w'' := by
  refine Upd.trans h k (fun i hi hf => ?_)
  rcases Classical.em (TyF ts w i) with hc | hc
  · exact hc
  · obtain ⟨t, ht, cs, hb⟩ := hf
    exact ⟨t, ht, cs, (h.block i hi hc).symm.trans hb⟩
theorem UpdT.mono (h : UpdT ts w w') (hs : ∀ t ∈ ts, t ∈ us) : UpdT us w w' := Upd.mono h (fun _ _ ⟨t, ht, hb⟩ => ⟨t, hs t ht, hb⟩)
theorem Blk.tyf {k : Nat} {t : TypeId} {cs : Array Value} (h : Blk w k t cs) (ht : t ∈ ts) : TyF ts w k := ⟨t, ht, cs, h⟩
theorem Blk.not_tyf {k : Nat} {t : TypeId} {cs : Array Value} (h : Blk w k t cs) (ht : t ∉ ts) : ¬ TyF ts w k := fun ⟨t', ht', cs', hb'⟩ => by
  unfold Blk at h hb'
  rw [h] at hb'
  injection hb' with hb'
  injection hb' with _ he
  exact ht (he ▸ ht')
theorem UpdT.blk {k : Nat} {t : TypeId} {cs : Array Value} (h : UpdT ts w w') (hb : Blk w k t cs) (ht : t ∉ ts) : Blk w' k t cs := Upd.blk h hb (hb.not_tyf ht)
theorem Own.tyf {e : TypeId} {size n : Nat} {v : Value} {xs : List Value} (h : Own w e size v n xs) (ht : e ∈ ts) {k : Nat} (hk : OwnB v k) : TyF ts w k := by
  rcases h.2 with ⟨rfl, _⟩ | ⟨g, cap, cur, rfl, hb, _⟩
  · simp [OwnB, Value.ownBlock] at hk
  · simp [OwnB, Value.ownBlock] at hk
    subst hk
    exact hb.tyf ht
theorem Own.not_tyf {e : TypeId} {size n : Nat} {v : Value} {xs : List Value} (h : Own w e size v n xs) (ht : e ∉ ts) {k : Nat} (hk : OwnB v k) : ¬ TyF ts w k := by
  rcases h.2 with ⟨rfl, _⟩ | ⟨g, cap, cur, rfl, hb, _⟩
  · simp [OwnB, Value.ownBlock] at hk
  · simp [OwnB, Value.ownBlock] at hk
    subst hk
    exact hb.not_tyf ht
theorem Own.updT {e : TypeId} {size n : Nat} {v : Value} {xs : List Value} (h : Own w e size v n xs) (hu : UpdT ts w w') (ht : e ∉ ts) : Own w' e size v n xs := h.upd hu (fun _ hk => h.not_tyf ht hk)
end
/-- A slice of bytes in a block of its own. -/
def OwnU (w : World) (v : Value) (x : List UInt8) : Prop := Own w 5 1 v x.length (x.map byteV)
def TxO (w : World) (A : Option Addr) (c : Nat) (l : List (List UInt8)) : Prop :=
  ∃ us : List Value, us.length = l.length ∧ Own w 36 1 (.slice A l.length c) l.length us ∧ (∀ u ∈ us, u.oneCell' = true) ∧ ∀ (i : Nat) s, l[i]? = some s → ∃ u, us[i]? = some u ∧ OwnU w u s
def SgO (w : World) (A : Option Addr) (c : Nat) (l : List SignedS) : Prop :=
  (∀ s ∈ l, s.vote.Fit) ∧ ∃ us : List Value, us.length = l.length ∧ Own w 38 23 (.slice A l.length c) l.length (List.zipWith rowS l us).flatten ∧ ∀ (i : Nat) s, l[i]? = some s → ∃ u, us[i]? = some u ∧ OwnU w u s.sig
/-- The block of a slice is new. -/
def OwnN (w : World) (v : Value) : Prop := ∀ k, OwnB v k → w.heap.size ≤ k
section
variable {ts : List TypeId} {w w' : World} {A : Option Addr} {c : Nat}
theorem TxO.nil (w : World) : TxO w none 0 [] := ⟨[], rfl, Own.nil _ _ _, by simp, fun _ _ h => by cases h⟩
theorem SgO.nil (w : World) : SgO w none 0 [] := ⟨by simp, [], rfl, Own.nil _ _ _, fun _ _ h => by cases h⟩
theorem OwnN.nil (w : World) : OwnN w (.slice none 0 0) := fun k hk => by simp [OwnB, Value.ownBlock] at hk
theorem TxO.updT {l : List (List UInt8)} (h : TxO w A c l) (hu : UpdT ts w w') (h1 : 36 ∉ ts) (h2 : 5 ∉ ts) : TxO w' A c l := by
  obtain ⟨us, e1, e2, e0, e3⟩ := h
  refine ⟨us, e1, e2.updT hu h1, e0, fun i s hs => ?_⟩
  obtain ⟨u, a, b⟩ := e3 i s hs
  exact ⟨u, a, b.updT hu h2⟩
theorem SgO.updT {l : List SignedS} (h : SgO w A c l) (hu : UpdT ts w w') (h1 : 38 ∉ ts) (h2 : 5 ∉ ts) : SgO w' A c l := by
  obtain ⟨hf, us, e1, e2, e3⟩ := h
  refine ⟨hf, us, e1, e2.updT hu h1, fun i s hs => ?_⟩
  obtain ⟨u, a, b⟩ := e3 i s hs
  exact ⟨u, a, b.updT hu h2⟩
theorem TxO.to {l : List (List UInt8)} (h : TxO w A c l) {M : Nat → Prop} (hM : ∀ k, M k → ∀ cs, ¬ Blk w k 5 cs) : TxM w M A c l := by
  obtain ⟨us, e1, e2, e0, e3⟩ := h
  refine ⟨us, e1, e2, e0, fun i s hs => ?_⟩
  obtain ⟨u, a, b⟩ := e3 i s hs
  refine ⟨u, a, b.rdF (fun k hk hm => ?_)⟩
  rcases b.2 with ⟨rfl, _⟩ | ⟨g, cap, cur, rfl, hb, _⟩
  · simp [OwnB, Value.ownBlock] at hk
  · simp [OwnB, Value.ownBlock] at hk
    subst hk
    exact hM _ hm _ hb
theorem SgO.to {l : List SignedS} (h : SgO w A c l) {M : Nat → Prop} (hM : ∀ k, M k → ∀ cs, ¬ Blk w k 5 cs) : SgM w M A c l := by
  obtain ⟨hf, us, e1, e2, e3⟩ := h
  refine ⟨hf, us, e1, e2, fun i s hs => ?_⟩
  obtain ⟨u, a, b⟩ := e3 i s hs
  refine ⟨u, a, b.rdF (fun k hk hm => ?_)⟩
  rcases b.2 with ⟨rfl, _⟩ | ⟨g, cap, cur, rfl, hb, _⟩
  · simp [OwnB, Value.ownBlock] at hk
  · simp [OwnB, Value.ownBlock] at hk
    subst hk
    exact hM _ hm _ hb
theorem TxO.ne {l : List (List UInt8)} (h : TxO w A c l) {g : Nat} {cs : Array Value} (hb : Blk w g 25 cs) : ¬ OwnB (.slice A l.length c) g := by
  obtain ⟨us, e1, e2, e0, e3⟩ := h
  exact e2.blk_ne hb (by decide)
theorem SgO.ne {l : List SignedS} (h : SgO w A c l) {g : Nat} {cs : Array Value} (hb : Blk w g 25 cs) : ¬ OwnB (.slice A l.length c) g := by
  obtain ⟨hf, us, e1, e2, e3⟩ := h
  exact e2.blk_ne hb (by decide)
end
end
end Go.Proofs.Ytbgificdilpdcaa
