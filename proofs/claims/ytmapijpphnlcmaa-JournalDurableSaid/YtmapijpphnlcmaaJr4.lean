/- Parse of the reference. Conditions: sizes. -/
import Derived.Test.YtmapijpphnlcmaaJr3
namespace Go.Proofs.Ytmapijpphnlcmaa
open Go.RowKit

set_option maxRecDepth 100000 in
set_option maxHeartbeats 8000000 in
theorem rParse_any {w : World} {v : Value} {bs : List UInt8} (h : Rd w 1 v bs.length (bs.map byteV)) (hbl : bs.length ≤ 549755813888) : Calls Try.prog 26 #[v] w (ParsePost w bs) := by
  obtain ⟨A0, c0, rfl, hlc, hcm, _⟩ := id h
  have H := Lib.hid h
  obtain ⟨i0, hi0, hz0, hz1, hz2⟩ := info_parts bytes_info
  obtain ⟨i1, hi1, hy0, hy1, hy2⟩ := info_parts byte_info
  have hcm' : c0 ≤ 9223372036854775807 := by unfold maxLen at hcm; omega
  clear h hcm
  go_enter Try.func26, Try.ntmps26
  go_wp2
  go_loopw [4, 5] (fun out i wr => PRel w bs out i wr) (fun _ i _ => bs.length + 1 - (intOf i).toNat)
  case atStart =>
    refine ⟨[], 0, none, 0, [], rfl, rfl, PAt.start bs, ⟨Own.nil _ _ _, fun i b h => (by cases h)⟩, fun k hk => ?_, Upd.refl _ _⟩
    simp [RecsF, OwnB, Value.ownBlock] at hk
  case round =>
    obtain ⟨l, a, A, c, vs, rfl, rfl, hP, hV, hF, hU⟩ := hrel
    have hal : a ≤ bs.length := by obtain ⟨f, _, _, h3, _⟩ := hP; exact h3
    have hll : l.length ≤ bs.length := by obtain ⟨f, _, _, h3, h4⟩ := hP; omega
    have HP := Lib.hid hP
    have HV := Lib.hid hV
    have HF := Lib.hid hF
    have HU := Lib.hid hU
    have HR := Lib.hid (H.out.keep hU)
    have DONE := Lib.hid (show parseStep bs a l.length = none → ∀ w', Upd NoF wr w' → ParsePost w bs (.returned (.tuple #[.slice A l.length c, .int .i64 (a : Int)])) w' from fun hs w' hu => ParsePost.mk hP hs hV hF hU hu)
    clear hP hV hF hU
    by_cases h4 : a + 12 ≤ bs.length
    · have t0 : decide ((12 : Int) ≤ (bs.length : Int) - (a : Int)) = true := by simp; omega
      have CU := Lib.hid (r1Uint_yes HR.out a 4 (by omega) (by omega) (by omega) (by omega))
      obtain ⟨n, hn⟩ : ∃ n, be ((bs.drop a).take 4) = n := ⟨_, rfl⟩
      rw [hn] at CU
      have HN := Lib.hid hn
      clear hn
      by_cases hbig : 65536 < n
      · have t1 : decide ((65536 : Int) < (n : Int)) = true := by simp; omega
        have t1' : decide (65536 < n) = true := by simp; omega
        go_wp2_with fail
        refine CU.out.mono ?_
        rintro e w' ⟨rfl, rfl⟩
        go_wp2
        go_ret2
        exact DONE.out (ps_big (by rw [HN.out]; omega)) _ (Upd.refl _ _)
      · have t1 : decide ((65536 : Int) < (n : Int)) = false := by simp; omega
        have t1' : decide (65536 < n) = false := by simp; omega
        by_cases hfit : a + 12 + n ≤ bs.length
        · have t2 : decide ((bs.length : Int) - (a : Int) - 12 < (n : Int)) = false := by simp; omega
          obtain ⟨g, o, rfl, -⟩ := rd_cells HR.out (by omega)
          obtain ⟨r, hr⟩ : ∃ r, (bs.drop (a + 12)).take n = r := ⟨_, rfl⟩
          have hrl : r.length = n := by rw [← hr]; simp; omega
          have RR := Lib.hid (show ∀ w', Upd NoF wr w' → ∀ A' m, n ≤ m → m ≤ maxLen → (0 < n → A' = some ⟨g, o + (a + 12), none⟩) → Rd w' 1 (.slice A' n m) r.length (r.map byteV) from fun w' hu A' m h1 h2 hA => by
            rw [← hr]
            exact rd_part (HR.out.keep hu) rfl (by omega) h1 h2 A' hA)
          have RS := Lib.hid (show ∀ w', Upd NoF wr w' → Rd w' 1 (.slice (some ⟨g, o + (a + 4), none⟩) 8 (c0 - (a + 4))) ((bs.drop (a + 4)).take 8).length (((bs.drop (a + 4)).take 8).map byteV) from fun w' hu =>
            rd_part (HR.out.keep hu) rfl (by omega) (by omega) (by unfold maxLen; omega) _ (fun _ => rfl))
          have HRR := Lib.hid hr
          have HRL := Lib.hid hrl
          clear hr hrl
          have e0 : a + 12 + n - (a + 12) = n := by omega
          have q1 : (0 : Int) ≤ (a : Int) + 12 := by omega
          have q2 : (a : Int) + 12 ≤ (a : Int) + 12 + (n : Int) := by omega
          have q3 : (a : Int) + 12 + (n : Int) ≤ (c0 : Int) := by omega
          have q4 : ((a : Int) + 12).toNat = a + 12 := by omega
          have q5 : ((a : Int) + 12 + (n : Int)).toNat = a + 12 + n := by omega
          have q6 : IntKind.i64.wrap (n : Int) = (n : Int) := IntWalk.i64_in _ (by omega)
          by_cases hce : c0 = a + 12
          · subst hce
            have hn0 : n = 0 := by omega
            have q7 : a + 12 - (a + 12) = 0 := by omega
            rw [show a + 12 - (a + 4) = 8 by omega] at RS
            clear hn0
            have CSG := Lib.hid (show ∀ w4 A4 c4, Own w4 5 1 (.slice A4 n c4) n (r.map byteV) → Calls Try.prog 61 #[.int .i64 (l.length : Int), .slice A4 n c4] w4 fun e w' => e = .returned (nameV (jsumS l.length r)) ∧ Upd NoF w4 w' from fun w4 A4 c4 ho => rsum_any (bs := r) (by rw [HRL.out]; exact ho.rd) (by rw [HRL.out]; omega) l.length (by omega))
            obtain ⟨b0, b1, b2, b3, b4, b5, b6, b7, l', hl'⟩ := eight (jsumS l.length r) (Nat.le_of_eq rfl)
            obtain rfl : l' = [] := by
              have := congrArg List.length hl'
              rw [jsumS_len] at this
              simpa using this
            rw [hl'] at CSG
            have HL' := Lib.hid hl'
            have HRD := Lib.hid (RR.out wr (Upd.refl NoF wr) (some ⟨g, o, none⟩) (0) (by omega) (by unfold maxLen; omega) (fun h => by first | rfl | omega))
            have HONE := Lib.hid (bytes_oneCell r)
            clear hl'
            go_wp2_with fail
            refine CU.out.mono ?_
            rintro e w' ⟨rfl, rfl⟩
            go_wp2_with (at_builtin; refine wpList_append_new _ rfl (.tmp 35) (.tmp 44) 27 rfl 5 i1 _ 1 1 Try.underlying27 hi1 hy0 hy1 hy2 rfl (.slice (some ⟨wr.heap.size, 0, none⟩) 0 0) rfl (Own.fresh wr _ _) (.slice (some ⟨g, o, none⟩) n (0)) n (r.map byteV) rfl (by have h := HRD.out; rw [HRL.out] at h; exact h.keep ((Upd.refl NoF wr).alloc _)) HONE.out (by unfold maxLen; omega) (by omega) ?_; intro A4 c4 w4 hown4 hupd4 hnew4; have O4 := Lib.hid hown4; have U4 := Lib.hid (show Upd NoF wr w4 from ((Upd.refl NoF wr).alloc _).trans hupd4 (fun k hk e => by simp [OwnB, Value.ownBlock] at e; omega)); have N4 := Lib.hid (show ∀ k, OwnB (.slice A4 n c4) k → wr.heap.size ≤ k from fun k hk => by rcases hnew4 k hk with e | e; (simp [OwnB, Value.ownBlock] at e; omega); (simp at e; omega)); clear hown4 hupd4 hnew4)
            refine (CSG.out w4 A4 c4 O4.out).mono ?_
            rintro e w1 ⟨rfl, hu1⟩
            have U1 := Lib.hid (U4.out.trans hu1 (fun _ _ h => h))
            have O1 := Lib.hid (O4.out.upd hu1 (fun _ _ h => h))
            clear hu1
            go_wp2
            obtain ⟨w2, hw2⟩ : ∃ w2, w2 = w1.alloc (.cells #[byteV b0, byteV b1, byteV b2, byteV b3, byteV b4, byteV b5, byteV b6, byteV b7] 95) := ⟨_, rfl⟩
            rw [← hw2]
            have B2 := Lib.hid (show Blk w2 w1.heap.size 95 #[byteV b0, byteV b1, byteV b2, byteV b3, byteV b4, byteV b5, byteV b6, byteV b7] ∧ Upd NoF wr w2 ∧ Own w2 5 1 (.slice A4 n c4) n (r.map byteV) from by
              rw [hw2]
              exact ⟨Blk.new w1 _ _, U1.out.alloc _, O1.out.upd ((Upd.refl NoF w1).alloc _) (fun _ _ h => h)⟩)
            obtain ⟨s8, hs8⟩ : ∃ s8, (bs.drop (a + 4)).take 8 = s8 := ⟨_, rfl⟩
            have hs8l : s8.length = 8 := by rw [← hs8]; simp; omega
            have hstr1 : ∀ q, (convert 27 9 (.slice (some ⟨g, o + (a + 4), none⟩) 8 (8))).run Try.prog (w2.drewN q) = .ok (strV s8) (w2.drewN q) := fun q => run_str (by have := RS.out _ (B2.out.2.1.drewN q); rw [hs8] at this; exact this)
            have hstr2 : ∀ q, (convert 27 9 (.slice (some ⟨w1.heap.size, 0, none⟩) 8 8)).run Try.prog (w2.drewN q) = .ok (strV [b0, b1, b2, b3, b4, b5, b6, b7]) (w2.drewN q) := fun q => run_str (bs := [b0, b1, b2, b3, b4, b5, b6, b7]) (Rd.of_blk (B2.out.1.drewN q) (by simp) (by unfold maxLen; omega) rfl (by intro j u hu; simpa using hu))
            have HS8 := Lib.hid hs8
            have p1 : IntKind.i64.wrap ((a : Int) + 4) = (a : Int) + 4 := IntWalk.i64_in _ (by omega)
            have p2 : IntKind.i64.wrap ((a : Int) + 12) = (a : Int) + 12 := IntWalk.i64_in _ (by omega)
            have p3 : ((a : Int) + 4).toNat = a + 4 := by omega
            have p4 : (0 : Int) ≤ (a : Int) + 4 := by omega
            have p5 : (a : Int) + 4 ≤ (a : Int) + 12 := by omega
            have p6 : (a : Int) + 12 ≤ (a : Int) + 12 := by omega
            have p7 : a + 12 - (a + 4) = 8 := by omega
            have p8 : ¬ a + 12 = a + 4 := by omega
            clear hw2 hs8 hs8l
            by_cases hq : s8 = [b0, b1, b2, b3, b4, b5, b6, b7]
            · subst hq
              have hs : parseStep bs a l.length = some (r, a + 12 + n) := by
                have h1 := ps_yes (bs := bs) (a := a) (idx := l.length) (by omega) (by rw [HN.out]; exact ⟨by omega, by omega⟩) (by rw [HN.out, HRR.out, HL'.out]; exact HS8.out)
                rw [HN.out, HRR.out] at h1
                exact h1
              have HS := Lib.hid hs
              clear hs
              go_quiet (fail)
              clear p1 p2 hstr1 hstr2
              obtain ⟨w3, hw3⟩ : ∃ w3, w3 = w2.drewN nq := ⟨_, rfl⟩
              rw [← hw3]
              have U3 := Lib.hid (show Upd NoF wr w3 ∧ Own w3 5 1 (.slice A4 n c4) n (r.map byteV) from by rw [hw3]; exact ⟨B2.out.2.1.drewN nq, B2.out.2.2.upd ((Upd.refl NoF w2).drewN nq) (fun _ _ h => h)⟩)
              clear hw3
              go_wp2_with (at_builtin; refine wpList_append_to _ rfl (.tmp 62) (.tmp 64) 22 rfl 27 i0 _ 1 24 Try.underlying22 hi0 hz0 hz1 hz2 rfl (.slice A l.length c) l.length vs rfl (HV.out.1.upd (U3.out.1.alloc _) (fun _ _ h => h)) (.slice (some ⟨w3.heap.size, 0, none⟩) 1 1) 1 [.slice A4 n c4] rfl (Rd.of_blk (Blk.new w3 _ _) (by omega) (by unfold maxLen; omega) rfl (by intro j u hu; cases j with | zero => simpa using hu | succ j => simp at hu)) (by simp [Value.oneCell']) (by unfold maxLen; omega) (by omega) ?_; intro A5 c5 w5 hown5 hupd5 hnew5; have O5 := Lib.hid hown5; have U5 := Lib.hid hupd5; have N5 := Lib.hid hnew5; clear hown5 hupd5 hnew5)
              go_roundw
              case rel =>
                have hrl := HRL.out
                have ho5 := O5.out
                have hu4 := U3.out.2
                rw [← hrl] at ho5 hu4
                obtain ⟨g1, g2⟩ := RecsV.push HV.out (U3.out.1.alloc _) (hu4.upd ((Upd.refl NoF w3).alloc _) (fun _ _ h => h)) ho5 U5.out N5.out
                rw [hrl] at g1 g2
                have hwz := HU.out.size
                have hu3 := U3.out.1.size
                refine ⟨l ++ [r], a + 12 + n, A5, c5, vs ++ [.slice A4 n c4], by simp, by go_num, HP.out.next HS.out, by rw [List.length_append, List.length_singleton]; exact g1, fun k hk => ?_, (HU.out.trans (U3.out.1.alloc _) (fun _ _ h => h)).trans U5.out (fun k hk e => by have := HF.out k (.inl e); omega)⟩
                rw [List.length_append, List.length_singleton] at hk
                rcases g2 k hk with e | e | e
                · exact HF.out k e
                · have := N4.out k e; omega
                · simp at e; omega
              case measure => simp [intOf]; omega
            · have hq1 : (s8 == [b0, b1, b2, b3, b4, b5, b6, b7]) = false := by simpa using hq
              have hq2 : (s8 != [b0, b1, b2, b3, b4, b5, b6, b7]) = true := by simpa using hq
              have HQ := Lib.hid hq
              clear hq
              go_quiet (fail)
              clear p1 p2 hstr1 hstr2
              go_wp2
              go_ret2
              refine DONE.out (ps_sum ?_) _ (B2.out.2.1.drewN nq)
              rw [HN.out, HRR.out, HL'.out, HS8.out]
              exact HQ.out
          · have m0 : ¬ c0 = a + 12 := hce
            have CSG := Lib.hid (show ∀ w4 A4 c4, Own w4 5 1 (.slice A4 n c4) n (r.map byteV) → Calls Try.prog 61 #[.int .i64 (l.length : Int), .slice A4 n c4] w4 fun e w' => e = .returned (nameV (jsumS l.length r)) ∧ Upd NoF w4 w' from fun w4 A4 c4 ho => rsum_any (bs := r) (by rw [HRL.out]; exact ho.rd) (by rw [HRL.out]; omega) l.length (by omega))
            obtain ⟨b0, b1, b2, b3, b4, b5, b6, b7, l', hl'⟩ := eight (jsumS l.length r) (Nat.le_of_eq rfl)
            obtain rfl : l' = [] := by
              have := congrArg List.length hl'
              rw [jsumS_len] at this
              simpa using this
            rw [hl'] at CSG
            have HL' := Lib.hid hl'
            have HRD := Lib.hid (RR.out wr (Upd.refl NoF wr) (some ⟨g, o + (a + 12), none⟩) (c0 - (a + 12)) (by omega) (by unfold maxLen; omega) (fun h => by first | rfl | omega))
            have HONE := Lib.hid (bytes_oneCell r)
            clear hl'
            go_wp2_with fail
            refine CU.out.mono ?_
            rintro e w' ⟨rfl, rfl⟩
            go_wp2_with (at_builtin; refine wpList_append_new _ rfl (.tmp 35) (.tmp 44) 27 rfl 5 i1 _ 1 1 Try.underlying27 hi1 hy0 hy1 hy2 rfl (.slice (some ⟨wr.heap.size, 0, none⟩) 0 0) rfl (Own.fresh wr _ _) (.slice (some ⟨g, o + (a + 12), none⟩) n (c0 - (a + 12))) n (r.map byteV) rfl (by have h := HRD.out; rw [HRL.out] at h; exact h.keep ((Upd.refl NoF wr).alloc _)) HONE.out (by unfold maxLen; omega) (by omega) ?_; intro A4 c4 w4 hown4 hupd4 hnew4; have O4 := Lib.hid hown4; have U4 := Lib.hid (show Upd NoF wr w4 from ((Upd.refl NoF wr).alloc _).trans hupd4 (fun k hk e => by simp [OwnB, Value.ownBlock] at e; omega)); have N4 := Lib.hid (show ∀ k, OwnB (.slice A4 n c4) k → wr.heap.size ≤ k from fun k hk => by rcases hnew4 k hk with e | e; (simp [OwnB, Value.ownBlock] at e; omega); (simp at e; omega)); clear hown4 hupd4 hnew4)
            refine (CSG.out w4 A4 c4 O4.out).mono ?_
            rintro e w1 ⟨rfl, hu1⟩
            have U1 := Lib.hid (U4.out.trans hu1 (fun _ _ h => h))
            have O1 := Lib.hid (O4.out.upd hu1 (fun _ _ h => h))
            clear hu1
            go_wp2
            obtain ⟨w2, hw2⟩ : ∃ w2, w2 = w1.alloc (.cells #[byteV b0, byteV b1, byteV b2, byteV b3, byteV b4, byteV b5, byteV b6, byteV b7] 95) := ⟨_, rfl⟩
            rw [← hw2]
            have B2 := Lib.hid (show Blk w2 w1.heap.size 95 #[byteV b0, byteV b1, byteV b2, byteV b3, byteV b4, byteV b5, byteV b6, byteV b7] ∧ Upd NoF wr w2 ∧ Own w2 5 1 (.slice A4 n c4) n (r.map byteV) from by
              rw [hw2]
              exact ⟨Blk.new w1 _ _, U1.out.alloc _, O1.out.upd ((Upd.refl NoF w1).alloc _) (fun _ _ h => h)⟩)
            obtain ⟨s8, hs8⟩ : ∃ s8, (bs.drop (a + 4)).take 8 = s8 := ⟨_, rfl⟩
            have hs8l : s8.length = 8 := by rw [← hs8]; simp; omega
            have hstr1 : ∀ q, (convert 27 9 (.slice (some ⟨g, o + (a + 4), none⟩) 8 (c0 - (a + 4)))).run Try.prog (w2.drewN q) = .ok (strV s8) (w2.drewN q) := fun q => run_str (by have := RS.out _ (B2.out.2.1.drewN q); rw [hs8] at this; exact this)
            have hstr2 : ∀ q, (convert 27 9 (.slice (some ⟨w1.heap.size, 0, none⟩) 8 8)).run Try.prog (w2.drewN q) = .ok (strV [b0, b1, b2, b3, b4, b5, b6, b7]) (w2.drewN q) := fun q => run_str (bs := [b0, b1, b2, b3, b4, b5, b6, b7]) (Rd.of_blk (B2.out.1.drewN q) (by simp) (by unfold maxLen; omega) rfl (by intro j u hu; simpa using hu))
            have HS8 := Lib.hid hs8
            have p1 : IntKind.i64.wrap ((a : Int) + 4) = (a : Int) + 4 := IntWalk.i64_in _ (by omega)
            have p2 : IntKind.i64.wrap ((a : Int) + 12) = (a : Int) + 12 := IntWalk.i64_in _ (by omega)
            have p3 : ((a : Int) + 4).toNat = a + 4 := by omega
            have p4 : (0 : Int) ≤ (a : Int) + 4 := by omega
            have p5 : (a : Int) + 4 ≤ (a : Int) + 12 := by omega
            have p6 : (a : Int) + 12 ≤ (c0 : Int) := by omega
            have p7 : a + 12 - (a + 4) = 8 := by omega
            have p8 : ¬ c0 = a + 4 := by omega
            clear hw2 hs8 hs8l
            by_cases hq : s8 = [b0, b1, b2, b3, b4, b5, b6, b7]
            · subst hq
              have hs : parseStep bs a l.length = some (r, a + 12 + n) := by
                have h1 := ps_yes (bs := bs) (a := a) (idx := l.length) (by omega) (by rw [HN.out]; exact ⟨by omega, by omega⟩) (by rw [HN.out, HRR.out, HL'.out]; exact HS8.out)
                rw [HN.out, HRR.out] at h1
                exact h1
              have HS := Lib.hid hs
              clear hs
              go_quiet (fail)
              clear p1 p2 hstr1 hstr2
              obtain ⟨w3, hw3⟩ : ∃ w3, w3 = w2.drewN nq := ⟨_, rfl⟩
              rw [← hw3]
              have U3 := Lib.hid (show Upd NoF wr w3 ∧ Own w3 5 1 (.slice A4 n c4) n (r.map byteV) from by rw [hw3]; exact ⟨B2.out.2.1.drewN nq, B2.out.2.2.upd ((Upd.refl NoF w2).drewN nq) (fun _ _ h => h)⟩)
              clear hw3
              go_wp2_with (at_builtin; refine wpList_append_to _ rfl (.tmp 62) (.tmp 64) 22 rfl 27 i0 _ 1 24 Try.underlying22 hi0 hz0 hz1 hz2 rfl (.slice A l.length c) l.length vs rfl (HV.out.1.upd (U3.out.1.alloc _) (fun _ _ h => h)) (.slice (some ⟨w3.heap.size, 0, none⟩) 1 1) 1 [.slice A4 n c4] rfl (Rd.of_blk (Blk.new w3 _ _) (by omega) (by unfold maxLen; omega) rfl (by intro j u hu; cases j with | zero => simpa using hu | succ j => simp at hu)) (by simp [Value.oneCell']) (by unfold maxLen; omega) (by omega) ?_; intro A5 c5 w5 hown5 hupd5 hnew5; have O5 := Lib.hid hown5; have U5 := Lib.hid hupd5; have N5 := Lib.hid hnew5; clear hown5 hupd5 hnew5)
              go_roundw
              case rel =>
                have hrl := HRL.out
                have ho5 := O5.out
                have hu4 := U3.out.2
                rw [← hrl] at ho5 hu4
                obtain ⟨g1, g2⟩ := RecsV.push HV.out (U3.out.1.alloc _) (hu4.upd ((Upd.refl NoF w3).alloc _) (fun _ _ h => h)) ho5 U5.out N5.out
                rw [hrl] at g1 g2
                have hwz := HU.out.size
                have hu3 := U3.out.1.size
                refine ⟨l ++ [r], a + 12 + n, A5, c5, vs ++ [.slice A4 n c4], by simp, by go_num, HP.out.next HS.out, by rw [List.length_append, List.length_singleton]; exact g1, fun k hk => ?_, (HU.out.trans (U3.out.1.alloc _) (fun _ _ h => h)).trans U5.out (fun k hk e => by have := HF.out k (.inl e); omega)⟩
                rw [List.length_append, List.length_singleton] at hk
                rcases g2 k hk with e | e | e
                · exact HF.out k e
                · have := N4.out k e; omega
                · simp at e; omega
              case measure => simp [intOf]; omega
            · have hq1 : (s8 == [b0, b1, b2, b3, b4, b5, b6, b7]) = false := by simpa using hq
              have hq2 : (s8 != [b0, b1, b2, b3, b4, b5, b6, b7]) = true := by simpa using hq
              have HQ := Lib.hid hq
              clear hq
              go_quiet (fail)
              clear p1 p2 hstr1 hstr2
              go_wp2
              go_ret2
              refine DONE.out (ps_sum ?_) _ (B2.out.2.1.drewN nq)
              rw [HN.out, HRR.out, HL'.out, HS8.out]
              exact HQ.out
        · have t2 : decide ((bs.length : Int) - (a : Int) - 12 < (n : Int)) = true := by simp; omega
          go_wp2_with fail
          refine CU.out.mono ?_
          rintro e w' ⟨rfl, rfl⟩
          go_wp2
          go_ret2
          exact DONE.out (ps_big (by rw [HN.out]; omega)) _ (Upd.refl _ _)
    · have t0 : decide ((12 : Int) ≤ (bs.length : Int) - (a : Int)) = false := by simp; omega
      go_wp2
      go_ret2
      exact DONE.out (ps_short (by omega)) _ (Upd.refl _ _)
end Go.Proofs.Ytmapijpphnlcmaa
