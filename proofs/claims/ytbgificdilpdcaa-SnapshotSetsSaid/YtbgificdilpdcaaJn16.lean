/- SameView of the reference. Conditions: sizes. equalVotes of package snapshot. Conditions: sizes. The order of texts, sorting and striking repetitions on plain lists. No condition. slices.SortFunc of texts. Conditions: sizes. Striking repetitions, on plain lists. No condition. -/
import Derived.Test.YtbgificdilpdcaaJn15
import Derived.Test.YtbgificdilpdcaaJn5
import Derived.Test.YtbgificdilpdcaaJn1
import Derived.Test.YtbgificdilpdcaaLay2
namespace Go.Proofs.Ytbgificdilpdcaa
section
open Go.RowKit

theorem view_eq {V V' : ViewS} : decide (V = V') = (decide (V.votes = V'.votes) && decide (V.texts = V'.texts)) := by
  rw [Bool.eq_iff_iff, Bool.and_eq_true, decide_eq_true_eq, decide_eq_true_eq, decide_eq_true_eq]
  exact ⟨fun e => by rw [e]; exact ⟨rfl, rfl⟩, fun ⟨e1, e2⟩ => ViewS.ext' e1 e2⟩
set_option maxRecDepth 100000 in
set_option maxHeartbeats 8000000 in
theorem SameView_any {w : World} {a b a' b' : Value} {V V' : ViewS} (h : VwR w a b V) (h' : VwR w a' b' V') (hs1 : V.votes.length ≤ 1099511627776) (hs2 : V.texts.length ≤ 1099511627776) (hs1' : V'.votes.length ≤ 1099511627776) (hs2' : V'.texts.length ≤ 1099511627776) : Calls Try.prog 7 #[.agg #[a, b], .agg #[a', b']] w fun e w' => e = .returned (.bool (decide (V = V'))) ∧ Upd NoF w w' := by
  obtain ⟨A, ca, rfl, hlc, hcm⟩ := h.1.form
  obtain ⟨A', cb, rfl, hlc', hcm'⟩ := h'.1.form
  obtain ⟨Tx, ta, rfl, -, -⟩ := h.2.form
  obtain ⟨Tx', tb, rfl, -, -⟩ := h'.2.form
  have HA := Lib.hid h.1
  have HB := Lib.hid h'.1
  have HTA := Lib.hid h.2
  have HTB := Lib.hid h'.2
  obtain ⟨tA, htA⟩ : ∃ x, Value.slice Tx V.texts.length ta = x := ⟨_, rfl⟩
  obtain ⟨tB, htB⟩ : ∃ x, Value.slice Tx' V'.texts.length tb = x := ⟨_, rfl⟩
  rw [htA] at HTA ⊢
  rw [htB] at HTB ⊢
  have OA := Lib.hid (show tA.oneCell' = true from by rw [← htA]; rfl)
  have OB := Lib.hid (show tB.oneCell' = true from by rw [← htB]; rfl)
  obtain ⟨n, hn⟩ : ∃ n, V.votes.length = n := ⟨_, rfl⟩
  obtain ⟨n', hn'⟩ : ∃ n, V'.votes.length = n := ⟨_, rfl⟩
  have HN := Lib.hid hn
  have HN' := Lib.hid hn'
  have B1 := Lib.hid ((Blk.new w 25 #[.slice A V.votes.length ca, tA]).alloc (.cells #[.slice A' V'.votes.length cb, tB] 25))
  have B2 := Lib.hid (show Blk ((w.alloc (.cells #[.slice A V.votes.length ca, tA] 25)).alloc (.cells #[.slice A' V'.votes.length cb, tB] 25)) (w.heap.size + 1) 25 #[.slice A' V'.votes.length cb, tB] from by have := Blk.new (w.alloc (.cells #[.slice A V.votes.length ca, tA] 25)) 25 #[.slice A' V'.votes.length cb, tB]; simpa using this)
  have UW := Lib.hid (((Upd.refl NoF w).alloc (.cells #[.slice A V.votes.length ca, tA] 25)).alloc (.cells #[.slice A' V'.votes.length cb, tB] 25))
  rw [hn] at hlc hs1 HA B1 B2 UW ⊢
  rw [hn'] at hlc' hs1' HB B1 B2 UW ⊢
  obtain ⟨W1, hW1⟩ : ∃ x, x = (w.alloc (.cells #[.slice A n ca, tA] 25)).alloc (.cells #[.slice A' n' cb, tB] 25) := ⟨_, rfl⟩
  rw [← hW1] at B1 B2 UW
  have HZ := Lib.hid (view_eq (V := V) (V' := V'))
  generalize decide (V = V') = Z at HZ ⊢
  clear h h' htA htB hn hn'
  have c10 : W1.cell? ⟨w.heap.size, 0, none⟩ = some (.slice A n ca) := B1.out.cell 0
  have c20 : W1.cell? ⟨(w.heap.size + 1), 0, none⟩ = some (.slice A' n' cb) := B2.out.cell 0
  by_cases hlen : n = n'
  rotate_left
  · have t0 : decide ((n : Int) = (n' : Int)) = false := by simp; omega
    have t0' : decide (n = n') = false := by simp; omega
    have HV := Lib.hid (show decide (V.votes = V'.votes) = false from by rw [decide_eq_false_iff_not]; intro e; exact hlen (by rw [← HN.out, ← HN'.out, e]))
    go_enter Try.func7, Try.ntmps7
    go_wp2
    go_ret
    refine ⟨retb (by rw [HZ.out, HV.out]; rfl), ?_⟩
    rw [← hW1]
    exact UW.out
  have HL := Lib.hid hlen
  subst hlen
  go_enter Try.func7, Try.ntmps7
  go_wp2
  rw [← hW1]
  clear hW1 c10 c20
  go_loopw [5] (fun i wr => SameRel V.votes V'.votes W1 i wr) (fun i _ => n - (intOf i).toNat)
  case atStart => exact ⟨0, rfl, by omega, fun j h => absurd h (by omega), Upd.refl _ _⟩
  case round =>
    obtain ⟨k, rfl, hk, hch, hu⟩ := hrel
    have hnn := HN.out
    have hll := HN'.out
    have HU := Lib.hid hu
    have c00 : wr.cell? ⟨w.heap.size, 0, none⟩ = some (.slice A n ca) := (hu.blk B1.out (fun h => h)).cell 0
    by_cases hlt : k < n
    · obtain ⟨s, hx⟩ : ∃ x, V.votes[k]? = some x := ⟨_, List.getElem?_eq_getElem (by omega)⟩
      obtain ⟨t, hy⟩ : ∃ x, V'.votes[k]? = some x := ⟨_, List.getElem?_eq_getElem (by omega)⟩
      have t1 : decide ((k : Int) < (n : Int)) = true := by simp; omega
      by_cases he : s = t
      · have HCH := Lib.hid (hch.next hx hy he)
        obtain ⟨g, o, Au, cu, rfl, r1, r2, -⟩ := (HA.out.keep (UW.out.trans hu (fun _ _ h => h))).at_ hx
        obtain ⟨g2, o2, Av, cv, rfl, r3, r4, -⟩ := (HB.out.keep (UW.out.trans hu (fun _ _ h => h))).at_ hy
        have FS := Lib.hid (HA.out.fit hx)
        have FT := Lib.hid (HB.out.fit hy)
        have c0 : wr.drew.cell? ⟨w.heap.size, 0, none⟩ = some (.slice (some ⟨g, o, none⟩) n ca) := (hu.blk B1.out (fun h => h)).cell 0
        have c1 : wr.drew.cell? ⟨(w.heap.size + 1), 0, none⟩ = some (.slice (some ⟨g2, o2, none⟩) n cb) := (hu.blk B2.out (fun h => h)).cell 0
        have RA := Lib.hid (show ∀ wq, Upd NoF wr.drew wq → wq.rangeAt g (o + k * 23) (rowS s (.slice Au s.sig.length cu)) from fun wq hq j x hj => hq.cell (r1 j x hj) (fun h => h))
        have RB := Lib.hid (show ∀ wq, Upd NoF wr.drew wq → wq.rangeAt g2 (o2 + k * 23) (rowS t (.slice Av t.sig.length cv)) from fun wq hq j x hj => hq.cell (r3 j x hj) (fun h => h))
        obtain ⟨ra, hra⟩ : ∃ z, (rowS s (.slice Au s.sig.length cu)).toArray = z := ⟨_, rfl⟩
        obtain ⟨rb, hrb⟩ : ∃ z, (rowS t (.slice Av t.sig.length cv)).toArray = z := ⟨_, rfl⟩
        have HRA := Lib.hid hra
        have HRB := Lib.hid hrb
        have CALL := Lib.hid (show ∀ wq, Upd NoF wr.drew wq → Calls Try.prog 26 #[.agg ra, .agg rb] wq (fun e w' => e = .returned (.bool true) ∧ Upd NoF wq w') from fun wq hq => by
          rw [← hra, ← hrb]
          have h := SameSigned_any FS.out FT.out wq (Rd.keep r2 ((((Upd.refl NoF wr).drew)).trans hq (fun _ _ h => h))) (Rd.keep r4 ((((Upd.refl NoF wr).drew)).trans hq (fun _ _ h => h)))
          rw [show decide (s = t) = true by simp [he]] at h
          exact h)
        clear r1 r2 r3 r4 hra hrb
        clear hx hy hch he hu hnn hll
        go_wp2
        refine wp_region_rgw (rgR [isV (.pointer (some ⟨w.heap.size, 0, none⟩)), isV (.slice (some ⟨g, o, none⟩) n ca), isV (.int .i64 (k : Int)), isV (.pointer (some ⟨g, o + k * 23, none⟩)), isV (.agg ra), isV (.pointer (some ⟨(w.heap.size + 1), 0, none⟩)), isV (.slice (some ⟨g2, o2, none⟩) n cb), isV (.int .i64 (k : Int)), isV (.pointer (some ⟨g2, o2 + k * 23, none⟩)), isV (.agg rb), isV (.bool true), isV (.bool false)]) (fun w w' => Upd NoF w w') (fun _ wq => Upd NoF wr.drew wq) (by kernel_rfl) (by kernel_rfl) (by kernel_rfl) (by rfl) (fun w => Upd.refl _ _) (rgR_keep (by
          intro p hp; simp only [List.mem_cons, List.not_mem_nil, or_false] at hp; rcases hp with rfl | rfl | rfl | rfl | rfl | rfl | rfl | rfl | rfl | rfl | rfl | rfl <;> first | exact stb_isV _ | exact stb_any)) (Upd.refl _ _) ?_ ?_
        · refine ⟨?_, ?_, ?_, ?_, ?_, ?_, ?_, ?_, ?_, ?_, ?_, ?_, trivial⟩
          · refine fun ρ w' L hW hLi hcl hd hdep hext hc hg hf => ?_
            rw [if_pos (show wantedR _ _ _ = true from rfl)]
            have e2 : ρ (.tmp 2) = .pointer (some ⟨w.heap.size, 0, none⟩) := hext 2 (by kernel_rfl)
            clear hdep hext hcl
            have HW := Lib.hid hW
            clear hW
            unfold OpDone
            go_simp
            exact ⟨rfl, Upd.refl _ _, HW.out⟩
          · refine fun ρ w' L hW hLi hcl hd hdep hext hc hg hf => ?_
            rw [if_pos (show wantedR _ _ _ = true from rfl)]
            have e20 : ρ (.tmp 20) = .pointer (some ⟨w.heap.size, 0, none⟩) := hdep 0 _ rfl (by kernel_rfl)
            have xx : w'.cell? ⟨w.heap.size, 0, none⟩ = some (.slice (some ⟨g, o, none⟩) n ca) := hW.cell c0 (fun h => h)
            clear hdep hext hcl
            have HW := Lib.hid hW
            clear hW
            unfold OpDone
            go_simp
            exact ⟨rfl, Upd.refl _ _, HW.out⟩
          · refine fun ρ w' L hW hLi hcl hd hdep hext hc hg hf => ?_
            rw [if_pos (show wantedR _ _ _ = true from rfl)]
            have e5 : ρ (.tmp 5) = .int .i64 (k : Int) := hext 5 (by kernel_rfl)
            clear hdep hext hcl
            have HW := Lib.hid hW
            clear hW
            unfold OpDone
            go_simp
            exact ⟨rfl, Upd.refl _ _, HW.out⟩
          · refine fun ρ w' L hW hLi hcl hd hdep hext hc hg hf => ?_
            rw [if_pos (show wantedR _ _ _ = true from rfl)]
            have e21 : ρ (.tmp 21) = .slice (some ⟨g, o, none⟩) n ca := hdep 1 _ rfl (by kernel_rfl)
            have e22 : ρ (.tmp 22) = .int .i64 (k : Int) := hdep 2 _ rfl (by kernel_rfl)
            have q0 : (0 : Int) ≤ (k : Int) := by omega
            have q1 : (k : Int) < (n : Int) := by omega
            have q2 : k < n := by omega
            clear hdep hext hcl
            have HW := Lib.hid hW
            clear hW
            unfold OpDone
            go_simp
            exact ⟨rfl, Upd.refl _ _, HW.out⟩
          · refine fun ρ w' L hW hLi hcl hd hdep hext hc hg hf => ?_
            rw [if_pos (show wantedR _ _ _ = true from rfl)]
            have e23 : ρ (.tmp 23) = .pointer (some ⟨g, o + k * 23, none⟩) := hdep 3 _ rfl (by kernel_rfl)
            clear hdep hext
            refine od_load_row 38 (.tmp 23) rfl g (o + k * 23) e23 (rowS s (.slice Au s.sig.length cu)) _ (RA.out w' hW) Try.underlying38 rfl (by rw [signed_size, rowS_len FS.out]) ?_
            rw [HRA.out]
            exact ⟨rfl, Upd.refl _ _, hW⟩
          · refine fun ρ w' L hW hLi hcl hd hdep hext hc hg hf => ?_
            rw [if_pos (show wantedR _ _ _ = true from rfl)]
            have e3 : ρ (.tmp 3) = .pointer (some ⟨(w.heap.size + 1), 0, none⟩) := hext 3 (by kernel_rfl)
            clear hdep hext hcl
            have HW := Lib.hid hW
            clear hW
            unfold OpDone
            go_simp
            exact ⟨rfl, Upd.refl _ _, HW.out⟩
          · refine fun ρ w' L hW hLi hcl hd hdep hext hc hg hf => ?_
            rw [if_pos (show wantedR _ _ _ = true from rfl)]
            have e25 : ρ (.tmp 25) = .pointer (some ⟨(w.heap.size + 1), 0, none⟩) := hdep 5 _ rfl (by kernel_rfl)
            have xx : w'.cell? ⟨(w.heap.size + 1), 0, none⟩ = some (.slice (some ⟨g2, o2, none⟩) n cb) := hW.cell c1 (fun h => h)
            clear hdep hext hcl
            have HW := Lib.hid hW
            clear hW
            unfold OpDone
            go_simp
            exact ⟨rfl, Upd.refl _ _, HW.out⟩
          · refine fun ρ w' L hW hLi hcl hd hdep hext hc hg hf => ?_
            rw [if_pos (show wantedR _ _ _ = true from rfl)]
            have e5 : ρ (.tmp 5) = .int .i64 (k : Int) := hext 5 (by kernel_rfl)
            clear hdep hext hcl
            have HW := Lib.hid hW
            clear hW
            unfold OpDone
            go_simp
            exact ⟨rfl, Upd.refl _ _, HW.out⟩
          · refine fun ρ w' L hW hLi hcl hd hdep hext hc hg hf => ?_
            rw [if_pos (show wantedR _ _ _ = true from rfl)]
            have e26 : ρ (.tmp 26) = .slice (some ⟨g2, o2, none⟩) n cb := hdep 6 _ rfl (by kernel_rfl)
            have e27 : ρ (.tmp 27) = .int .i64 (k : Int) := hdep 7 _ rfl (by kernel_rfl)
            have q0 : (0 : Int) ≤ (k : Int) := by omega
            have q1 : (k : Int) < (n : Int) := by omega
            have q2 : k < n := by omega
            clear hdep hext hcl
            have HW := Lib.hid hW
            clear hW
            unfold OpDone
            go_simp
            exact ⟨rfl, Upd.refl _ _, HW.out⟩
          · refine fun ρ w' L hW hLi hcl hd hdep hext hc hg hf => ?_
            rw [if_pos (show wantedR _ _ _ = true from rfl)]
            have e28 : ρ (.tmp 28) = .pointer (some ⟨g2, o2 + k * 23, none⟩) := hdep 8 _ rfl (by kernel_rfl)
            clear hdep hext
            refine od_load_row 38 (.tmp 28) rfl g2 (o2 + k * 23) e28 (rowS t (.slice Av t.sig.length cv)) _ (RB.out w' hW) Try.underlying38 rfl (by rw [signed_size, rowS_len FT.out]) ?_
            rw [HRB.out]
            exact ⟨rfl, Upd.refl _ _, hW⟩
          · refine fun ρ w' L hW hLi hcl hd hdep hext hc hg hf => ?_
            rw [if_pos (show wantedR _ _ _ = true from rfl)]
            have e24 : ρ (.tmp 24) = .agg ra := hdep 4 _ rfl (by kernel_rfl)
            have e29 : ρ (.tmp 29) = .agg rb := hdep 9 _ rfl (by kernel_rfl)
            clear hdep hext
            have CL := Lib.hid (CALL.out w' hW)
            have HW := Lib.hid hW
            clear hW
            unfold OpDone
            go_simp
            refine CL.out.mono ?_
            rintro e w5 ⟨rfl, hu5⟩
            exact ⟨_, rfl, rfl, hu5, HW.out.trans hu5 (fun _ _ f => f)⟩
          · refine fun ρ w' L hW hLi hcl hd hdep hext hc hg hf => ?_
            rw [if_pos (show wantedR _ _ _ = true from rfl)]
            have e30 : ρ (.tmp 30) = .bool true := hdep 10 _ rfl (by kernel_rfl)
            clear hdep hext hcl
            have HW := Lib.hid hW
            clear hW
            unfold OpDone
            go_simp
            exact ⟨rfl, Upd.refl _ _, HW.out⟩
        intro vs W8 L8 hL8 hW8 hR
        have hv0 : vs 0 = .pointer (some ⟨w.heap.size, 0, none⟩) := hR 0 _ rfl
        have hv1 : vs 1 = .slice (some ⟨g, o, none⟩) n ca := hR 1 _ rfl
        have hv2 : vs 2 = .int .i64 (k : Int) := hR 2 _ rfl
        have hv3 : vs 3 = .pointer (some ⟨g, o + k * 23, none⟩) := hR 3 _ rfl
        have hv4 : vs 4 = .agg ra := hR 4 _ rfl
        have hv5 : vs 5 = .pointer (some ⟨(w.heap.size + 1), 0, none⟩) := hR 5 _ rfl
        have hv6 : vs 6 = .slice (some ⟨g2, o2, none⟩) n cb := hR 6 _ rfl
        have hv7 : vs 7 = .int .i64 (k : Int) := hR 7 _ rfl
        have hv8 : vs 8 = .pointer (some ⟨g2, o2 + k * 23, none⟩) := hR 8 _ rfl
        have hv9 : vs 9 = .agg rb := hR 9 _ rfl
        have hv10 : vs 10 = .bool true := hR 10 _ rfl
        have hv11 : vs 11 = .bool false := hR 11 _ rfl
        simp only [putAll, Act.put, List.setIfInBounds_toArray, List.set_cons_zero, List.set_cons_succ, hv0, hv1, hv2, hv3, hv4, hv5, hv6, hv7, hv8, hv9, hv10, hv11]
        clear hR hv0 hv1 hv2 hv3 hv4 hv5 hv6 hv7 hv8 hv9 hv10 hv11
        have U8 := Lib.hid (show Upd NoF W1 W8 from (HU.out.drew).trans hW8 (fun _ _ h => h))
        clear hW8 hL8 c00 c0 c1
        go_wp2
        go_roundw
        case rel => exact ⟨k + 1, by go_num, by have := HN.out; omega, HCH.out, U8.out⟩
        case measure => simp [intOf]; omega
      · have HCH := Lib.hid (same_no hx hy he)
        obtain ⟨g, o, Au, cu, rfl, r1, r2, -⟩ := (HA.out.keep (UW.out.trans hu (fun _ _ h => h))).at_ hx
        obtain ⟨g2, o2, Av, cv, rfl, r3, r4, -⟩ := (HB.out.keep (UW.out.trans hu (fun _ _ h => h))).at_ hy
        have FS := Lib.hid (HA.out.fit hx)
        have FT := Lib.hid (HB.out.fit hy)
        have c0 : wr.drew.cell? ⟨w.heap.size, 0, none⟩ = some (.slice (some ⟨g, o, none⟩) n ca) := (hu.blk B1.out (fun h => h)).cell 0
        have c1 : wr.drew.cell? ⟨(w.heap.size + 1), 0, none⟩ = some (.slice (some ⟨g2, o2, none⟩) n cb) := (hu.blk B2.out (fun h => h)).cell 0
        have RA := Lib.hid (show ∀ wq, Upd NoF wr.drew wq → wq.rangeAt g (o + k * 23) (rowS s (.slice Au s.sig.length cu)) from fun wq hq j x hj => hq.cell (r1 j x hj) (fun h => h))
        have RB := Lib.hid (show ∀ wq, Upd NoF wr.drew wq → wq.rangeAt g2 (o2 + k * 23) (rowS t (.slice Av t.sig.length cv)) from fun wq hq j x hj => hq.cell (r3 j x hj) (fun h => h))
        obtain ⟨ra, hra⟩ : ∃ z, (rowS s (.slice Au s.sig.length cu)).toArray = z := ⟨_, rfl⟩
        obtain ⟨rb, hrb⟩ : ∃ z, (rowS t (.slice Av t.sig.length cv)).toArray = z := ⟨_, rfl⟩
        have HRA := Lib.hid hra
        have HRB := Lib.hid hrb
        have CALL := Lib.hid (show ∀ wq, Upd NoF wr.drew wq → Calls Try.prog 26 #[.agg ra, .agg rb] wq (fun e w' => e = .returned (.bool false) ∧ Upd NoF wq w') from fun wq hq => by
          rw [← hra, ← hrb]
          have h := SameSigned_any FS.out FT.out wq (Rd.keep r2 ((((Upd.refl NoF wr).drew)).trans hq (fun _ _ h => h))) (Rd.keep r4 ((((Upd.refl NoF wr).drew)).trans hq (fun _ _ h => h)))
          rw [show decide (s = t) = false by simp [he]] at h
          exact h)
        clear r1 r2 r3 r4 hra hrb
        clear hx hy hch he hu hnn hll
        go_wp2
        refine wp_region_rgw (rgR [isV (.pointer (some ⟨w.heap.size, 0, none⟩)), isV (.slice (some ⟨g, o, none⟩) n ca), isV (.int .i64 (k : Int)), isV (.pointer (some ⟨g, o + k * 23, none⟩)), isV (.agg ra), isV (.pointer (some ⟨(w.heap.size + 1), 0, none⟩)), isV (.slice (some ⟨g2, o2, none⟩) n cb), isV (.int .i64 (k : Int)), isV (.pointer (some ⟨g2, o2 + k * 23, none⟩)), isV (.agg rb), isV (.bool false), isV (.bool true)]) (fun w w' => Upd NoF w w') (fun _ wq => Upd NoF wr.drew wq) (by kernel_rfl) (by kernel_rfl) (by kernel_rfl) (by rfl) (fun w => Upd.refl _ _) (rgR_keep (by
          intro p hp; simp only [List.mem_cons, List.not_mem_nil, or_false] at hp; rcases hp with rfl | rfl | rfl | rfl | rfl | rfl | rfl | rfl | rfl | rfl | rfl | rfl <;> first | exact stb_isV _ | exact stb_any)) (Upd.refl _ _) ?_ ?_
        · refine ⟨?_, ?_, ?_, ?_, ?_, ?_, ?_, ?_, ?_, ?_, ?_, ?_, trivial⟩
          · refine fun ρ w' L hW hLi hcl hd hdep hext hc hg hf => ?_
            rw [if_pos (show wantedR _ _ _ = true from rfl)]
            have e2 : ρ (.tmp 2) = .pointer (some ⟨w.heap.size, 0, none⟩) := hext 2 (by kernel_rfl)
            clear hdep hext hcl
            have HW := Lib.hid hW
            clear hW
            unfold OpDone
            go_simp
            exact ⟨rfl, Upd.refl _ _, HW.out⟩
          · refine fun ρ w' L hW hLi hcl hd hdep hext hc hg hf => ?_
            rw [if_pos (show wantedR _ _ _ = true from rfl)]
            have e20 : ρ (.tmp 20) = .pointer (some ⟨w.heap.size, 0, none⟩) := hdep 0 _ rfl (by kernel_rfl)
            have xx : w'.cell? ⟨w.heap.size, 0, none⟩ = some (.slice (some ⟨g, o, none⟩) n ca) := hW.cell c0 (fun h => h)
            clear hdep hext hcl
            have HW := Lib.hid hW
            clear hW
            unfold OpDone
            go_simp
            exact ⟨rfl, Upd.refl _ _, HW.out⟩
          · refine fun ρ w' L hW hLi hcl hd hdep hext hc hg hf => ?_
            rw [if_pos (show wantedR _ _ _ = true from rfl)]
            have e5 : ρ (.tmp 5) = .int .i64 (k : Int) := hext 5 (by kernel_rfl)
            clear hdep hext hcl
            have HW := Lib.hid hW
            clear hW
            unfold OpDone
            go_simp
            exact ⟨rfl, Upd.refl _ _, HW.out⟩
          · refine fun ρ w' L hW hLi hcl hd hdep hext hc hg hf => ?_
            rw [if_pos (show wantedR _ _ _ = true from rfl)]
            have e21 : ρ (.tmp 21) = .slice (some ⟨g, o, none⟩) n ca := hdep 1 _ rfl (by kernel_rfl)
            have e22 : ρ (.tmp 22) = .int .i64 (k : Int) := hdep 2 _ rfl (by kernel_rfl)
            have q0 : (0 : Int) ≤ (k : Int) := by omega
            have q1 : (k : Int) < (n : Int) := by omega
            have q2 : k < n := by omega
            clear hdep hext hcl
            have HW := Lib.hid hW
            clear hW
            unfold OpDone
            go_simp
            exact ⟨rfl, Upd.refl _ _, HW.out⟩
          · refine fun ρ w' L hW hLi hcl hd hdep hext hc hg hf => ?_
            rw [if_pos (show wantedR _ _ _ = true from rfl)]
            have e23 : ρ (.tmp 23) = .pointer (some ⟨g, o + k * 23, none⟩) := hdep 3 _ rfl (by kernel_rfl)
            clear hdep hext
            refine od_load_row 38 (.tmp 23) rfl g (o + k * 23) e23 (rowS s (.slice Au s.sig.length cu)) _ (RA.out w' hW) Try.underlying38 rfl (by rw [signed_size, rowS_len FS.out]) ?_
            rw [HRA.out]
            exact ⟨rfl, Upd.refl _ _, hW⟩
          · refine fun ρ w' L hW hLi hcl hd hdep hext hc hg hf => ?_
            rw [if_pos (show wantedR _ _ _ = true from rfl)]
            have e3 : ρ (.tmp 3) = .pointer (some ⟨(w.heap.size + 1), 0, none⟩) := hext 3 (by kernel_rfl)
            clear hdep hext hcl
            have HW := Lib.hid hW
            clear hW
            unfold OpDone
            go_simp
            exact ⟨rfl, Upd.refl _ _, HW.out⟩
          · refine fun ρ w' L hW hLi hcl hd hdep hext hc hg hf => ?_
            rw [if_pos (show wantedR _ _ _ = true from rfl)]
            have e25 : ρ (.tmp 25) = .pointer (some ⟨(w.heap.size + 1), 0, none⟩) := hdep 5 _ rfl (by kernel_rfl)
            have xx : w'.cell? ⟨(w.heap.size + 1), 0, none⟩ = some (.slice (some ⟨g2, o2, none⟩) n cb) := hW.cell c1 (fun h => h)
            clear hdep hext hcl
            have HW := Lib.hid hW
            clear hW
            unfold OpDone
            go_simp
            exact ⟨rfl, Upd.refl _ _, HW.out⟩
          · refine fun ρ w' L hW hLi hcl hd hdep hext hc hg hf => ?_
            rw [if_pos (show wantedR _ _ _ = true from rfl)]
            have e5 : ρ (.tmp 5) = .int .i64 (k : Int) := hext 5 (by kernel_rfl)
            clear hdep hext hcl
            have HW := Lib.hid hW
            clear hW
            unfold OpDone
            go_simp
            exact ⟨rfl, Upd.refl _ _, HW.out⟩
          · refine fun ρ w' L hW hLi hcl hd hdep hext hc hg hf => ?_
            rw [if_pos (show wantedR _ _ _ = true from rfl)]
            have e26 : ρ (.tmp 26) = .slice (some ⟨g2, o2, none⟩) n cb := hdep 6 _ rfl (by kernel_rfl)
            have e27 : ρ (.tmp 27) = .int .i64 (k : Int) := hdep 7 _ rfl (by kernel_rfl)
            have q0 : (0 : Int) ≤ (k : Int) := by omega
            have q1 : (k : Int) < (n : Int) := by omega
            have q2 : k < n := by omega
            clear hdep hext hcl
            have HW := Lib.hid hW
            clear hW
            unfold OpDone
            go_simp
            exact ⟨rfl, Upd.refl _ _, HW.out⟩
          · refine fun ρ w' L hW hLi hcl hd hdep hext hc hg hf => ?_
            rw [if_pos (show wantedR _ _ _ = true from rfl)]
            have e28 : ρ (.tmp 28) = .pointer (some ⟨g2, o2 + k * 23, none⟩) := hdep 8 _ rfl (by kernel_rfl)
            clear hdep hext
            refine od_load_row 38 (.tmp 28) rfl g2 (o2 + k * 23) e28 (rowS t (.slice Av t.sig.length cv)) _ (RB.out w' hW) Try.underlying38 rfl (by rw [signed_size, rowS_len FT.out]) ?_
            rw [HRB.out]
            exact ⟨rfl, Upd.refl _ _, hW⟩
          · refine fun ρ w' L hW hLi hcl hd hdep hext hc hg hf => ?_
            rw [if_pos (show wantedR _ _ _ = true from rfl)]
            have e24 : ρ (.tmp 24) = .agg ra := hdep 4 _ rfl (by kernel_rfl)
            have e29 : ρ (.tmp 29) = .agg rb := hdep 9 _ rfl (by kernel_rfl)
            clear hdep hext
            have CL := Lib.hid (CALL.out w' hW)
            have HW := Lib.hid hW
            clear hW
            unfold OpDone
            go_simp
            refine CL.out.mono ?_
            rintro e w5 ⟨rfl, hu5⟩
            exact ⟨_, rfl, rfl, hu5, HW.out.trans hu5 (fun _ _ f => f)⟩
          · refine fun ρ w' L hW hLi hcl hd hdep hext hc hg hf => ?_
            rw [if_pos (show wantedR _ _ _ = true from rfl)]
            have e30 : ρ (.tmp 30) = .bool false := hdep 10 _ rfl (by kernel_rfl)
            clear hdep hext hcl
            have HW := Lib.hid hW
            clear hW
            unfold OpDone
            go_simp
            exact ⟨rfl, Upd.refl _ _, HW.out⟩
        intro vs W8 L8 hL8 hW8 hR
        have hv0 : vs 0 = .pointer (some ⟨w.heap.size, 0, none⟩) := hR 0 _ rfl
        have hv1 : vs 1 = .slice (some ⟨g, o, none⟩) n ca := hR 1 _ rfl
        have hv2 : vs 2 = .int .i64 (k : Int) := hR 2 _ rfl
        have hv3 : vs 3 = .pointer (some ⟨g, o + k * 23, none⟩) := hR 3 _ rfl
        have hv4 : vs 4 = .agg ra := hR 4 _ rfl
        have hv5 : vs 5 = .pointer (some ⟨(w.heap.size + 1), 0, none⟩) := hR 5 _ rfl
        have hv6 : vs 6 = .slice (some ⟨g2, o2, none⟩) n cb := hR 6 _ rfl
        have hv7 : vs 7 = .int .i64 (k : Int) := hR 7 _ rfl
        have hv8 : vs 8 = .pointer (some ⟨g2, o2 + k * 23, none⟩) := hR 8 _ rfl
        have hv9 : vs 9 = .agg rb := hR 9 _ rfl
        have hv10 : vs 10 = .bool false := hR 10 _ rfl
        have hv11 : vs 11 = .bool true := hR 11 _ rfl
        simp only [putAll, Act.put, List.setIfInBounds_toArray, List.set_cons_zero, List.set_cons_succ, hv0, hv1, hv2, hv3, hv4, hv5, hv6, hv7, hv8, hv9, hv10, hv11]
        clear hR hv0 hv1 hv2 hv3 hv4 hv5 hv6 hv7 hv8 hv9 hv10 hv11
        have U8 := Lib.hid (show Upd NoF W1 W8 from (HU.out.drew).trans hW8 (fun _ _ h => h))
        clear hW8 hL8 c00 c0 c1
        go_wp2
        go_ret
        exact ⟨retb (by rw [HZ.out, decide_eq_false HCH.out]; rfl), UW.out.trans U8.out (fun _ _ h => h)⟩
    · have t1 : decide ((k : Int) < (n : Int)) = false := by simp; omega
      have HCV := Lib.hid (hch.end_ (by rw [hnn, hll]) (by omega))
      have d1 : wr.cell? ⟨w.heap.size, 1, none⟩ = some tA := (hu.blk B1.out (fun h => h)).cell 1
      have d2 : wr.cell? ⟨(w.heap.size + 1), 1, none⟩ = some tB := (hu.blk B2.out (fun h => h)).cell 1
      have CT := Lib.hid (SameTexts_any (HTA.out.keep (UW.out.trans hu (fun _ _ h => h))) (HTB.out.keep (UW.out.trans hu (fun _ _ h => h))) hs2 hs2')
      clear hnn hch hu hll
      go_wp2_with fail
      refine CT.out.mono ?_
      rintro e w3 ⟨rfl, hu3⟩
      have U3 := Lib.hid hu3
      clear hu3
      go_wp2
      go_ret
      exact ⟨retb (by rw [HZ.out, decide_eq_true HCV.out, Bool.true_and]), UW.out.trans (HU.out.trans U3.out (fun _ _ h => h)) (fun _ _ h => h)⟩
end

section
open Go.RowKit

def fnV (k : Nat) : Value := .func (.func k) #[] #[]

set_option maxRecDepth 100000 in
set_option maxHeartbeats 4000000 in
theorem equalVotes_ne {s t : SignedS} {u v : Value} (hf : s.vote.Fit) (hg : t.vote.Fit) (w : World) (hu : Rd w 1 u s.sig.length (s.sig.map byteV)) (hv : Rd w 1 v t.sig.length (t.sig.map byteV)) (he : s.vote ≠ t.vote) : Calls Try.prog 23 #[.agg (rowS s u).toArray, .agg (rowS t v).toArray] w fun e w' => e = .returned (.bool (decide (s = t))) ∧ Upd NoF w w' := by
  have HZ := Lib.hid (show decide (s = t) = false from by rw [decide_eq_false_iff_not]; intro e; exact he (by rw [e]))
  have hne : ∀ w, (binOp .eql 35 (voteV s.vote) (voteV t.vote)).run Try.prog w = .ok (.bool false) w := fun w => by rw [vote_eql _ _ hf hg]; simp [he]
  obtain ⟨A, c, rfl, hlc, hcm⟩ := hu.slice
  obtain ⟨B, d, rfl, hld, hdm⟩ := hv.slice
  obtain ⟨za, hza⟩ : ∃ z, voteV s.vote = .agg z := ⟨_, rfl⟩
  obtain ⟨zb, hzb⟩ : ∃ z, voteV t.vote = .agg z := ⟨_, rfl⟩
  rw [hza, hzb] at hne
  have HZA := Lib.hid hza
  have HZB := Lib.hid hzb
  have HF := Lib.hid hf
  have HG := Lib.hid hg
  obtain ⟨ra, hra⟩ : ∃ row, (rowS s (.slice A s.sig.length c)).toArray = row := ⟨_, rfl⟩
  obtain ⟨rb, hrb⟩ : ∃ row, (rowS t (.slice B t.sig.length d)).toArray = row := ⟨_, rfl⟩
  rw [hra, hrb]
  have HRA := Lib.hid hra
  have HRB := Lib.hid hrb
  have RA := Lib.hid (show ∀ W, Blk W w.heap.size 38 ra → W.rangeAt w.heap.size 0 (rowS s (.slice A s.sig.length c)) from fun W h => by rw [← HRA.out] at h; exact range_blk h)
  have RB := Lib.hid (show ∀ W, Blk W (w.heap.size + 1) 38 rb → W.rangeAt (w.heap.size + 1) 0 (rowS t (.slice B t.sig.length d)) from fun W h => by rw [← HRB.out] at h; exact range_blk h)
  have ba : Blk ((w.alloc (.cells ra 38)).alloc (.cells rb 38)) w.heap.size 38 ra := (Blk.new w 38 ra).alloc _
  have bb : Blk ((w.alloc (.cells ra 38)).alloc (.cells rb 38)) (w.heap.size + 1) 38 rb := by have := Blk.new (w.alloc (.cells ra 38)) 38 rb; simpa using this
  have BA := Lib.hid ba
  have BB := Lib.hid bb
  clear hf hg hu hv hza hzb hra hrb hcm hdm ba bb he
  generalize decide (s = t) = Z at HZ ⊢
  go_enter Try.func23, Try.ntmps23
  go_wp2_with (first
    | (refine wpList_load_vote' rfl (.tmp 5) rfl w.heap.size 0 rfl s.vote HF.out (range_vote (RA.out _ BA.out)) (.agg za) HZA.out ?_)
    | (refine wpList_load_vote' rfl (.tmp 7) rfl (w.heap.size + 1) 0 rfl t.vote HG.out (range_vote (RB.out _ BB.out)) (.agg zb) HZB.out ?_))
  go_ret
  exact ⟨retb HZ.out.symm, ((Upd.refl NoF w).alloc _).alloc _⟩

set_option maxRecDepth 100000 in
set_option maxHeartbeats 4000000 in
theorem equalVotes_eq {s t : SignedS} {u v : Value} (hf : s.vote.Fit) (hg : t.vote.Fit) (w : World) (hu : Rd w 1 u s.sig.length (s.sig.map byteV)) (hv : Rd w 1 v t.sig.length (t.sig.map byteV)) (he : s.vote = t.vote) : Calls Try.prog 23 #[.agg (rowS s u).toArray, .agg (rowS t v).toArray] w fun e w' => e = .returned (.bool (decide (s = t))) ∧ Upd NoF w w' := by
  have HZ := Lib.hid (show decide (s = t) = (s.sig == t.sig) from by
    rw [Bool.eq_iff_iff, decide_eq_true_eq, beq_iff_eq]
    exact ⟨fun e => by rw [e], fun e => SignedS.ext' he e⟩)
  have hne : ∀ w, (binOp .eql 35 (voteV s.vote) (voteV t.vote)).run Try.prog w = .ok (.bool true) w := fun w => by rw [vote_eql _ _ hf hg]; simp [he]
  obtain ⟨A, c, rfl, hlc, hcm⟩ := hu.slice
  obtain ⟨B, d, rfl, hld, hdm⟩ := hv.slice
  obtain ⟨za, hza⟩ : ∃ z, voteV s.vote = .agg z := ⟨_, rfl⟩
  obtain ⟨zb, hzb⟩ : ∃ z, voteV t.vote = .agg z := ⟨_, rfl⟩
  rw [hza, hzb] at hne
  have HZA := Lib.hid hza
  have HZB := Lib.hid hzb
  have HF := Lib.hid hf
  have HG := Lib.hid hg
  obtain ⟨ra, hra⟩ : ∃ row, (rowS s (.slice A s.sig.length c)).toArray = row := ⟨_, rfl⟩
  obtain ⟨rb, hrb⟩ : ∃ row, (rowS t (.slice B t.sig.length d)).toArray = row := ⟨_, rfl⟩
  rw [hra, hrb]
  have HRA := Lib.hid hra
  have HRB := Lib.hid hrb
  have RA := Lib.hid (show ∀ W, Blk W w.heap.size 38 ra → W.rangeAt w.heap.size 0 (rowS s (.slice A s.sig.length c)) from fun W h => by rw [← HRA.out] at h; exact range_blk h)
  have RB := Lib.hid (show ∀ W, Blk W (w.heap.size + 1) 38 rb → W.rangeAt (w.heap.size + 1) 0 (rowS t (.slice B t.sig.length d)) from fun W h => by rw [← HRB.out] at h; exact range_blk h)
  have ba : Blk ((w.alloc (.cells ra 38)).alloc (.cells rb 38)) w.heap.size 38 ra := (Blk.new w 38 ra).alloc _
  have bb : Blk ((w.alloc (.cells ra 38)).alloc (.cells rb 38)) (w.heap.size + 1) 38 rb := by have := Blk.new (w.alloc (.cells ra 38)) 38 rb; simpa using this
  have BA := Lib.hid ba
  have BB := Lib.hid bb
  have c1 : ((w.alloc (.cells ra 38)).alloc (.cells rb 38)).cell? ⟨w.heap.size, 22, none⟩ = some (.slice A s.sig.length c) := by have := range_sig hf (RA.out _ ba); simpa using this
  have c2 : ((w.alloc (.cells ra 38)).alloc (.cells rb 38)).cell? ⟨w.heap.size + 1, 22, none⟩ = some (.slice B t.sig.length d) := by have := range_sig hg (RB.out _ bb); simpa using this
  have CB := Lib.hid (bEqual_any (hu.keep (((Upd.refl NoF w).alloc (.cells ra 38)).alloc (.cells rb 38))) (hv.keep (((Upd.refl NoF w).alloc (.cells ra 38)).alloc (.cells rb 38))))
  clear hf hg hu hv hza hzb hra hrb hcm hdm ba bb he
  generalize decide (s = t) = Z at HZ ⊢
  go_enter Try.func23, Try.ntmps23
  go_wp2_with (first
    | (refine wpList_load_vote' rfl (.tmp 5) rfl w.heap.size 0 rfl s.vote HF.out (range_vote (RA.out _ BA.out)) (.agg za) HZA.out ?_)
    | (refine wpList_load_vote' rfl (.tmp 7) rfl (w.heap.size + 1) 0 rfl t.vote HG.out (range_vote (RB.out _ BB.out)) (.agg zb) HZB.out ?_))
  refine CB.out.mono ?_
  rintro e w3 ⟨rfl, rfl⟩
  go_wp2
  go_ret
  exact ⟨retb HZ.out.symm, ((Upd.refl NoF w).alloc _).alloc _⟩

theorem equalVotes_any {s t : SignedS} {u v : Value} (hf : s.vote.Fit) (hg : t.vote.Fit) (w : World) (hu : Rd w 1 u s.sig.length (s.sig.map byteV)) (hv : Rd w 1 v t.sig.length (t.sig.map byteV)) : Calls Try.prog 23 #[.agg (rowS s u).toArray, .agg (rowS t v).toArray] w fun e w' => e = .returned (.bool (decide (s = t))) ∧ Upd NoF w w' := by
  by_cases he : s.vote = t.vote
  · exact equalVotes_eq hf hg w hu hv he
  · exact equalVotes_ne hf hg w hu hv he
end

section
open Go

theorem lessT_irrefl : ∀ a : List UInt8, lessT a a = false
  | [] => rfl
  | x :: l => by
    have ih := lessT_irrefl l
    unfold lessT at ih ⊢
    simp [Op.bytesLess, ih]
theorem lessT_trans : ∀ a b c : List UInt8, lessT a b = true → lessT b c = true → lessT a c = true
  | _, [], _, h, _ => by simp [lessT, Op.bytesLess] at h
  | _, _ :: _, [], _, h => by simp [lessT, Op.bytesLess] at h
  | [], _ :: _, _ :: _, _, _ => rfl
  | x :: l, y :: m, z :: n, h1, h2 => by
    have ih := lessT_trans l m n
    unfold lessT at ih h1 h2 ⊢
    simp only [Op.bytesLess, Bool.or_eq_true, decide_eq_true_eq, Bool.and_eq_true, beq_iff_eq] at h1 h2 ⊢
    rcases h1 with h1 | ⟨rfl, h1⟩
    · rcases h2 with h2 | ⟨rfl, h2⟩
      · exact .inl (UInt8.lt_trans h1 h2)
      · exact .inl h1
    · rcases h2 with h2 | ⟨rfl, h2⟩
      · exact .inl h2
      · exact .inr ⟨rfl, ih h1 h2⟩
theorem lessT_total : ∀ a b : List UInt8, lessT a b = false → lessT b a = false → a = b
  | [], [], _, _ => rfl
  | [], _ :: _, h, _ => by simp [lessT, Op.bytesLess] at h
  | _ :: _, [], _, h => by simp [lessT, Op.bytesLess] at h
  | x :: l, y :: m, h1, h2 => by
    have ih := lessT_total l m
    unfold lessT at ih h1 h2
    simp only [Op.bytesLess, Bool.or_eq_false_iff, decide_eq_false_iff_not, Bool.and_eq_false_imp, beq_iff_eq] at h1 h2
    have e : x = y := by
      have a1 := h1.1
      have a2 := h2.1
      rw [UInt8.lt_iff_toNat_lt] at a1 a2
      exact UInt8.toNat.inj (by omega)
    subst e
    rw [ih (h1.2 rfl) (h2.2 rfl)]
theorem lessT_ntrans (a b c : List UInt8) (h1 : lessT a b = false) (h2 : lessT b c = false) : lessT a c = false := by
  cases h : lessT a c with
  | false => rfl
  | true =>
    exfalso
    cases h3 : lessT b a with
    | true => rw [lessT_trans b a c h3 h] at h2; cases h2
    | false =>
      have := lessT_total a b h1 h3
      subst this
      rw [h] at h2; cases h2
theorem lessT_asymm {a b : List UInt8} (h : lessT a b = true) : lessT b a = false := by
  cases h1 : lessT b a with
  | false => rfl
  | true => have := lessT_trans a b a h h1; rw [lessT_irrefl] at this; cases this

/-! ### one order, any type -/
section
variable {α : Type} (lt : α → α → Bool)
def insL (x : α) : List α → List α
  | [] => [x]
  | y :: l => if lt y x then y :: insL x l else x :: y :: l
/-- The list in ascending order. -/
def sortL : List α → List α
  | [] => []
  | x :: l => insL lt x (sortL l)
def AscL (l : List α) : Prop := l.Pairwise (fun a b => lt b a = false)
variable {lt}
theorem insL_perm (x : α) : ∀ l : List α, (insL lt x l).Perm (x :: l)
  | [] => List.Perm.refl _
  | y :: l => by
    unfold insL
    split
    · exact ((insL_perm x l).cons y).trans (List.Perm.swap x y l)
    · exact List.Perm.refl _
theorem sortL_perm : ∀ l : List α, (sortL lt l).Perm l
  | [] => List.Perm.refl _
  | x :: l => (insL_perm x (sortL lt l)).trans ((sortL_perm l).cons x)
theorem insL_asc (hs : ∀ a b, lt a b = true → lt b a = false) (ht : ∀ a b c, lt a b = false → lt b c = false → lt a c = false) (x : α) : ∀ l : List α, AscL lt l → AscL lt (insL lt x l)
  | [], _ => by simp [insL, AscL]
  | y :: l, h => by
    unfold insL
    unfold AscL at *
    rw [List.pairwise_cons] at h
    by_cases hc : lt y x = true
    · rw [if_pos hc, List.pairwise_cons]
      refine ⟨fun z hz => ?_, insL_asc hs ht x l h.2⟩
      have := (insL_perm x l).mem_iff.1 hz
      rcases List.mem_cons.1 this with rfl | hz'
      · exact hs _ _ hc
      · exact h.1 z hz'
    · rw [if_neg hc, List.pairwise_cons]
      have hxy : lt y x = false := by simpa using hc
      refine ⟨fun z hz => ?_, List.pairwise_cons.2 h⟩
      rcases List.mem_cons.1 hz with rfl | hz'
      · exact hxy
      · exact ht _ _ _ (h.1 z hz') hxy
theorem sortL_asc (hs : ∀ a b, lt a b = true → lt b a = false) (ht : ∀ a b c, lt a b = false → lt b c = false → lt a c = false) : ∀ l : List α, AscL lt (sortL lt l)
  | [] => by simp [sortL, AscL]
  | x :: l => insL_asc hs ht x _ (sortL_asc hs ht l)
theorem asc_unique (hto : ∀ a b, lt a b = false → lt b a = false → a = b) : ∀ l m : List α, AscL lt l → AscL lt m → l.Perm m → l = m
  | [], m, _, _, hp => (List.Perm.nil_eq hp)
  | x :: l, [], _, _, hp => by have := hp.length_eq; simp at this
  | x :: l, y :: m, h1, h2, hp => by
    unfold AscL at h1 h2
    rw [List.pairwise_cons] at h1 h2
    have e : x = y := by
      have hx : x ∈ y :: m := hp.mem_iff.1 (by simp)
      have hy : y ∈ x :: l := hp.mem_iff.2 (by simp)
      rcases List.mem_cons.1 hx with h | h
      · exact h
      · rcases List.mem_cons.1 hy with h' | h'
        · exact h'.symm
        · exact hto _ _ (h2.1 x h) (h1.1 y h') |>.symm ▸ rfl
    subst e
    rw [asc_unique hto l m h1.2 h2.2 (List.Perm.cons_inv hp)]
end
theorem sortT_unique {l m : List (List UInt8)} (h1 : AscL lessT m) (hp : m.Perm l) : m = sortL lessT l :=
  asc_unique lessT_total _ _ h1 (sortL_asc (fun _ _ h => lessT_asymm h) lessT_ntrans l) (hp.trans (sortL_perm l).symm)

/-- A list without neighbours that are equal. -/
def compL {α : Type} [DecidableEq α] : List α → List α
  | a :: b :: l => if a = b then compL (b :: l) else a :: compL (b :: l)
  | l => l
end

section
open Go.RowKit Go.Shelf Go.Sort

/-- A value that reads as a text, as long as only blocks of M are written. -/
abbrev TxE (M : Nat → Prop) (w : World) : Type := { p : Value × List UInt8 // RdF M w 1 p.1 p.2.length (p.2.map byteV) }
instance (M : Nat → Prop) (w : World) : Inhabited (TxE M w) := ⟨⟨(.slice none 0 0, []), RdF.nil _ _ _⟩⟩
abbrev encE {M : Nat → Prop} {w : World} (x : TxE M w) : Value := x.1.1
abbrev cmpE {M : Nat → Prop} {w : World} (x y : TxE M w) : Int := cmpB x.1.2 y.1.2
theorem ltE {M : Nat → Prop} {w : World} (x y : TxE M w) : ltOf cmpE x y = lessT x.1.2 y.1.2 := cmpB_lt _ _
theorem swoE {M : Nat → Prop} {w : World} : SWO (ltOf (cmpE (M := M) (w := w))) where
  irrefl x := by rw [ltE]; exact lessT_irrefl _
  trans x y z h1 h2 := by rw [ltE] at *; exact lessT_trans _ _ _ h1 h2
  ntrans x y z h1 h2 := by rw [ltE] at *; exact lessT_ntrans _ _ _ h1 h2
theorem oneE {M : Nat → Prop} {w : World} : OneCell (encE (M := M) (w := w)) := fun x => by
  obtain ⟨A, c, e, -⟩ := x.2.now.slice
  show x.1.1.oneCell' = true
  rw [e]
  rfl
theorem upd_sort {α : Type} [Inhabited α] (enc : α → Value) (w : World) (blk off m : Nat) (dk : Array α) (os : Array Obj) : Upd (fun k => k = blk) w (sortWorld enc w blk off m dk os) := by
  refine ⟨rfl, rfl, rfl, ?_, fun k hk hn => ?_⟩
  · show w.heap.size ≤ (w.heap.modify blk _ ++ os).size
    rw [Array.size_append, Array.size_modify]
    omega
  · show (w.heap.modify blk _ ++ os)[k]? = w.heap[k]?
    rw [Array.getElem?_append_left (by rw [Array.size_modify]; exact hk), Array.getElem?_modify, if_neg (fun e => hn e.symm)]
theorem blk_sort {α : Type} [Inhabited α] (enc : α → Value) {w : World} {blk : Nat} {t : TypeId} {cur : Array Value} (h : Blk w blk t cur) (off m : Nat) (dk : Array α) (os : Array Obj) : Blk (sortWorld enc w blk off m dk os) blk t (putCells enc off dk cur) := by
  show (w.heap.modify blk _ ++ os)[blk]? = _
  rw [Array.getElem?_append_left (by rw [Array.size_modify]; exact h.lt), Array.getElem?_modify, if_pos rfl]
  have h' : w.heap[blk]? = some (.cells cur t (0, 0)) := h
  rw [h']
  rfl
def SortTPost (w : World) (M : Nat → Prop) (A : Option Addr) (c : Nat) (l : List (List UInt8)) (e : Ending) (w' : World) : Prop := e = .returned (.tuple #[]) ∧ TxM w' M A c (sortL lessT l) ∧ Upd (OwnB (.slice A l.length c)) w w'
theorem sortL_len {α : Type} {lt : α → α → Bool} (l : List α) : (sortL lt l).length = l.length := (sortL_perm l).length_eq
theorem bCmpReads {M : Nat → Prop} {w : World} {blk off size : Nat} (hM : M blk) : CmpReads Try.prog 21 #[] (encE (M := M) (w := w)) cmpE blk off size w := by
  intro m os dk _ x y
  have hu : Upd M w (sortWorld encE w blk off m dk os) := (upd_sort encE w blk off m dk os).mono (fun k _ e => by rw [show k = blk from e]; exact hM)
  refine (bCompare_any (x.2.upd hu).now (y.2.upd hu).now).mono ?_
  rintro e w' ⟨rfl, rfl⟩
  exact ⟨rfl, 0, rfl⟩
set_option maxRecDepth 100000 in
theorem SortT_any {w : World} {M : Nat → Prop} {A : Option Addr} {c : Nat} {l : List (List UInt8)} (hT : TxM w M A c l) (hM : ∀ k, OwnB (.slice A l.length c) k → M k) (hs : l.length ≤ 100000000) : Calls Try.prog 20 #[.slice A l.length c, fnV 21] w (SortTPost w M A c l) := by
  obtain ⟨us, e1, e2, e0, e3⟩ := hT
  rcases Nat.eq_zero_or_pos l.length with h0 | h0
  · have hl : l = [] := List.eq_nil_of_length_eq_zero h0
    subst hl
    have hc := AnyF.slices_SortFunc_none (P := Try.prog) (ρ := Try.sortTexts_ren) { Try.sortTexts with } A c (fnV 21) w
    refine Calls.mono (show Calls Try.prog 20 _ _ _ from hc) ?_
    rintro e w' ⟨rfl, rfl⟩
    exact ⟨rfl, ⟨us, e1, e2, e0, e3⟩, Upd.refl _ _⟩
  · rcases e2.2 with ⟨_, hz⟩ | ⟨g, cap, cur, hv, hb, hn, hcm, hcs, hx⟩
    · omega
    injection hv with hA _ hc
    subst hA
    subst hc
    have hMg : M g := hM g (by simp [OwnB, Value.ownBlock])
    have hsz : c * 1 ≤ cur.size := hcs
    obtain ⟨r, hr, hrx⟩ := list_choose (R := fun (i : Nat) (y : TxE M w) => us[i]? = some y.1.1 ∧ l[i]? = some y.1.2) (List.range l.length) (fun i hi => by
      have hi' : i < l.length := List.mem_range.1 hi
      obtain ⟨u, hu1, hu2⟩ := e3 i _ (List.getElem?_eq_getElem hi')
      exact ⟨⟨(u, l[i]), hu2⟩, hu1, List.getElem?_eq_getElem hi'⟩)
    rw [List.length_range] at hr
    have hri : ∀ i (y : TxE M w), r[i]? = some y → us[i]? = some y.1.1 ∧ l[i]? = some y.1.2 := fun i y hy => by
      have hi : i < l.length := by rw [← hr]; exact (List.getElem?_eq_some_iff.1 hy).1
      obtain ⟨z, hz, hz2⟩ := hrx i i (by rw [List.getElem?_range hi])
      rw [hy] at hz
      rw [Option.some.inj hz]
      exact hz2
    have hrl : r.map (·.1.2) = l := by
      apply List.ext_getElem?
      intro i
      rw [List.getElem?_map]
      cases hc : r[i]? with
      | none =>
        have : l[i]? = none := by rw [List.getElem?_eq_none_iff] at hc ⊢; omega
        rw [this]; rfl
      | some y => rw [(hri i y hc).2]; rfl
    have hds : r.toArray.size = l.length := by simp [hr]
    have hcell : ∀ j u, us[j]? = some u → cur[j]? = some u := fun j u hu => by
      rw [← hx, List.getElem?_take] at hu
      split at hu
      · simpa using hu
      · cases hu
    have hH : Holds encE w g 0 r.toArray := by
      intro j hj
      have hj' : j < r.length := by simpa using hj
      refine ⟨?_, hb.frozen _⟩
      rw [Nat.zero_add, hb.cell]
      have h1 := (hri j _ (List.getElem?_eq_getElem hj')).1
      rw [hcell _ _ h1]
      have : r.toArray[j]! = r[j] := by rw [getElem!_pos _ j hj]; simp
      rw [this]
    have hcon := Any.slices_SortFunc (P := Try.prog) (ρ := Try.sortTexts_ren) Try.sortTexts (encE (M := M) (w := w)) oneE cmpE swoE 21 #[] g 0 c r.toArray w (enters_of Try.func21 (by kernel_rfl) rfl) (bCmpReads hMg).lays hH hb.lt (by rw [hds]; omega)
    rw [hds] at hcon
    refine Calls.mono (show Calls Try.prog 20 #[.slice (some ⟨g, 0, none⟩) l.length c, fnV 21] w _ from hcon) ?_
    rintro e w' ⟨rfl, d', n, os, ⟨p1, _, p3⟩, hsrt, rfl⟩
    have hd' : d'.size = l.length := by rw [p1, hds]
    have hperm : d'.toList.Perm r := by
      have q1 : d'.extract 0 l.length = d' := by rw [← hd']; simp
      have q2 : r.toArray.extract 0 l.length = r.toArray := by rw [← hds]; simp
      rw [q1, q2] at p3
      exact p3
    have hl' : d'.toList.map (·.1.2) = sortL lessT l := by
      refine sortT_unique ?_ (by rw [← hrl]; exact hperm.map _)
      unfold AscL
      rw [List.pairwise_map, List.pairwise_iff_getElem]
      intro i j hi hj hij
      have := hsrt i j (Nat.zero_le _) hij (by rw [← hd']; simpa using hj)
      rw [ltE] at this
      have f1 : d'[i]! = d'.toList[i] := by rw [getElem!_pos _ i (by simpa using hi)]; simp
      have f2 : d'[j]! = d'.toList[j] := by rw [getElem!_pos _ j (by simpa using hj)]; simp
      rw [f1, f2] at this
      exact this
    have hup := upd_sort (encE (M := M) (w := w)) w g 0 n d' os
    have hupM : Upd M w (sortWorld encE w g 0 n d' os) := hup.mono (fun k _ e => by rw [show k = g from e]; exact hMg)
    refine ⟨rfl, ⟨d'.toList.map (·.1.1), by simp [sortL_len, hd'], ?_, ?_, fun i s hs' => ?_⟩, hup.mono (fun k _ e => by rw [show k = g from e]; simp [OwnB, Value.ownBlock])⟩
    · rw [sortL_len]
      refine ⟨by simp [hd'], .inr ⟨g, c, _, rfl, blk_sort encE hb 0 n d' os, hn, hcm, ?_, ?_⟩⟩
      · simp only [putCells, Array.size_mapIdx]
        exact hcs
      · apply List.ext_getElem?
        intro i
        rw [List.getElem?_take, List.getElem?_map]
        by_cases hi : i < l.length
        · rw [if_pos (by omega)]
          simp only [putCells, Array.getElem?_toList, Array.getElem?_mapIdx]
          have hic : i < cur.size := by omega
          rw [Array.getElem?_eq_getElem hic]
          simp only [Option.map_some]
          rw [if_pos (by omega), Nat.sub_zero, Array.getElem?_eq_getElem (by omega)]
          simp only [Option.map_some]
          rw [getElem!_pos d' i (by omega)]
        · rw [if_neg (by omega), Array.getElem?_toList, Array.getElem?_eq_none (by omega)]
          rfl
    · intro u hu
      obtain ⟨x, _, rfl⟩ := List.mem_map.1 hu
      exact oneE x
    · rw [← hl', List.getElem?_map] at hs'
      obtain ⟨y, hy, rfl⟩ := Option.map_eq_some_iff.1 hs'
      exact ⟨y.1.1, by rw [List.getElem?_map, hy]; rfl, y.2.upd hupM⟩
end

section
open Go
theorem take_two {α : Type} {l : List α} {k : Nat} {a b : α} (h1 : l[k]? = some a) (h2 : l[k + 1]? = some b) : l.take (k + 1 + 1) = l.take k ++ [a] ++ [b] := by
  obtain ⟨x1, y1⟩ := List.getElem?_eq_some_iff.1 h1
  obtain ⟨x2, y2⟩ := List.getElem?_eq_some_iff.1 h2
  rw [List.take_succ_eq_append_getElem x2, List.take_succ_eq_append_getElem x1, y1, y2]
theorem take_one {α : Type} {l : List α} {k : Nat} {a : α} (h1 : l[k]? = some a) : l.take (k + 1) = l.take k ++ [a] := by
  obtain ⟨x1, y1⟩ := List.getElem?_eq_some_iff.1 h1
  rw [List.take_succ_eq_append_getElem x1, y1]
section
variable {α : Type} [DecidableEq α]
theorem compL_two (a b : α) (l : List α) : compL (a :: b :: l) = if a = b then compL (b :: l) else a :: compL (b :: l) := by rw [compL]
theorem compL_snoc : ∀ (m : List α) (a b : α), compL (m ++ [a] ++ [b]) = if a = b then compL (m ++ [a]) else compL (m ++ [a]) ++ [b]
  | [], a, b => by
    simp only [List.nil_append, List.singleton_append]
    rw [compL_two]
    split
    · next h => rw [h]
    · rfl
  | [x], a, b => by
    have ih := compL_snoc [] a b
    simp only [List.nil_append, List.cons_append] at ih ⊢
    rw [compL_two x a [b], compL_two x a [], ih]
    by_cases h1 : x = a
    · simp only [if_pos h1]
    · simp only [if_neg h1]
      by_cases h2 : a = b
      · simp only [if_pos h2]
      · simp only [if_neg h2, List.cons_append]
  | x :: y :: m, a, b => by
    have ih := compL_snoc (y :: m) a b
    simp only [List.cons_append] at ih ⊢
    rw [compL_two x y (m ++ [a] ++ [b]), compL_two x y (m ++ [a]), ih]
    by_cases h1 : x = y
    · simp only [if_pos h1]
    · simp only [if_neg h1]
      by_cases h2 : a = b
      · simp only [if_pos h2]
      · simp only [if_neg h2, List.cons_append]
/-- One element more. -/
theorem comp_next {l : List α} {k : Nat} {a b : α} (h1 : l[k]? = some a) (h2 : l[k + 1]? = some b) : compL (l.take (k + 1 + 1)) = if a = b then compL (l.take (k + 1)) else compL (l.take (k + 1)) ++ [b] := by
  rw [take_two h1 h2, compL_snoc, take_one h1]
theorem comp_one (l : List α) : compL (l.take 1) = l.take 1 := by
  cases l <;> rfl
theorem comp_two {l : List α} {k : Nat} {a b : α} (h1 : l[k]? = some a) (h2 : l[k + 1]? = some b) (hne : a ≠ b) (h : compL (l.take (k + 1)) = l.take (k + 1)) : compL (l.take (k + 1 + 1)) = l.take (k + 1 + 1) := by
  rw [comp_next h1 h2, if_neg hne, h, take_two h1 h2, take_one h1]
theorem comp_small {l : List α} (h : l.length < 2) : compL l = l := by
  match l, h with
  | [], _ => rfl
  | [a], _ => rfl
theorem comp_len : ∀ l : List α, (compL l).length ≤ l.length
  | [] => Nat.le_refl _
  | [a] => Nat.le_refl _
  | a :: b :: l => by
    have ih := comp_len (b :: l)
    rw [compL_two]
    split
    · simp only [List.length_cons] at ih ⊢; omega
    · simp only [List.length_cons] at ih ⊢; omega
end
end
end Go.Proofs.Ytbgificdilpdcaa
