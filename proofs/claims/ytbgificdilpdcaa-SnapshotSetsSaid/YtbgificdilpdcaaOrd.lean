/- 'ordered' of package snapshot. Conditions: sizes. -/
import Derived.Test.YtbgificdilpdcaaSDec
namespace Go.Proofs.Ytbgificdilpdcaa
open Go.RowKit

def OrdRel {α : Type} (r : α → α → Bool) (l : List α) (W : World) (i : Value) (wr : World) : Prop :=
  ∃ k : Nat, i = .int .i64 ((k : Int) + 1) ∧ (k = 0 ∨ k + 1 ≤ l.length) ∧ (∀ (j : Nat) a b, j < k → l[j]? = some a → l[j + 1]? = some b → r a b = true) ∧ Upd NoF W wr
theorem chain_end {α : Type} {r : α → α → Bool} {l : List α} {k : Nat} (h : ∀ (j : Nat) a b, j < k → l[j]? = some a → l[j + 1]? = some b → r a b = true) (hk : l.length ≤ k + 1) : chainB r l = true := by
  rw [chainB_iff]
  intro i a b ha hb
  have := (List.getElem?_eq_some_iff.1 hb).1
  exact h i a b (by omega) ha hb
theorem chain_next {α : Type} {r : α → α → Bool} {l : List α} {k : Nat} {x y : α} (h : ∀ (j : Nat) a b, j < k → l[j]? = some a → l[j + 1]? = some b → r a b = true) (hx : l[k]? = some x) (hy : l[k + 1]? = some y) (hr : r x y = true) : ∀ (j : Nat) a b, j < k + 1 → l[j]? = some a → l[j + 1]? = some b → r a b = true := by
  intro j a b hj ha hb
  rcases Nat.lt_or_ge j k with h1 | h1
  · exact h j a b h1 ha hb
  · obtain rfl : j = k := by omega
    rw [hx] at ha
    rw [hy] at hb
    rw [← Option.some.inj ha, ← Option.some.inj hb]
    exact hr
/-- Two signed votes next to each other. -/
theorem SgR.two {w : World} {A : Option Addr} {n c : Nat} {l : List SignedS} (h : SgR w (.slice A n c) l) {k : Nat} {s t : SignedS} (hs : l[k]? = some s) (ht : l[k + 1]? = some t) :
    ∃ g o Au cu Av cv, A = some ⟨g, o, none⟩ ∧ w.rangeAt g (o + k * 23) (rowS s (.slice Au s.sig.length cu)) ∧ w.rangeAt g (o + (k + 1) * 23) (rowS t (.slice Av t.sig.length cv)) ∧ Rd w 1 (.slice Au s.sig.length cu) s.sig.length (s.sig.map byteV) ∧ Rd w 1 (.slice Av t.sig.length cv) t.sig.length (t.sig.map byteV) := by
  obtain ⟨g, o, Au, cu, rfl, h1, h2, _⟩ := h.at_ hs
  obtain ⟨g', o', Av, cv, e, h3, h4, _⟩ := h.at_ ht
  injection e with e
  injection e with e1 e2
  subst e1 e2
  exact ⟨g, o, Au, cu, Av, cv, rfl, h1, h3, h2, h4⟩
theorem TxR.two {w : World} {A : Option Addr} {n c : Nat} {l : List (List UInt8)} (h : TxR w (.slice A n c) l) {k : Nat} {s t : List UInt8} (hs : l[k]? = some s) (ht : l[k + 1]? = some t) :
    ∃ g o Au cu Av cv, A = some ⟨g, o, none⟩ ∧ w.cell? ⟨g, o + k, none⟩ = some (.slice Au s.length cu) ∧ w.cell? ⟨g, o + (k + 1), none⟩ = some (.slice Av t.length cv) ∧ Rd w 1 (.slice Au s.length cu) s.length (s.map byteV) ∧ Rd w 1 (.slice Av t.length cv) t.length (t.map byteV) := by
  obtain ⟨g, o, Au, cu, rfl, h1, h2, _⟩ := h.at_ hs
  obtain ⟨g', o', Av, cv, e, h3, h4, _⟩ := h.at_ ht
  injection e with e
  injection e with e1 e2
  subst e1 e2
  exact ⟨g, o, Au, cu, Av, cv, rfl, h1, h3, h2, h4⟩


set_option maxRecDepth 100000 in
set_option maxHeartbeats 8000000 in
theorem ordered_any {w : World} {a b : Value} {V : ViewS} (h : VwR w a b V) (hs1 : V.votes.length ≤ 1099511627776) (hs2 : V.texts.length ≤ 1099511627776) : Calls Try.prog 35 #[.agg #[a, b]] w fun e w' => e = .returned (.bool (ordB V)) ∧ Upd NoF w w' := by
  obtain ⟨A, ca, rfl, hlc, hcm⟩ := h.1.form
  obtain ⟨B, cb, rfl, hld, hdm⟩ := h.2.form
  have HV := Lib.hid h.1
  have HT := Lib.hid h.2
  obtain ⟨av, hav⟩ : ∃ x, Value.slice A V.votes.length ca = x := ⟨_, rfl⟩
  obtain ⟨bv, hbv⟩ : ∃ x, Value.slice B V.texts.length cb = x := ⟨_, rfl⟩
  obtain ⟨n, hn⟩ : ∃ n, V.votes.length = n := ⟨_, rfl⟩
  obtain ⟨m, hm⟩ : ∃ n, V.texts.length = n := ⟨_, rfl⟩
  have BV := Lib.hid (Blk.new w 25 #[.slice A V.votes.length ca, .slice B V.texts.length cb])
  have UW := Lib.hid ((Upd.refl NoF w).alloc (.cells #[.slice A V.votes.length ca, .slice B V.texts.length cb] 25))
  have HN := Lib.hid hn
  have HM := Lib.hid hm
  rw [hn] at hlc hs1 BV UW HV ⊢
  rw [hm] at hld hs2 BV UW HT ⊢
  obtain ⟨W1, hW1⟩ : ∃ x, x = w.alloc (.cells #[.slice A n ca, .slice B m cb] 25) := ⟨_, rfl⟩
  rw [← hW1] at BV UW
  have OB := Lib.hid (show ordB V = (chainB lessS V.votes && chainB lessT V.texts) from rfl)
  clear h hav hbv hn hm
  generalize ordB V = Z at OB ⊢
  go_enter Try.func35, Try.ntmps35
  go_wp2
  rw [← hW1]
  clear hW1
  go_loopw [3] (fun i wr => OrdRel lessS V.votes W1 i wr) (fun i _ => n + 1 - (intOf i).toNat)
  case atStart => exact ⟨0, rfl, .inl rfl, fun j _ _ h => absurd h (by omega), Upd.refl _ _⟩
  case round =>
    obtain ⟨k, rfl, hk, hch, hu⟩ := hrel
    have c00 : wr.cell? ⟨w.heap.size, 0, none⟩ = some (.slice A n ca) := (hu.blk BV.out (fun h => h)).cell 0
    have hnn := HN.out
    by_cases hlt : k + 1 < n
    · obtain ⟨s, hx⟩ : ∃ x, V.votes[k]? = some x := ⟨_, List.getElem?_eq_getElem (by omega)⟩
      obtain ⟨t, hy⟩ : ∃ x, V.votes[k + 1]? = some x := ⟨_, List.getElem?_eq_getElem (by omega)⟩
      have t1 : decide ((k : Int) + 1 < (n : Int)) = true := by simp; omega
      have HU := Lib.hid hu
      clear hnn
      cases hless : lessS s t with
      | true =>
        obtain ⟨g, o, Au, cu, Av, cv, rfl, r1, r2, r3, r4⟩ := (HV.out.keep (UW.out.trans hu (fun _ _ h => h))).two hx hy
        have FS := Lib.hid (HV.out.fit hx)
        have FT := Lib.hid (HV.out.fit hy)
        have c0 : wr.drew.cell? ⟨w.heap.size, 0, none⟩ = some (.slice (some ⟨g, o, none⟩) n ca) := (hu.blk BV.out (fun h => h)).cell 0
        have RA := Lib.hid (show ∀ wq, Upd NoF wr.drew wq → wq.rangeAt g (o + k * 23) (rowS s (.slice Au s.sig.length cu)) from fun wq hq j x hj => hq.cell (r1 j x hj) (fun h => h))
        have RB := Lib.hid (show ∀ wq, Upd NoF wr.drew wq → wq.rangeAt g (o + (k + 1) * 23) (rowS t (.slice Av t.sig.length cv)) from fun wq hq j x hj => hq.cell (r2 j x hj) (fun h => h))
        obtain ⟨ra, hra⟩ : ∃ z, (rowS s (.slice Au s.sig.length cu)).toArray = z := ⟨_, rfl⟩
        obtain ⟨rb, hrb⟩ : ∃ z, (rowS t (.slice Av t.sig.length cv)).toArray = z := ⟨_, rfl⟩
        have HRA := Lib.hid hra
        have HRB := Lib.hid hrb
        have CALL := Lib.hid (show ∀ wq, Upd NoF wr.drew wq → Calls Try.prog 53 #[.agg ra, .agg rb] wq (fun e w' => e = .returned (.bool (lessS s t)) ∧ Upd NoF wq w') from fun wq hq => by
          rw [← hra, ← hrb]
          exact sLess_any FS.out FT.out wq (Rd.keep r3 ((((Upd.refl NoF wr).drew)).trans hq (fun _ _ h => h))) (Rd.keep r4 ((((Upd.refl NoF wr).drew)).trans hq (fun _ _ h => h))))
        clear r1 r2 r3 r4 hra hrb
        rw [hless] at CALL
        have HCH := Lib.hid (chain_next hch hx hy hless)
        clear hx hy hch hless hu
        go_wp2
        refine wp_region_rgw (rgR [isV (.pointer (some ⟨w.heap.size, 0, none⟩)), isV (.slice (some ⟨g, o, none⟩) n ca), isV (.int .i64 ((k : Int) + 1)), isV (.int .i64 (k : Int)), isV (.pointer (some ⟨g, o + k * 23, none⟩)), isV (.agg ra), isV (.pointer (some ⟨w.heap.size, 0, none⟩)), isV (.slice (some ⟨g, o, none⟩) n ca), isV (.int .i64 ((k : Int) + 1)), isV (.pointer (some ⟨g, o + (k + 1) * 23, none⟩)), isV (.agg rb), isV (.bool (true)), isV (.bool (false))]) (fun w w' => Upd NoF w w') (fun _ wq => Upd NoF wr.drew wq) (by kernel_rfl) (by kernel_rfl) (by kernel_rfl) (by rfl) (fun w => Upd.refl _ _) (rgR_keep (by
          intro p hp; simp only [List.mem_cons, List.not_mem_nil, or_false] at hp; rcases hp with rfl | rfl | rfl | rfl | rfl | rfl | rfl | rfl | rfl | rfl | rfl | rfl | rfl <;> first | exact stb_isV _ | exact stb_any)) (Upd.refl _ _) ?_ ?_
        · refine ⟨?_, ?_, ?_, ?_, ?_, ?_, ?_, ?_, ?_, ?_, ?_, ?_, ?_, trivial⟩
          · refine fun ρ w' L hW hLi hcl hd hdep hext hc hg hf => ?_
            rw [if_pos (show wantedR _ _ _ = true from rfl)]
            have e1 : ρ (.tmp 1) = .pointer (some ⟨w.heap.size, 0, none⟩) := hext 1 (by kernel_rfl)
            clear hdep hext hcl
            have HW := Lib.hid hW
            clear hW
            unfold OpDone
            go_simp
            exact ⟨rfl, Upd.refl _ _, HW.out⟩
          · refine fun ρ w' L hW hLi hcl hd hdep hext hc hg hf => ?_
            rw [if_pos (show wantedR _ _ _ = true from rfl)]
            have e12 : ρ (.tmp 12) = .pointer (some ⟨w.heap.size, 0, none⟩) := hdep 0 _ rfl (by kernel_rfl)
            have xx : w'.cell? ⟨w.heap.size, 0, none⟩ = some (.slice (some ⟨g, o, none⟩) n ca) := hW.cell c0 (fun h => h)
            clear hdep hext hcl
            have HW := Lib.hid hW
            clear hW
            unfold OpDone
            go_simp
            exact ⟨rfl, Upd.refl _ _, HW.out⟩
          · refine fun ρ w' L hW hLi hcl hd hdep hext hc hg hf => ?_
            rw [if_pos (show wantedR _ _ _ = true from rfl)]
            have e3 : ρ (.tmp 3) = .int .i64 ((k : Int) + 1) := hext 3 (by kernel_rfl)
            clear hdep hext hcl
            have HW := Lib.hid hW
            clear hW
            unfold OpDone
            go_simp
            exact ⟨rfl, Upd.refl _ _, HW.out⟩
          · refine fun ρ w' L hW hLi hcl hd hdep hext hc hg hf => ?_
            rw [if_pos (show wantedR _ _ _ = true from rfl)]
            have e14 : ρ (.tmp 14) = .int .i64 ((k : Int) + 1) := hdep 2 _ rfl (by kernel_rfl)
            have ww : IntKind.i64.wrap (k : Int) = k := IntWalk.i64_in _ (by omega)
            clear hdep hext hcl
            have HW := Lib.hid hW
            clear hW
            unfold OpDone
            go_simp
            exact ⟨rfl, Upd.refl _ _, HW.out⟩
          · refine fun ρ w' L hW hLi hcl hd hdep hext hc hg hf => ?_
            rw [if_pos (show wantedR _ _ _ = true from rfl)]
            have e13 : ρ (.tmp 13) = .slice (some ⟨g, o, none⟩) n ca := hdep 1 _ rfl (by kernel_rfl)
            have e15 : ρ (.tmp 15) = .int .i64 (k : Int) := hdep 3 _ rfl (by kernel_rfl)
            have q0 : (0 : Int) ≤ (k : Int) := by omega
            have q1 : (k : Int) < (n : Int) := by omega
            have q2 : k < n := by omega
            clear hdep hext hcl
            have HW := Lib.hid hW
            clear hW
            unfold OpDone
            go_simp
            exact ⟨rfl, Upd.refl _ _, HW.out⟩
          · refine fun ρ w' L hW hLi hcl hd hdep hext hc hg hf => ?_
            rw [if_pos (show wantedR _ _ _ = true from rfl)]
            have e16 : ρ (.tmp 16) = .pointer (some ⟨g, o + k * 23, none⟩) := hdep 4 _ rfl (by kernel_rfl)
            clear hdep hext
            refine od_load_row 38 (.tmp 16) rfl g (o + k * 23) e16 (rowS s (.slice Au s.sig.length cu)) _ (RA.out w' hW) Try.underlying38 rfl (by rw [signed_size, rowS_len FS.out]) ?_
            rw [HRA.out]
            exact ⟨rfl, Upd.refl _ _, hW⟩
          · refine fun ρ w' L hW hLi hcl hd hdep hext hc hg hf => ?_
            rw [if_pos (show wantedR _ _ _ = true from rfl)]
            have e1 : ρ (.tmp 1) = .pointer (some ⟨w.heap.size, 0, none⟩) := hext 1 (by kernel_rfl)
            clear hdep hext hcl
            have HW := Lib.hid hW
            clear hW
            unfold OpDone
            go_simp
            exact ⟨rfl, Upd.refl _ _, HW.out⟩
          · refine fun ρ w' L hW hLi hcl hd hdep hext hc hg hf => ?_
            rw [if_pos (show wantedR _ _ _ = true from rfl)]
            have e18 : ρ (.tmp 18) = .pointer (some ⟨w.heap.size, 0, none⟩) := hdep 6 _ rfl (by kernel_rfl)
            have xx : w'.cell? ⟨w.heap.size, 0, none⟩ = some (.slice (some ⟨g, o, none⟩) n ca) := hW.cell c0 (fun h => h)
            clear hdep hext hcl
            have HW := Lib.hid hW
            clear hW
            unfold OpDone
            go_simp
            exact ⟨rfl, Upd.refl _ _, HW.out⟩
          · refine fun ρ w' L hW hLi hcl hd hdep hext hc hg hf => ?_
            rw [if_pos (show wantedR _ _ _ = true from rfl)]
            have e3 : ρ (.tmp 3) = .int .i64 ((k : Int) + 1) := hext 3 (by kernel_rfl)
            clear hdep hext hcl
            have HW := Lib.hid hW
            clear hW
            unfold OpDone
            go_simp
            exact ⟨rfl, Upd.refl _ _, HW.out⟩
          · refine fun ρ w' L hW hLi hcl hd hdep hext hc hg hf => ?_
            rw [if_pos (show wantedR _ _ _ = true from rfl)]
            have e19 : ρ (.tmp 19) = .slice (some ⟨g, o, none⟩) n ca := hdep 7 _ rfl (by kernel_rfl)
            have e20 : ρ (.tmp 20) = .int .i64 ((k : Int) + 1) := hdep 8 _ rfl (by kernel_rfl)
            have q0 : (0 : Int) ≤ (k : Int) + 1 := by omega
            have q1 : (k : Int) + 1 < (n : Int) := by omega
            have q3 : ((k : Int) + 1).toNat = k + 1 := by omega
            have q2 : k + 1 < n := by omega
            clear hdep hext hcl
            have HW := Lib.hid hW
            clear hW
            unfold OpDone
            go_simp
            exact ⟨rfl, Upd.refl _ _, HW.out⟩
          · refine fun ρ w' L hW hLi hcl hd hdep hext hc hg hf => ?_
            rw [if_pos (show wantedR _ _ _ = true from rfl)]
            have e21 : ρ (.tmp 21) = .pointer (some ⟨g, o + (k + 1) * 23, none⟩) := hdep 9 _ rfl (by kernel_rfl)
            clear hdep hext
            refine od_load_row 38 (.tmp 21) rfl g (o + (k + 1) * 23) e21 (rowS t (.slice Av t.sig.length cv)) _ (RB.out w' hW) Try.underlying38 rfl (by rw [signed_size, rowS_len FT.out]) ?_
            rw [HRB.out]
            exact ⟨rfl, Upd.refl _ _, hW⟩
          · refine fun ρ w' L hW hLi hcl hd hdep hext hc hg hf => ?_
            rw [if_pos (show wantedR _ _ _ = true from rfl)]
            have e17 : ρ (.tmp 17) = .agg ra := hdep 5 _ rfl (by kernel_rfl)
            have e22 : ρ (.tmp 22) = .agg rb := hdep 10 _ rfl (by kernel_rfl)
            clear hdep hext
            have CL := Lib.hid (CALL.out w' hW)
            have HW := Lib.hid hW
            clear hW
            unfold OpDone
            go_simp
            refine CL.out.mono ?_
            rintro e w5 ⟨rfl, hu5⟩
            exact ⟨_, rfl, rfl, hu5, HW.out.trans hu5 (fun _ _ f => f)⟩
          · refine fun ρ w' L hW hLi hcl hd hdep hext hc hg hf => ?_
            rw [if_pos (show wantedR _ _ _ = true from rfl)]
            have e23 : ρ (.tmp 23) = .bool (true) := hdep 11 _ rfl (by kernel_rfl)
            clear hdep hext hcl
            have HW := Lib.hid hW
            clear hW
            unfold OpDone
            go_simp
            exact ⟨rfl, Upd.refl _ _, HW.out⟩
        intro vs W8 L8 hL8 hW8 hR
        have hv0 : vs 0 = .pointer (some ⟨w.heap.size, 0, none⟩) := hR 0 _ rfl
        have hv1 : vs 1 = .slice (some ⟨g, o, none⟩) n ca := hR 1 _ rfl
        have hv2 : vs 2 = .int .i64 ((k : Int) + 1) := hR 2 _ rfl
        have hv3 : vs 3 = .int .i64 (k : Int) := hR 3 _ rfl
        have hv4 : vs 4 = .pointer (some ⟨g, o + k * 23, none⟩) := hR 4 _ rfl
        have hv5 : vs 5 = .agg ra := hR 5 _ rfl
        have hv6 : vs 6 = .pointer (some ⟨w.heap.size, 0, none⟩) := hR 6 _ rfl
        have hv7 : vs 7 = .slice (some ⟨g, o, none⟩) n ca := hR 7 _ rfl
        have hv8 : vs 8 = .int .i64 ((k : Int) + 1) := hR 8 _ rfl
        have hv9 : vs 9 = .pointer (some ⟨g, o + (k + 1) * 23, none⟩) := hR 9 _ rfl
        have hv10 : vs 10 = .agg rb := hR 10 _ rfl
        have hv11 : vs 11 = .bool (true) := hR 11 _ rfl
        have hv12 : vs 12 = .bool (false) := hR 12 _ rfl
        simp only [putAll, Act.put, List.setIfInBounds_toArray, List.set_cons_zero, List.set_cons_succ, hv0, hv1, hv2, hv3, hv4, hv5, hv6, hv7, hv8, hv9, hv10, hv11, hv12]
        clear hR hv0 hv1 hv2 hv3 hv4 hv5 hv6 hv7 hv8 hv9 hv10 hv11 hv12
        have U8 := Lib.hid (show Upd NoF W1 W8 from (HU.out.drew).trans hW8 (fun _ _ h => h))
        clear hW8 hL8 c00 c0
        go_wp2
        go_roundw
        case rel => exact ⟨k + 1, by go_num, .inr (by have := HN.out; omega), HCH.out, U8.out⟩
        case measure => simp [intOf]; omega
      | false =>
        obtain ⟨g, o, Au, cu, Av, cv, rfl, r1, r2, r3, r4⟩ := (HV.out.keep (UW.out.trans hu (fun _ _ h => h))).two hx hy
        have FS := Lib.hid (HV.out.fit hx)
        have FT := Lib.hid (HV.out.fit hy)
        have c0 : wr.drew.cell? ⟨w.heap.size, 0, none⟩ = some (.slice (some ⟨g, o, none⟩) n ca) := (hu.blk BV.out (fun h => h)).cell 0
        have RA := Lib.hid (show ∀ wq, Upd NoF wr.drew wq → wq.rangeAt g (o + k * 23) (rowS s (.slice Au s.sig.length cu)) from fun wq hq j x hj => hq.cell (r1 j x hj) (fun h => h))
        have RB := Lib.hid (show ∀ wq, Upd NoF wr.drew wq → wq.rangeAt g (o + (k + 1) * 23) (rowS t (.slice Av t.sig.length cv)) from fun wq hq j x hj => hq.cell (r2 j x hj) (fun h => h))
        obtain ⟨ra, hra⟩ : ∃ z, (rowS s (.slice Au s.sig.length cu)).toArray = z := ⟨_, rfl⟩
        obtain ⟨rb, hrb⟩ : ∃ z, (rowS t (.slice Av t.sig.length cv)).toArray = z := ⟨_, rfl⟩
        have HRA := Lib.hid hra
        have HRB := Lib.hid hrb
        have CALL := Lib.hid (show ∀ wq, Upd NoF wr.drew wq → Calls Try.prog 53 #[.agg ra, .agg rb] wq (fun e w' => e = .returned (.bool (lessS s t)) ∧ Upd NoF wq w') from fun wq hq => by
          rw [← hra, ← hrb]
          exact sLess_any FS.out FT.out wq (Rd.keep r3 ((((Upd.refl NoF wr).drew)).trans hq (fun _ _ h => h))) (Rd.keep r4 ((((Upd.refl NoF wr).drew)).trans hq (fun _ _ h => h))))
        clear r1 r2 r3 r4 hra hrb
        rw [hless] at CALL
        have HCH := Lib.hid (chainB_false (r := lessS) hx hy hless)
        clear hx hy hch hless hu
        go_wp2
        refine wp_region_rgw (rgR [isV (.pointer (some ⟨w.heap.size, 0, none⟩)), isV (.slice (some ⟨g, o, none⟩) n ca), isV (.int .i64 ((k : Int) + 1)), isV (.int .i64 (k : Int)), isV (.pointer (some ⟨g, o + k * 23, none⟩)), isV (.agg ra), isV (.pointer (some ⟨w.heap.size, 0, none⟩)), isV (.slice (some ⟨g, o, none⟩) n ca), isV (.int .i64 ((k : Int) + 1)), isV (.pointer (some ⟨g, o + (k + 1) * 23, none⟩)), isV (.agg rb), isV (.bool (false)), isV (.bool (true))]) (fun w w' => Upd NoF w w') (fun _ wq => Upd NoF wr.drew wq) (by kernel_rfl) (by kernel_rfl) (by kernel_rfl) (by rfl) (fun w => Upd.refl _ _) (rgR_keep (by
          intro p hp; simp only [List.mem_cons, List.not_mem_nil, or_false] at hp; rcases hp with rfl | rfl | rfl | rfl | rfl | rfl | rfl | rfl | rfl | rfl | rfl | rfl | rfl <;> first | exact stb_isV _ | exact stb_any)) (Upd.refl _ _) ?_ ?_
        · refine ⟨?_, ?_, ?_, ?_, ?_, ?_, ?_, ?_, ?_, ?_, ?_, ?_, ?_, trivial⟩
          · refine fun ρ w' L hW hLi hcl hd hdep hext hc hg hf => ?_
            rw [if_pos (show wantedR _ _ _ = true from rfl)]
            have e1 : ρ (.tmp 1) = .pointer (some ⟨w.heap.size, 0, none⟩) := hext 1 (by kernel_rfl)
            clear hdep hext hcl
            have HW := Lib.hid hW
            clear hW
            unfold OpDone
            go_simp
            exact ⟨rfl, Upd.refl _ _, HW.out⟩
          · refine fun ρ w' L hW hLi hcl hd hdep hext hc hg hf => ?_
            rw [if_pos (show wantedR _ _ _ = true from rfl)]
            have e12 : ρ (.tmp 12) = .pointer (some ⟨w.heap.size, 0, none⟩) := hdep 0 _ rfl (by kernel_rfl)
            have xx : w'.cell? ⟨w.heap.size, 0, none⟩ = some (.slice (some ⟨g, o, none⟩) n ca) := hW.cell c0 (fun h => h)
            clear hdep hext hcl
            have HW := Lib.hid hW
            clear hW
            unfold OpDone
            go_simp
            exact ⟨rfl, Upd.refl _ _, HW.out⟩
          · refine fun ρ w' L hW hLi hcl hd hdep hext hc hg hf => ?_
            rw [if_pos (show wantedR _ _ _ = true from rfl)]
            have e3 : ρ (.tmp 3) = .int .i64 ((k : Int) + 1) := hext 3 (by kernel_rfl)
            clear hdep hext hcl
            have HW := Lib.hid hW
            clear hW
            unfold OpDone
            go_simp
            exact ⟨rfl, Upd.refl _ _, HW.out⟩
          · refine fun ρ w' L hW hLi hcl hd hdep hext hc hg hf => ?_
            rw [if_pos (show wantedR _ _ _ = true from rfl)]
            have e14 : ρ (.tmp 14) = .int .i64 ((k : Int) + 1) := hdep 2 _ rfl (by kernel_rfl)
            have ww : IntKind.i64.wrap (k : Int) = k := IntWalk.i64_in _ (by omega)
            clear hdep hext hcl
            have HW := Lib.hid hW
            clear hW
            unfold OpDone
            go_simp
            exact ⟨rfl, Upd.refl _ _, HW.out⟩
          · refine fun ρ w' L hW hLi hcl hd hdep hext hc hg hf => ?_
            rw [if_pos (show wantedR _ _ _ = true from rfl)]
            have e13 : ρ (.tmp 13) = .slice (some ⟨g, o, none⟩) n ca := hdep 1 _ rfl (by kernel_rfl)
            have e15 : ρ (.tmp 15) = .int .i64 (k : Int) := hdep 3 _ rfl (by kernel_rfl)
            have q0 : (0 : Int) ≤ (k : Int) := by omega
            have q1 : (k : Int) < (n : Int) := by omega
            have q2 : k < n := by omega
            clear hdep hext hcl
            have HW := Lib.hid hW
            clear hW
            unfold OpDone
            go_simp
            exact ⟨rfl, Upd.refl _ _, HW.out⟩
          · refine fun ρ w' L hW hLi hcl hd hdep hext hc hg hf => ?_
            rw [if_pos (show wantedR _ _ _ = true from rfl)]
            have e16 : ρ (.tmp 16) = .pointer (some ⟨g, o + k * 23, none⟩) := hdep 4 _ rfl (by kernel_rfl)
            clear hdep hext
            refine od_load_row 38 (.tmp 16) rfl g (o + k * 23) e16 (rowS s (.slice Au s.sig.length cu)) _ (RA.out w' hW) Try.underlying38 rfl (by rw [signed_size, rowS_len FS.out]) ?_
            rw [HRA.out]
            exact ⟨rfl, Upd.refl _ _, hW⟩
          · refine fun ρ w' L hW hLi hcl hd hdep hext hc hg hf => ?_
            rw [if_pos (show wantedR _ _ _ = true from rfl)]
            have e1 : ρ (.tmp 1) = .pointer (some ⟨w.heap.size, 0, none⟩) := hext 1 (by kernel_rfl)
            clear hdep hext hcl
            have HW := Lib.hid hW
            clear hW
            unfold OpDone
            go_simp
            exact ⟨rfl, Upd.refl _ _, HW.out⟩
          · refine fun ρ w' L hW hLi hcl hd hdep hext hc hg hf => ?_
            rw [if_pos (show wantedR _ _ _ = true from rfl)]
            have e18 : ρ (.tmp 18) = .pointer (some ⟨w.heap.size, 0, none⟩) := hdep 6 _ rfl (by kernel_rfl)
            have xx : w'.cell? ⟨w.heap.size, 0, none⟩ = some (.slice (some ⟨g, o, none⟩) n ca) := hW.cell c0 (fun h => h)
            clear hdep hext hcl
            have HW := Lib.hid hW
            clear hW
            unfold OpDone
            go_simp
            exact ⟨rfl, Upd.refl _ _, HW.out⟩
          · refine fun ρ w' L hW hLi hcl hd hdep hext hc hg hf => ?_
            rw [if_pos (show wantedR _ _ _ = true from rfl)]
            have e3 : ρ (.tmp 3) = .int .i64 ((k : Int) + 1) := hext 3 (by kernel_rfl)
            clear hdep hext hcl
            have HW := Lib.hid hW
            clear hW
            unfold OpDone
            go_simp
            exact ⟨rfl, Upd.refl _ _, HW.out⟩
          · refine fun ρ w' L hW hLi hcl hd hdep hext hc hg hf => ?_
            rw [if_pos (show wantedR _ _ _ = true from rfl)]
            have e19 : ρ (.tmp 19) = .slice (some ⟨g, o, none⟩) n ca := hdep 7 _ rfl (by kernel_rfl)
            have e20 : ρ (.tmp 20) = .int .i64 ((k : Int) + 1) := hdep 8 _ rfl (by kernel_rfl)
            have q0 : (0 : Int) ≤ (k : Int) + 1 := by omega
            have q1 : (k : Int) + 1 < (n : Int) := by omega
            have q3 : ((k : Int) + 1).toNat = k + 1 := by omega
            have q2 : k + 1 < n := by omega
            clear hdep hext hcl
            have HW := Lib.hid hW
            clear hW
            unfold OpDone
            go_simp
            exact ⟨rfl, Upd.refl _ _, HW.out⟩
          · refine fun ρ w' L hW hLi hcl hd hdep hext hc hg hf => ?_
            rw [if_pos (show wantedR _ _ _ = true from rfl)]
            have e21 : ρ (.tmp 21) = .pointer (some ⟨g, o + (k + 1) * 23, none⟩) := hdep 9 _ rfl (by kernel_rfl)
            clear hdep hext
            refine od_load_row 38 (.tmp 21) rfl g (o + (k + 1) * 23) e21 (rowS t (.slice Av t.sig.length cv)) _ (RB.out w' hW) Try.underlying38 rfl (by rw [signed_size, rowS_len FT.out]) ?_
            rw [HRB.out]
            exact ⟨rfl, Upd.refl _ _, hW⟩
          · refine fun ρ w' L hW hLi hcl hd hdep hext hc hg hf => ?_
            rw [if_pos (show wantedR _ _ _ = true from rfl)]
            have e17 : ρ (.tmp 17) = .agg ra := hdep 5 _ rfl (by kernel_rfl)
            have e22 : ρ (.tmp 22) = .agg rb := hdep 10 _ rfl (by kernel_rfl)
            clear hdep hext
            have CL := Lib.hid (CALL.out w' hW)
            have HW := Lib.hid hW
            clear hW
            unfold OpDone
            go_simp
            refine CL.out.mono ?_
            rintro e w5 ⟨rfl, hu5⟩
            exact ⟨_, rfl, rfl, hu5, HW.out.trans hu5 (fun _ _ f => f)⟩
          · refine fun ρ w' L hW hLi hcl hd hdep hext hc hg hf => ?_
            rw [if_pos (show wantedR _ _ _ = true from rfl)]
            have e23 : ρ (.tmp 23) = .bool (false) := hdep 11 _ rfl (by kernel_rfl)
            clear hdep hext hcl
            have HW := Lib.hid hW
            clear hW
            unfold OpDone
            go_simp
            exact ⟨rfl, Upd.refl _ _, HW.out⟩
        intro vs W8 L8 hL8 hW8 hR
        have hv0 : vs 0 = .pointer (some ⟨w.heap.size, 0, none⟩) := hR 0 _ rfl
        have hv1 : vs 1 = .slice (some ⟨g, o, none⟩) n ca := hR 1 _ rfl
        have hv2 : vs 2 = .int .i64 ((k : Int) + 1) := hR 2 _ rfl
        have hv3 : vs 3 = .int .i64 (k : Int) := hR 3 _ rfl
        have hv4 : vs 4 = .pointer (some ⟨g, o + k * 23, none⟩) := hR 4 _ rfl
        have hv5 : vs 5 = .agg ra := hR 5 _ rfl
        have hv6 : vs 6 = .pointer (some ⟨w.heap.size, 0, none⟩) := hR 6 _ rfl
        have hv7 : vs 7 = .slice (some ⟨g, o, none⟩) n ca := hR 7 _ rfl
        have hv8 : vs 8 = .int .i64 ((k : Int) + 1) := hR 8 _ rfl
        have hv9 : vs 9 = .pointer (some ⟨g, o + (k + 1) * 23, none⟩) := hR 9 _ rfl
        have hv10 : vs 10 = .agg rb := hR 10 _ rfl
        have hv11 : vs 11 = .bool (false) := hR 11 _ rfl
        have hv12 : vs 12 = .bool (true) := hR 12 _ rfl
        simp only [putAll, Act.put, List.setIfInBounds_toArray, List.set_cons_zero, List.set_cons_succ, hv0, hv1, hv2, hv3, hv4, hv5, hv6, hv7, hv8, hv9, hv10, hv11, hv12]
        clear hR hv0 hv1 hv2 hv3 hv4 hv5 hv6 hv7 hv8 hv9 hv10 hv11 hv12
        have U8 := Lib.hid (show Upd NoF W1 W8 from (HU.out.drew).trans hW8 (fun _ _ h => h))
        clear hW8 hL8 c00 c0
        go_wp2
        go_ret
        exact ⟨retb (by rw [OB.out, HCH.out]; rfl), UW.out.trans U8.out (fun _ _ h => h)⟩
    · have t1 : decide ((k : Int) + 1 < (n : Int)) = false := by simp; omega
      have HCV := Lib.hid (chain_end hch (by omega))
      have HU := Lib.hid hu
      clear hnn hch hu
      go_wp2
      obtain ⟨wo, rfl⟩ : ∃ wo : World, wo = wr := ⟨_, rfl⟩
      go_loopw [4] (fun i wr => OrdRel lessT V.texts wo i wr) (fun i _ => m + 1 - (intOf i).toNat)
      case atStart => exact ⟨0, rfl, .inl rfl, fun j _ _ h => absurd h (by omega), Upd.refl _ _⟩
      case round =>
        clear t1 hlt hk c00
        obtain ⟨k, rfl, hk, hch, hu0⟩ := hrel
        have hu := HU.out.trans hu0 (fun _ _ h => h)
        have c11 : wr.cell? ⟨w.heap.size, 1, none⟩ = some (.slice B m cb) := (hu.blk BV.out (fun h => h)).cell 1
        have hnn := HM.out
        by_cases hlt : k + 1 < m
        · obtain ⟨s, hx⟩ : ∃ x, V.texts[k]? = some x := ⟨_, List.getElem?_eq_getElem (by omega)⟩
          obtain ⟨t, hy⟩ : ∃ x, V.texts[k + 1]? = some x := ⟨_, List.getElem?_eq_getElem (by omega)⟩
          have t1 : decide ((k : Int) + 1 < (m : Int)) = true := by simp; omega
          have HU2 := Lib.hid hu
          have HU0 := Lib.hid hu0
          clear hnn
          cases hless : lessT s t with
          | true =>
            obtain ⟨g, o, Au, cu, Av, cv, rfl, r1, r2, r3, r4⟩ := (HT.out.keep (UW.out.trans hu (fun _ _ h => h))).two hx hy
            have c1 : wr.drew.cell? ⟨w.heap.size, 1, none⟩ = some (.slice (some ⟨g, o, none⟩) m cb) := (hu.blk BV.out (fun h => h)).cell 1
            have XA := Lib.hid (show wr.drew.cell? ⟨g, o + k, none⟩ = some (.slice Au s.length cu) from r1)
            have XB := Lib.hid (show wr.drew.cell? ⟨g, o + (k + 1), none⟩ = some (.slice Av t.length cv) from r2)
            have CALL := Lib.hid (show ∀ wq, Upd NoF wr.drew wq → Calls Try.prog 21 #[.slice Au s.length cu, .slice Av t.length cv] wq (fun e w' => e = .returned (.int .i64 (cmpB s t)) ∧ wq = w') from fun wq hq => bCompare_any (Rd.keep r3 ((((Upd.refl NoF wr).drew)).trans hq (fun _ _ h => h))) (Rd.keep r4 ((((Upd.refl NoF wr).drew)).trans hq (fun _ _ h => h))))
            clear r1 r2 r3 r4
            have hcm : decide (0 ≤ cmpB s t) = false := by have := cmpB_lt s t; rw [hless] at this; simp at this ⊢; omega
            have HCH := Lib.hid (chain_next hch hx hy hless)
            clear hx hy hch hless hu hu0
            go_wp2
            refine wp_region_rgw (rgR [isV (.pointer (some ⟨w.heap.size, 1, none⟩)), isV (.slice (some ⟨g, o, none⟩) m cb), isV (.int .i64 ((k : Int) + 1)), isV (.int .i64 (k : Int)), isV (.pointer (some ⟨g, o + k, none⟩)), isV (.slice Au s.length cu), isV (.pointer (some ⟨w.heap.size, 1, none⟩)), isV (.slice (some ⟨g, o, none⟩) m cb), isV (.int .i64 ((k : Int) + 1)), isV (.pointer (some ⟨g, o + (k + 1), none⟩)), isV (.slice Av t.length cv), isV (.int .i64 (cmpB s t)), isV (.bool (false))]) (fun w w' => Upd NoF w w') (fun _ wq => Upd NoF wr.drew wq) (by kernel_rfl) (by kernel_rfl) (by kernel_rfl) (by rfl) (fun w => Upd.refl _ _) (rgR_keep (by
              intro p hp; simp only [List.mem_cons, List.not_mem_nil, or_false] at hp; rcases hp with rfl | rfl | rfl | rfl | rfl | rfl | rfl | rfl | rfl | rfl | rfl | rfl | rfl <;> first | exact stb_isV _ | exact stb_any)) (Upd.refl _ _) ?_ ?_
            · refine ⟨?_, ?_, ?_, ?_, ?_, ?_, ?_, ?_, ?_, ?_, ?_, ?_, ?_, trivial⟩
              · refine fun ρ w' L hW hLi hcl hd hdep hext hc hg hf => ?_
                rw [if_pos (show wantedR _ _ _ = true from rfl)]
                have e1 : ρ (.tmp 1) = .pointer (some ⟨w.heap.size, 0, none⟩) := hext 1 (by kernel_rfl)
                clear hdep hext hcl
                have HW := Lib.hid hW
                clear hW
                unfold OpDone
                go_simp
                exact ⟨rfl, Upd.refl _ _, HW.out⟩
              · refine fun ρ w' L hW hLi hcl hd hdep hext hc hg hf => ?_
                rw [if_pos (show wantedR _ _ _ = true from rfl)]
                have e32 : ρ (.tmp 32) = .pointer (some ⟨w.heap.size, 1, none⟩) := hdep 0 _ rfl (by kernel_rfl)
                have xx : w'.cell? ⟨w.heap.size, 1, none⟩ = some (.slice (some ⟨g, o, none⟩) m cb) := hW.cell c1 (fun h => h)
                clear hdep hext hcl
                have HW := Lib.hid hW
                clear hW
                unfold OpDone
                go_simp
                exact ⟨rfl, Upd.refl _ _, HW.out⟩
              · refine fun ρ w' L hW hLi hcl hd hdep hext hc hg hf => ?_
                rw [if_pos (show wantedR _ _ _ = true from rfl)]
                have e4 : ρ (.tmp 4) = .int .i64 ((k : Int) + 1) := hext 4 (by kernel_rfl)
                clear hdep hext hcl
                have HW := Lib.hid hW
                clear hW
                unfold OpDone
                go_simp
                exact ⟨rfl, Upd.refl _ _, HW.out⟩
              · refine fun ρ w' L hW hLi hcl hd hdep hext hc hg hf => ?_
                rw [if_pos (show wantedR _ _ _ = true from rfl)]
                have e34 : ρ (.tmp 34) = .int .i64 ((k : Int) + 1) := hdep 2 _ rfl (by kernel_rfl)
                have ww : IntKind.i64.wrap (k : Int) = k := IntWalk.i64_in _ (by omega)
                clear hdep hext hcl
                have HW := Lib.hid hW
                clear hW
                unfold OpDone
                go_simp
                exact ⟨rfl, Upd.refl _ _, HW.out⟩
              · refine fun ρ w' L hW hLi hcl hd hdep hext hc hg hf => ?_
                rw [if_pos (show wantedR _ _ _ = true from rfl)]
                have e33 : ρ (.tmp 33) = .slice (some ⟨g, o, none⟩) m cb := hdep 1 _ rfl (by kernel_rfl)
                have e35 : ρ (.tmp 35) = .int .i64 (k : Int) := hdep 3 _ rfl (by kernel_rfl)
                have q0 : (0 : Int) ≤ (k : Int) := by omega
                have q1 : (k : Int) < (m : Int) := by omega
                have q2 : k < m := by omega
                clear hdep hext hcl
                have HW := Lib.hid hW
                clear hW
                unfold OpDone
                go_simp
                exact ⟨rfl, Upd.refl _ _, HW.out⟩
              · refine fun ρ w' L hW hLi hcl hd hdep hext hc hg hf => ?_
                rw [if_pos (show wantedR _ _ _ = true from rfl)]
                have e36 : ρ (.tmp 36) = .pointer (some ⟨g, o + k, none⟩) := hdep 4 _ rfl (by kernel_rfl)
                have yy : w'.cell? ⟨g, o + k, none⟩ = some (.slice Au s.length cu) := hW.cell XA.out (fun h => h)
                clear hdep hext hcl
                have HW := Lib.hid hW
                clear hW
                unfold OpDone
                go_simp
                exact ⟨rfl, Upd.refl _ _, HW.out⟩
              · refine fun ρ w' L hW hLi hcl hd hdep hext hc hg hf => ?_
                rw [if_pos (show wantedR _ _ _ = true from rfl)]
                have e1 : ρ (.tmp 1) = .pointer (some ⟨w.heap.size, 0, none⟩) := hext 1 (by kernel_rfl)
                clear hdep hext hcl
                have HW := Lib.hid hW
                clear hW
                unfold OpDone
                go_simp
                exact ⟨rfl, Upd.refl _ _, HW.out⟩
              · refine fun ρ w' L hW hLi hcl hd hdep hext hc hg hf => ?_
                rw [if_pos (show wantedR _ _ _ = true from rfl)]
                have e38 : ρ (.tmp 38) = .pointer (some ⟨w.heap.size, 1, none⟩) := hdep 6 _ rfl (by kernel_rfl)
                have xx : w'.cell? ⟨w.heap.size, 1, none⟩ = some (.slice (some ⟨g, o, none⟩) m cb) := hW.cell c1 (fun h => h)
                clear hdep hext hcl
                have HW := Lib.hid hW
                clear hW
                unfold OpDone
                go_simp
                exact ⟨rfl, Upd.refl _ _, HW.out⟩
              · refine fun ρ w' L hW hLi hcl hd hdep hext hc hg hf => ?_
                rw [if_pos (show wantedR _ _ _ = true from rfl)]
                have e4 : ρ (.tmp 4) = .int .i64 ((k : Int) + 1) := hext 4 (by kernel_rfl)
                clear hdep hext hcl
                have HW := Lib.hid hW
                clear hW
                unfold OpDone
                go_simp
                exact ⟨rfl, Upd.refl _ _, HW.out⟩
              · refine fun ρ w' L hW hLi hcl hd hdep hext hc hg hf => ?_
                rw [if_pos (show wantedR _ _ _ = true from rfl)]
                have e39 : ρ (.tmp 39) = .slice (some ⟨g, o, none⟩) m cb := hdep 7 _ rfl (by kernel_rfl)
                have e40 : ρ (.tmp 40) = .int .i64 ((k : Int) + 1) := hdep 8 _ rfl (by kernel_rfl)
                have q0 : (0 : Int) ≤ (k : Int) + 1 := by omega
                have q1 : (k : Int) + 1 < (m : Int) := by omega
                have q3 : ((k : Int) + 1).toNat = k + 1 := by omega
                have q2 : k + 1 < m := by omega
                clear hdep hext hcl
                have HW := Lib.hid hW
                clear hW
                unfold OpDone
                go_simp
                exact ⟨rfl, Upd.refl _ _, HW.out⟩
              · refine fun ρ w' L hW hLi hcl hd hdep hext hc hg hf => ?_
                rw [if_pos (show wantedR _ _ _ = true from rfl)]
                have e41 : ρ (.tmp 41) = .pointer (some ⟨g, o + (k + 1), none⟩) := hdep 9 _ rfl (by kernel_rfl)
                have yy : w'.cell? ⟨g, o + (k + 1), none⟩ = some (.slice Av t.length cv) := hW.cell XB.out (fun h => h)
                clear hdep hext hcl
                have HW := Lib.hid hW
                clear hW
                unfold OpDone
                go_simp
                exact ⟨rfl, Upd.refl _ _, HW.out⟩
              · refine fun ρ w' L hW hLi hcl hd hdep hext hc hg hf => ?_
                rw [if_pos (show wantedR _ _ _ = true from rfl)]
                have e37 : ρ (.tmp 37) = .slice Au s.length cu := hdep 5 _ rfl (by kernel_rfl)
                have e42 : ρ (.tmp 42) = .slice Av t.length cv := hdep 10 _ rfl (by kernel_rfl)
                clear hdep hext
                have CL := Lib.hid (CALL.out w' hW)
                have HW := Lib.hid hW
                clear hW
                unfold OpDone
                go_simp
                refine CL.out.mono ?_
                rintro e w5 ⟨rfl, rfl⟩
                exact ⟨_, rfl, rfl, Upd.refl _ _, HW.out⟩
              · refine fun ρ w' L hW hLi hcl hd hdep hext hc hg hf => ?_
                rw [if_pos (show wantedR _ _ _ = true from rfl)]
                have e43 : ρ (.tmp 43) = .int .i64 (cmpB s t) := hdep 11 _ rfl (by kernel_rfl)
                clear hdep hext hcl
                have HW := Lib.hid hW
                clear hW
                unfold OpDone
                go_simp
                exact ⟨rfl, Upd.refl _ _, HW.out⟩
            intro vs W8 L8 hL8 hW8 hR
            have hv0 : vs 0 = .pointer (some ⟨w.heap.size, 1, none⟩) := hR 0 _ rfl
            have hv1 : vs 1 = .slice (some ⟨g, o, none⟩) m cb := hR 1 _ rfl
            have hv2 : vs 2 = .int .i64 ((k : Int) + 1) := hR 2 _ rfl
            have hv3 : vs 3 = .int .i64 (k : Int) := hR 3 _ rfl
            have hv4 : vs 4 = .pointer (some ⟨g, o + k, none⟩) := hR 4 _ rfl
            have hv5 : vs 5 = .slice Au s.length cu := hR 5 _ rfl
            have hv6 : vs 6 = .pointer (some ⟨w.heap.size, 1, none⟩) := hR 6 _ rfl
            have hv7 : vs 7 = .slice (some ⟨g, o, none⟩) m cb := hR 7 _ rfl
            have hv8 : vs 8 = .int .i64 ((k : Int) + 1) := hR 8 _ rfl
            have hv9 : vs 9 = .pointer (some ⟨g, o + (k + 1), none⟩) := hR 9 _ rfl
            have hv10 : vs 10 = .slice Av t.length cv := hR 10 _ rfl
            have hv11 : vs 11 = .int .i64 (cmpB s t) := hR 11 _ rfl
            have hv12 : vs 12 = .bool (false) := hR 12 _ rfl
            simp only [putAll, Act.put, List.setIfInBounds_toArray, List.set_cons_zero, List.set_cons_succ, hv0, hv1, hv2, hv3, hv4, hv5, hv6, hv7, hv8, hv9, hv10, hv11, hv12]
            clear hR hv0 hv1 hv2 hv3 hv4 hv5 hv6 hv7 hv8 hv9 hv10 hv11 hv12
            have U8 := Lib.hid (show Upd NoF wo W8 from (HU0.out.drew).trans hW8 (fun _ _ h => h))
            clear hW8 hL8 c11 c1
            go_wp2
            exact ⟨⟨k + 1, by go_num, .inr (by have := HM.out; omega), HCH.out, U8.out⟩, by simp [intOf]; omega⟩
          | false =>
            obtain ⟨g, o, Au, cu, Av, cv, rfl, r1, r2, r3, r4⟩ := (HT.out.keep (UW.out.trans hu (fun _ _ h => h))).two hx hy
            have c1 : wr.drew.cell? ⟨w.heap.size, 1, none⟩ = some (.slice (some ⟨g, o, none⟩) m cb) := (hu.blk BV.out (fun h => h)).cell 1
            have XA := Lib.hid (show wr.drew.cell? ⟨g, o + k, none⟩ = some (.slice Au s.length cu) from r1)
            have XB := Lib.hid (show wr.drew.cell? ⟨g, o + (k + 1), none⟩ = some (.slice Av t.length cv) from r2)
            have CALL := Lib.hid (show ∀ wq, Upd NoF wr.drew wq → Calls Try.prog 21 #[.slice Au s.length cu, .slice Av t.length cv] wq (fun e w' => e = .returned (.int .i64 (cmpB s t)) ∧ wq = w') from fun wq hq => bCompare_any (Rd.keep r3 ((((Upd.refl NoF wr).drew)).trans hq (fun _ _ h => h))) (Rd.keep r4 ((((Upd.refl NoF wr).drew)).trans hq (fun _ _ h => h))))
            clear r1 r2 r3 r4
            have hcm : decide (0 ≤ cmpB s t) = true := by have := cmpB_lt s t; rw [hless] at this; simp at this ⊢; omega
            have HCH := Lib.hid (chainB_false (r := lessT) hx hy hless)
            clear hx hy hch hless hu hu0
            go_wp2
            refine wp_region_rgw (rgR [isV (.pointer (some ⟨w.heap.size, 1, none⟩)), isV (.slice (some ⟨g, o, none⟩) m cb), isV (.int .i64 ((k : Int) + 1)), isV (.int .i64 (k : Int)), isV (.pointer (some ⟨g, o + k, none⟩)), isV (.slice Au s.length cu), isV (.pointer (some ⟨w.heap.size, 1, none⟩)), isV (.slice (some ⟨g, o, none⟩) m cb), isV (.int .i64 ((k : Int) + 1)), isV (.pointer (some ⟨g, o + (k + 1), none⟩)), isV (.slice Av t.length cv), isV (.int .i64 (cmpB s t)), isV (.bool (true))]) (fun w w' => Upd NoF w w') (fun _ wq => Upd NoF wr.drew wq) (by kernel_rfl) (by kernel_rfl) (by kernel_rfl) (by rfl) (fun w => Upd.refl _ _) (rgR_keep (by
              intro p hp; simp only [List.mem_cons, List.not_mem_nil, or_false] at hp; rcases hp with rfl | rfl | rfl | rfl | rfl | rfl | rfl | rfl | rfl | rfl | rfl | rfl | rfl <;> first | exact stb_isV _ | exact stb_any)) (Upd.refl _ _) ?_ ?_
            · refine ⟨?_, ?_, ?_, ?_, ?_, ?_, ?_, ?_, ?_, ?_, ?_, ?_, ?_, trivial⟩
              · refine fun ρ w' L hW hLi hcl hd hdep hext hc hg hf => ?_
                rw [if_pos (show wantedR _ _ _ = true from rfl)]
                have e1 : ρ (.tmp 1) = .pointer (some ⟨w.heap.size, 0, none⟩) := hext 1 (by kernel_rfl)
                clear hdep hext hcl
                have HW := Lib.hid hW
                clear hW
                unfold OpDone
                go_simp
                exact ⟨rfl, Upd.refl _ _, HW.out⟩
              · refine fun ρ w' L hW hLi hcl hd hdep hext hc hg hf => ?_
                rw [if_pos (show wantedR _ _ _ = true from rfl)]
                have e32 : ρ (.tmp 32) = .pointer (some ⟨w.heap.size, 1, none⟩) := hdep 0 _ rfl (by kernel_rfl)
                have xx : w'.cell? ⟨w.heap.size, 1, none⟩ = some (.slice (some ⟨g, o, none⟩) m cb) := hW.cell c1 (fun h => h)
                clear hdep hext hcl
                have HW := Lib.hid hW
                clear hW
                unfold OpDone
                go_simp
                exact ⟨rfl, Upd.refl _ _, HW.out⟩
              · refine fun ρ w' L hW hLi hcl hd hdep hext hc hg hf => ?_
                rw [if_pos (show wantedR _ _ _ = true from rfl)]
                have e4 : ρ (.tmp 4) = .int .i64 ((k : Int) + 1) := hext 4 (by kernel_rfl)
                clear hdep hext hcl
                have HW := Lib.hid hW
                clear hW
                unfold OpDone
                go_simp
                exact ⟨rfl, Upd.refl _ _, HW.out⟩
              · refine fun ρ w' L hW hLi hcl hd hdep hext hc hg hf => ?_
                rw [if_pos (show wantedR _ _ _ = true from rfl)]
                have e34 : ρ (.tmp 34) = .int .i64 ((k : Int) + 1) := hdep 2 _ rfl (by kernel_rfl)
                have ww : IntKind.i64.wrap (k : Int) = k := IntWalk.i64_in _ (by omega)
                clear hdep hext hcl
                have HW := Lib.hid hW
                clear hW
                unfold OpDone
                go_simp
                exact ⟨rfl, Upd.refl _ _, HW.out⟩
              · refine fun ρ w' L hW hLi hcl hd hdep hext hc hg hf => ?_
                rw [if_pos (show wantedR _ _ _ = true from rfl)]
                have e33 : ρ (.tmp 33) = .slice (some ⟨g, o, none⟩) m cb := hdep 1 _ rfl (by kernel_rfl)
                have e35 : ρ (.tmp 35) = .int .i64 (k : Int) := hdep 3 _ rfl (by kernel_rfl)
                have q0 : (0 : Int) ≤ (k : Int) := by omega
                have q1 : (k : Int) < (m : Int) := by omega
                have q2 : k < m := by omega
                clear hdep hext hcl
                have HW := Lib.hid hW
                clear hW
                unfold OpDone
                go_simp
                exact ⟨rfl, Upd.refl _ _, HW.out⟩
              · refine fun ρ w' L hW hLi hcl hd hdep hext hc hg hf => ?_
                rw [if_pos (show wantedR _ _ _ = true from rfl)]
                have e36 : ρ (.tmp 36) = .pointer (some ⟨g, o + k, none⟩) := hdep 4 _ rfl (by kernel_rfl)
                have yy : w'.cell? ⟨g, o + k, none⟩ = some (.slice Au s.length cu) := hW.cell XA.out (fun h => h)
                clear hdep hext hcl
                have HW := Lib.hid hW
                clear hW
                unfold OpDone
                go_simp
                exact ⟨rfl, Upd.refl _ _, HW.out⟩
              · refine fun ρ w' L hW hLi hcl hd hdep hext hc hg hf => ?_
                rw [if_pos (show wantedR _ _ _ = true from rfl)]
                have e1 : ρ (.tmp 1) = .pointer (some ⟨w.heap.size, 0, none⟩) := hext 1 (by kernel_rfl)
                clear hdep hext hcl
                have HW := Lib.hid hW
                clear hW
                unfold OpDone
                go_simp
                exact ⟨rfl, Upd.refl _ _, HW.out⟩
              · refine fun ρ w' L hW hLi hcl hd hdep hext hc hg hf => ?_
                rw [if_pos (show wantedR _ _ _ = true from rfl)]
                have e38 : ρ (.tmp 38) = .pointer (some ⟨w.heap.size, 1, none⟩) := hdep 6 _ rfl (by kernel_rfl)
                have xx : w'.cell? ⟨w.heap.size, 1, none⟩ = some (.slice (some ⟨g, o, none⟩) m cb) := hW.cell c1 (fun h => h)
                clear hdep hext hcl
                have HW := Lib.hid hW
                clear hW
                unfold OpDone
                go_simp
                exact ⟨rfl, Upd.refl _ _, HW.out⟩
              · refine fun ρ w' L hW hLi hcl hd hdep hext hc hg hf => ?_
                rw [if_pos (show wantedR _ _ _ = true from rfl)]
                have e4 : ρ (.tmp 4) = .int .i64 ((k : Int) + 1) := hext 4 (by kernel_rfl)
                clear hdep hext hcl
                have HW := Lib.hid hW
                clear hW
                unfold OpDone
                go_simp
                exact ⟨rfl, Upd.refl _ _, HW.out⟩
              · refine fun ρ w' L hW hLi hcl hd hdep hext hc hg hf => ?_
                rw [if_pos (show wantedR _ _ _ = true from rfl)]
                have e39 : ρ (.tmp 39) = .slice (some ⟨g, o, none⟩) m cb := hdep 7 _ rfl (by kernel_rfl)
                have e40 : ρ (.tmp 40) = .int .i64 ((k : Int) + 1) := hdep 8 _ rfl (by kernel_rfl)
                have q0 : (0 : Int) ≤ (k : Int) + 1 := by omega
                have q1 : (k : Int) + 1 < (m : Int) := by omega
                have q3 : ((k : Int) + 1).toNat = k + 1 := by omega
                have q2 : k + 1 < m := by omega
                clear hdep hext hcl
                have HW := Lib.hid hW
                clear hW
                unfold OpDone
                go_simp
                exact ⟨rfl, Upd.refl _ _, HW.out⟩
              · refine fun ρ w' L hW hLi hcl hd hdep hext hc hg hf => ?_
                rw [if_pos (show wantedR _ _ _ = true from rfl)]
                have e41 : ρ (.tmp 41) = .pointer (some ⟨g, o + (k + 1), none⟩) := hdep 9 _ rfl (by kernel_rfl)
                have yy : w'.cell? ⟨g, o + (k + 1), none⟩ = some (.slice Av t.length cv) := hW.cell XB.out (fun h => h)
                clear hdep hext hcl
                have HW := Lib.hid hW
                clear hW
                unfold OpDone
                go_simp
                exact ⟨rfl, Upd.refl _ _, HW.out⟩
              · refine fun ρ w' L hW hLi hcl hd hdep hext hc hg hf => ?_
                rw [if_pos (show wantedR _ _ _ = true from rfl)]
                have e37 : ρ (.tmp 37) = .slice Au s.length cu := hdep 5 _ rfl (by kernel_rfl)
                have e42 : ρ (.tmp 42) = .slice Av t.length cv := hdep 10 _ rfl (by kernel_rfl)
                clear hdep hext
                have CL := Lib.hid (CALL.out w' hW)
                have HW := Lib.hid hW
                clear hW
                unfold OpDone
                go_simp
                refine CL.out.mono ?_
                rintro e w5 ⟨rfl, rfl⟩
                exact ⟨_, rfl, rfl, Upd.refl _ _, HW.out⟩
              · refine fun ρ w' L hW hLi hcl hd hdep hext hc hg hf => ?_
                rw [if_pos (show wantedR _ _ _ = true from rfl)]
                have e43 : ρ (.tmp 43) = .int .i64 (cmpB s t) := hdep 11 _ rfl (by kernel_rfl)
                clear hdep hext hcl
                have HW := Lib.hid hW
                clear hW
                unfold OpDone
                go_simp
                exact ⟨rfl, Upd.refl _ _, HW.out⟩
            intro vs W8 L8 hL8 hW8 hR
            have hv0 : vs 0 = .pointer (some ⟨w.heap.size, 1, none⟩) := hR 0 _ rfl
            have hv1 : vs 1 = .slice (some ⟨g, o, none⟩) m cb := hR 1 _ rfl
            have hv2 : vs 2 = .int .i64 ((k : Int) + 1) := hR 2 _ rfl
            have hv3 : vs 3 = .int .i64 (k : Int) := hR 3 _ rfl
            have hv4 : vs 4 = .pointer (some ⟨g, o + k, none⟩) := hR 4 _ rfl
            have hv5 : vs 5 = .slice Au s.length cu := hR 5 _ rfl
            have hv6 : vs 6 = .pointer (some ⟨w.heap.size, 1, none⟩) := hR 6 _ rfl
            have hv7 : vs 7 = .slice (some ⟨g, o, none⟩) m cb := hR 7 _ rfl
            have hv8 : vs 8 = .int .i64 ((k : Int) + 1) := hR 8 _ rfl
            have hv9 : vs 9 = .pointer (some ⟨g, o + (k + 1), none⟩) := hR 9 _ rfl
            have hv10 : vs 10 = .slice Av t.length cv := hR 10 _ rfl
            have hv11 : vs 11 = .int .i64 (cmpB s t) := hR 11 _ rfl
            have hv12 : vs 12 = .bool (true) := hR 12 _ rfl
            simp only [putAll, Act.put, List.setIfInBounds_toArray, List.set_cons_zero, List.set_cons_succ, hv0, hv1, hv2, hv3, hv4, hv5, hv6, hv7, hv8, hv9, hv10, hv11, hv12]
            clear hR hv0 hv1 hv2 hv3 hv4 hv5 hv6 hv7 hv8 hv9 hv10 hv11 hv12
            have U8 := Lib.hid (show Upd NoF wo W8 from (HU0.out.drew).trans hW8 (fun _ _ h => h))
            clear hW8 hL8 c11 c1
            go_wp2
            go_ret
            exact ⟨retb (by rw [OB.out, HCH.out]; simp), UW.out.trans (HU.out.trans U8.out (fun _ _ h => h)) (fun _ _ h => h)⟩
        · have t1 : decide ((k : Int) + 1 < (m : Int)) = false := by simp; omega
          have HCT := Lib.hid (chain_end hch (by omega))
          have HU2 := Lib.hid hu
          clear hnn hch hu hu0
          go_wp2
          go_ret
          exact ⟨retb (by rw [OB.out, HCV.out, HCT.out]; rfl), UW.out.trans HU2.out (fun _ _ h => h)⟩

end Go.Proofs.Ytbgificdilpdcaa
