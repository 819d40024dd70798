/- snapshot.Union of any two views. Conditions: sizes. -/
import Derived.Test.YtbgificdilpdcaaCloV
namespace Go.Proofs.Ytbgificdilpdcaa
open Go.RowKit

theorem SgR.cat {w w' : World} {p q : List SignedS} {us vs : List Value} (hf : ∀ s ∈ p, s.vote.Fit) (hg : ∀ s ∈ q, s.vote.Fit) (h1 : us.length = p.length) (h2 : vs.length = q.length) (hl : ∀ (i : Nat) s, p[i]? = some s → ∃ u, us[i]? = some u ∧ Rd w 1 u s.sig.length (s.sig.map byteV)) (hm : ∀ (i : Nat) s, q[i]? = some s → ∃ u, vs[i]? = some u ∧ Rd w 1 u s.sig.length (s.sig.map byteV))
    {v : Value} (ho : Rd w' 23 v (p ++ q).length ((List.zipWith rowS p us).flatten ++ (List.zipWith rowS q vs).flatten)) (hu : Upd NoF w w') : SgR w' v (p ++ q) := by
  refine ⟨fun s hs => ?_, us ++ vs, by simp [h1, h2], ?_, fun i s hs => ?_⟩
  · rcases List.mem_append.1 hs with h | h
    · exact hf s h
    · exact hg s h
  · rw [List.zipWith_append (by rw [h1]), List.flatten_append]
    exact ho
  rcases Nat.lt_or_ge i p.length with h | h
  · rw [List.getElem?_append_left h] at hs
    obtain ⟨u, e1, e2⟩ := hl i s hs
    exact ⟨u, by rw [List.getElem?_append_left (by omega)]; exact e1, e2.keep hu⟩
  · rw [List.getElem?_append_right h] at hs
    obtain ⟨u, e1, e2⟩ := hm _ s hs
    exact ⟨u, by rw [List.getElem?_append_right (by omega), h1]; exact e1, e2.keep hu⟩
theorem sg_one {w : World} {l : List SignedS} {us : List Value} (_h1 : us.length = l.length) (hl : ∀ (i : Nat) s, l[i]? = some s → ∃ u, us[i]? = some u ∧ Rd w 1 u s.sig.length (s.sig.map byteV)) : ∀ u ∈ (List.zipWith rowS l us).flatten, u.oneCell' = true := by
  intro u hu
  obtain ⟨r, hr, hur⟩ := List.mem_flatten.1 hu
  obtain ⟨i, hi⟩ := List.getElem?_of_mem hr
  rw [List.getElem?_zipWith] at hi
  cases hs : l[i]? with
  | none => rw [hs] at hi; cases hi
  | some s =>
    obtain ⟨v, e1, e2⟩ := hl i s hs
    rw [hs, e1] at hi
    simp at hi
    subst hi
    obtain ⟨A, c, rfl, -⟩ := e2.slice
    have := row_one s (u := .slice A s.sig.length c) rfl
    rw [List.all_toArray, List.all_eq_true] at this
    exact this u hur
def uniV (p q : List SignedS) : List SignedS := compL (sortL lessS (p ++ q))
def uniS (a b : ViewS) : ViewS := ⟨uniV a.votes b.votes, uniT a.texts b.texts⟩
theorem own_cut {A : Option Addr} {n n' c k : Nat} (h : OwnB (.slice A n c) k) : OwnB (.slice A n' c) k := by
  cases A <;> (simp [OwnB, Value.ownBlock] at h ⊢; try exact h)
set_option maxRecDepth 100000 in
set_option maxHeartbeats 16000000 in
theorem UnionV_any {w : World} {a b a' b' : Value} {p q : List SignedS} {l m : List (List UInt8)} (ha : SgR w a p) (hb : TxR w b l) (ha' : SgR w a' q) (hb' : TxR w b' m) (hs1 : l.length ≤ 1000000) (hs2 : m.length ≤ 1000000) (hs3 : p.length ≤ 1000000) (hs4 : q.length ≤ 1000000) (hs5 : ∀ s ∈ p ++ q, s.sig.length ≤ 140737488355328) (hl : ∀ t ∈ l ++ m, t.length ≤ 140737488355328) :
    Calls Try.prog 6 #[.agg #[a, b], .agg #[a', b']] w (UniPost w ⟨uniV p q, uniT l m⟩) := by
  obtain ⟨A, ca, rfl, -, hca⟩ := ha.form
  obtain ⟨B, cb, rfl, -, hcb⟩ := ha'.form
  obtain ⟨C, cc, rfl, hcc, hccm⟩ := hb.form
  obtain ⟨D, cd, rfl, hcd, hcdm⟩ := hb'.form
  obtain ⟨us, hu1, hu2, hu3⟩ := hb
  obtain ⟨vs, hv1, hv2, hv3⟩ := hb'
  obtain ⟨hfp, up, hp1, hp2, hp3⟩ := ha
  obtain ⟨hfq, uq, hq1, hq2, hq3⟩ := ha'
  have HFP := Lib.hid hfp
  have HFQ := Lib.hid hfq
  have HP1 := Lib.hid hp1
  have HQ1 := Lib.hid hq1
  have HPL := Lib.hid hp3
  have HQL := Lib.hid hq3
  have HO3 := Lib.hid (sg_one hp1 hp3)
  have HO4 := Lib.hid (sg_one hq1 hq3)
  have HU1 := Lib.hid hu1
  have HV1 := Lib.hid hv1
  have HUL := Lib.hid hu3
  have HVL := Lib.hid hv3
  have HO1 := Lib.hid (tx_one hu1 hu3)
  have HO2 := Lib.hid (tx_one hv1 hv3)
  have HLL := Lib.hid hl
  have HSS := Lib.hid hs5
  obtain ⟨ps, hps⟩ : ∃ x, x = (List.zipWith rowS p up).flatten := ⟨_, rfl⟩
  obtain ⟨qs, hqs⟩ : ∃ x, x = (List.zipWith rowS q uq).flatten := ⟨_, rfl⟩
  rw [← hps] at hp2 HO3
  rw [← hqs] at hq2 HO4
  have sz1 : (w.alloc (.cells #[.slice A p.length ca, .slice C l.length cc] 25)).heap.size = w.heap.size + 1 := by simp
  have sz2 : ((w.alloc (.cells #[.slice A p.length ca, .slice C l.length cc] 25)).alloc (.cells #[.slice B q.length cb, .slice D m.length cd] 25)).heap.size = w.heap.size + 2 := by simp
  have b1 := ((Blk.new w 25 #[.slice A p.length ca, .slice C l.length cc]).alloc (.cells #[.slice B q.length cb, .slice D m.length cd] 25)).alloc (.cells nil2 25)
  have b2 := (Blk.new (w.alloc (.cells #[.slice A p.length ca, .slice C l.length cc] 25)) 25 #[.slice B q.length cb, .slice D m.length cd]).alloc (.cells nil2 25)
  have b3 := Blk.new ((w.alloc (.cells #[.slice A p.length ca, .slice C l.length cc] 25)).alloc (.cells #[.slice B q.length cb, .slice D m.length cd] 25)) 25 nil2
  rw [sz1] at b2
  rw [sz2] at b3
  have BA3 := Lib.hid b1
  have BB3 := Lib.hid b2
  have BR3 := Lib.hid b3
  have UW3 := Lib.hid ((((Upd.refl NoF w).alloc (.cells #[.slice A p.length ca, .slice C l.length cc] 25)).alloc (.cells #[.slice B q.length cb, .slice D m.length cd] 25)).alloc (.cells nil2 25))
  obtain ⟨W3, hW3⟩ : ∃ x, x = (((w.alloc (.cells #[.slice A p.length ca, .slice C l.length cc] 25)).alloc (.cells #[.slice B q.length cb, .slice D m.length cd] 25)).alloc (.cells nil2 25)) := ⟨_, rfl⟩
  rw [← hW3] at BA3 BB3 BR3 UW3
  have hr3 : w.heap.size + 2 < W3.heap.size := BR3.out.lt
  have HRL := Lib.hid (show ∀ W, Upd NoF W3.drew W → Rd W 1 (.slice C l.length cc) l.length us from fun W hu => hu2.keep (UW3.out.trans (((Upd.refl NoF W3).drew).trans hu (fun _ _ f => f)) (fun _ _ f => f)))
  have HRM := Lib.hid (show ∀ W, Upd NoF W3.drew W → Rd W 1 (.slice D m.length cd) m.length vs from fun W hu => hv2.keep (UW3.out.trans (((Upd.refl NoF W3).drew).trans hu (fun _ _ f => f)) (fun _ _ f => f)))
  have HRP := Lib.hid (show ∀ W, Upd NoF W3.drew W → Rd W 23 (.slice A p.length ca) p.length ps from fun W hu => hp2.keep (UW3.out.trans (((Upd.refl NoF W3).drew).trans hu (fun _ _ f => f)) (fun _ _ f => f)))
  have HRQ := Lib.hid (show ∀ W, Upd NoF W3.drew W → Rd W 23 (.slice B q.length cb) q.length qs from fun W hu => hq2.keep (UW3.out.trans (((Upd.refl NoF W3).drew).trans hu (fun _ _ f => f)) (fun _ _ f => f)))
  have HPS := Lib.hid hps
  have HQS := Lib.hid hqs
  clear sz1 sz2 b1 b2 b3 hu1 hu2 hu3 hv1 hv2 hv3 hl hca hcb hfp hfq hp1 hp2 hp3 hq1 hq2 hq3 hs5 hps hqs
  go_enter Try.func6, Try.ntmps6
  go_wp2_with fail
  rw [← hW3]
  clear hW3
  refine wp_region_rgv (rgR [isV (.pointer (some ⟨w.heap.size, 0, none⟩)), isV (.slice A p.length ca), isV (.pointer (some ⟨(w.heap.size + 1), 0, none⟩)), isV (.slice B q.length cb), UnB 22 (.slice A p.length ca) (.slice B q.length cb), UnC 38 23 (p.length + q.length) (ps ++ qs), isV (.pointer (some ⟨w.heap.size, 1, none⟩)), isV (.slice C l.length cc), isV (.pointer (some ⟨(w.heap.size + 1), 1, none⟩)), isV (.slice D m.length cd), UnB 23 (.slice C l.length cc) (.slice D m.length cd), UnC 36 1 (l.length + m.length) (us ++ vs), UnA (p.length + q.length) (l.length + m.length) (ps ++ qs) (us ++ vs), UnD W3.drew ⟨p ++ q, l ++ m⟩, anyV, anyV]) (UnSt W3.drew.heap.size) (UnPh W3.drew ⟨p ++ q, l ++ m⟩) (by kernel_rfl) (by kernel_rfl) (by kernel_rfl) (by rfl) (fun L w => Upd.refl _ _) (rgR_keepL ⟨stbL_isV _, stbL_isV _, stbL_isV _, stbL_isV _, stbL_ub (by decide), stbL_uc (by decide), stbL_isV _, stbL_isV _, stbL_isV _, stbL_isV _, stbL_ub (by decide), stbL_uc (by decide), stbL_ua, stbL_ud, stbL_any, stbL_any, trivial⟩) (UnPh.start) ?_ ?_
  · refine ⟨?_, ?_, ?_, ?_, ?_, ?_, ?_, ?_, ?_, ?_, ?_, ?_, ?_, ?_, ?_, ?_, trivial⟩
    · refine fun ρ w' L hW hLi hcl hd hdep hext hc hg hf => ?_
      rw [if_pos (show wantedR _ _ _ = true from rfl)]
      have e2 : ρ (.tmp 2) = ptrV w.heap.size := hext 2 (by kernel_rfl)
      clear hdep hext hcl
      have HW := Lib.hid hW
      clear hW
      unfold OpDone
      go_simp
      exact ⟨rfl, Upd.refl _ _, (fun ρ' hk _ => HW.out.more (by decide) (by decide) (Upd.refl _ _) (hk 5 (by decide)))⟩
    · refine fun ρ w' L hW hLi hcl hd hdep hext hc hg hf => ?_
      rw [if_pos (show wantedR _ _ _ = true from rfl)]
      have e6 : ρ (.tmp 6) = .pointer (some ⟨w.heap.size, 0, none⟩) := hdep 0 _ rfl (by kernel_rfl)
      have hcz : w'.cell? ⟨w.heap.size, 0, none⟩ = some (.slice A p.length ca) := (hW.up.blk (Blk.drew BA3.out) (fun f => f)).cell 0
      clear hdep hext hcl
      have HW := Lib.hid hW
      clear hW
      unfold OpDone
      go_simp
      exact ⟨rfl, Upd.refl _ _, (fun ρ' hk _ => HW.out.more (by decide) (by decide) (Upd.refl _ _) (hk 5 (by decide)))⟩
    · refine fun ρ w' L hW hLi hcl hd hdep hext hc hg hf => ?_
      rw [if_pos (show wantedR _ _ _ = true from rfl)]
      have e3 : ρ (.tmp 3) = ptrV (w.heap.size + 1) := hext 3 (by kernel_rfl)
      clear hdep hext hcl
      have HW := Lib.hid hW
      clear hW
      unfold OpDone
      go_simp
      exact ⟨rfl, Upd.refl _ _, (fun ρ' hk _ => HW.out.more (by decide) (by decide) (Upd.refl _ _) (hk 5 (by decide)))⟩
    · refine fun ρ w' L hW hLi hcl hd hdep hext hc hg hf => ?_
      rw [if_pos (show wantedR _ _ _ = true from rfl)]
      have e8 : ρ (.tmp 8) = .pointer (some ⟨(w.heap.size + 1), 0, none⟩) := hdep 2 _ rfl (by kernel_rfl)
      have hcz : w'.cell? ⟨(w.heap.size + 1), 0, none⟩ = some (.slice B q.length cb) := (hW.up.blk (Blk.drew BB3.out) (fun f => f)).cell 0
      clear hdep hext hcl
      have HW := Lib.hid hW
      clear hW
      unfold OpDone
      go_simp
      exact ⟨rfl, Upd.refl _ _, (fun ρ' hk _ => HW.out.more (by decide) (by decide) (Upd.refl _ _) (hk 5 (by decide)))⟩
    · refine fun ρ w' L hW hLi hcl hd hdep hext hc hg hf => ?_
      rw [if_pos (show wantedR _ _ _ = true from rfl)]
      have e7 : ρ (.tmp 7) = .slice A p.length ca := hdep 1 _ rfl (by kernel_rfl)
      have e9 : ρ (.tmp 9) = .slice B q.length cb := hdep 3 _ rfl (by kernel_rfl)
      clear hdep hext
      have kk := bs_sgs A B p.length q.length ca cb w'
      have HW := Lib.hid hW
      clear hW
      unfold OpDone
      go_simp
      exact ⟨⟨_, rfl, Blk.new w' _ _⟩, UnSt.none ((Upd.refl _ w').alloc _), (fun ρ' hk _ => HW.out.more (by decide) (by decide) ((Upd.refl _ w').alloc _) (hk 5 (by decide)))⟩
    · refine fun ρ w' L hW hLi hcl hd hdep hext hc hg hf => ?_
      rw [if_pos (show wantedR _ _ _ = true from rfl)]
      have e10 : (UnB 22 (.slice A p.length ca) (.slice B q.length cb)) (ρ (.tmp 10)) w' := hdep 4 _ rfl (by kernel_rfl)
      clear hdep hext
      obtain ⟨g, hv, hbk⟩ := e10
      have CC := Lib.hid (ConcatS_any hbk (HRP.out w' hW.up) (HRQ.out w' hW.up) HO3.out HO4.out hs3 hs4)
      have HW := Lib.hid hW
      clear hW hbk
      unfold OpDone
      go_simp
      refine CC.out.mono ?_
      rintro e w2 ⟨A2, c2, rfl, ho2, hn2, hu2⟩
      exact ⟨_, rfl, ⟨A2, c2, rfl, ho2⟩, UnSt.none hu2, (fun ρ' hk _ => HW.out.more (by decide) (by decide) hu2 (hk 5 (by decide)))⟩
    · refine fun ρ w' L hW hLi hcl hd hdep hext hc hg hf => ?_
      rw [if_pos (show wantedR _ _ _ = true from rfl)]
      have e2 : ρ (.tmp 2) = ptrV w.heap.size := hext 2 (by kernel_rfl)
      clear hdep hext hcl
      have HW := Lib.hid hW
      clear hW
      unfold OpDone
      go_simp
      exact ⟨rfl, Upd.refl _ _, (fun ρ' hk _ => HW.out.more (by decide) (by decide) (Upd.refl _ _) (hk 5 (by decide)))⟩
    · refine fun ρ w' L hW hLi hcl hd hdep hext hc hg hf => ?_
      rw [if_pos (show wantedR _ _ _ = true from rfl)]
      have e12 : ρ (.tmp 12) = .pointer (some ⟨w.heap.size, 1, none⟩) := hdep 6 _ rfl (by kernel_rfl)
      have hcz : w'.cell? ⟨w.heap.size, 1, none⟩ = some (.slice C l.length cc) := (hW.up.blk (Blk.drew BA3.out) (fun f => f)).cell 1
      clear hdep hext hcl
      have HW := Lib.hid hW
      clear hW
      unfold OpDone
      go_simp
      exact ⟨rfl, Upd.refl _ _, (fun ρ' hk _ => HW.out.more (by decide) (by decide) (Upd.refl _ _) (hk 5 (by decide)))⟩
    · refine fun ρ w' L hW hLi hcl hd hdep hext hc hg hf => ?_
      rw [if_pos (show wantedR _ _ _ = true from rfl)]
      have e3 : ρ (.tmp 3) = ptrV (w.heap.size + 1) := hext 3 (by kernel_rfl)
      clear hdep hext hcl
      have HW := Lib.hid hW
      clear hW
      unfold OpDone
      go_simp
      exact ⟨rfl, Upd.refl _ _, (fun ρ' hk _ => HW.out.more (by decide) (by decide) (Upd.refl _ _) (hk 5 (by decide)))⟩
    · refine fun ρ w' L hW hLi hcl hd hdep hext hc hg hf => ?_
      rw [if_pos (show wantedR _ _ _ = true from rfl)]
      have e14 : ρ (.tmp 14) = .pointer (some ⟨(w.heap.size + 1), 1, none⟩) := hdep 8 _ rfl (by kernel_rfl)
      have hcz : w'.cell? ⟨(w.heap.size + 1), 1, none⟩ = some (.slice D m.length cd) := (hW.up.blk (Blk.drew BB3.out) (fun f => f)).cell 1
      clear hdep hext hcl
      have HW := Lib.hid hW
      clear hW
      unfold OpDone
      go_simp
      exact ⟨rfl, Upd.refl _ _, (fun ρ' hk _ => HW.out.more (by decide) (by decide) (Upd.refl _ _) (hk 5 (by decide)))⟩
    · refine fun ρ w' L hW hLi hcl hd hdep hext hc hg hf => ?_
      rw [if_pos (show wantedR _ _ _ = true from rfl)]
      have e13 : ρ (.tmp 13) = .slice C l.length cc := hdep 7 _ rfl (by kernel_rfl)
      have e15 : ρ (.tmp 15) = .slice D m.length cd := hdep 9 _ rfl (by kernel_rfl)
      clear hdep hext
      have kk := bs_txs C D l.length m.length cc cd w'
      have HW := Lib.hid hW
      clear hW
      unfold OpDone
      go_simp
      exact ⟨⟨_, rfl, Blk.new w' _ _⟩, UnSt.none ((Upd.refl _ w').alloc _), (fun ρ' hk _ => HW.out.more (by decide) (by decide) ((Upd.refl _ w').alloc _) (hk 5 (by decide)))⟩
    · refine fun ρ w' L hW hLi hcl hd hdep hext hc hg hf => ?_
      rw [if_pos (show wantedR _ _ _ = true from rfl)]
      have e16 : (UnB 23 (.slice C l.length cc) (.slice D m.length cd)) (ρ (.tmp 16)) w' := hdep 10 _ rfl (by kernel_rfl)
      clear hdep hext
      obtain ⟨g, hv, hbk⟩ := e16
      have CC := Lib.hid (ConcatT_any hbk (HRL.out w' hW.up) (HRM.out w' hW.up) HO1.out HO2.out hs1 hs2)
      have HW := Lib.hid hW
      clear hW hbk
      unfold OpDone
      go_simp
      refine CC.out.mono ?_
      rintro e w2 ⟨A2, c2, rfl, ho2, hn2, hu2⟩
      exact ⟨_, rfl, ⟨A2, c2, rfl, ho2⟩, UnSt.none hu2, (fun ρ' hk _ => HW.out.more (by decide) (by decide) hu2 (hk 5 (by decide)))⟩
    · refine fun ρ w' L hW hLi hcl hd hdep hext hc hg hf => ?_
      rw [if_pos (show wantedR _ _ _ = true from rfl)]
      have e11 : (UnC 38 23 (p.length + q.length) (ps ++ qs)) (ρ (.tmp 11)) w' := hdep 5 _ rfl (by kernel_rfl)
      have e17 : (UnC 36 1 (l.length + m.length) (us ++ vs)) (ρ (.tmp 17)) w' := hdep 11 _ rfl (by kernel_rfl)
      clear hdep hext
      obtain ⟨A2, c2, hv2, ho2⟩ := e11
      obtain ⟨A4, c4, hv4, ho4⟩ := e17
      have HO2' := Lib.hid ho2
      have HO4' := Lib.hid ho4
      have HW := Lib.hid hW
      clear hW ho2 ho4
      unfold OpDone
      go_simp
      exact ⟨⟨_, _, _, _, rfl, HO2'.out, HO4'.out⟩, Upd.refl _ _, (fun ρ' hk _ => HW.out.more (by decide) (by decide) (Upd.refl _ _) (hk 5 (by decide)))⟩
    · refine fun ρ w' L hW hLi hcl hd hdep hext hc hg hf => ?_
      rw [if_pos (show wantedR _ _ _ = true from rfl)]
      have e18 : (UnA (p.length + q.length) (l.length + m.length) (ps ++ qs) (us ++ vs)) (ρ (.tmp 18)) w' := hdep 12 _ rfl (by kernel_rfl)
      clear hdep hext
      obtain ⟨A2, c2, B2, d2, hv2, ho2, ho4⟩ := e18
      have CC := Lib.hid (CloneV_any (w := w') (a := .slice A2 (p.length + q.length) c2) (b := .slice B2 (l.length + m.length) d2) (V := ⟨p ++ q, l ++ m⟩) ⟨SgR.cat HFP.out HFQ.out HP1.out HQ1.out HPL.out HQL.out (by rw [List.length_append, ← HPS.out, ← HQS.out]; exact ho2.rd) (UW3.out.trans (((Upd.refl NoF W3).drew).trans hW.up (fun _ _ f => f)) (fun _ _ f => f)), TxR.cat HU1.out HV1.out HUL.out HVL.out (by rw [List.length_append]; exact ho4.rd) (UW3.out.trans (((Upd.refl NoF W3).drew).trans hW.up (fun _ _ f => f)) (fun _ _ f => f))⟩ (by simp only [List.length_append]; omega) (by simp only [List.length_append]; omega) HSS.out HLL.out)
      have hs0 : W3.drew.heap.size ≤ w'.heap.size := hW.up.size
      have HS0 := Lib.hid hs0
      have HW := Lib.hid hW
      clear hW ho2 ho4 hs0
      unfold OpDone
      go_simp
      refine CC.out.mono ?_
      rintro e w2 ⟨Av, At, cv, ct, rfl, k1, k2, k3, k4, hu2⟩
      exact ⟨_, rfl, ⟨Av, At, cv, ct, rfl, k1, fun k hk => Nat.le_trans HS0.out (k2 k hk), k3, fun k hk => Nat.le_trans HS0.out (k4 k hk)⟩, UnSt.none hu2, (fun ρ' hk _ => HW.out.more (by decide) (by decide) hu2 (hk 5 (by decide)))⟩
    · refine fun ρ w' L hW hLi hcl hd hdep hext hc hg hf => ?_
      rw [if_pos (show wantedR _ _ _ = true from rfl)]
      clear hdep hext
      have h15 : L 15 = false := by
        cases h : L 15 with
        | false => rfl
        | true => exact absurd (hcl 15 14 h (by kernel_rfl)) (by rw [hLi]; decide)
      have HW := Lib.hid hW
      clear hW
      unfold OpDone
      go_simp
      exact ⟨trivial, UnSt.none ((Upd.refl _ w').alloc _), fun ρ' _ hp => HW.out.alloc h15 hp⟩
    · refine fun ρ w' L hW hLi hcl hd hdep hext hc hg hf => ?_
      rw [if_pos (show wantedR _ _ _ = true from rfl)]
      have e19 : (UnD W3.drew ⟨p ++ q, l ++ m⟩) (ρ (.tmp 19)) w' := hdep 13 _ rfl (by kernel_rfl)
      clear hdep hext
      have h14 : L 14 = true := hd 14 (by kernel_rfl)
      obtain ⟨Av, At, cv, ct, hv, k1, k2, k3, k4⟩ := e19
      obtain ⟨b, b1, b2, b3, -⟩ := hW.lk h14
      have e5' : ρ (.tmp 5) = .pointer (some ⟨b, 0, none⟩) := b1
      have x0 : w'.cell? ⟨b, 0, none⟩ = some (.slice none 0 0) := (b3 hLi).cell 0
      have x1 : w'.cell? ⟨b, 1, none⟩ = some (.slice none 0 0) := (b3 hLi).cell 1
      have x2 : w'.frozen? ⟨b, 0, none⟩ = false := (b3 hLi).frozen 0
      have x3 : w'.frozen? ⟨b, 1, none⟩ = false := (b3 hLi).frozen 1
      have hkk := fun (ρ' : Operand → Value) (h5 : ρ' (.tmp 5) = ρ (.tmp 5)) => hW.store (ρ' := ρ') h14 hLi b1 h5 k1 k2 k3 k4
      simp only [List.length_append] at hkk
      have KK := Lib.hid hkk
      clear hW b1 b3 k1 k2 k3 k4 hkk
      unfold OpDone
      go_simp
      exact ⟨trivial, (KK.out ρ rfl).2, fun ρ' hk => (KK.out ρ' (hk 5)).1⟩
  intro vs_ wz L hL hW hR
  obtain ⟨b, hb5, hbS, -, hst⟩ := hW.lk (hL 14 (by decide))
  obtain ⟨Av, At, cv, ct, k0, k1, k2, k3, k4⟩ := hst (hL 15 (by decide))
  simp only [putAll, Act.put, List.setIfInBounds_toArray, List.set_cons_zero, List.set_cons_succ, Act.eval] at hb5
  have hb5 : vs_ 14 = ptrV b := hb5
  have hv0 : vs_ 0 = .pointer (some ⟨w.heap.size, 0, none⟩) := hR 0 _ rfl
  have hv1 : vs_ 1 = .slice A p.length ca := hR 1 _ rfl
  have hv2 : vs_ 2 = .pointer (some ⟨(w.heap.size + 1), 0, none⟩) := hR 2 _ rfl
  have hv3 : vs_ 3 = .slice B q.length cb := hR 3 _ rfl
  have hr4 : (UnB 22 (.slice A p.length ca) (.slice B q.length cb)) (vs_ 4) wz := hR 4 _ rfl
  obtain ⟨g4, hv4, -⟩ := hr4
  have hr5 : (UnC 38 23 (p.length + q.length) (ps ++ qs)) (vs_ 5) wz := hR 5 _ rfl
  obtain ⟨A5, c5, hv5, -⟩ := hr5
  have hv6 : vs_ 6 = .pointer (some ⟨w.heap.size, 1, none⟩) := hR 6 _ rfl
  have hv7 : vs_ 7 = .slice C l.length cc := hR 7 _ rfl
  have hv8 : vs_ 8 = .pointer (some ⟨(w.heap.size + 1), 1, none⟩) := hR 8 _ rfl
  have hv9 : vs_ 9 = .slice D m.length cd := hR 9 _ rfl
  have hr10 : (UnB 23 (.slice C l.length cc) (.slice D m.length cd)) (vs_ 10) wz := hR 10 _ rfl
  obtain ⟨g10, hv10, -⟩ := hr10
  have hr11 : (UnC 36 1 (l.length + m.length) (us ++ vs)) (vs_ 11) wz := hR 11 _ rfl
  obtain ⟨A11, c11, hv11, -⟩ := hr11
  have hr12 : (UnA (p.length + q.length) (l.length + m.length) (ps ++ qs) (us ++ vs)) (vs_ 12) wz := hR 12 _ rfl
  obtain ⟨A12, c12, B12, d12, hv12, -⟩ := hr12
  have hr13 : (UnD W3.drew ⟨p ++ q, l ++ m⟩) (vs_ 13) wz := hR 13 _ rfl
  obtain ⟨A13, B13, c13, d13, hv13, -⟩ := hr13
  have hr14 : (anyV) (vs_ 14) wz := hR 14 _ rfl
  have hv14 := hb5
  simp only [putAll, Act.put, List.setIfInBounds_toArray, List.set_cons_zero, List.set_cons_succ, hv0, hv1, hv2, hv3, hv4, hv5, hv6, hv7, hv8, hv9, hv10, hv11, hv12, hv13, hv14]
  clear hR hv0 hv1 hv2 hv3 hv4 hv5 hv6 hv7 hv8 hv9 hv10 hv11 hv12 hv13 hv14
  have hsz3 : W3.heap.size ≤ b := hbS
  have U4 := Lib.hid (show Upd NoF w wz from UW3.out.trans (((Upd.refl NoF W3).drew).trans hW.up (fun _ _ f => f)) (fun _ _ f => f))
  have BR4 := Lib.hid (show Blk wz (w.heap.size + 2) 25 nil2 from hW.up.blk (Blk.drew BR3.out) (fun f => f))
  have BV4 := Lib.hid k0
  obtain ⟨N, hN⟩ : ∃ n, (l ++ m).length = n := ⟨_, rfl⟩
  obtain ⟨R, hR⟩ : ∃ n, (p ++ q).length = n := ⟨_, rfl⟩
  have HN := Lib.hid hN
  have HRR := Lib.hid hR
  have HNN := Lib.hid (show N ≤ 2000000 from by rw [← hN, List.length_append]; omega)
  have HNR := Lib.hid (show R ≤ 2000000 from by rw [← hR, List.length_append]; omega)
  have hlt : w.heap.size + 2 < b := by omega
  have HNT := Lib.hid (show ∀ k, OwnB (.slice At N ct) k → w.heap.size + 2 < k from fun k hk => Nat.lt_of_lt_of_le hr3 (k4 k (own_cut hk)))
  have HNV := Lib.hid (show ∀ k, OwnB (.slice Av R cv) k → w.heap.size + 2 < k from fun k hk => Nat.lt_of_lt_of_le hr3 (k2 k (own_cut hk)))
  have hTV : ∀ k, OwnB (.slice At N ct) k → ¬ OwnB (.slice Av R cv) k := fun k h1 h2 => by
    obtain ⟨us', q1, q2, q0, q3⟩ := k3
    obtain ⟨hf', uv', r1, r2, r3⟩ := k1
    rcases q2.2 with ⟨e, _⟩ | ⟨g, cap, cur, e, hbk, _⟩
    · injection e with e1; subst e1; simp [OwnB, Value.ownBlock] at h1
    · injection e with e1
      subst e1
      have hg : g = k := by simpa [OwnB, Value.ownBlock] using h1
      subst hg
      exact r2.blk_ne hbk (by decide) (own_cut h2)
  have HTV := Lib.hid hTV
  have nbT : ¬ OwnB (.slice At N ct) b := fun h => k3.ne k0 (own_cut h)
  have nbV : ¬ OwnB (.slice Av R cv) b := fun h => k1.ne k0 (own_cut h)
  have HBT := Lib.hid nbT
  have HBV := Lib.hid nbV
  obtain ⟨M, hM⟩ : ∃ M : Nat → Prop, M = fun k => OwnB (.slice At N ct) k ∨ OwnB (.slice Av R cv) k ∨ k = b ∨ k = w.heap.size + 2 := ⟨_, rfl⟩
  have hMu : ∀ k, M k → ∀ cs, ¬ Blk wz k 5 cs := fun k hk cs hbk => by
    rw [hM] at hk
    obtain ⟨us', q1, q2, q0, q3⟩ := k3
    obtain ⟨hf', uv', r1, r2, r3⟩ := k1
    rcases hk with hk | hk | hk | hk
    · exact q2.blk_ne hbk (by decide) (own_cut hk)
    · exact r2.blk_ne hbk (by decide) (own_cut hk)
    · rw [hk] at hbk
      exact absurd rfl (Blk.unlike k0 hbk (by decide))
    · rw [hk] at hbk
      exact absurd rfl (Blk.unlike BR4.out hbk (by decide))
  have MT := Lib.hid (show ∀ k, OwnB (.slice At N ct) k → M k from fun k hk => by rw [hM]; exact .inl hk)
  have MV := Lib.hid (show ∀ k, OwnB (.slice Av R cv) k → M k from fun k hk => by rw [hM]; exact .inr (.inl hk))
  have MB := Lib.hid (show M b from by rw [hM]; exact .inr (.inr (.inl rfl)))
  have MR := Lib.hid (show M (w.heap.size + 2) from by rw [hM]; exact .inr (.inr (.inr rfl)))
  have TM4 := Lib.hid (show TxM wz M At ct (l ++ m) from k3.to hMu)
  have SM4 := Lib.hid (show SgM wz M Av cv (p ++ q) from k1.to hMu)
  have CV := Lib.hid (SortV_any SM4.out (fun k hk => MV.out k (own_cut hk)) (by rw [hR]; have := HNR.out; omega))
  have v0 : wz.cell? ⟨b, 0, none⟩ = some (.slice Av R cv) := by rw [← hR]; exact k0.cell 0
  have v1 : wz.cell? ⟨b, 1, none⟩ = some (.slice At N ct) := by rw [← hN]; exact k0.cell 1
  rw [hR] at CV
  clear hW hL hbS k0 k1 k2 k3 k4 UW3 BA3 BB3 HRL HRM HUL HVL hN hR hM hMu nbT nbV hTV HRP HRQ HPS HQS HPL HQL
  unfold ptrV
  unfold fnV at CV
  go_wp2_with fail
  refine CV.out.mono ?_
  rintro e w4 ⟨rfl, hs4', hu4⟩
  rw [HRR.out] at hu4
  have SM4' := Lib.hid hs4'
  have BV5 := Lib.hid (hu4.blk BV4.out HBV.out)
  have BR5 := Lib.hid (hu4.blk BR4.out (fun f => by have := HNV.out _ f; omega))
  have U5 := Lib.hid (U4.out.trans hu4 (fun k hk f => by have := HNV.out k f; omega))
  have TM5 := Lib.hid (TM4.out.upd hu4 (fun k hk f => HTV.out k (own_cut hk) f) (fun k _ f => MV.out k f))
  have HU4 := Lib.hid hu4
  have CS := Lib.hid (SortT_any TM5.out (fun k hk => MT.out k (own_cut hk)) (by rw [HN.out]; have := HNN.out; omega))
  have v0 : w4.cell? ⟨b, 0, none⟩ = some (.slice Av R cv) := by have := BV5.out.cell 0; rw [← HRR.out]; exact this
  have v1 : w4.cell? ⟨b, 1, none⟩ = some (.slice At N ct) := by have := BV5.out.cell 1; rw [← HN.out]; exact this
  rw [HN.out] at CS
  unfold fnV at CS
  clear hs4' hu4 CV SM4 TM4
  go_wp2_with fail
  refine CS.out.mono ?_
  rintro e w5 ⟨rfl, ht5, hu5⟩
  rw [HN.out] at hu5
  have slT : (sortL lessT (l ++ m)).length = N := by rw [sortL_len]; exact HN.out
  have slV : (sortL lessS (p ++ q)).length = R := by rw [sortL_len]; exact HRR.out
  have TM6 := Lib.hid ht5
  have SM6 := Lib.hid (SM4'.out.upd hu5 (fun k hk f => HTV.out k f (own_cut hk)) (fun k _ f => MT.out k f))
  have BV6 := Lib.hid (hu5.blk BV5.out HBT.out)
  have BR6 := Lib.hid (hu5.blk BR5.out (fun f => by have := HNT.out _ f; omega))
  have U6 := Lib.hid (U5.out.trans hu5 (fun k hk f => by have := HNT.out k f; omega))
  have DV := Lib.hid (CompactV_any SM6.out (fun k hk => MV.out k (own_cut hk)) (by rw [slV]; have := HNR.out; omega))
  rw [slV] at DV
  unfold fnV at DV
  have v0 : w5.cell? ⟨b, 0, none⟩ = some (.slice Av R cv) := by have := BV6.out.cell 0; rw [← HRR.out]; exact this
  have v1 : w5.cell? ⟨b, 1, none⟩ = some (.slice At N ct) := by have := BV6.out.cell 1; rw [← HN.out]; exact this
  have SLT := Lib.hid slT
  have SLV := Lib.hid slV
  clear ht5 hu5 CS slT slV
  go_wp2_with fail
  refine DV.out.mono ?_
  rintro e w6 ⟨rfl, hs6, hu6⟩
  rw [SLV.out] at hu6
  have SM7 := Lib.hid hs6
  have BV7 := Lib.hid (hu6.blk BV6.out HBV.out)
  have BR7 := Lib.hid (hu6.blk BR6.out (fun f => by have := HNV.out _ f; omega))
  have U7 := Lib.hid (U6.out.trans hu6 (fun k hk f => by have := HNV.out k f; omega))
  have TM7 := Lib.hid (TM6.out.upd hu6 (fun k hk f => HTV.out k (own_cut hk) f) (fun k _ f => MV.out k f))
  obtain ⟨rv, hrv⟩ : ∃ n, (compL (sortL lessS (p ++ q))).length = n := ⟨_, rfl⟩
  have HRV := Lib.hid hrv
  rw [hrv]
  have v0 : w6.cell? ⟨b, 0, none⟩ = some (.slice Av R cv) := by have := BV7.out.cell 0; rw [← HRR.out]; exact this
  have v1 : w6.cell? ⟨b, 1, none⟩ = some (.slice At N ct) := by have := BV7.out.cell 1; rw [← HN.out]; exact this
  have v2 : w6.frozen? ⟨b, 0, none⟩ = false := BV7.out.frozen 0
  have v3 : w6.frozen? ⟨b, 1, none⟩ = false := BV7.out.frozen 1
  have hS6 : Upd (fun k => k = b) w6 (w6.setCell ⟨b, 0, none⟩ (.slice Av rv cv)) := (Upd.refl (fun k => k = b) w6).setCell (p := ⟨b, 0, none⟩) (.inl rfl) _
  have BV8 := Lib.hid (BV7.out.put 0 (.slice Av rv cv))
  have BR8 := Lib.hid (hS6.blk BR7.out (fun f => by have f : w.heap.size + 2 = b := f; omega))
  have U8 := Lib.hid (U7.out.trans hS6 (fun k hk f => by have f : k = b := f; omega))
  have TM8 := Lib.hid (TM7.out.upd hS6 (fun k hk f => HBT.out (by rw [← show k = b from f]; exact own_cut hk)) (fun k _ f => by rw [show k = b from f]; exact MB.out))
  have SM8 := Lib.hid (SM7.out.upd hS6 (fun k hk f => HBV.out (by rw [← show k = b from f]; exact own_cut hk)) (fun k _ f => by rw [show k = b from f]; exact MB.out))
  have CT := Lib.hid (CompactT_any TM8.out (fun k hk => MT.out k (own_cut hk)) (by rw [SLT.out]; have := HNN.out; omega))
  rw [SLT.out] at CT
  unfold fnV at CT
  clear hs6 hu6 hS6 hrv DV
  go_wp2_with fail
  refine CT.out.mono ?_
  rintro e w7 ⟨rfl, ht7, hu7⟩
  rw [SLT.out] at hu7
  have TM9 := Lib.hid ht7
  have SM9 := Lib.hid (SM8.out.upd hu7 (fun k hk f => HTV.out k f (own_cut hk)) (fun k _ f => MT.out k f))
  have BV9 := Lib.hid (hu7.blk BV8.out HBT.out)
  have BR9 := Lib.hid (hu7.blk BR8.out (fun f => by have := HNT.out _ f; omega))
  have U9 := Lib.hid (U8.out.trans hu7 (fun k hk f => by have := HNT.out k f; omega))
  have v0 : w7.cell? ⟨b, 0, none⟩ = some (.slice Av rv cv) := BV9.out.cell 0
  have v1 : w7.cell? ⟨b, 1, none⟩ = some (.slice At N ct) := by have := BV9.out.cell 1; rw [← HN.out]; exact this
  have v2 : w7.frozen? ⟨b, 0, none⟩ = false := BV9.out.frozen 0
  have v3 : w7.frozen? ⟨b, 1, none⟩ = false := BV9.out.frozen 1
  have x0 : w7.cell? ⟨w.heap.size + 2, 0, none⟩ = some (.slice none 0 0) := BR9.out.cell 0
  have x1 : w7.cell? ⟨w.heap.size + 2, 1, none⟩ = some (.slice none 0 0) := BR9.out.cell 1
  have x2 : w7.frozen? ⟨w.heap.size + 2, 0, none⟩ = false := BR9.out.frozen 0
  have x3 : w7.frozen? ⟨w.heap.size + 2, 1, none⟩ = false := BR9.out.frozen 1
  have hRb : w.heap.size + 2 ≠ b := by omega
  have hbR : b ≠ w.heap.size + 2 := by omega
  obtain ⟨rt, hrt⟩ : ∃ n, (compL (sortL lessT (l ++ m))).length = n := ⟨_, rfl⟩
  have HRT := Lib.hid hrt
  rw [hrt]
  clear ht7 hu7 hrt CT
  go_wp2
  have hzb : Upd (fun k => k = b) w7 (w7.setCell ⟨b, 1, none⟩ (.slice At rt ct)) := (Upd.refl (fun k => k = b) w7).setCell (p := ⟨b, 1, none⟩) (.inl rfl) _
  have BR10 := hzb.blk BR9.out (fun f => hRb f)
  have hzR : Upd (fun k => k = w.heap.size + 2) (w7.setCell ⟨b, 1, none⟩ (.slice At rt ct)) (((w7.setCell ⟨b, 1, none⟩ (.slice At rt ct)).setCell ⟨w.heap.size + 2, 0, none⟩ (.slice Av rv cv)).setCell ⟨w.heap.size + 2, 1, none⟩ (.slice At rt ct)) := ((Upd.refl (fun k => k = w.heap.size + 2) _).setCell (p := ⟨w.heap.size + 2, 0, none⟩) (.inl rfl) _).setCell (p := ⟨w.heap.size + 2, 1, none⟩) (.inl rfl) _
  refine bodyPost_ret (results_cell_row Try.results6 _ _ (w.heap.size + 2) 25 #[.slice Av rv cv, .slice At rt ct] (0, 0) _ rfl ((BR10.put 0 (.slice Av rv cv)).put 1 (.slice At rt ct)) Try.underlying25 rfl (by rw [view_size]; rfl)) rfl ?_
  have hT8 := TM9.out.upd hzb (fun k hk f => HBT.out (by rw [← show k = b from f]; exact own_cut hk)) (fun k _ f => by rw [show k = b from f]; exact MB.out)
  have hT9 := (hT8.upd hzR (fun k hk f => by have := HNT.out k (own_cut hk); have f : k = w.heap.size + 2 := f; omega) (fun k _ f => by rw [show k = w.heap.size + 2 from f]; exact MR.out)).rd
  have hS8 := SM9.out.upd hzb (fun k hk f => HBV.out (by rw [← show k = b from f]; exact own_cut hk)) (fun k _ f => by rw [show k = b from f]; exact MB.out)
  have hS9 := (hS8.upd hzR (fun k hk f => by have := HNV.out k (own_cut hk); have f : k = w.heap.size + 2 := f; omega) (fun k _ f => by rw [show k = w.heap.size + 2 from f]; exact MR.out)).rd
  rw [HRT.out] at hT9
  rw [HRV.out] at hS9
  exact ⟨_, _, rfl, ⟨hS9, hT9⟩, (U9.out.trans hzb (fun k hk f => by have f : k = b := f; omega)).trans hzR (fun k hk f => by have f : k = w.heap.size + 2 := f; omega)⟩
end Go.Proofs.Ytbgificdilpdcaa
