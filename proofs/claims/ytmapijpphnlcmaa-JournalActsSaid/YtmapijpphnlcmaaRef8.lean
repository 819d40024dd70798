/- The reference disk: Append. No condition. -/
import Derived.Test.YtmapijpphnlcmaaRef7
import Derived.BigRegion
namespace Go.Proofs.Ytmapijpphnlcmaa
open Go.RowKit Go.Maps

section
variable {w w' : World} {m : Nat} {off armed : Bool} {left : Nat} {lv : Value} {R : List RRec}

def RAppPost (w : World) (m : Nat) (armed : Bool) (left : Nat) (lv : Value) (R : List RRec) (fs' : FS) : Ending → World → Prop := RPostA w m (!wrB armed left) armed (wrL armed left) lv R fs' (if wrB armed left then 0 else 103)
theorem rapp_end {w0 w2 w3 w4 w1 w6 w5 : World} {lvo lv2 : Value} {R0 : List RRec} {A A' : Option Addr} {n c1 c2 c3 i g : Nat} {r : RRec} {b : List UInt8} {o : Obj} (_hr : R[i]? = some r) (hu2 : Upd (fun k => k = m) w0 w2) (hf2 : ∀ k, refFoot m lv2 R k → refFoot m lvo R0 k ∨ w0.heap.size ≤ k) (hu3 : Upd NoF w2 w3) (hN : ∀ k, OwnB (.slice (some ⟨g, 0, none⟩) R.length c1) k → w2.heap.size ≤ k)
    (hgo : OwnB (.slice (some ⟨g, 0, none⟩) R.length c1) g) (hw4 : w4 = w3.setCell ⟨m, 0, none⟩ (.slice (some ⟨g, 0, none⟩) R.length c1))
    (hu : Upd (OwnB (.slice (some ⟨w4.heap.size, 0, none⟩) 0 0)) (w4.alloc o).drew w1) (hnew : ∀ k, OwnB (.slice A n c2) k → OwnB (.slice (some ⟨w4.heap.size, 0, none⟩) 0 0) k ∨ (w4.alloc o).drew.heap.size ≤ k)
    (hu6 : Upd (OwnB (.slice A n c2)) w1 w6) (hnew6 : ∀ k, OwnB (.slice A' (n + b.length) c3) k → OwnB (.slice A n c2) k ∨ w1.heap.size ≤ k)
    (hw5 : w5 = w6.setCell ⟨g, i * 3 + 1, none⟩ (.slice A' (n + b.length) c3)) {left' : Nat} {off' : Bool} {w7 : World} {code : Int}
    (hd : RefL w7 m off' armed left' (.slice (some ⟨g, 0, none⟩) R.length c1) (R.set i { r with cv := .slice A' (n + b.length) c3, c := r.c ++ b })) (hu7 : Upd (fun k => k = m) w5 w7) :
    RPostA w0 m off' armed left' lvo R0 ((R.map absRR).set i (r.nm, ⟨r.c ++ b, r.dur⟩)) code (retE code) w7 := by
  obtain ⟨q1, q2, q3⟩ := rframe2 hu2 hu3 hN hgo hw4 hu
  have hn1 : ∀ k, OwnB (.slice A n c2) k → w0.heap.size ≤ k := fun k hk => by
    rcases hnew k hk with e | e
    · simp [OwnB, Value.ownBlock] at e; omega
    · simp at e; omega
  have q6 : Upd (fun k => k = m) w0 w6 := q1.trans hu6 (fun k hk e => by have := hn1 k e; omega)
  have h5 : Upd (fun k => k = m) w0 w5 := by rw [hw5]; exact q6.setCell (p := ⟨g, i * 3 + 1, none⟩) (.inr q2) _
  refine ⟨rfl, _, _, hd, by simp [List.map_set, absRR], h5.trans hu7 (fun _ _ h => h), ?_⟩
  rintro k (hk | hk | ⟨x, hx, hk⟩)
  · exact .inl (.inl hk)
  · exact .inr (Nat.le_trans hu2.size (hN k hk))
  · rcases mem_set hx with rfl | hx
    · refine .inr ?_
      rcases hnew6 k hk with e | e
      · exact hn1 k e
      · exact Nat.le_trans q1.size e
    · exact hf2 k (.inr (.inr ⟨x, hx, hk⟩))

set_option maxRecDepth 100000 in
set_option maxHeartbeats 4000000 in
theorem rappend_yes (h : RefL w m false armed left lv R) (nm : List UInt8) (hn : nm.isEmpty = false) (i : Nat) (hi : idxR R nm = i) (r : RRec) (hr : R[i]? = some r) (v : Value) (b : List UInt8) (hb : RdB (fun k => k = m) w v b) (hlb : r.c.length + b.length ≤ 1099511627776) :
    Calls Try.prog 35 #[ptrV m, strV nm, v] w (RAppPost w m armed left lv R ((R.map absRR).set i (r.nm, ⟨r.c ++ b, r.dur⟩))) := by
  have c3 : w.cell? ⟨m, 3, none⟩ = some (.bool false) := h.head.cell 3
  have hil : i < R.length := (List.getElem?_eq_some_iff.1 hr).1
  have FI := find_any h nm
  rw [hi] at FI
  have HF := Lib.hid FI
  have HR := Lib.hid hr
  have HB := Lib.hid hb
  have U2 := Lib.hid (Upd.refl (fun k => k = m) w)
  obtain ⟨i0, hi0, hz0, hz1, hz2⟩ := info_parts file_info
  obtain ⟨i1, hi1, hy0, hy1, hy2⟩ := info_parts byte_info
  have hnum := h.num
  obtain ⟨A, c, hlv, hnc, hc, _⟩ := h.form
  subst hlv
  have F2 := Lib.hid (show ∀ k, refFoot m (.slice A R.length c) R k → refFoot m (.slice A R.length c) R k ∨ w.heap.size ≤ k from fun k h => .inl h)
  obtain ⟨Av, cv, hcvf⟩ := (h.cont r (List.mem_of_getElem? hr)).form
  have HCV := Lib.hid hcvf
  have d0 := h.head.cell 0
  have hmz := h.head.lt
  have D2 := Lib.hid h
  have t1 : decide ((i : Int) < 0) = false := by simp
  have t2 : (0:Int) ≤ i := by omega
  have t3 : (i:Int) < R.length := by omega
  obtain ⟨Ab, cb, rfl, -⟩ := hb.now
  clear h FI hi hr hcvf hb
  go_enter Try.func35, Try.ntmps35
  go_wp2_with (first
    | (go_at_call 54; refine HF.out.mono ?_; rintro e w' ⟨rfl, rfl⟩)
    | (at_builtin; refine wpList_append_new _ rfl (.tmp 26) (.tmp 30) 41 rfl 89 i0 _ 3 48 Try.underlying41 hi0 hz0 hz1 hz2 rfl (.slice (some ⟨w.heap.size, 0, none⟩) 0 0) rfl (Own.fresh w _ _) (.slice A R.length c) R.length (cellsR R) rfl (D2.out.list.upd ((Upd.refl NoF w).alloc _) (fun _ _ h => h)).rd (cellsR_one D2.out.cont) (by unfold maxLen; omega) (by omega) ?_; intro A1 c1 w3 hown1 hupd1 hnew1; have hU3 : Upd NoF w w3 := ((Upd.refl NoF w).alloc _).trans hupd1 (fun k hk e => by simp [OwnB, Value.ownBlock] at e; omega); have hN : ∀ k, OwnB (.slice A1 R.length c1) k → w.heap.size ≤ k := (fun k hk => by rcases hnew1 k hk with e | e; (simp [OwnB, Value.ownBlock] at e; omega); (simp at e; omega)); have D3 := Lib.hid (RefL.copied D2.out hU3 hown1 hN); have x0 := (hU3.blk D2.out.head (fun h => h)).cell 0; have x1 := (hU3.blk D2.out.head (fun h => h)).frozen 0; have U3 := Lib.hid hU3; have N3 := Lib.hid hN; clear hown1 hupd1 hnew1 hU3 hN))
  obtain ⟨w4, hw4⟩ : ∃ w4, w4 = w3.setCell ⟨m, 0, none⟩ (.slice A1 R.length c1) := ⟨_, rfl⟩
  rw [← hw4] at D3 ⊢
  have W4 := Lib.hid hw4
  clear hw4 x0 x1
  obtain ⟨g, hA, -, hnc1, hc1, hgm, hgo, y0, y1, y2, z1, z2⟩ := D3.out.at_ HR.out
  subst hA
  rw [HCV.out] at y1
  have y3 := D3.out.head.cell 0
  have hmz4 := D3.out.head.lt
  have hgz4 := D3.out.list.lt hgo
  have hcvo := D3.out.cont r (List.mem_of_getElem? HR.out)
  rw [HCV.out] at hcvo
  have K0 := Lib.hid (show ∀ w1, Upd NoF w4 w1 → w1.cell? ⟨m, 0, none⟩ = some (.slice (some ⟨g, 0, none⟩) R.length c1) ∧ w1.cell? ⟨g, i * 3 + 1, none⟩ = some (.slice Av r.c.length cv) ∧ w1.frozen? ⟨g, i * 3 + 1, none⟩ = false from fun w1 hU => by
    have D := D3.out.upd hU (fun _ _ h => h)
    obtain ⟨g', e', -, -, -, -, -, -, q1, -, q2, -⟩ := D.at_ HR.out
    injection e' with e'
    injection e' with e' _
    subst e'
    rw [HCV.out] at q1
    exact ⟨D.head.cell 0, q1, q2⟩)
  have UU1 := Lib.hid (show ∀ w1, Upd (OwnB (.slice (some ⟨w4.heap.size, 0, none⟩) 0 0)) (w4.alloc (.cells #[] 5)).drew w1 → Upd NoF w4 w1 from fun w1 hu => (((Upd.refl NoF w4).alloc _).drew).trans hu (fun k hk e => by simp [OwnB, Value.ownBlock] at e; omega))
  have UU2 := Lib.hid (show ∀ w1 w6 A n c2, Upd (OwnB (.slice (some ⟨w4.heap.size, 0, none⟩) 0 0)) (w4.alloc (.cells #[] 5)).drew w1 → (∀ k, OwnB (.slice A n c2) k → OwnB (.slice (some ⟨w4.heap.size, 0, none⟩) 0 0) k ∨ (w4.alloc (.cells #[] 5)).drew.heap.size ≤ k) → Upd (OwnB (.slice A n c2)) w1 w6 → Upd NoF w4 w6 from fun w1 w6 A n c2 hu hnew h6 => (UU1.out w1 hu).trans h6 (fun k hk e => by
    rcases hnew k e with e | e
    · simp [OwnB, Value.ownBlock] at e; omega
    · simp at e; omega))
  have A1 := Lib.hid (show Own (w4.alloc (.cells #[] 5)).drew 5 1 (.slice (some ⟨w4.heap.size, 0, none⟩) 0 0) 0 [] from ⟨by simp, .inr ⟨w4.heap.size, 0, #[], rfl, (Blk.new w4 _ _).drew, Nat.le_refl _, Nat.zero_le _, Nat.zero_le _, rfl⟩⟩)
  have A2 := Lib.hid ((hcvo.upd (((Upd.refl NoF w4).alloc (.cells #[] 5)).drew) (fun _ _ h => h)).rd)
  have A3 := Lib.hid (show ∀ bs : List UInt8, ∀ u ∈ bs.map byteV, u.oneCell' = true from fun bs u hu => by
    obtain ⟨x, _, rfl⟩ := List.mem_map.1 hu
    rfl)
  have A4 := Lib.hid (show r.c.length ≤ maxLen by unfold maxLen; omega)
  have A5 := Lib.hid (show r.c.length * 1 ≤ 140737488355328 by omega)
  have B4 := Lib.hid (show r.c.length + b.length ≤ maxLen by unfold maxLen; omega)
  have B5 := Lib.hid (show (r.c.length + b.length) * 1 ≤ 140737488355328 by omega)
  have VB := Lib.hid (show ∀ w1, Upd NoF w4 w1 → Rd w1 1 (.slice Ab b.length cb) b.length (b.map byteV) from fun w1 hU => HB.out w1 ((show Upd (fun k => k = m) w w4 by
    rw [W4.out]
    exact (U2.out.trans U3.out (fun _ _ h => h.elim)).setCell (p := ⟨m, 0, none⟩) (.inl rfl) _).trans hU (fun _ _ h => h.elim)))
  have FIN := Lib.hid (show ∀ w6 A c2, Upd NoF w4 w6 → Own w6 5 1 (.slice A (r.c.length + b.length) c2) (r.c.length + b.length) (r.c.map byteV ++ b.map byteV) →
      RefL (w6.setCell ⟨g, i * 3 + 1, none⟩ (.slice A (r.c.length + b.length) c2)) m false armed left (.slice (some ⟨g, 0, none⟩) R.length c1) (R.set i { r with cv := .slice A (r.c.length + b.length) c2, c := r.c ++ b }) from fun w6 A c2 hU ho => by
    have := (D3.out.upd hU (fun _ _ h => h)).setCont HR.out (.slice A (r.c.length + b.length) c2) (r.c ++ b) (by simpa using ho) (by simpa using hlb)
    exact this)
  clear hcvo y0 y2 z2
  go_region_law
    (first
      | (refine step_append_new _ (by rfl) (.tmp 39) (.tmp 47) _ (by rfl) 5 i1 _ 1 1 Try.underlying27 hi1 hy0 hy1 hy2 rfl (.slice (some ⟨w4.heap.size, 0, none⟩) 0 0) (by rfl) (by exact A1.out) (.slice Av r.c.length cv) r.c.length (r.c.map byteV) (by rfl) (by exact A2.out) (A3.out _) A4.out A5.out ?_; intro A c2 w1 hown1 hupd1 hnew1; obtain ⟨kp1, kp2, kf1⟩ := K0.out w1 (UU1.out w1 hupd1); have O1 := Lib.hid hown1; have U1 := Lib.hid hupd1; have N1 := Lib.hid hnew1; clear hown1 hupd1 hnew1)
      | (refine step_append_to _ (by rfl) (.tmp 48) (.tmp 49) _ (by rfl) 5 i1 _ 1 1 Try.underlying27 hi1 hy0 hy1 hy2 rfl (.slice A r.c.length c2) r.c.length (r.c.map byteV) (by rfl) O1.out (.slice Ab b.length cb) b.length (b.map byteV) (by rfl) (VB.out w1 (UU1.out w1 U1.out)) (A3.out _) B4.out B5.out ?_; intro A' c3 w6 hown2 hupd2 hnew; obtain ⟨kq1, kq2, kg1⟩ := K0.out w6 (UU2.out w1 w6 A _ c2 U1.out N1.out hupd2); have O6 := Lib.hid hown2; have U6 := Lib.hid hupd2; have N6 := Lib.hid hnew; clear hown2 hupd2 hnew))
  all_goals
    have D5 := Lib.hid (FIN.out w6 A' c3 (UU2.out w1 w6 A _ c2 U1.out N1.out U6.out) O6.out)
    obtain ⟨w5, hw5⟩ : ∃ w5, w5 = w6.setCell ⟨g, i * 3 + 1, none⟩ (.slice A' (r.c.length + b.length) c3) := ⟨_, rfl⟩
    rw [← hw5] at D5 ⊢
    have W5 := Lib.hid hw5
    have FA := fails_any D5.out
    clear hw5 kp1 kp2 kf1 kq1 kq2 kg1 y1 y3 z1
    cases hwb : wrB armed left
    · rw [hwb] at FA
      have HA := Lib.hid FA
      have WB := Lib.hid hwb
      clear FA hwb
      go_wp2_with (go_at_call 65; refine HA.out.mono ?_; rintro e w7 ⟨rfl, hd7, hu7⟩; have D7 := Lib.hid hd7; have U7 := Lib.hid hu7; clear hd7 hu7)
      go_ret
      unfold RAppPost
      rw [WB.out]
      exact rapp_end HR.out U2.out F2.out U3.out N3.out hgo W4.out U1.out N1.out U6.out N6.out W5.out D7.out U7.out
    · rw [hwb] at FA
      have HA := Lib.hid FA
      have WB := Lib.hid hwb
      clear FA hwb
      go_wp2_with (go_at_call 65; refine HA.out.mono ?_; rintro e w7 ⟨rfl, hd7, hu7⟩; have D7 := Lib.hid hd7; have U7 := Lib.hid hu7; clear hd7 hu7)
      go_ret
      unfold RAppPost
      rw [WB.out]
      exact rapp_end HR.out U2.out F2.out U3.out N3.out hgo W4.out U1.out N1.out U6.out N6.out W5.out D7.out U7.out
end
end Go.Proofs.Ytmapijpphnlcmaa
