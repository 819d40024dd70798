/- The reference disk: Append. No condition. The reference disk: Append on a new file. No condition. The reference disk: Rename. No condition. The reference disk, each function against its plain specification. Conditions: names pairwise distinct, sizes. -/
import Derived.Test.YtbgificdilpdcaaGreatJn25
import Derived.BigRegion
namespace Go.Proofs.YtbgificdilpdcaaGreat
section
open Go.RowKit Go.Maps

section
variable {w w' : World} {m : Nat} {off armed : Bool} {left : Nat} {lv : Value} {R : List RRec}

def RAppPost (w : World) (m : Nat) (armed : Bool) (left : Nat) (lv : Value) (R : List RRec) (fs' : FS) : Ending → World → Prop := RPostA w m (!wrB armed left) armed (wrL armed left) lv R fs' (if wrB armed left then 0 else 103)
theorem rapp_end {w0 w2 w3 w4 w1 w6 w5 : World} {lvo lv2 : Value} {R0 : List RRec} {A A' : Option Addr} {n c1 c2 c3 i g : Nat} {r : RRec} {b : List UInt8} {o : Obj} (_hr : R[i]? = some r) (hu2 : Upd (fun k => k = m) w0 w2) (hf2 : ∀ k, refFoot m lv2 R k → refFoot m lvo R0 k ∨ w0.heap.size ≤ k) (hu3 : Upd NoF w2 w3) (hN : ∀ k, OwnB (.slice (some ⟨g, 0, none⟩) R.length c1) k → w2.heap.size ≤ k)
    (hgo : OwnB (.slice (some ⟨g, 0, none⟩) R.length c1) g) (hw4 : w4 = w3.setCell ⟨m, 0, none⟩ (.slice (some ⟨g, 0, none⟩) R.length c1))
    (hu : Upd (OwnB (.slice (some ⟨w4.heap.size, 0, none⟩) 0 0)) (w4.alloc o).drew w1) (hnew : ∀ k, OwnB (.slice A n c2) k → OwnB (.slice (some ⟨w4.heap.size, 0, none⟩) 0 0) k ∨ (w4.alloc o).drew.heap.size ≤ k)
    (hu6 : Upd (OwnB (.slice A n c2)) w1 w6) (hnew6 : ∀ k, OwnB (.slice A' (n + b.length) c3) k → OwnB (.slice A n c2) k ∨ w1.heap.size ≤ k)
    (hw5 : w5 = w6.setCell ⟨g, i * 3 + 1, none⟩ (.slice A' (n + b.length) c3)) {left' : Nat} {off' : Bool} {w7 : World} {code : Int}
    (hd : RefL w7 m off' armed left' (.slice (some ⟨g, 0, none⟩) R.length c1) (R.set i { r with cv := .slice A' (n + b.length) c3, c := r.c ++ b })) (hu7 : Upd (fun k => k = m) w5 w7) :
    RPostA w0 m off' armed left' lvo R0 ((R.map absRR).set i (r.nm, ⟨r.c ++ b, r.dur⟩)) code (retE code) w7 := by
  obtain ⟨q1, q2, q3⟩ := rframe2 hu2 hu3 hN hgo hw4 hu
  have hn1 : ∀ k, OwnB (.slice A n c2) k → w0.heap.size ≤ k := fun k hk => by
    rcases hnew k hk with e | e
    · simp [OwnB, Value.ownBlock] at e; omega
    · simp at e; omega
  have q6 : Upd (fun k => k = m) w0 w6 := q1.trans hu6 (fun k hk e => by have := hn1 k e; omega)
  have h5 : Upd (fun k => k = m) w0 w5 := by rw [hw5]; exact q6.setCell (p := ⟨g, i * 3 + 1, none⟩) (.inr q2) _
  refine ⟨rfl, _, _, hd, by simp [List.map_set, absRR], h5.trans hu7 (fun _ _ h => h), ?_⟩
  rintro k (hk | hk | ⟨x, hx, hk⟩)
  · exact .inl (.inl hk)
  · exact .inr (Nat.le_trans hu2.size (hN k hk))
  · rcases mem_set hx with rfl | hx
    · refine .inr ?_
      rcases hnew6 k hk with e | e
      · exact hn1 k e
      · exact Nat.le_trans q1.size e
    · exact hf2 k (.inr (.inr ⟨x, hx, hk⟩))

set_option maxRecDepth 100000 in
set_option maxHeartbeats 4000000 in
theorem rappend_yes (h : RefL w m false armed left lv R) (nm : List UInt8) (hn : nm.isEmpty = false) (i : Nat) (hi : idxR R nm = i) (r : RRec) (hr : R[i]? = some r) (v : Value) (b : List UInt8) (hb : RdB (fun k => k = m) w v b) (hlb : r.c.length + b.length ≤ 1099511627776) :
    Calls Tryz.prog 54 #[ptrV m, strV nm, v] w (RAppPost w m armed left lv R ((R.map absRR).set i (r.nm, ⟨r.c ++ b, r.dur⟩))) := by
  have c3 : w.cell? ⟨m, 3, none⟩ = some (.bool false) := h.head.cell 3
  have hil : i < R.length := (List.getElem?_eq_some_iff.1 hr).1
  have FI := find_any h nm
  rw [hi] at FI
  have HF := Lib.hid FI
  have HR := Lib.hid hr
  have HB := Lib.hid hb
  have U2 := Lib.hid (Upd.refl (fun k => k = m) w)
  obtain ⟨i0, hi0, hz0, hz1, hz2⟩ := info_parts file_info
  obtain ⟨i1, hi1, hy0, hy1, hy2⟩ := info_parts byte_info
  have hnum := h.num
  obtain ⟨A, c, hlv, hnc, hc, _⟩ := h.form
  subst hlv
  have F2 := Lib.hid (show ∀ k, refFoot m (.slice A R.length c) R k → refFoot m (.slice A R.length c) R k ∨ w.heap.size ≤ k from fun k h => .inl h)
  obtain ⟨Av, cv, hcvf⟩ := (h.cont r (List.mem_of_getElem? hr)).form
  have HCV := Lib.hid hcvf
  have d0 := h.head.cell 0
  have hmz := h.head.lt
  have D2 := Lib.hid h
  have t1 : decide ((i : Int) < 0) = false := by simp
  have t2 : (0:Int) ≤ i := by omega
  have t3 : (i:Int) < R.length := by omega
  obtain ⟨Ab, cb, rfl, -⟩ := hb.now
  clear h FI hi hr hcvf hb
  go_enter Tryz.func54, Tryz.ntmps54
  go_wp2_with (first
    | (go_at_call 52; refine HF.out.mono ?_; rintro e w' ⟨rfl, rfl⟩)
    | (at_builtin; refine wpList_append_new _ rfl (.tmp 26) (.tmp 30) 42 rfl 94 i0 _ 3 48 Tryz.underlying42 hi0 hz0 hz1 hz2 rfl (.slice (some ⟨w.heap.size, 0, none⟩) 0 0) rfl (Own.fresh w _ _) (.slice A R.length c) R.length (cellsR R) rfl (D2.out.list.upd ((Upd.refl NoF w).alloc _) (fun _ _ h => h)).rd (cellsR_one D2.out.cont) (by unfold maxLen; omega) (by omega) ?_; intro A1 c1 w3 hown1 hupd1 hnew1; have hU3 : Upd NoF w w3 := ((Upd.refl NoF w).alloc _).trans hupd1 (fun k hk e => by simp [OwnB, Value.ownBlock] at e; omega); have hN : ∀ k, OwnB (.slice A1 R.length c1) k → w.heap.size ≤ k := (fun k hk => by rcases hnew1 k hk with e | e; (simp [OwnB, Value.ownBlock] at e; omega); (simp at e; omega)); have D3 := Lib.hid (RefL.copied D2.out hU3 hown1 hN); have x0 := (hU3.blk D2.out.head (fun h => h)).cell 0; have x1 := (hU3.blk D2.out.head (fun h => h)).frozen 0; have U3 := Lib.hid hU3; have N3 := Lib.hid hN; clear hown1 hupd1 hnew1 hU3 hN))
  obtain ⟨w4, hw4⟩ : ∃ w4, w4 = w3.setCell ⟨m, 0, none⟩ (.slice A1 R.length c1) := ⟨_, rfl⟩
  rw [← hw4] at D3 ⊢
  have W4 := Lib.hid hw4
  clear hw4 x0 x1
  obtain ⟨g, hA, -, hnc1, hc1, hgm, hgo, y0, y1, y2, z1, z2⟩ := D3.out.at_ HR.out
  subst hA
  rw [HCV.out] at y1
  have y3 := D3.out.head.cell 0
  have hmz4 := D3.out.head.lt
  have hgz4 := D3.out.list.lt hgo
  have hcvo := D3.out.cont r (List.mem_of_getElem? HR.out)
  rw [HCV.out] at hcvo
  have K0 := Lib.hid (show ∀ w1, Upd NoF w4 w1 → w1.cell? ⟨m, 0, none⟩ = some (.slice (some ⟨g, 0, none⟩) R.length c1) ∧ w1.cell? ⟨g, i * 3 + 1, none⟩ = some (.slice Av r.c.length cv) ∧ w1.frozen? ⟨g, i * 3 + 1, none⟩ = false from fun w1 hU => by
    have D := D3.out.upd hU (fun _ _ h => h)
    obtain ⟨g', e', -, -, -, -, -, -, q1, -, q2, -⟩ := D.at_ HR.out
    injection e' with e'
    injection e' with e' _
    subst e'
    rw [HCV.out] at q1
    exact ⟨D.head.cell 0, q1, q2⟩)
  have UU1 := Lib.hid (show ∀ w1, Upd (OwnB (.slice (some ⟨w4.heap.size, 0, none⟩) 0 0)) (w4.alloc (.cells #[] 5)).drew w1 → Upd NoF w4 w1 from fun w1 hu => (((Upd.refl NoF w4).alloc _).drew).trans hu (fun k hk e => by simp [OwnB, Value.ownBlock] at e; omega))
  have UU2 := Lib.hid (show ∀ w1 w6 A n c2, Upd (OwnB (.slice (some ⟨w4.heap.size, 0, none⟩) 0 0)) (w4.alloc (.cells #[] 5)).drew w1 → (∀ k, OwnB (.slice A n c2) k → OwnB (.slice (some ⟨w4.heap.size, 0, none⟩) 0 0) k ∨ (w4.alloc (.cells #[] 5)).drew.heap.size ≤ k) → Upd (OwnB (.slice A n c2)) w1 w6 → Upd NoF w4 w6 from fun w1 w6 A n c2 hu hnew h6 => (UU1.out w1 hu).trans h6 (fun k hk e => by
    rcases hnew k e with e | e
    · simp [OwnB, Value.ownBlock] at e; omega
    · simp at e; omega))
  have A1 := Lib.hid (show Own (w4.alloc (.cells #[] 5)).drew 5 1 (.slice (some ⟨w4.heap.size, 0, none⟩) 0 0) 0 [] from ⟨by simp, .inr ⟨w4.heap.size, 0, #[], rfl, (Blk.new w4 _ _).drew, Nat.le_refl _, Nat.zero_le _, Nat.zero_le _, rfl⟩⟩)
  have A2 := Lib.hid ((hcvo.upd (((Upd.refl NoF w4).alloc (.cells #[] 5)).drew) (fun _ _ h => h)).rd)
  have A3 := Lib.hid (show ∀ bs : List UInt8, ∀ u ∈ bs.map byteV, u.oneCell' = true from fun bs u hu => by
    obtain ⟨x, _, rfl⟩ := List.mem_map.1 hu
    rfl)
  have A4 := Lib.hid (show r.c.length ≤ maxLen by unfold maxLen; omega)
  have A5 := Lib.hid (show r.c.length * 1 ≤ 140737488355328 by omega)
  have B4 := Lib.hid (show r.c.length + b.length ≤ maxLen by unfold maxLen; omega)
  have B5 := Lib.hid (show (r.c.length + b.length) * 1 ≤ 140737488355328 by omega)
  have VB := Lib.hid (show ∀ w1, Upd NoF w4 w1 → Rd w1 1 (.slice Ab b.length cb) b.length (b.map byteV) from fun w1 hU => HB.out w1 ((show Upd (fun k => k = m) w w4 by
    rw [W4.out]
    exact (U2.out.trans U3.out (fun _ _ h => h.elim)).setCell (p := ⟨m, 0, none⟩) (.inl rfl) _).trans hU (fun _ _ h => h.elim)))
  have FIN := Lib.hid (show ∀ w6 A c2, Upd NoF w4 w6 → Own w6 5 1 (.slice A (r.c.length + b.length) c2) (r.c.length + b.length) (r.c.map byteV ++ b.map byteV) →
      RefL (w6.setCell ⟨g, i * 3 + 1, none⟩ (.slice A (r.c.length + b.length) c2)) m false armed left (.slice (some ⟨g, 0, none⟩) R.length c1) (R.set i { r with cv := .slice A (r.c.length + b.length) c2, c := r.c ++ b }) from fun w6 A c2 hU ho => by
    have := (D3.out.upd hU (fun _ _ h => h)).setCont HR.out (.slice A (r.c.length + b.length) c2) (r.c ++ b) (by simpa using ho) (by simpa using hlb)
    exact this)
  clear hcvo y0 y2 z2
  go_region_law
    (first
      | (refine step_append_new _ (by rfl) (.tmp 39) (.tmp 47) _ (by rfl) 5 i1 _ 1 1 Tryz.underlying28 hi1 hy0 hy1 hy2 rfl (.slice (some ⟨w4.heap.size, 0, none⟩) 0 0) (by rfl) (by exact A1.out) (.slice Av r.c.length cv) r.c.length (r.c.map byteV) (by rfl) (by exact A2.out) (A3.out _) A4.out A5.out ?_; intro A c2 w1 hown1 hupd1 hnew1; obtain ⟨kp1, kp2, kf1⟩ := K0.out w1 (UU1.out w1 hupd1); have O1 := Lib.hid hown1; have U1 := Lib.hid hupd1; have N1 := Lib.hid hnew1; clear hown1 hupd1 hnew1)
      | (refine step_append_to _ (by rfl) (.tmp 48) (.tmp 49) _ (by rfl) 5 i1 _ 1 1 Tryz.underlying28 hi1 hy0 hy1 hy2 rfl (.slice A r.c.length c2) r.c.length (r.c.map byteV) (by rfl) O1.out (.slice Ab b.length cb) b.length (b.map byteV) (by rfl) (VB.out w1 (UU1.out w1 U1.out)) (A3.out _) B4.out B5.out ?_; intro A' c3 w6 hown2 hupd2 hnew; obtain ⟨kq1, kq2, kg1⟩ := K0.out w6 (UU2.out w1 w6 A _ c2 U1.out N1.out hupd2); have O6 := Lib.hid hown2; have U6 := Lib.hid hupd2; have N6 := Lib.hid hnew; clear hown2 hupd2 hnew))
  all_goals
    have D5 := Lib.hid (FIN.out w6 A' c3 (UU2.out w1 w6 A _ c2 U1.out N1.out U6.out) O6.out)
    obtain ⟨w5, hw5⟩ : ∃ w5, w5 = w6.setCell ⟨g, i * 3 + 1, none⟩ (.slice A' (r.c.length + b.length) c3) := ⟨_, rfl⟩
    rw [← hw5] at D5 ⊢
    have W5 := Lib.hid hw5
    have FA := fails_any D5.out
    clear hw5 kp1 kp2 kf1 kq1 kq2 kg1 y1 y3 z1
    cases hwb : wrB armed left
    · rw [hwb] at FA
      have HA := Lib.hid FA
      have WB := Lib.hid hwb
      clear FA hwb
      go_wp2_with (go_at_call 91; refine HA.out.mono ?_; rintro e w7 ⟨rfl, hd7, hu7⟩; have D7 := Lib.hid hd7; have U7 := Lib.hid hu7; clear hd7 hu7)
      go_ret
      unfold RAppPost
      rw [WB.out]
      exact rapp_end HR.out U2.out F2.out U3.out N3.out hgo W4.out U1.out N1.out U6.out N6.out W5.out D7.out U7.out
    · rw [hwb] at FA
      have HA := Lib.hid FA
      have WB := Lib.hid hwb
      clear FA hwb
      go_wp2_with (go_at_call 91; refine HA.out.mono ?_; rintro e w7 ⟨rfl, hd7, hu7⟩; have D7 := Lib.hid hd7; have U7 := Lib.hid hu7; clear hd7 hu7)
      go_ret
      unfold RAppPost
      rw [WB.out]
      exact rapp_end HR.out U2.out F2.out U3.out N3.out hgo W4.out U1.out N1.out U6.out N6.out W5.out D7.out U7.out
end
end

section
open Go.RowKit Go.Maps

section
variable {w w' : World} {m : Nat} {off armed : Bool} {left : Nat} {lv : Value} {R : List RRec}

theorem insRR_mem {r x : RRec} : ∀ {R : List RRec}, x ∈ insRR r R → x = r ∨ x ∈ R
  | [], h => by simp [insRR] at h; exact .inl h
  | y :: R, h => by
    simp only [insRR] at h
    split at h
    · simpa using h
    · rcases List.mem_cons.1 h with h | h
      · exact .inr (by simp [h])
      · rcases insRR_mem h with h | h
        · exact .inl h
        · exact .inr (List.mem_cons_of_mem _ h)
theorem insRR_len {r : RRec} : ∀ (R : List RRec), (insRR r R).length = R.length + 1
  | [] => rfl
  | y :: R => by
    simp only [insRR]
    split
    · simp
    · simp [insRR_len R]

set_option maxRecDepth 100000 in
set_option maxHeartbeats 4000000 in
theorem rappend_new (h : RefL w m false armed left lv R) (nm : List UInt8) (hn : nm.isEmpty = false) (hno : idxR R nm = -1) (hnew : ∀ x ∈ R, x.nm ≠ nm) (hnum1 : R.length + 1 ≤ 1099511627776) (i : Nat) (hi : idxR (insRR ⟨nm, .slice none 0 0, [], 0⟩ R) nm = i) (hr : (insRR ⟨nm, .slice none 0 0, [], 0⟩ R)[i]? = some ⟨nm, .slice none 0 0, [], 0⟩) (v : Value) (b : List UInt8) (hb : RdB (fun k => k = m) w v b) (hlb0 : b.length ≤ 1099511627776) :
    Calls Tryz.prog 54 #[ptrV m, strV nm, v] w (RAppPost w m armed left lv R (((insRR ⟨nm, .slice none 0 0, [], 0⟩ R).map absRR).set i (nm, ⟨b, 0⟩))) := by
  have c3 : w.cell? ⟨m, 3, none⟩ = some (.bool false) := h.head.cell 3
  have FI := find_any h nm
  rw [hno] at FI
  have HF := Lib.hid FI
  have PU := Lib.hid (put_any h ⟨nm, .slice none 0 0, [], 0⟩ (Own.nil _ _ _) (by simp) hnew hnum1)
  have R1L := insRR_len (r := ⟨nm, .slice none 0 0, [], 0⟩) R
  have hf0 : ∀ k, (∃ x ∈ insRR ⟨nm, .slice none 0 0, [], 0⟩ R, OwnB x.cv k) → refFoot m lv R k := by
    rintro k ⟨x, hx, hk⟩
    rcases insRR_mem hx with rfl | hx
    · simp [OwnB, Value.ownBlock] at hk
    · exact .inr (.inr ⟨x, hx, hk⟩)
  have F0 := Lib.hid hf0
  clear hf0
  obtain ⟨R1, hR1⟩ : ∃ R1, R1 = insRR ⟨nm, .slice none 0 0, [], 0⟩ R := ⟨_, rfl⟩
  rw [← hR1] at hi hr R1L PU F0 ⊢
  obtain ⟨r, hrr⟩ : ∃ r : RRec, r = ⟨nm, .slice none 0 0, [], 0⟩ := ⟨_, rfl⟩
  rw [← hrr] at hr
  have hcvf : r.cv = .slice none r.c.length 0 := by rw [hrr]; rfl
  have hlb : r.c.length + b.length ≤ 1099511627776 := by rw [hrr]; simpa using hlb0
  rw [show (nm, (⟨b, 0⟩ : FSt)) = (r.nm, ⟨r.c ++ b, r.dur⟩) by rw [hrr]; rfl]
  have HI := Lib.hid hi
  have HR := Lib.hid hr
  have HB := Lib.hid hb
  have HCV := Lib.hid hcvf
  have HRR := Lib.hid hrr
  have hil : i < R1.length := (List.getElem?_eq_some_iff.1 hr).1
  obtain ⟨Av, hAv⟩ : ∃ Av : Option Addr, Av = none := ⟨_, rfl⟩
  obtain ⟨cv, hcv⟩ : ∃ cv : Nat, cv = 0 := ⟨_, rfl⟩
  rw [← hAv, ← hcv] at HCV
  obtain ⟨i0, hi0, hz0, hz1, hz2⟩ := info_parts file_info
  obtain ⟨i1, hi1, hy0, hy1, hy2⟩ := info_parts byte_info
  have hmz0 := h.head.lt
  have t1 : decide ((i : Int) < 0) = false := by simp
  have t2 : (0:Int) ≤ i := by omega
  have t3 : (i:Int) < R1.length := by omega
  obtain ⟨Ab, cb, rfl, -⟩ := hb.now
  have hnumR : R1.length ≤ 1099511627776 := by omega
  clear h FI hi hr hcvf hb hrr hR1 hAv hcv hno hnew R1L hnum1
  go_enter Tryz.func54, Tryz.ntmps54
  go_wp2_with (first
    | (go_at_call 93; refine PU.out.mono ?_; rintro e w2 ⟨rfl, lv2, hd2, hu2, hn2⟩; obtain ⟨A, c, hlv, hnc, hc, _⟩ := hd2.form; subst hlv; have F2 := Lib.hid (show ∀ k, refFoot m (.slice A R1.length c) R1 k → refFoot m lv R k ∨ w.heap.size ≤ k from fun k hk => by { rcases hk with hk | hk | hk; exact .inl (.inl hk); exact .inr (hn2 k hk); exact .inl (F0.out k hk) }); have d0 := hd2.head.cell 0; have hmz := hd2.head.lt; have FI2 := find_any hd2 nm; rw [HI.out] at FI2; have HF2 := Lib.hid FI2; have D2 := Lib.hid hd2; have U2 := Lib.hid hu2; clear hd2 hu2 hn2 FI2)
    | (go_at_call 52; first | (refine HF2.out.mono ?_; rintro e w' ⟨rfl, rfl⟩) | (refine HF.out.mono ?_; rintro e w' ⟨rfl, rfl⟩))
    | (at_builtin; refine wpList_append_new _ rfl (.tmp 26) (.tmp 30) 42 rfl 94 i0 _ 3 48 Tryz.underlying42 hi0 hz0 hz1 hz2 rfl (.slice (some ⟨w2.heap.size, 0, none⟩) 0 0) rfl (Own.fresh w2 _ _) (.slice A R1.length c) R1.length (cellsR R1) rfl (D2.out.list.upd ((Upd.refl NoF w2).alloc _) (fun _ _ h => h)).rd (cellsR_one D2.out.cont) (by unfold maxLen; omega) (by omega) ?_; intro A1 c1 w3 hown1 hupd1 hnew1; have hU3 : Upd NoF w2 w3 := ((Upd.refl NoF w2).alloc _).trans hupd1 (fun k hk e => by simp [OwnB, Value.ownBlock] at e; omega); have hN : ∀ k, OwnB (.slice A1 R1.length c1) k → w2.heap.size ≤ k := (fun k hk => by rcases hnew1 k hk with e | e; (simp [OwnB, Value.ownBlock] at e; omega); (simp at e; omega)); have D3 := Lib.hid (RefL.copied D2.out hU3 hown1 hN); have x0 := (hU3.blk D2.out.head (fun h => h)).cell 0; have x1 := (hU3.blk D2.out.head (fun h => h)).frozen 0; have U3 := Lib.hid hU3; have N3 := Lib.hid hN; clear hown1 hupd1 hnew1 hU3 hN))
  obtain ⟨w4, hw4⟩ : ∃ w4, w4 = w3.setCell ⟨m, 0, none⟩ (.slice A1 R1.length c1) := ⟨_, rfl⟩
  rw [← hw4] at D3 ⊢
  have W4 := Lib.hid hw4
  clear hw4 x0 x1
  obtain ⟨g, hA, -, hnc1, hc1, hgm, hgo, y0, y1, y2, z1, z2⟩ := D3.out.at_ HR.out
  subst hA
  rw [HCV.out] at y1
  have y3 := D3.out.head.cell 0
  have hmz4 := D3.out.head.lt
  have hgz4 := D3.out.list.lt hgo
  have hcvo := D3.out.cont r (List.mem_of_getElem? HR.out)
  rw [HCV.out] at hcvo
  have K0 := Lib.hid (show ∀ w1, Upd NoF w4 w1 → w1.cell? ⟨m, 0, none⟩ = some (.slice (some ⟨g, 0, none⟩) R1.length c1) ∧ w1.cell? ⟨g, i * 3 + 1, none⟩ = some (.slice Av r.c.length cv) ∧ w1.frozen? ⟨g, i * 3 + 1, none⟩ = false from fun w1 hU => by
    have D := D3.out.upd hU (fun _ _ h => h)
    obtain ⟨g', e', -, -, -, -, -, -, q1, -, q2, -⟩ := D.at_ HR.out
    injection e' with e'
    injection e' with e' _
    subst e'
    rw [HCV.out] at q1
    exact ⟨D.head.cell 0, q1, q2⟩)
  have UU1 := Lib.hid (show ∀ w1, Upd (OwnB (.slice (some ⟨w4.heap.size, 0, none⟩) 0 0)) (w4.alloc (.cells #[] 5)).drew w1 → Upd NoF w4 w1 from fun w1 hu => (((Upd.refl NoF w4).alloc _).drew).trans hu (fun k hk e => by simp [OwnB, Value.ownBlock] at e; omega))
  have UU2 := Lib.hid (show ∀ w1 w6 A n c2, Upd (OwnB (.slice (some ⟨w4.heap.size, 0, none⟩) 0 0)) (w4.alloc (.cells #[] 5)).drew w1 → (∀ k, OwnB (.slice A n c2) k → OwnB (.slice (some ⟨w4.heap.size, 0, none⟩) 0 0) k ∨ (w4.alloc (.cells #[] 5)).drew.heap.size ≤ k) → Upd (OwnB (.slice A n c2)) w1 w6 → Upd NoF w4 w6 from fun w1 w6 A n c2 hu hnew h6 => (UU1.out w1 hu).trans h6 (fun k hk e => by
    rcases hnew k e with e | e
    · simp [OwnB, Value.ownBlock] at e; omega
    · simp at e; omega))
  have A1 := Lib.hid (show Own (w4.alloc (.cells #[] 5)).drew 5 1 (.slice (some ⟨w4.heap.size, 0, none⟩) 0 0) 0 [] from ⟨by simp, .inr ⟨w4.heap.size, 0, #[], rfl, (Blk.new w4 _ _).drew, Nat.le_refl _, Nat.zero_le _, Nat.zero_le _, rfl⟩⟩)
  have A2 := Lib.hid ((hcvo.upd (((Upd.refl NoF w4).alloc (.cells #[] 5)).drew) (fun _ _ h => h)).rd)
  have A3 := Lib.hid (show ∀ bs : List UInt8, ∀ u ∈ bs.map byteV, u.oneCell' = true from fun bs u hu => by
    obtain ⟨x, _, rfl⟩ := List.mem_map.1 hu
    rfl)
  have A4 := Lib.hid (show r.c.length ≤ maxLen by unfold maxLen; omega)
  have A5 := Lib.hid (show r.c.length * 1 ≤ 140737488355328 by omega)
  have B4 := Lib.hid (show r.c.length + b.length ≤ maxLen by unfold maxLen; omega)
  have B5 := Lib.hid (show (r.c.length + b.length) * 1 ≤ 140737488355328 by omega)
  have VB := Lib.hid (show ∀ w1, Upd NoF w4 w1 → Rd w1 1 (.slice Ab b.length cb) b.length (b.map byteV) from fun w1 hU => HB.out w1 ((show Upd (fun k => k = m) w w4 by
    rw [W4.out]
    exact (U2.out.trans U3.out (fun _ _ h => h.elim)).setCell (p := ⟨m, 0, none⟩) (.inl rfl) _).trans hU (fun _ _ h => h.elim)))
  have FIN := Lib.hid (show ∀ w6 A c2, Upd NoF w4 w6 → Own w6 5 1 (.slice A (r.c.length + b.length) c2) (r.c.length + b.length) (r.c.map byteV ++ b.map byteV) →
      RefL (w6.setCell ⟨g, i * 3 + 1, none⟩ (.slice A (r.c.length + b.length) c2)) m false armed left (.slice (some ⟨g, 0, none⟩) R1.length c1) (R1.set i { r with cv := .slice A (r.c.length + b.length) c2, c := r.c ++ b }) from fun w6 A c2 hU ho => by
    have := (D3.out.upd hU (fun _ _ h => h)).setCont HR.out (.slice A (r.c.length + b.length) c2) (r.c ++ b) (by simpa using ho) (by simpa using hlb)
    exact this)
  clear hcvo y0 y2 z2
  go_region_law
    (first
      | (refine step_append_new _ (by rfl) (.tmp 39) (.tmp 47) _ (by rfl) 5 i1 _ 1 1 Tryz.underlying28 hi1 hy0 hy1 hy2 rfl (.slice (some ⟨w4.heap.size, 0, none⟩) 0 0) (by rfl) (by exact A1.out) (.slice Av r.c.length cv) r.c.length (r.c.map byteV) (by rfl) (by exact A2.out) (A3.out _) A4.out A5.out ?_; intro A c2 w1 hown1 hupd1 hnew1; obtain ⟨kp1, kp2, kf1⟩ := K0.out w1 (UU1.out w1 hupd1); have O1 := Lib.hid hown1; have U1 := Lib.hid hupd1; have N1 := Lib.hid hnew1; clear hown1 hupd1 hnew1)
      | (refine step_append_to _ (by rfl) (.tmp 48) (.tmp 49) _ (by rfl) 5 i1 _ 1 1 Tryz.underlying28 hi1 hy0 hy1 hy2 rfl (.slice A r.c.length c2) r.c.length (r.c.map byteV) (by rfl) O1.out (.slice Ab b.length cb) b.length (b.map byteV) (by rfl) (VB.out w1 (UU1.out w1 U1.out)) (A3.out _) B4.out B5.out ?_; intro A' c3 w6 hown2 hupd2 hnew2; obtain ⟨kq1, kq2, kg1⟩ := K0.out w6 (UU2.out w1 w6 A _ c2 U1.out N1.out hupd2); have O6 := Lib.hid hown2; have U6 := Lib.hid hupd2; have N6 := Lib.hid hnew2; clear hown2 hupd2 hnew2))
  all_goals
    have D5 := Lib.hid (FIN.out w6 A' c3 (UU2.out w1 w6 A _ c2 U1.out N1.out U6.out) O6.out)
    obtain ⟨w5, hw5⟩ : ∃ w5, w5 = w6.setCell ⟨g, i * 3 + 1, none⟩ (.slice A' (r.c.length + b.length) c3) := ⟨_, rfl⟩
    rw [← hw5] at D5 ⊢
    have W5 := Lib.hid hw5
    have FA := fails_any D5.out
    clear hw5 kp1 kp2 kf1 kq1 kq2 kg1 y1 y3 z1
    cases hwb : wrB armed left
    · rw [hwb] at FA
      have HA := Lib.hid FA
      have WB := Lib.hid hwb
      clear FA hwb
      go_wp2_with (go_at_call 91; refine HA.out.mono ?_; rintro e w7 ⟨rfl, hd7, hu7⟩; have D7 := Lib.hid hd7; have U7 := Lib.hid hu7; clear hd7 hu7)
      go_ret
      unfold RAppPost
      rw [WB.out]
      exact rapp_end HR.out U2.out F2.out U3.out N3.out hgo W4.out U1.out N1.out U6.out N6.out W5.out D7.out U7.out
    · rw [hwb] at FA
      have HA := Lib.hid FA
      have WB := Lib.hid hwb
      clear FA hwb
      go_wp2_with (go_at_call 91; refine HA.out.mono ?_; rintro e w7 ⟨rfl, hd7, hu7⟩; have D7 := Lib.hid hd7; have U7 := Lib.hid hu7; clear hd7 hu7)
      go_ret
      unfold RAppPost
      rw [WB.out]
      exact rapp_end HR.out U2.out F2.out U3.out N3.out hgo W4.out U1.out N1.out U6.out N6.out W5.out D7.out U7.out
end
end

section
open Go.RowKit Go.Maps

theorem ins_mem {r x : RRec} : ∀ {R : List RRec}, x ∈ insRR r R → x = r ∨ x ∈ R
  | [], h => by simp [insRR] at h; exact .inl h
  | y :: R, h => by
    simp only [insRR] at h
    split at h
    · simpa using h
    · rcases List.mem_cons.1 h with h | h
      · exact .inr (by simp [h])
      · rcases ins_mem h with h | h
        · exact .inl h
        · exact .inr (List.mem_cons_of_mem _ h)
theorem cut_mem {x : RRec} {R : List RRec} {i : Nat} (h : x ∈ R.take i ++ R.drop (i + 1)) : x ∈ R := by
  rcases List.mem_append.1 h with h | h
  · exact List.mem_of_mem_take h
  · exact List.mem_of_mem_drop h

section
variable {w w' : World} {m : Nat} {off armed : Bool} {left : Nat} {lv : Value} {R : List RRec}

theorem ren_out {w2 : World} {lv3 : Value} {o : Obj} {i : Nat} (h : RefL w2 m off armed left lv R) (hn3 : ∀ k, OwnB lv3 k → (w2.alloc o).heap.size ≤ k) : ∀ k, refFoot m lv3 (R.take i ++ R.drop (i + 1)) k → ¬ k = w2.heap.size := by
  rintro k (hk | hk | ⟨x, hx, hk⟩)
  · have := h.head.lt; omega
  · have := hn3 k hk; simp at this; omega
  · have := h.foot_lt (k := k) (.inr (.inr ⟨x, cut_mem hx, hk⟩))
    omega
theorem ren_out2 {wb : Nat} {w3 : World} {lv3 lv4 : Value} {k : Nat} (h : ∀ j, refFoot m lv3 R j → ¬ j = wb) (hb : wb < w3.heap.size) (hn4 : ∀ j, OwnB lv4 j → w3.heap.size ≤ j) : ∀ j, refFoot m lv4 (R.take k ++ R.drop (k + 1)) j → ¬ j = wb := by
  rintro j (hj | hj | ⟨x, hx, hj⟩)
  · exact h j (.inl hj)
  · have := hn4 j hj; omega
  · exact h j (.inr (.inr ⟨x, cut_mem hx, hj⟩))
theorem ren_own2 {w2 w3 w4 : World} {i cv : Nat} {r : RRec} {Av : Option Addr} (ho : Own w3 5 1 (.slice Av r.c.length cv) r.c.length (r.c.map byteV) ∧ ∀ k, OwnB (.slice Av r.c.length cv) k → ¬ k = w2.heap.size)
    (h : RefL w2 m off armed left lv R) (hr : R[i]? = some r) (hcv : r.cv = .slice Av r.c.length cv) (hu4 : Upd (fun k => k = m) w3 w4) :
    Own w4 5 1 (.slice Av r.c.length cv) r.c.length (r.c.map byteV) ∧ ∀ k, OwnB (.slice Av r.c.length cv) k → ¬ k = w2.heap.size := by
  have hc := h.cont r (List.mem_of_getElem? hr)
  rw [hcv] at hc
  exact ⟨ho.1.upd hu4 (fun k hk e => hc.ne_of h.head (by decide) hk e), ho.2⟩
theorem ren_own {w2 w3 : World} {o : Obj} {i cv : Nat} {r : RRec} {Av : Option Addr} (h : RefL w2 m off armed left lv R) (hr : R[i]? = some r) (hcv : r.cv = .slice Av r.c.length cv) (hu3 : Upd (fun k => k = m) (w2.alloc o) w3) :
    Own w3 5 1 (.slice Av r.c.length cv) r.c.length (r.c.map byteV) ∧ ∀ k, OwnB (.slice Av r.c.length cv) k → ¬ k = w2.heap.size := by
  have hc := h.cont r (List.mem_of_getElem? hr)
  rw [hcv] at hc
  refine ⟨(hc.upd ((Upd.refl NoF w2).alloc _) (fun _ _ h => h)).upd hu3 (fun k hk e => hc.ne_of h.head (by decide) hk e), fun k hk => ?_⟩
  have := hc.lt hk
  omega

set_option maxRecDepth 100000 in
set_option maxHeartbeats 4000000 in
theorem rrename_fresh (h : RefL w m false armed left lv R) (nm to : List UInt8) (hn : nm.isEmpty = false) (ht : to.isEmpty = false) (i : Nat) (hi : idxR R nm = i) (r : RRec) (hr : R[i]? = some r) (hwb : wrB armed left = true) (hi2 : idxR (R.take i ++ R.drop (i + 1)) to = -1) (hnew : ∀ x ∈ (R.take i ++ R.drop (i + 1)), x.nm ≠ to) :
    Calls Tryz.prog 56 #[ptrV m, strV nm, strV to] w (RPost w m false armed (wrL armed left) lv R (insRR ⟨to, r.cv, r.c, r.dur⟩ (R.take i ++ R.drop (i + 1))) 0) := by
  have c3 : w.cell? ⟨m, 3, none⟩ = some (.bool false) := h.head.cell 3
  have hil : i < R.length := (List.getElem?_eq_some_iff.1 hr).1
  have FI := find_any h nm
  rw [hi] at FI
  have HF := Lib.hid FI
  have FA := fails_any h
  rw [hwb] at FA
  have HA := Lib.hid FA
  have HR := Lib.hid hr
  have HN := Lib.hid hnew
  have HI2 := Lib.hid hi2
  have hnum := h.num
  have hrl := h.len r (List.mem_of_getElem? hr)
  obtain ⟨A, c, hlv, hnc, hc, _⟩ := h.form
  subst hlv
  obtain ⟨Av, cv, hcvf⟩ := (h.cont r (List.mem_of_getElem? hr)).form
  have HCV := Lib.hid hcvf
  have t1 : decide ((i : Int) < 0) = false := by simp
  have t2 : (0:Int) ≤ i := by omega
  have t3 : (i:Int) < R.length := by omega
  have F := Lib.hid (Upd.refl NoF w)
  clear h FI FA hi hwb hr hcvf hnew hi2 F
  go_enter Tryz.func56, Tryz.ntmps56
  go_wp2_with (first
    | (go_at_call 91; refine HA.out.mono ?_; rintro e w2 ⟨rfl, hd2, hu2⟩; have d0 := hd2.head.cell 0; have hmz := hd2.head.lt; obtain ⟨g0, hA0, -, -, -, hgm0, hgo0, y00, y10, y20, -, -⟩ := hd2.at_ HR.out; subst hA0; rw [HCV.out] at y10; have hgz := hd2.list.lt hgo0; have D2 := Lib.hid hd2; have U2 := Lib.hid hu2; clear hd2 hu2 hgo0)
    | (go_at_call 52; refine HF.out.mono ?_; rintro e w' ⟨rfl, rfl⟩)
    | fail)
  refine (drop_any (D2.out.upd ((Upd.refl NoF w2).alloc _) (fun _ _ h => h)) i hil).mono ?_
  rintro e w3 ⟨rfl, lv3, hd3, hu3, hn3⟩
  have B3 := hu3.blk (Blk.new w2 94 #[strV r.nm, Value.slice Av r.c.length cv, .int .i64 r.dur]) (by omega)
  have k0 := B3.cell 0
  have k1 := B3.cell 1
  have k2 := B3.cell 2
  have kf := B3.frozen 0
  have hbz := B3.lt
  have FI2 := find_any hd3 to
  rw [HI2.out] at FI2
  clear HF
  have HF := Lib.hid FI2
  have NI := Lib.hid (ren_out (i := i) D2.out hn3)
  have OW := Lib.hid (ren_own D2.out HR.out HCV.out hu3)
  have D3 := Lib.hid hd3
  have U3 := Lib.hid hu3
  have N3 := Lib.hid hn3
  clear hd3 hu3 hn3 B3 FI2 d0 y00 y10 y20
  go_wp2_with (first
    | (go_at_call 52; refine HF.out.mono ?_; rintro e w' ⟨rfl, rfl⟩)
    | fail)
  refine (put_any (D3.out.upd ((Upd.refl (fun k => k = w2.heap.size) w3).setCell (p := ⟨w2.heap.size, 0, none⟩) (.inl rfl) (strV to)) NI.out) ⟨to, .slice Av r.c.length cv, r.c, r.dur⟩ (OW.out.1.upd ((Upd.refl (fun k => k = w2.heap.size) w3).setCell (p := ⟨w2.heap.size, 0, none⟩) (.inl rfl) (strV to)) OW.out.2) hrl HN.out (by simp; omega)).mono ?_
  rintro e w5 ⟨rfl, lv5, hd5, hu5, hn5⟩
  have D5 := Lib.hid hd5
  have U5 := Lib.hid hu5
  have N5 := Lib.hid hn5
  clear hd5 hu5 hn5
  go_wp2
  go_ret
  rw [HCV.out]
  refine ⟨rfl, lv5, by simpa using D5.out, ?_, ?_⟩
  · exact ((U2.out.alloc _).trans U3.out (fun _ _ h => h)).setCell (p := ⟨w2.heap.size, 0, none⟩) (.inr U2.out.size) _ |>.trans U5.out (fun _ _ h => h)
  · rintro k (hk | hk | ⟨x, hx, hk⟩)
    · exact .inl (.inl hk)
    · have h1 := N5.out k hk
      have h2 := U3.out.size
      have h3 := U2.out.size
      simp at h1 h2
      exact .inr (by omega)
    · refine .inl (.inr (.inr ?_))
      rcases ins_mem hx with rfl | hx
      · exact ⟨r, List.mem_of_getElem? HR.out, by rw [HCV.out]; exact hk⟩
      · exact ⟨x, cut_mem hx, hk⟩

set_option maxRecDepth 100000 in
set_option maxHeartbeats 4000000 in
theorem rrename_old (h : RefL w m false armed left lv R) (nm to : List UInt8) (hn : nm.isEmpty = false) (ht : to.isEmpty = false) (i : Nat) (hi : idxR R nm = i) (r : RRec) (hr : R[i]? = some r) (hwb : wrB armed left = true) (k : Nat) (hk : k < (R.take i ++ R.drop (i + 1)).length) (hi2 : idxR (R.take i ++ R.drop (i + 1)) to = k) (hnew : ∀ x ∈ ((R.take i ++ R.drop (i + 1)).take k ++ (R.take i ++ R.drop (i + 1)).drop (k + 1)), x.nm ≠ to) :
    Calls Tryz.prog 56 #[ptrV m, strV nm, strV to] w (RPost w m false armed (wrL armed left) lv R (insRR ⟨to, r.cv, r.c, r.dur⟩ ((R.take i ++ R.drop (i + 1)).take k ++ (R.take i ++ R.drop (i + 1)).drop (k + 1))) 0) := by
  have c3 : w.cell? ⟨m, 3, none⟩ = some (.bool false) := h.head.cell 3
  have hil : i < R.length := (List.getElem?_eq_some_iff.1 hr).1
  have FI := find_any h nm
  rw [hi] at FI
  have HF := Lib.hid FI
  have FA := fails_any h
  rw [hwb] at FA
  have HA := Lib.hid FA
  have HR := Lib.hid hr
  have HN := Lib.hid hnew
  have HI2 := Lib.hid hi2
  have hnum := h.num
  have hrl := h.len r (List.mem_of_getElem? hr)
  obtain ⟨A, c, hlv, hnc, hc, _⟩ := h.form
  subst hlv
  obtain ⟨Av, cv, hcvf⟩ := (h.cont r (List.mem_of_getElem? hr)).form
  have HCV := Lib.hid hcvf
  have t1 : decide ((i : Int) < 0) = false := by simp
  have t2 : (0:Int) ≤ i := by omega
  have t4 : decide ((k : Int) < 0) = false := by simp
  have t5 : decide ((0 : Int) ≤ (k : Int)) = true := by simp
  have HK := Lib.hid hk
  clear hk
  have t3 : (i:Int) < R.length := by omega
  have F := Lib.hid (Upd.refl NoF w)
  clear h FI FA hi hwb hr hcvf hnew hi2 F
  go_enter Tryz.func56, Tryz.ntmps56
  go_wp2_with (first
    | (go_at_call 91; refine HA.out.mono ?_; rintro e w2 ⟨rfl, hd2, hu2⟩; have d0 := hd2.head.cell 0; have hmz := hd2.head.lt; obtain ⟨g0, hA0, -, -, -, hgm0, hgo0, y00, y10, y20, -, -⟩ := hd2.at_ HR.out; subst hA0; rw [HCV.out] at y10; have hgz := hd2.list.lt hgo0; have D2 := Lib.hid hd2; have U2 := Lib.hid hu2; clear hd2 hu2 hgo0)
    | (go_at_call 52; refine HF.out.mono ?_; rintro e w' ⟨rfl, rfl⟩)
    | fail)
  refine (drop_any (D2.out.upd ((Upd.refl NoF w2).alloc _) (fun _ _ h => h)) i hil).mono ?_
  rintro e w3 ⟨rfl, lv3, hd3, hu3, hn3⟩
  have B3 := hu3.blk (Blk.new w2 94 #[strV r.nm, Value.slice Av r.c.length cv, .int .i64 r.dur]) (by omega)
  have k0 := B3.cell 0
  have k1 := B3.cell 1
  have k2 := B3.cell 2
  have kf := B3.frozen 0
  have hbz := B3.lt
  have FI2 := find_any hd3 to
  rw [HI2.out] at FI2
  clear HF
  have HF := Lib.hid FI2
  have NI := Lib.hid (ren_out (i := i) D2.out hn3)
  have OW := Lib.hid (ren_own D2.out HR.out HCV.out hu3)
  have D3 := Lib.hid hd3
  have U3 := Lib.hid hu3
  have N3 := Lib.hid hn3
  have BB := Lib.hid B3
  clear hd3 hu3 hn3 B3 FI2 d0 y00 y10 y20
  go_wp2_with (first
    | (go_at_call 52; refine HF.out.mono ?_; rintro e w' ⟨rfl, rfl⟩)
    | fail)
  refine (drop_any D3.out k HK.out).mono ?_
  rintro e w4 ⟨rfl, lv4, hd4, hu4, hn4⟩
  have B4 := hu4.blk BB.out (by omega)
  clear k0 k1 k2 kf hbz
  have k0 := B4.cell 0
  have k1 := B4.cell 1
  have k2 := B4.cell 2
  have kf := B4.frozen 0
  have hbz := B4.lt
  have NI4 := Lib.hid (ren_out2 (k := k) NI.out BB.out.lt hn4)
  have OW4 := Lib.hid (ren_own2 OW.out (R := R) (i := i) D2.out HR.out HCV.out hu4)
  have D4 := Lib.hid hd4
  have U4 := Lib.hid hu4
  have N4 := Lib.hid hn4
  clear hd4 hu4 hn4 B4 BB
  go_wp2_with fail
  refine (put_any (D4.out.upd ((Upd.refl (fun k => k = w2.heap.size) w4).setCell (p := ⟨w2.heap.size, 0, none⟩) (.inl rfl) (strV to)) NI4.out) ⟨to, .slice Av r.c.length cv, r.c, r.dur⟩ (OW4.out.1.upd ((Upd.refl (fun k => k = w2.heap.size) w4).setCell (p := ⟨w2.heap.size, 0, none⟩) (.inl rfl) (strV to)) OW4.out.2) hrl HN.out (by simp; omega)).mono ?_
  rintro e w5 ⟨rfl, lv5, hd5, hu5, hn5⟩
  have D5 := Lib.hid hd5
  have U5 := Lib.hid hu5
  have N5 := Lib.hid hn5
  clear hd5 hu5 hn5
  go_wp2
  go_ret
  rw [HCV.out]
  refine ⟨rfl, lv5, by simpa using D5.out, ?_, ?_⟩
  · exact ((U2.out.alloc _).trans U3.out (fun _ _ h => h)).trans U4.out (fun _ _ h => h) |>.setCell (p := ⟨w2.heap.size, 0, none⟩) (.inr U2.out.size) _ |>.trans U5.out (fun _ _ h => h)
  · rintro k (hk | hk | ⟨x, hx, hk⟩)
    · exact .inl (.inl hk)
    · have h1 := N5.out k hk
      have h2 := U3.out.size
      have h4 := U4.out.size
      have h3 := U2.out.size
      simp at h1 h2
      exact .inr (by omega)
    · refine .inl (.inr (.inr ?_))
      rcases ins_mem hx with rfl | hx
      · exact ⟨r, List.mem_of_getElem? HR.out, by rw [HCV.out]; exact hk⟩
      · exact ⟨x, cut_mem (cut_mem hx), hk⟩
end
end

section
open Go.RowKit Go.Maps

/-- The reference disk at block m is in the state s; its blocks are those of F. -/
def RefAt (w : World) (m : Nat) (s : DSt) (F : Nat → Prop) : Prop := ∃ lv R, RefL w m s.off s.armed s.left lv R ∧ s.fs = R.map absRR ∧ F = refFoot m lv R
def RefStep (w : World) (m : Nat) (s : DSt) (F : Nat → Prop) (w' : World) : Prop := ∃ F', RefAt w' m s F' ∧ Upd F w w' ∧ ∀ k, F' k → F k ∨ w.heap.size ≤ k
def RErr (w : World) (m : Nat) (F : Nat → Prop) (x : Int × DSt) (e : Ending) (w' : World) : Prop := e = retE x.1 ∧ RefStep w m x.2 F w'
abbrev PW (fs : FS) : Prop := fs.Pairwise (fun a b => a.1 ≠ b.1)

theorem RefStep.refl {w : World} {m : Nat} {s : DSt} {F : Nat → Prop} (h : RefAt w m s F) : RefStep w m s F w := ⟨F, h, Upd.refl _ _, fun _ h => .inl h⟩

theorem idx_cases (R : List RRec) (nm : List UInt8) : (idxR R nm = -1 ∧ getF (R.map absRR) nm = none ∧ ∀ x ∈ R, x.nm ≠ nm) ∨ ∃ (i : Nat) (r : RRec), idxR R nm = i ∧ R[i]? = some r ∧ r.nm = nm ∧ getF (R.map absRR) nm = some ⟨r.c, r.dur⟩ := by
  have hg : getF (R.map absRR) nm = (R.find? (fun r => r.nm == nm)).map (fun r => ⟨r.c, r.dur⟩) := by
    unfold getF
    rw [List.find?_map]
    simp only [Function.comp_def, absRR, Option.map_map]
  unfold idxR
  cases hf : R.findIdx? (fun r => r.nm == nm) with
  | none =>
    rw [List.findIdx?_eq_none_iff] at hf
    have h1 : ∀ x ∈ R, x.nm ≠ nm := fun x hx => by simpa using hf x hx
    refine .inl ⟨rfl, ?_, h1⟩
    rw [hg, List.find?_eq_none.2 (fun x hx => by simpa using h1 x hx)]
    rfl
  | some j =>
    obtain ⟨hj, h1, h2⟩ := List.findIdx?_eq_some_iff_getElem.1 hf
    refine .inr ⟨j, R[j], rfl, List.getElem?_eq_getElem hj, by simpa using h1, ?_⟩
    have : R.find? (fun r => r.nm == nm) = some R[j] := by
      rw [List.find?_eq_some_iff_getElem]
      exact ⟨h1, j, hj, rfl, fun k hk => by simpa using h2 k hk⟩
    rw [hg, this]
    rfl

theorem set_abs {R : List RRec} {nm : List UInt8} {i : Nat} {r : RRec} (hp : PW (R.map absRR)) (hr : R[i]? = some r) (hn : r.nm = nm) (f : FSt) : setF nm f (R.map absRR) = (R.map absRR).set i (nm, f) :=
  setF_set (f0 := ⟨r.c, r.dur⟩) hp (by rw [List.getElem?_map, hr]; simp [absRR, hn])

theorem del_none {nm : List UInt8} {fs : FS} (h : ∀ p ∈ fs, p.1 ≠ nm) : delF nm fs = fs := by
  unfold delF
  rw [List.filter_eq_self]
  intro p hp
  simpa using h p hp

theorem del_abs {R : List RRec} {nm : List UInt8} {i : Nat} {r : RRec} (hp : PW (R.map absRR)) (hr : R[i]? = some r) (hn : r.nm = nm) : delF nm (R.map absRR) = (R.take i ++ R.drop (i + 1)).map absRR := by
  induction R generalizing i with
  | nil => cases hr
  | cons y R ih =>
    rw [List.map_cons, PW, List.pairwise_cons] at hp
    cases i with
    | zero =>
      simp at hr
      subst hr
      have hne : ∀ p ∈ R.map absRR, p.1 ≠ nm := fun p hp' e => hp.1 p hp' (by rw [e]; exact hn)
      have h1 : delF nm ((y :: R).map absRR) = delF nm (R.map absRR) := by simp [delF, absRR, hn]
      rw [h1, del_none hne]
      simp
    | succ i =>
      have hr' : R[i]? = some r := by simpa using hr
      have hne : y.nm ≠ nm := by
        have := hp.1 (absRR r) (List.mem_map.2 ⟨r, List.mem_of_getElem? hr', rfl⟩)
        simpa [absRR, hn] using this
      have h1 : delF nm ((y :: R).map absRR) = absRR y :: delF nm (R.map absRR) := by simp [delF, absRR, hne]
      rw [h1, ih hp.2 hr']
      simp

theorem ins_abs (r : RRec) (R : List RRec) : (insRR r R).map absRR = insF (absRR r) (R.map absRR) := by
  induction R with
  | nil => rfl
  | cons y l ih =>
    simp only [List.map_cons, insRR, insF] at ih ⊢
    show List.map absRR (if bytesBefore r.nm y.nm = true then r :: y :: l else y :: insRR r l) = if bytesBefore r.nm y.nm = true then _ else _
    split
    · rfl
    · simp [ih]

theorem ins_idx (r : RRec) (R : List RRec) (h : ∀ x ∈ R, x.nm ≠ r.nm) : ∃ i : Nat, idxR (insRR r R) r.nm = i ∧ (insRR r R)[i]? = some r := by
  have hm : ∀ R : List RRec, r ∈ insRR r R := by
    intro R
    induction R with
    | nil => simp [insRR]
    | cons y l ih =>
      simp only [insRR]
      split
      · simp
      · exact List.mem_cons_of_mem _ ih
  rcases idx_cases (insRR r R) r.nm with ⟨_, _, h3⟩ | ⟨i, r', h1, h2, h3, _⟩
  · exact absurd rfl (h3 r (hm R))
  · refine ⟨i, h1, ?_⟩
    rcases insRR_mem (List.mem_of_getElem? h2) with rfl | hx
    · exact h2
    · exact absurd h3 (h r' hx)

section
variable {w : World} {m : Nat} {s : DSt} {F : Nat → Prop}

theorem RPost.step {lv : Value} {R R' : List RRec} {off armed : Bool} {left : Nat} {code : Int} {e : Ending} {w' : World} {s' : DSt} (h : RPost w m off armed left lv R R' code e w') (h1 : s'.fs = R'.map absRR) (h2 : s'.off = off) (h3 : s'.armed = armed) (h4 : s'.left = left) : RErr w m (refFoot m lv R) (code, s') e w' := by
  subst h2 h3 h4
  obtain ⟨rfl, lv', hd, hu, hf⟩ := h
  exact ⟨rfl, _, ⟨lv', R', hd, h1, rfl⟩, hu.mono (fun k _ e => .inl e), hf⟩
theorem RPostA.step {lv : Value} {R : List RRec} {fs' : FS} {off armed : Bool} {left : Nat} {code : Int} {e : Ending} {w' : World} {s' : DSt} (h : RPostA w m off armed left lv R fs' code e w') (h1 : s'.fs = fs') (h2 : s'.off = off) (h3 : s'.armed = armed) (h4 : s'.left = left) : RErr w m (refFoot m lv R) (code, s') e w' := by
  subst h2 h3 h4
  obtain ⟨rfl, lv', R', hd, he, hu, hf⟩ := h
  exact ⟨rfl, _, ⟨lv', R', hd, h1.trans he.symm, rfl⟩, hu.mono (fun k _ e => .inl e), hf⟩
theorem out_step {lv : Value} {R : List RRec} {off armed : Bool} {left : Nat} {code : Int} {e : Ending} {w' : World} {s' : DSt} (h : e = retE code ∧ RefL w' m off armed left lv R ∧ Upd (fun k => k = m) w w') (h1 : s'.fs = R.map absRR) (h2 : s'.off = off) (h3 : s'.armed = armed) (h4 : s'.left = left) : RErr w m (refFoot m lv R) (code, s') e w' := by
  subst h2 h3 h4
  obtain ⟨rfl, hd, hu⟩ := h
  exact ⟨rfl, _, ⟨lv, R, hd, h1, rfl⟩, hu.mono (fun k _ e => .inl e), fun k hk => .inl hk⟩
theorem same_step {code : Int} {e : Ending} {w' : World} (hd : RefAt w m s F) (h : e = retE code ∧ w = w') : RErr w m F (code, s) e w' := by
  obtain ⟨rfl, rfl⟩ := h
  exact ⟨rfl, RefStep.refl hd⟩

theorem rsync_spec (h : RefAt w m s F) (hp : PW s.fs) (nm : List UInt8) : Calls Tryz.prog 55 #[ptrV m, strV nm] w (RErr w m F (sSync s nm)) := by
  have H := h
  obtain ⟨fs, off, armed, left⟩ := s
  obtain ⟨lv, R, h1, h2, rfl⟩ := h
  simp only at h1 h2 hp
  subst h2
  cases nm with
  | nil => exact (rsync_arg m w).mono (fun e w' hh => same_step H hh)
  | cons c0 nm0 =>
    have hn : (c0 :: nm0).isEmpty = false := rfl
    generalize c0 :: nm0 = nm at hn ⊢
    have hne : nm ≠ [] := by rintro rfl; cases hn
    cases off with
    | true =>
      rw [show sSync ⟨R.map absRR, true, armed, left⟩ nm = (103, ⟨R.map absRR, true, armed, left⟩) by simp [sSync, sChange, hne]]
      exact (rsync_off h1 nm hn).mono (fun e w' hh => same_step H hh)
    | false =>
      rcases idx_cases R nm with ⟨i1, i2, i3⟩ | ⟨i, r, i1, i2, i3, i4⟩
      · rw [show sSync ⟨R.map absRR, false, armed, left⟩ nm = (6, ⟨R.map absRR, false, armed, left⟩) by simp [sSync, sChange, hne, i2]]
        exact (rsync_no h1 nm hn i1).mono (fun e w' hh => same_step H hh)
      · cases hwb : wrB armed left with
        | false =>
          rw [show sSync ⟨R.map absRR, false, armed, left⟩ nm = (103, ⟨R.map absRR, true, armed, wrL armed left⟩) by simp [sSync, sChange, hne, i4, hwb, wrS]]
          exact (rsync_out h1 nm hn i i1 hwb).mono (fun e w' hh => out_step hh rfl rfl rfl rfl)
        | true =>
          rw [show sSync ⟨R.map absRR, false, armed, left⟩ nm = (0, ⟨setF nm ⟨r.c, r.c.length⟩ (R.map absRR), false, armed, wrL armed left⟩) by simp [sSync, sChange, hne, i4, hwb, wrS]]
          refine (rsync_yes h1 nm hn i i1 r i2 hwb).mono (fun e w' hh => hh.step ?_ rfl rfl rfl)
          rw [set_abs hp i2 i3]
          simp [List.map_set, absRR, i3]

theorem rremove_spec (h : RefAt w m s F) (hp : PW s.fs) (nm : List UInt8) : Calls Tryz.prog 53 #[ptrV m, strV nm] w (RErr w m F (sRemove s nm)) := by
  have H := h
  obtain ⟨fs, off, armed, left⟩ := s
  obtain ⟨lv, R, h1, h2, rfl⟩ := h
  simp only at h1 h2 hp
  subst h2
  cases nm with
  | nil => exact (rremove_arg m w).mono (fun e w' hh => same_step H hh)
  | cons c0 nm0 =>
    have hn : (c0 :: nm0).isEmpty = false := rfl
    generalize c0 :: nm0 = nm at hn ⊢
    have hne : nm ≠ [] := by rintro rfl; cases hn
    cases off with
    | true =>
      rw [show sRemove ⟨R.map absRR, true, armed, left⟩ nm = (103, ⟨R.map absRR, true, armed, left⟩) by simp [sRemove, sChange, hne]]
      exact (rremove_off h1 nm hn).mono (fun e w' hh => same_step H hh)
    | false =>
      rcases idx_cases R nm with ⟨i1, i2, i3⟩ | ⟨i, r, i1, i2, i3, i4⟩
      · rw [show sRemove ⟨R.map absRR, false, armed, left⟩ nm = (6, ⟨R.map absRR, false, armed, left⟩) by simp [sRemove, sChange, hne, i2]]
        exact (rremove_no h1 nm hn i1).mono (fun e w' hh => same_step H hh)
      · cases hwb : wrB armed left with
        | false =>
          rw [show sRemove ⟨R.map absRR, false, armed, left⟩ nm = (103, ⟨R.map absRR, true, armed, wrL armed left⟩) by simp [sRemove, sChange, hne, i4, hwb, wrS]]
          exact (rremove_out h1 nm hn i i1 hwb).mono (fun e w' hh => out_step hh rfl rfl rfl rfl)
        | true =>
          rw [show sRemove ⟨R.map absRR, false, armed, left⟩ nm = (0, ⟨delF nm (R.map absRR), false, armed, wrL armed left⟩) by simp [sRemove, sChange, hne, i4, hwb, wrS]]
          exact (rremove_yes h1 nm hn i i1 (List.getElem?_eq_some_iff.1 i2).1 hwb).mono (fun e w' hh => hh.step (del_abs hp i2 i3) rfl rfl rfl)

set_option maxRecDepth 100000 in
theorem rrename_argto (m : Nat) (w : World) (nm : List UInt8) (hn : nm.isEmpty = false) : Calls Tryz.prog 56 #[ptrV m, strV nm, strV []] w fun e w' => e = retE 1 ∧ w = w' := by
  go_enter Tryz.func56, Tryz.ntmps56
  go_wp2
  go_ret
  exact ⟨rfl, rfl⟩

theorem cut_pw {R : List RRec} {i : Nat} (hp : PW (R.map absRR)) : PW ((R.take i ++ R.drop (i + 1)).map absRR) := by
  refine hp.sublist (List.Sublist.map _ ?_)
  calc R.take i ++ R.drop (i + 1) = R.eraseIdx i := by rw [List.eraseIdx_eq_take_drop_succ]
    List.Sublist _ R := List.eraseIdx_sublist R i
theorem cut_no {R : List RRec} {i : Nat} {r : RRec} (hp : PW (R.map absRR)) (hr : R[i]? = some r) {x : RRec} (hx : x ∈ R.take i ++ R.drop (i + 1)) : x.nm ≠ r.nm := by
  have h1 := del_abs hp hr rfl
  have h2 : absRR x ∈ delF r.nm (R.map absRR) := by rw [h1]; exact List.mem_map.2 ⟨x, hx, rfl⟩
  have := (List.mem_filter.1 h2).2
  simpa [absRR] using this

theorem rrename_spec (h : RefAt w m s F) (hp : PW s.fs) (nm to : List UInt8) : Calls Tryz.prog 56 #[ptrV m, strV nm, strV to] w (RErr w m F (sRename s nm to)) := by
  have H := h
  obtain ⟨fs, off, armed, left⟩ := s
  obtain ⟨lv, R, h1, h2, rfl⟩ := h
  simp only at h1 h2 hp
  subst h2
  cases nm with
  | nil =>
    rw [show sRename ⟨R.map absRR, off, armed, left⟩ [] to = (1, ⟨R.map absRR, off, armed, left⟩) by unfold sRename sChange; split <;> simp]
    exact (rrename_arg m w to).mono (fun e w' hh => same_step H hh)
  | cons c0 nm0 =>
    have hn : (c0 :: nm0).isEmpty = false := rfl
    generalize c0 :: nm0 = nm at hn ⊢
    have hne : nm ≠ [] := by rintro rfl; cases hn
    cases to with
    | nil =>
      rw [show sRename ⟨R.map absRR, off, armed, left⟩ nm [] = (1, ⟨R.map absRR, off, armed, left⟩) by simp [sRename]]
      exact (rrename_argto m w nm hn).mono (fun e w' hh => same_step H hh)
    | cons c1 to0 =>
      have ht : (c1 :: to0).isEmpty = false := rfl
      generalize c1 :: to0 = to at ht ⊢
      have hto : to ≠ [] := by rintro rfl; cases ht
      cases off with
      | true =>
        rw [show sRename ⟨R.map absRR, true, armed, left⟩ nm to = (103, ⟨R.map absRR, true, armed, left⟩) by simp [sRename, sChange, hne, hto]]
        exact (rrename_off h1 nm hn to ht).mono (fun e w' hh => same_step H hh)
      | false =>
        rcases idx_cases R nm with ⟨i1, i2, i3⟩ | ⟨i, r, i1, i2, i3, i4⟩
        · rw [show sRename ⟨R.map absRR, false, armed, left⟩ nm to = (6, ⟨R.map absRR, false, armed, left⟩) by simp [sRename, sChange, hne, hto, i2]]
          exact (rrename_no h1 nm hn i1 to ht).mono (fun e w' hh => same_step H hh)
        · cases hwb : wrB armed left with
          | false =>
            rw [show sRename ⟨R.map absRR, false, armed, left⟩ nm to = (103, ⟨R.map absRR, true, armed, wrL armed left⟩) by simp [sRename, sChange, hne, hto, i4, hwb, wrS]]
            exact (rrename_out h1 nm hn i i1 hwb to ht).mono (fun e w' hh => out_step hh rfl rfl rfl rfl)
          | true =>
            rw [show sRename ⟨R.map absRR, false, armed, left⟩ nm to = (0, ⟨insF (to, ⟨r.c, r.dur⟩) (delF to (delF nm (R.map absRR))), false, armed, wrL armed left⟩) by simp [sRename, sChange, hne, hto, i4, hwb, wrS]]
            have hd := del_abs hp i2 i3
            have hp2 : PW ((R.take i ++ R.drop (i + 1)).map absRR) := cut_pw hp
            rcases idx_cases (R.take i ++ R.drop (i + 1)) to with ⟨j1, j2, j3⟩ | ⟨k, q, j1, j2, j3, j4⟩
            · refine (rrename_fresh h1 nm to hn ht i i1 r i2 hwb j1 j3).mono (fun e w' hh => hh.step ?_ rfl rfl rfl)
              rw [ins_abs, hd, del_none]
              · rfl
              · intro p hp'
                obtain ⟨x, hx, rfl⟩ := List.mem_map.1 hp'
                exact j3 x hx
            · refine (rrename_old h1 nm to hn ht i i1 r i2 hwb k (List.getElem?_eq_some_iff.1 j2).1 j1 (fun x hx => by rw [← j3]; exact cut_no hp2 j2 hx)).mono (fun e w' hh => hh.step ?_ rfl rfl rfl)
              rw [ins_abs, hd, del_abs hp2 j2 j3]
              rfl

theorem ins_pw {r : RRec} : ∀ {R : List RRec}, PW (R.map absRR) → (∀ x ∈ R, x.nm ≠ r.nm) → PW ((insRR r R).map absRR)
  | [], _, _ => by simp [insRR, PW]
  | y :: R, hp, h => by
    simp only [insRR]
    split
    · rw [List.map_cons, PW, List.pairwise_cons]
      refine ⟨fun p hp' => ?_, hp⟩
      obtain ⟨x, hx, rfl⟩ := List.mem_map.1 hp'
      exact fun e => h x hx e.symm
    · rw [List.map_cons, PW, List.pairwise_cons] at hp ⊢
      refine ⟨fun p hp' => ?_, ins_pw hp.2 (fun x hx => h x (List.mem_cons_of_mem _ hx))⟩
      obtain ⟨x, hx, rfl⟩ := List.mem_map.1 hp'
      rcases insRR_mem hx with rfl | hx
      · exact h y (by simp)
      · exact hp.1 _ (List.mem_map.2 ⟨x, hx, rfl⟩)

theorem rappend_spec (h : RefAt w m s F) (hp : PW s.fs) (nm : List UInt8) (v : Value) (b : List UInt8) (hb : RdB (fun k => k = m) w v b) (hl : ((getF s.fs nm).getD ⟨[], 0⟩).c.length + b.length ≤ 1099511627776) (hL : s.fs.length + 1 ≤ 1099511627776) :
    Calls Tryz.prog 54 #[ptrV m, strV nm, v] w (RErr w m F (sAppend s nm b)) := by
  have H := h
  obtain ⟨fs, off, armed, left⟩ := s
  obtain ⟨lv, R, h1, h2, rfl⟩ := h
  simp only at h1 h2 hp hl hL
  subst h2
  rw [List.length_map] at hL
  cases nm with
  | nil => exact (rappend_arg m w v).mono (fun e w' hh => same_step H hh)
  | cons c0 nm0 =>
    have hn : (c0 :: nm0).isEmpty = false := rfl
    generalize c0 :: nm0 = nm at hn hl ⊢
    have hne : nm ≠ [] := by rintro rfl; cases hn
    cases off with
    | true =>
      rw [show sAppend ⟨R.map absRR, true, armed, left⟩ nm b = (103, ⟨R.map absRR, true, armed, left⟩) by simp [sAppend, hne]]
      exact (rappend_off h1 nm hn v).mono (fun e w' hh => same_step H hh)
    | false =>
      rcases idx_cases R nm with ⟨i1, i2, i3⟩ | ⟨i, r, i1, i2, i3, i4⟩
      · obtain ⟨i, j1, j2⟩ := ins_idx ⟨nm, .slice none 0 0, [], 0⟩ R i3
        have hpi : setF nm ⟨b, 0⟩ (insF (nm, ⟨[], 0⟩) (R.map absRR)) = ((insRR ⟨nm, .slice none 0 0, [], 0⟩ R).map absRR).set i (nm, ⟨b, 0⟩) := by
          have := set_abs (ins_pw (r := ⟨nm, .slice none 0 0, [], 0⟩) hp i3) j2 rfl ⟨b, 0⟩
          rw [← this, ins_abs]
          rfl
        rw [show sAppend ⟨R.map absRR, false, armed, left⟩ nm b = (if wrB armed left then 0 else 103, ⟨setF nm ⟨b, 0⟩ (insF (nm, ⟨[], 0⟩) (R.map absRR)), !wrB armed left, armed, wrL armed left⟩) by simp [sAppend, hne, i2, wrS, withFile]]
        exact (rappend_new h1 nm hn i1 i3 hL i j1 j2 v b hb (by omega)).mono (fun e w' hh => RPostA.step hh hpi rfl rfl rfl)
      · rw [show sAppend ⟨R.map absRR, false, armed, left⟩ nm b = (if wrB armed left then 0 else 103, ⟨setF nm ⟨r.c ++ b, r.dur⟩ (R.map absRR), !wrB armed left, armed, wrL armed left⟩) by simp [sAppend, hne, i4, wrS, withFile]]
        refine (rappend_yes h1 nm hn i i1 r i2 v b hb (by rw [i4] at hl; exact hl)).mono (fun e w' hh => RPostA.step hh ?_ rfl rfl rfl)
        rw [set_abs hp i2 i3, i3]

theorem rread_spec (h : RefAt w m s F) (nm : List UInt8) : Calls Tryz.prog 61 #[ptrV m, strV nm] w (BytesErr w (sRead s nm)) := by
  obtain ⟨fs, off, armed, left⟩ := s
  obtain ⟨lv, R, h1, h2, rfl⟩ := h
  simp only at h1 h2
  subst h2
  cases nm with
  | nil =>
    refine (rread_arg m w).mono ?_
    rintro e w' ⟨rfl, rfl⟩
    exact ⟨none, 0, rfl, NewB.nil w⟩
  | cons c0 nm0 =>
    have hn : (c0 :: nm0).isEmpty = false := rfl
    generalize c0 :: nm0 = nm at hn ⊢
    have hne : nm ≠ [] := by rintro rfl; cases hn
    cases off with
    | true =>
      rw [show sRead ⟨R.map absRR, true, armed, left⟩ nm = ([], 103) by simp [sRead, hne]]
      refine (rread_off h1 nm hn).mono ?_
      rintro e w' ⟨rfl, rfl⟩
      exact ⟨none, 0, rfl, NewB.nil w⟩
    | false =>
      rcases idx_cases R nm with ⟨i1, i2, i3⟩ | ⟨i, r, i1, i2, i3, i4⟩
      · rw [show sRead ⟨R.map absRR, false, armed, left⟩ nm = ([], 6) by simp [sRead, hne, i2]]
        refine (rread_no h1 nm hn i1).mono ?_
        rintro e w' ⟨rfl, rfl⟩
        exact ⟨none, 0, rfl, NewB.nil w⟩
      · rw [show sRead ⟨R.map absRR, false, armed, left⟩ nm = (r.c, 0) by simp [sRead, hne, i4]]
        exact rread_yes h1 nm hn i i1 r i2

theorem rarm_spec (h : RefAt w m s F) (n : Int) (h0 : -9223372036854775808 ≤ n) (h1 : n ≤ 9223372036854775807) :
    Calls Tryz.prog 20 #[ptrV m, .int .i64 n] w fun e w' => e = .returned (.tuple #[]) ∧ RefStep w m (sArm s n) F w' := by
  obtain ⟨lv, R, hd, hs, rfl⟩ := h
  refine (rarm_any hd n h0 h1).mono ?_
  rintro e w' ⟨rfl, h2, h3⟩
  exact ⟨rfl, _, ⟨lv, R, h2, hs, rfl⟩, h3.mono (fun k _ e => .inl e), fun k hk => .inl hk⟩
end
end
end Go.Proofs.YtbgificdilpdcaaGreat
