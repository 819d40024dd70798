/- The reference disk: Rename. No condition. -/
import Derived.Test.YtmapijpphnlcmaaRef7
namespace Go.Proofs.Ytmapijpphnlcmaa
open Go.RowKit Go.Maps

theorem ins_mem {r x : RRec} : ∀ {R : List RRec}, x ∈ insRR r R → x = r ∨ x ∈ R
  | [], h => by simp [insRR] at h; exact .inl h
  | y :: R, h => by
    simp only [insRR] at h
    split at h
    · simpa using h
    · rcases List.mem_cons.1 h with h | h
      · exact .inr (by simp [h])
      · rcases ins_mem h with h | h
        · exact .inl h
        · exact .inr (List.mem_cons_of_mem _ h)
theorem cut_mem {x : RRec} {R : List RRec} {i : Nat} (h : x ∈ R.take i ++ R.drop (i + 1)) : x ∈ R := by
  rcases List.mem_append.1 h with h | h
  · exact List.mem_of_mem_take h
  · exact List.mem_of_mem_drop h

section
variable {w w' : World} {m : Nat} {off armed : Bool} {left : Nat} {lv : Value} {R : List RRec}

theorem ren_out {w2 : World} {lv3 : Value} {o : Obj} {i : Nat} (h : RefL w2 m off armed left lv R) (hn3 : ∀ k, OwnB lv3 k → (w2.alloc o).heap.size ≤ k) : ∀ k, refFoot m lv3 (R.take i ++ R.drop (i + 1)) k → ¬ k = w2.heap.size := by
  rintro k (hk | hk | ⟨x, hx, hk⟩)
  · have := h.head.lt; omega
  · have := hn3 k hk; simp at this; omega
  · have := h.foot_lt (k := k) (.inr (.inr ⟨x, cut_mem hx, hk⟩))
    omega
theorem ren_out2 {wb : Nat} {w3 : World} {lv3 lv4 : Value} {k : Nat} (h : ∀ j, refFoot m lv3 R j → ¬ j = wb) (hb : wb < w3.heap.size) (hn4 : ∀ j, OwnB lv4 j → w3.heap.size ≤ j) : ∀ j, refFoot m lv4 (R.take k ++ R.drop (k + 1)) j → ¬ j = wb := by
  rintro j (hj | hj | ⟨x, hx, hj⟩)
  · exact h j (.inl hj)
  · have := hn4 j hj; omega
  · exact h j (.inr (.inr ⟨x, cut_mem hx, hj⟩))
theorem ren_own2 {w2 w3 w4 : World} {i cv : Nat} {r : RRec} {Av : Option Addr} (ho : Own w3 5 1 (.slice Av r.c.length cv) r.c.length (r.c.map byteV) ∧ ∀ k, OwnB (.slice Av r.c.length cv) k → ¬ k = w2.heap.size)
    (h : RefL w2 m off armed left lv R) (hr : R[i]? = some r) (hcv : r.cv = .slice Av r.c.length cv) (hu4 : Upd (fun k => k = m) w3 w4) :
    Own w4 5 1 (.slice Av r.c.length cv) r.c.length (r.c.map byteV) ∧ ∀ k, OwnB (.slice Av r.c.length cv) k → ¬ k = w2.heap.size := by
  have hc := h.cont r (List.mem_of_getElem? hr)
  rw [hcv] at hc
  exact ⟨ho.1.upd hu4 (fun k hk e => hc.ne_of h.head (by decide) hk e), ho.2⟩
theorem ren_own {w2 w3 : World} {o : Obj} {i cv : Nat} {r : RRec} {Av : Option Addr} (h : RefL w2 m off armed left lv R) (hr : R[i]? = some r) (hcv : r.cv = .slice Av r.c.length cv) (hu3 : Upd (fun k => k = m) (w2.alloc o) w3) :
    Own w3 5 1 (.slice Av r.c.length cv) r.c.length (r.c.map byteV) ∧ ∀ k, OwnB (.slice Av r.c.length cv) k → ¬ k = w2.heap.size := by
  have hc := h.cont r (List.mem_of_getElem? hr)
  rw [hcv] at hc
  refine ⟨(hc.upd ((Upd.refl NoF w2).alloc _) (fun _ _ h => h)).upd hu3 (fun k hk e => hc.ne_of h.head (by decide) hk e), fun k hk => ?_⟩
  have := hc.lt hk
  omega

set_option maxRecDepth 100000 in
set_option maxHeartbeats 4000000 in
theorem rrename_fresh (h : RefL w m false armed left lv R) (nm to : List UInt8) (hn : nm.isEmpty = false) (ht : to.isEmpty = false) (i : Nat) (hi : idxR R nm = i) (r : RRec) (hr : R[i]? = some r) (hwb : wrB armed left = true) (hi2 : idxR (R.take i ++ R.drop (i + 1)) to = -1) (hnew : ∀ x ∈ (R.take i ++ R.drop (i + 1)), x.nm ≠ to) :
    Calls Try.prog 52 #[ptrV m, strV nm, strV to] w (RPost w m false armed (wrL armed left) lv R (insRR ⟨to, r.cv, r.c, r.dur⟩ (R.take i ++ R.drop (i + 1))) 0) := by
  have c3 : w.cell? ⟨m, 3, none⟩ = some (.bool false) := h.head.cell 3
  have hil : i < R.length := (List.getElem?_eq_some_iff.1 hr).1
  have FI := find_any h nm
  rw [hi] at FI
  have HF := Lib.hid FI
  have FA := fails_any h
  rw [hwb] at FA
  have HA := Lib.hid FA
  have HR := Lib.hid hr
  have HN := Lib.hid hnew
  have HI2 := Lib.hid hi2
  have hnum := h.num
  have hrl := h.len r (List.mem_of_getElem? hr)
  obtain ⟨A, c, hlv, hnc, hc, _⟩ := h.form
  subst hlv
  obtain ⟨Av, cv, hcvf⟩ := (h.cont r (List.mem_of_getElem? hr)).form
  have HCV := Lib.hid hcvf
  have t1 : decide ((i : Int) < 0) = false := by simp
  have t2 : (0:Int) ≤ i := by omega
  have t3 : (i:Int) < R.length := by omega
  have F := Lib.hid (Upd.refl NoF w)
  clear h FI FA hi hwb hr hcvf hnew hi2 F
  go_enter Try.func52, Try.ntmps52
  go_wp2_with (first
    | (go_at_call 65; refine HA.out.mono ?_; rintro e w2 ⟨rfl, hd2, hu2⟩; have d0 := hd2.head.cell 0; have hmz := hd2.head.lt; obtain ⟨g0, hA0, -, -, -, hgm0, hgo0, y00, y10, y20, -, -⟩ := hd2.at_ HR.out; subst hA0; rw [HCV.out] at y10; have hgz := hd2.list.lt hgo0; have D2 := Lib.hid hd2; have U2 := Lib.hid hu2; clear hd2 hu2 hgo0)
    | (go_at_call 54; refine HF.out.mono ?_; rintro e w' ⟨rfl, rfl⟩)
    | fail)
  refine (drop_any (D2.out.upd ((Upd.refl NoF w2).alloc _) (fun _ _ h => h)) i hil).mono ?_
  rintro e w3 ⟨rfl, lv3, hd3, hu3, hn3⟩
  have B3 := hu3.blk (Blk.new w2 89 #[strV r.nm, Value.slice Av r.c.length cv, .int .i64 r.dur]) (by omega)
  have k0 := B3.cell 0
  have k1 := B3.cell 1
  have k2 := B3.cell 2
  have kf := B3.frozen 0
  have hbz := B3.lt
  have FI2 := find_any hd3 to
  rw [HI2.out] at FI2
  clear HF
  have HF := Lib.hid FI2
  have NI := Lib.hid (ren_out (i := i) D2.out hn3)
  have OW := Lib.hid (ren_own D2.out HR.out HCV.out hu3)
  have D3 := Lib.hid hd3
  have U3 := Lib.hid hu3
  have N3 := Lib.hid hn3
  clear hd3 hu3 hn3 B3 FI2 d0 y00 y10 y20
  go_wp2_with (first
    | (go_at_call 54; refine HF.out.mono ?_; rintro e w' ⟨rfl, rfl⟩)
    | fail)
  refine (put_any (D3.out.upd ((Upd.refl (fun k => k = w2.heap.size) w3).setCell (p := ⟨w2.heap.size, 0, none⟩) (.inl rfl) (strV to)) NI.out) ⟨to, .slice Av r.c.length cv, r.c, r.dur⟩ (OW.out.1.upd ((Upd.refl (fun k => k = w2.heap.size) w3).setCell (p := ⟨w2.heap.size, 0, none⟩) (.inl rfl) (strV to)) OW.out.2) hrl HN.out (by simp; omega)).mono ?_
  rintro e w5 ⟨rfl, lv5, hd5, hu5, hn5⟩
  have D5 := Lib.hid hd5
  have U5 := Lib.hid hu5
  have N5 := Lib.hid hn5
  clear hd5 hu5 hn5
  go_wp2
  go_ret
  rw [HCV.out]
  refine ⟨rfl, lv5, by simpa using D5.out, ?_, ?_⟩
  · exact ((U2.out.alloc _).trans U3.out (fun _ _ h => h)).setCell (p := ⟨w2.heap.size, 0, none⟩) (.inr U2.out.size) _ |>.trans U5.out (fun _ _ h => h)
  · rintro k (hk | hk | ⟨x, hx, hk⟩)
    · exact .inl (.inl hk)
    · have h1 := N5.out k hk
      have h2 := U3.out.size
      have h3 := U2.out.size
      simp at h1 h2
      exact .inr (by omega)
    · refine .inl (.inr (.inr ?_))
      rcases ins_mem hx with rfl | hx
      · exact ⟨r, List.mem_of_getElem? HR.out, by rw [HCV.out]; exact hk⟩
      · exact ⟨x, cut_mem hx, hk⟩

set_option maxRecDepth 100000 in
set_option maxHeartbeats 4000000 in
theorem rrename_old (h : RefL w m false armed left lv R) (nm to : List UInt8) (hn : nm.isEmpty = false) (ht : to.isEmpty = false) (i : Nat) (hi : idxR R nm = i) (r : RRec) (hr : R[i]? = some r) (hwb : wrB armed left = true) (k : Nat) (hk : k < (R.take i ++ R.drop (i + 1)).length) (hi2 : idxR (R.take i ++ R.drop (i + 1)) to = k) (hnew : ∀ x ∈ ((R.take i ++ R.drop (i + 1)).take k ++ (R.take i ++ R.drop (i + 1)).drop (k + 1)), x.nm ≠ to) :
    Calls Try.prog 52 #[ptrV m, strV nm, strV to] w (RPost w m false armed (wrL armed left) lv R (insRR ⟨to, r.cv, r.c, r.dur⟩ ((R.take i ++ R.drop (i + 1)).take k ++ (R.take i ++ R.drop (i + 1)).drop (k + 1))) 0) := by
  have c3 : w.cell? ⟨m, 3, none⟩ = some (.bool false) := h.head.cell 3
  have hil : i < R.length := (List.getElem?_eq_some_iff.1 hr).1
  have FI := find_any h nm
  rw [hi] at FI
  have HF := Lib.hid FI
  have FA := fails_any h
  rw [hwb] at FA
  have HA := Lib.hid FA
  have HR := Lib.hid hr
  have HN := Lib.hid hnew
  have HI2 := Lib.hid hi2
  have hnum := h.num
  have hrl := h.len r (List.mem_of_getElem? hr)
  obtain ⟨A, c, hlv, hnc, hc, _⟩ := h.form
  subst hlv
  obtain ⟨Av, cv, hcvf⟩ := (h.cont r (List.mem_of_getElem? hr)).form
  have HCV := Lib.hid hcvf
  have t1 : decide ((i : Int) < 0) = false := by simp
  have t2 : (0:Int) ≤ i := by omega
  have t4 : decide ((k : Int) < 0) = false := by simp
  have t5 : decide ((0 : Int) ≤ (k : Int)) = true := by simp
  have HK := Lib.hid hk
  clear hk
  have t3 : (i:Int) < R.length := by omega
  have F := Lib.hid (Upd.refl NoF w)
  clear h FI FA hi hwb hr hcvf hnew hi2 F
  go_enter Try.func52, Try.ntmps52
  go_wp2_with (first
    | (go_at_call 65; refine HA.out.mono ?_; rintro e w2 ⟨rfl, hd2, hu2⟩; have d0 := hd2.head.cell 0; have hmz := hd2.head.lt; obtain ⟨g0, hA0, -, -, -, hgm0, hgo0, y00, y10, y20, -, -⟩ := hd2.at_ HR.out; subst hA0; rw [HCV.out] at y10; have hgz := hd2.list.lt hgo0; have D2 := Lib.hid hd2; have U2 := Lib.hid hu2; clear hd2 hu2 hgo0)
    | (go_at_call 54; refine HF.out.mono ?_; rintro e w' ⟨rfl, rfl⟩)
    | fail)
  refine (drop_any (D2.out.upd ((Upd.refl NoF w2).alloc _) (fun _ _ h => h)) i hil).mono ?_
  rintro e w3 ⟨rfl, lv3, hd3, hu3, hn3⟩
  have B3 := hu3.blk (Blk.new w2 89 #[strV r.nm, Value.slice Av r.c.length cv, .int .i64 r.dur]) (by omega)
  have k0 := B3.cell 0
  have k1 := B3.cell 1
  have k2 := B3.cell 2
  have kf := B3.frozen 0
  have hbz := B3.lt
  have FI2 := find_any hd3 to
  rw [HI2.out] at FI2
  clear HF
  have HF := Lib.hid FI2
  have NI := Lib.hid (ren_out (i := i) D2.out hn3)
  have OW := Lib.hid (ren_own D2.out HR.out HCV.out hu3)
  have D3 := Lib.hid hd3
  have U3 := Lib.hid hu3
  have N3 := Lib.hid hn3
  have BB := Lib.hid B3
  clear hd3 hu3 hn3 B3 FI2 d0 y00 y10 y20
  go_wp2_with (first
    | (go_at_call 54; refine HF.out.mono ?_; rintro e w' ⟨rfl, rfl⟩)
    | fail)
  refine (drop_any D3.out k HK.out).mono ?_
  rintro e w4 ⟨rfl, lv4, hd4, hu4, hn4⟩
  have B4 := hu4.blk BB.out (by omega)
  clear k0 k1 k2 kf hbz
  have k0 := B4.cell 0
  have k1 := B4.cell 1
  have k2 := B4.cell 2
  have kf := B4.frozen 0
  have hbz := B4.lt
  have NI4 := Lib.hid (ren_out2 (k := k) NI.out BB.out.lt hn4)
  have OW4 := Lib.hid (ren_own2 OW.out (R := R) (i := i) D2.out HR.out HCV.out hu4)
  have D4 := Lib.hid hd4
  have U4 := Lib.hid hu4
  have N4 := Lib.hid hn4
  clear hd4 hu4 hn4 B4 BB
  go_wp2_with fail
  refine (put_any (D4.out.upd ((Upd.refl (fun k => k = w2.heap.size) w4).setCell (p := ⟨w2.heap.size, 0, none⟩) (.inl rfl) (strV to)) NI4.out) ⟨to, .slice Av r.c.length cv, r.c, r.dur⟩ (OW4.out.1.upd ((Upd.refl (fun k => k = w2.heap.size) w4).setCell (p := ⟨w2.heap.size, 0, none⟩) (.inl rfl) (strV to)) OW4.out.2) hrl HN.out (by simp; omega)).mono ?_
  rintro e w5 ⟨rfl, lv5, hd5, hu5, hn5⟩
  have D5 := Lib.hid hd5
  have U5 := Lib.hid hu5
  have N5 := Lib.hid hn5
  clear hd5 hu5 hn5
  go_wp2
  go_ret
  rw [HCV.out]
  refine ⟨rfl, lv5, by simpa using D5.out, ?_, ?_⟩
  · exact ((U2.out.alloc _).trans U3.out (fun _ _ h => h)).trans U4.out (fun _ _ h => h) |>.setCell (p := ⟨w2.heap.size, 0, none⟩) (.inr U2.out.size) _ |>.trans U5.out (fun _ _ h => h)
  · rintro k (hk | hk | ⟨x, hx, hk⟩)
    · exact .inl (.inl hk)
    · have h1 := N5.out k hk
      have h2 := U3.out.size
      have h4 := U4.out.size
      have h3 := U2.out.size
      simp at h1 h2
      exact .inr (by omega)
    · refine .inl (.inr (.inr ?_))
      rcases ins_mem hx with rfl | hx
      · exact ⟨r, List.mem_of_getElem? HR.out, by rw [HCV.out]; exact hk⟩
      · exact ⟨x, cut_mem (cut_mem hx), hk⟩
end
end Go.Proofs.Ytmapijpphnlcmaa
