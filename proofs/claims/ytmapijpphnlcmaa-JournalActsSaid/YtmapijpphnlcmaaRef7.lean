/- The reference disk: Truncate. No condition. -/
import Derived.Test.YtmapijpphnlcmaaRef6
import Derived.BigRegion
namespace Go.Proofs.Ytmapijpphnlcmaa
open Go.RowKit Go.Maps

def absRR (r : RRec) : List UInt8 × FSt := (r.nm, ⟨r.c, r.dur⟩)

section
variable {w w' : World} {m : Nat} {off armed : Bool} {left : Nat} {lv : Value} {R : List RRec}

def RPostA (w : World) (m : Nat) (off armed : Bool) (left : Nat) (lv : Value) (R : List RRec) (fs' : FS) (code : Int) (e : Ending) (w' : World) : Prop :=
  e = retE code ∧ ∃ lv' R', RefL w' m off armed left lv' R' ∧ R'.map absRR = fs' ∧ Upd (fun k => k = m) w w' ∧ ∀ k, refFoot m lv' R' k → refFoot m lv R k ∨ w.heap.size ≤ k

/-- The content of a file of a copied list has been made anew. -/
theorem RefL.cont_new {g c : Nat} {w1 : World} {o : Obj} (h : RefL w m off armed left (.slice (some ⟨g, 0, none⟩) R.length c) R) {i : Nat} {r : RRec} (hr : R[i]? = some r) {A : Option Addr} {n c1 : Nat} {ys : List UInt8} (hys : ys.length = n)
    (hu : Upd (OwnB (.slice (some ⟨w.heap.size, 0, none⟩) 0 0)) (w.alloc o).drew w1) (ho : Own w1 5 1 (.slice A n c1) n (ys.map byteV)) (hl : n ≤ 1099511627776) :
    RefL (w1.setCell ⟨g, i * 3 + 1, none⟩ (.slice A n c1)) m off armed left (.slice (some ⟨g, 0, none⟩) R.length c) (R.set i { r with cv := .slice A n c1, c := ys }) := by
  subst hys
  have hU : Upd NoF w w1 := (((Upd.refl NoF w).alloc _).drew).trans hu (fun k hk e => by simp [OwnB, Value.ownBlock] at e; omega)
  exact (h.upd hU (fun _ _ h => h)).setCont hr _ _ ho hl

theorem rframe2 {w2 w3 w4 w1 : World} {lv' : Value} {g : Nat} {o : Obj} (hu2 : Upd (fun k => k = m) w w2) (hu3 : Upd NoF w2 w3) (hN : ∀ k, OwnB lv' k → w2.heap.size ≤ k) (hgo : OwnB lv' g) (hw4 : w4 = w3.setCell ⟨m, 0, none⟩ lv')
    (hu : Upd (OwnB (.slice (some ⟨w4.heap.size, 0, none⟩) 0 0)) (w4.alloc o).drew w1) : Upd (fun k => k = m) w w1 ∧ w.heap.size ≤ g ∧ w.heap.size ≤ w4.heap.size := by
  have h4 : Upd (fun k => k = m) w w4 := by
    rw [hw4]
    exact (hu2.trans hu3 (fun _ _ h => h.elim)).setCell (p := ⟨m, 0, none⟩) (.inl rfl) _
  exact ⟨((h4.alloc _).drew).trans hu (fun k hk e => by have := h4.size; simp [OwnB, Value.ownBlock] at e; omega), Nat.le_trans hu2.size (hN g hgo), h4.size⟩

theorem rtrunc_end {w2 w3 w4 w1 w5 : World} {lvo : Value} {A : Option Addr} {n c1 c2 i g : Nat} {r : RRec} {o : Obj} (hr : R[i]? = some r) (hu2 : Upd (fun k => k = m) w w2) (hu3 : Upd NoF w2 w3) (hN : ∀ k, OwnB (.slice (some ⟨g, 0, none⟩) R.length c1) k → w2.heap.size ≤ k)
    (hgo : OwnB (.slice (some ⟨g, 0, none⟩) R.length c1) g) (hw4 : w4 = w3.setCell ⟨m, 0, none⟩ (.slice (some ⟨g, 0, none⟩) R.length c1))
    (hu : Upd (OwnB (.slice (some ⟨w4.heap.size, 0, none⟩) 0 0)) (w4.alloc o).drew w1) (hnew : ∀ k, OwnB (.slice A n c2) k → OwnB (.slice (some ⟨w4.heap.size, 0, none⟩) 0 0) k ∨ (w4.alloc o).drew.heap.size ≤ k)
    (hw5 : w5 = w1.setCell ⟨g, i * 3 + 1, none⟩ (.slice A n c2)) (hd : RefL w5 m (false || !true) armed left (.slice (some ⟨g, 0, none⟩) R.length c1) (R.set i { r with cv := .slice A n c2, c := r.c.take n })) :
    RPostA w m false armed left lvo R ((R.map absRR).set i (r.nm, ⟨r.c.take n, min r.dur n⟩)) 0 (retE 0) (w5.setCell ⟨g, i * 3 + 2, none⟩ (.int .i64 ((min r.dur n : Nat) : Int))).drew := by
  have hi : i < R.length := (List.getElem?_eq_some_iff.1 hr).1
  obtain ⟨q1, q2, q3⟩ := rframe2 hu2 hu3 hN hgo hw4 hu
  have hd' : RefL w5 m false armed left (.slice (some ⟨g, 0, none⟩) (R.set i { r with cv := .slice A n c2, c := r.c.take n }).length c1) (R.set i { r with cv := .slice A n c2, c := r.c.take n }) := by rw [List.length_set]; exact hd
  have hx : (R.set i { r with cv := .slice A n c2, c := r.c.take n })[i]? = some { r with cv := .slice A n c2, c := r.c.take n } := by simp [hi]
  have h5 : Upd (fun k => k = m) w w5 := by rw [hw5]; exact q1.setCell (p := ⟨g, i * 3 + 1, none⟩) (.inr q2) _
  refine ⟨rfl, _, _, (hd'.setDur hx (min r.dur n)).drew, ?_, (h5.setCell (p := ⟨g, i * 3 + 2, none⟩) (.inr q2) _).drew, ?_⟩
  · simp [List.map_set, absRR]
  · have hnw : ∀ k, OwnB (.slice A n c2) k → w.heap.size ≤ k := fun k hk => by
      rcases hnew k hk with e | e
      · simp [OwnB, Value.ownBlock] at e; omega
      · simp at e; omega
    rintro k (hk | hk | ⟨x, hx, hk⟩)
    · exact .inl (.inl hk)
    · rw [List.length_set] at hk
      exact .inr (Nat.le_trans hu2.size (hN k hk))
    · rcases mem_set hx with rfl | hx
      · exact .inr (hnw k hk)
      · rcases mem_set hx with rfl | hx
        · exact .inr (hnw k hk)
        · exact .inl (.inr (.inr ⟨x, hx, hk⟩))

set_option maxRecDepth 100000 in
set_option maxHeartbeats 4000000 in
theorem rtruncate_yes (h : RefL w m false armed left lv R) (nm : List UInt8) (hn : nm.isEmpty = false) (i : Nat) (hi : idxR R nm = i) (r : RRec) (hr : R[i]? = some r) (hwb : wrB armed left = true) (z : Int) (hzl : -9223372036854775808 ≤ z) (hzh : z ≤ 9223372036854775807) :
    Calls Try.prog 50 #[ptrV m, strV nm, .int .i64 z] w (RPostA w m false armed (wrL armed left) lv R ((R.map absRR).set i (r.nm, ⟨r.c.take (cutAt z r.c.length), min r.dur (cutAt z r.c.length)⟩)) 0) := by
  obtain ⟨n, hnn⟩ : ∃ n : Nat, n = cutAt z r.c.length := ⟨_, rfl⟩
  rw [← hnn]
  have HNN := Lib.hid hnn
  clear hnn
  have c3 : w.cell? ⟨m, 3, none⟩ = some (.bool false) := h.head.cell 3
  have hil : i < R.length := (List.getElem?_eq_some_iff.1 hr).1
  have FI := find_any h nm
  rw [hi] at FI
  have HF := Lib.hid FI
  have FA := fails_any h
  rw [hwb] at FA
  have HA := Lib.hid FA
  have H := Lib.hid h
  have HR := Lib.hid hr
  obtain ⟨i0, hi0, hz0, hz1, hz2⟩ := info_parts file_info
  obtain ⟨i1, hi1, hy0, hy1, hy2⟩ := info_parts byte_info
  have hnum := h.num
  have hrl := h.len r (List.mem_of_getElem? hr)
  obtain ⟨A, c, hlv, hnc, hc, _⟩ := h.form
  subst hlv
  obtain ⟨Av, cv, hcvf⟩ := (h.cont r (List.mem_of_getElem? hr)).form
  have hcvn := (h.cont r (List.mem_of_getElem? hr)).rd
  rw [hcvf] at hcvn
  have HCV := Lib.hid hcvf
  have t1 : decide ((i : Int) < 0) = false := by simp
  have t2 : (0:Int) ≤ i := by omega
  have t3 : (i:Int) < R.length := by omega
  clear h FI FA hi hwb hr hcvf hcvn
  go_enter Try.func50, Try.ntmps50
  go_wp2_with (first
    | (go_at_call 54; refine HF.out.mono ?_; rintro e w' ⟨rfl, rfl⟩)
    | (go_at_call 65; refine HA.out.mono ?_; rintro e w2 ⟨rfl, hd2, hu2⟩; have d0 := hd2.head.cell 0; have hmz := hd2.head.lt; obtain ⟨g0, hA0, -, -, -, hgm0, hgo0, -, y10, -, -, -⟩ := hd2.at_ HR.out; subst hA0; rw [HCV.out] at y10; have hgz := hd2.list.lt hgo0; have D2 := Lib.hid hd2; have U2 := Lib.hid hu2; clear hd2 hu2 hgo0)
    | (at_builtin; refine wpList_append_new _ rfl (.tmp 35) (.tmp 39) 41 rfl 89 i0 _ 3 48 Try.underlying41 hi0 hz0 hz1 hz2 rfl (.slice (some ⟨w2.heap.size, 0, none⟩) 0 0) rfl (Own.fresh w2 _ _) (.slice (some ⟨g0, 0, none⟩) R.length c) R.length (cellsR R) rfl (D2.out.list.upd ((Upd.refl NoF w2).alloc _) (fun _ _ h => h)).rd (cellsR_one D2.out.cont) (by unfold maxLen; omega) (by omega) ?_; intro A1 c1 w3 hown1 hupd1 hnew1; have hU3 : Upd NoF w2 w3 := ((Upd.refl NoF w2).alloc _).trans hupd1 (fun k hk e => by simp [OwnB, Value.ownBlock] at e; omega); have hN : ∀ k, OwnB (.slice A1 R.length c1) k → w2.heap.size ≤ k := (fun k hk => by rcases hnew1 k hk with e | e; (simp [OwnB, Value.ownBlock] at e; omega); (simp at e; omega)); have D3 := Lib.hid (RefL.copied D2.out hU3 hown1 hN); have x0 := (hU3.blk D2.out.head (fun h => h)).cell 0; have x1 := (hU3.blk D2.out.head (fun h => h)).frozen 0; have U3 := Lib.hid hU3; have N3 := Lib.hid hN; clear hown1 hupd1 hnew1 hU3 hN d0))
  obtain ⟨w4, hw4⟩ : ∃ w4, w4 = w3.setCell ⟨m, 0, none⟩ (.slice A1 R.length c1) := ⟨_, rfl⟩
  rw [← hw4] at D3 ⊢
  have W4 := Lib.hid hw4
  clear hw4 x0 x1
  rw [show max (min z r.c.length) 0 = (n : Int) by rw [HNN.out]; unfold cutAt; omega]
  have hnl : n ≤ r.c.length := by rw [HNN.out]; unfold cutAt; omega
  clear y10
  obtain ⟨g, hA, -, hnc1, hc1, hgm, hgo, y0, y1, y2, z1, z2⟩ := D3.out.at_ HR.out
  subst hA
  rw [HCV.out] at y1
  have y3 := D3.out.head.cell 0
  have hmz4 := D3.out.head.lt
  have hgz4 := D3.out.list.lt hgo
  have hcvo := D3.out.cont r (List.mem_of_getElem? HR.out)
  rw [HCV.out] at hcvo
  have b1 : (0:Int) ≤ (n:Int) := by omega
  have K1 := Lib.hid (show ∀ w1, Upd (OwnB (.slice (some ⟨w4.heap.size, 0, none⟩) 0 0)) (w4.alloc (.cells #[] 5)).drew w1 → w1.cell? ⟨m, 0, none⟩ = some (.slice (some ⟨g, 0, none⟩) R.length c1) ∧ w1.cell? ⟨g, i * 3 + 1, none⟩ = some (.slice Av r.c.length cv) ∧ w1.frozen? ⟨g, i * 3 + 1, none⟩ = false from fun w1 hu => by
    have hU : Upd NoF w4 w1 := (((Upd.refl NoF w4).alloc _).drew).trans hu (fun k hk e => by simp [OwnB, Value.ownBlock] at e; omega)
    have D := D3.out.upd hU (fun _ _ h => h)
    obtain ⟨g', e', -, -, -, -, -, -, q1, -, q2, -⟩ := D.at_ HR.out
    injection e' with e'
    injection e' with e' _
    subst e'
    rw [HCV.out] at q1
    exact ⟨D.head.cell 0, q1, q2⟩)
  have A1 := Lib.hid (show Own (w4.alloc (.cells #[] 5)).drew 5 1 (.slice (some ⟨w4.heap.size, 0, none⟩) 0 0) 0 [] from ⟨by simp, .inr ⟨w4.heap.size, 0, #[], rfl, (Blk.new w4 _ _).drew, Nat.le_refl _, Nat.zero_le _, Nat.zero_le _, rfl⟩⟩)
  have hrd : Rd (w4.alloc (.cells #[] 5)).drew 1 (.slice Av r.c.length cv) r.c.length (r.c.map byteV) := (hcvo.upd (((Upd.refl NoF w4).alloc _).drew) (fun _ _ h => h)).rd
  have A2 := Lib.hid (hrd.upto (k := n) hnl)
  have A3 := Lib.hid (show ∀ u ∈ (r.c.map byteV).take (n * 1), u.oneCell' = true from fun u hu => by
    obtain ⟨x, _, rfl⟩ := List.mem_map.1 (List.mem_of_mem_take hu)
    rfl)
  have A4 := Lib.hid (show n ≤ maxLen by unfold maxLen; omega)
  have A5 := Lib.hid (show n * 1 ≤ 140737488355328 by omega)
  have FIN := Lib.hid (show ∀ w1 A c2, Upd (OwnB (.slice (some ⟨w4.heap.size, 0, none⟩) 0 0)) (w4.alloc (.cells #[] 5)).drew w1 → Own w1 5 1 (.slice A n c2) n ((r.c.map byteV).take (n * 1)) →
      RefL (w1.setCell ⟨g, i * 3 + 1, none⟩ (.slice A n c2)) m (false || !true) armed (wrL armed left) (.slice (some ⟨g, 0, none⟩) R.length c1) (R.set i { r with cv := .slice A n c2, c := r.c.take n }) from fun w1 A c2 hu ho => by
    refine D3.out.cont_new HR.out (by simp; omega) hu ?_ (by omega)
    rw [List.map_take]
    simpa using ho)
  have hform : (Av = none ∧ r.c.length = 0 ∧ cv = 0) ∨ ∃ ga, Av = some ⟨ga, 0, none⟩ ∧ r.c.length ≤ cv ∧ cv ≤ 9223372036854775807 := by
    rcases hcvo.2 with ⟨e1, e2⟩ | ⟨ga, cap, cur, e1, _, e3, e4, _⟩
    · injection e1 with e1 _ e3
      exact .inl ⟨e1, e2, e3⟩
    · injection e1 with e1 _ e5
      subst e5
      exact .inr ⟨ga, e1, e3, e4⟩
  clear hcvo hrd y0 z2
  rcases hform with ⟨rfl, hl0, rfl⟩ | ⟨ga, rfl, hlc, hcm⟩
  · have hn0 : n = 0 := by omega
    subst hn0
    go_region_law
      (refine step_append_new _ (by rfl) (.tmp 48) (.tmp 58) _ (by rfl) 5 i1 _ 1 1 Try.underlying27 hi1 hy0 hy1 hy2 rfl (.slice (some ⟨w4.heap.size, 0, none⟩) 0 0) (by rfl) (by exact A1.out) (.slice none 0 0) 0 ((r.c.map byteV).take (0 * 1)) (by rfl) (by exact A2.out) A3.out A4.out A5.out ?_; intro A c2 w1 hown1 hupd1 hnew1; obtain ⟨kp1, kp2, kf1⟩ := K1.out w1 hupd1; have O1 := Lib.hid hown1; have U1 := Lib.hid hupd1; have N1 := Lib.hid hnew1; clear hown1 hupd1 hnew1)
    all_goals
      have D5 := Lib.hid (FIN.out w1 A c2 U1.out O1.out)
      obtain ⟨w5, hw5⟩ : ∃ w5, w5 = w1.setCell ⟨g, i * 3 + 1, none⟩ (.slice A 0 c2) := ⟨_, rfl⟩
      rw [← hw5] at D5 ⊢
      have W5 := Lib.hid hw5
      obtain ⟨g', hg', -, -, -, -, -, -, -, v2, -, v3⟩ := D5.out.at_ (i := i) (r := { r with cv := .slice A 0 c2, c := r.c.take 0 }) (by simp [hil])
      injection hg' with hg'
      injection hg' with hg' _
      subst hg'
      have v0 := D5.out.head.cell 0
      clear hw5 kp1 kp2 kf1 y1 y2 y3 z1
      go_wp2_with fail
      go_still_tail 17, (by kernel_rfl)
      change wpList _ _ _ _ _ w5.drew
      go_wp2
      go_ret
      rw [show min (r.dur : Int) 0 = ((min r.dur 0 : Nat) : Int) by omega]
      exact rtrunc_end HR.out U2.out U3.out N3.out hgo W4.out U1.out N1.out W5.out D5.out
  · have b2 : (n:Int) ≤ cv := by omega
    go_region_law
      (refine step_append_new _ (by rfl) (.tmp 48) (.tmp 58) _ (by rfl) 5 i1 _ 1 1 Try.underlying27 hi1 hy0 hy1 hy2 rfl (.slice (some ⟨w4.heap.size, 0, none⟩) 0 0) (by rfl) (by exact A1.out) (.slice (some ⟨ga, 0, none⟩) n cv) n ((r.c.map byteV).take (n * 1)) (by rfl) (by exact A2.out) A3.out A4.out A5.out ?_; intro A c2 w1 hown1 hupd1 hnew1; obtain ⟨kp1, kp2, kf1⟩ := K1.out w1 hupd1; have O1 := Lib.hid hown1; have U1 := Lib.hid hupd1; have N1 := Lib.hid hnew1; clear hown1 hupd1 hnew1)
    all_goals
      have D5 := Lib.hid (FIN.out w1 A c2 U1.out O1.out)
      obtain ⟨w5, hw5⟩ : ∃ w5, w5 = w1.setCell ⟨g, i * 3 + 1, none⟩ (.slice A n c2) := ⟨_, rfl⟩
      rw [← hw5] at D5 ⊢
      have W5 := Lib.hid hw5
      obtain ⟨g', hg', -, -, -, -, -, -, -, v2, -, v3⟩ := D5.out.at_ (i := i) (r := { r with cv := .slice A n c2, c := r.c.take n }) (by simp [hil])
      injection hg' with hg'
      injection hg' with hg' _
      subst hg'
      have v0 := D5.out.head.cell 0
      clear hw5 kp1 kp2 kf1 y1 y2 y3 z1
      go_wp2_with fail
      go_still_tail 17, (by kernel_rfl)
      change wpList _ _ _ _ _ w5.drew
      go_wp2
      go_ret
      rw [show min (r.dur : Int) (n : Int) = ((min r.dur n : Nat) : Int) by omega]
      exact rtrunc_end HR.out U2.out U3.out N3.out hgo W4.out U1.out N1.out W5.out D5.out
end
end Go.Proofs.Ytmapijpphnlcmaa
