/- The reference disk: Sync, Remove, Rename, Read, Arm. No condition. -/
import Derived.Test.YtmapijpphnlcmaaRef4
import Derived.StillTailTactics
namespace Go.Proofs.Ytmapijpphnlcmaa
open Go.RowKit Go.Maps

theorem cellsR_dur {R : List RRec} {i : Nat} {r : RRec} (h : R[i]? = some r) (d : Nat) : cellsR (R.set i { r with dur := d }) = (cellsR R).set (i * 3 + 2) (.int .i64 d) := by
  induction R generalizing i with
  | nil => cases h
  | cons x R ih =>
    cases i with
    | zero => simp at h; subst h; simp [cellsR]
    | succ i =>
      have := ih (i := i) (by simpa using h)
      simp only [cellsR, List.set_cons_succ, List.flatMap_cons] at this ⊢
      rw [this, show (i + 1) * 3 + 2 = 3 + (i * 3 + 2) by omega, List.set_append_right _ _ (by simp)]
      simp
theorem cellsR_cont {R : List RRec} {i : Nat} {r : RRec} (h : R[i]? = some r) (cv : Value) (c : List UInt8) : cellsR (R.set i { r with cv := cv, c := c }) = (cellsR R).set (i * 3 + 1) cv := by
  induction R generalizing i with
  | nil => cases h
  | cons x R ih =>
    cases i with
    | zero => simp at h; subst h; simp [cellsR]
    | succ i =>
      have := ih (i := i) (by simpa using h)
      simp only [cellsR, List.set_cons_succ, List.flatMap_cons] at this ⊢
      rw [this, show (i + 1) * 3 + 1 = 3 + (i * 3 + 1) by omega, List.set_append_right _ _ (by simp)]
      simp

theorem Own.put {w : World} {e : TypeId} {size n g c : Nat} {xs : List Value} (h : Own w e size (.slice (some ⟨g, 0, none⟩) n c) n xs) {j : Nat} (_hj : j < n * size) (u : Value) : Own (w.setCell ⟨g, j, none⟩ u) e size (.slice (some ⟨g, 0, none⟩) n c) n (xs.set j u) := by
  refine ⟨by simpa using h.1, ?_⟩
  rcases h.2 with ⟨e1, _⟩ | ⟨g', cap, cur, e1, hb, hn, hc, hs, hx⟩
  · cases e1
  · injection e1 with e1 _ e3
    injection e1 with e1
    injection e1 with e1 _
    subst e1 e3
    refine .inr ⟨g, c, _, rfl, hb.put j u, hn, hc, by simpa using hs, ?_⟩
    rw [Array.toList_setIfInBounds, List.take_set, hx]

section
variable {w w' : World} {m : Nat} {off armed : Bool} {left : Nat} {lv : Value} {R : List RRec}

theorem mem_set {i : Nat} {r' x : RRec} (h : x ∈ R.set i r') : x = r' ∨ x ∈ R := by
  rcases List.mem_or_eq_of_mem_set h with h | h
  · exact .inr h
  · exact .inl h

theorem RefL.setDur {g c : Nat} (h : RefL w m off armed left (.slice (some ⟨g, 0, none⟩) R.length c) R) {i : Nat} {r : RRec} (hr : R[i]? = some r) (d : Nat) :
    RefL (w.setCell ⟨g, i * 3 + 2, none⟩ (.int .i64 d)) m off armed left (.slice (some ⟨g, 0, none⟩) R.length c) (R.set i { r with dur := d }) := by
  have hi : i < R.length := (List.getElem?_eq_some_iff.1 hr).1
  have hrm : r ∈ R := List.mem_of_getElem? hr
  have hu : Upd (fun k => k = g) w (w.setCell ⟨g, i * 3 + 2, none⟩ (.int .i64 d)) := (Upd.refl (fun k => k = g) w).setCell (p := ⟨g, i * 3 + 2, none⟩) (.inl rfl) _
  have hog : OwnB (.slice (some ⟨g, 0, none⟩) R.length c) g := by simp [OwnB, Value.ownBlock]
  have hcont : ∀ x ∈ R, Own (w.setCell ⟨g, i * 3 + 2, none⟩ (.int .i64 d)) 5 1 x.cv x.c.length (x.c.map byteV) := fun x hx => (h.cont x hx).upd hu (fun k hk e => by
    subst e
    rcases h.list.2 with ⟨e1, _⟩ | ⟨g', cap, cur, e1, hb, _⟩
    · cases e1
    · injection e1 with e1
      injection e1 with e1
      injection e1 with e1 _
      subst e1
      exact (h.cont x hx).blk_ne hb (by decide) hk)
  refine { head := hu.blk h.head (fun e => h.list.blk_ne h.head (by decide) (by rw [e]; exact hog)), list := ?_, cont := ?_, lft := h.lft, len := ?_, num := by simpa using h.num }
  · rw [cellsR_dur hr, List.length_set]
    exact h.list.put (by omega) _
  · intro x hx
    rcases mem_set hx with rfl | hx
    · exact hcont r hrm
    · exact hcont x hx
  · intro x hx
    rcases mem_set hx with rfl | hx
    · exact h.len r hrm
    · exact h.len x hx

theorem RefL.setCont {g c : Nat} (h : RefL w m off armed left (.slice (some ⟨g, 0, none⟩) R.length c) R) {i : Nat} {r : RRec} (hr : R[i]? = some r) (cv : Value) (c' : List UInt8) (ho : Own w 5 1 cv c'.length (c'.map byteV)) (hl : c'.length ≤ 1099511627776) :
    RefL (w.setCell ⟨g, i * 3 + 1, none⟩ cv) m off armed left (.slice (some ⟨g, 0, none⟩) R.length c) (R.set i { r with cv := cv, c := c' }) := by
  have hi : i < R.length := (List.getElem?_eq_some_iff.1 hr).1
  have hu : Upd (fun k => k = g) w (w.setCell ⟨g, i * 3 + 1, none⟩ cv) := (Upd.refl (fun k => k = g) w).setCell (p := ⟨g, i * 3 + 1, none⟩) (.inl rfl) _
  have hog : OwnB (.slice (some ⟨g, 0, none⟩) R.length c) g := by simp [OwnB, Value.ownBlock]
  have hkeep : ∀ {v : Value} {n : Nat} {xs : List Value}, Own w 5 1 v n xs → Own (w.setCell ⟨g, i * 3 + 1, none⟩ cv) 5 1 v n xs := fun {v n xs} hv => hv.upd hu (fun k hk e => by
    subst e
    rcases h.list.2 with ⟨e1, _⟩ | ⟨g', cap, cur, e1, hb, _⟩
    · cases e1
    · injection e1 with e1
      injection e1 with e1
      injection e1 with e1 _
      subst e1
      exact hv.blk_ne hb (by decide) hk)
  refine { head := hu.blk h.head (fun e => h.list.blk_ne h.head (by decide) (by rw [e]; exact hog)), list := ?_, cont := ?_, lft := h.lft, len := ?_, num := by simpa using h.num }
  · rw [cellsR_cont hr, List.length_set]
    exact h.list.put (by omega) _
  · intro x hx
    rcases mem_set hx with rfl | hx
    · exact hkeep ho
    · exact hkeep (h.cont x hx)
  · intro x hx
    rcases mem_set hx with rfl | hx
    · exact hl
    · exact h.len x hx

/-- The list of files has been copied. -/
theorem RefL.copied (h : RefL w m off armed left lv R) {w1 : World} {A : Option Addr} {c : Nat} (hu : Upd NoF w w1) (ho : Own w1 89 3 (.slice A R.length c) R.length (cellsR R)) (hN : ∀ k, OwnB (.slice A R.length c) k → w.heap.size ≤ k) :
    RefL (w1.setCell ⟨m, 0, none⟩ (.slice A R.length c)) m off armed left (.slice A R.length c) R := by
  have hm := h.head.lt
  have hu1 : Upd (fun k => k = m) w1 (w1.setCell ⟨m, 0, none⟩ (.slice A R.length c)) := (Upd.refl (fun k => k = m) w1).setCell (p := ⟨m, 0, none⟩) (.inl rfl) _
  exact { head := (hu.blk h.head (fun h => h)).put 0 _, list := ho.upd hu1 (fun k hk e => by have := hN k hk; omega), cont := fun x hx => ((h.cont x hx).upd hu (fun _ _ h => h)).upd hu1 (fun k hk e => (h.cont x hx).ne_of h.head (by decide) hk e), lft := h.lft, len := h.len, num := h.num }

theorem RefL.at_ {A : Option Addr} {n c : Nat} (h : RefL w m off armed left (.slice A n c) R) {i : Nat} {r : RRec} (hr : R[i]? = some r) : ∃ g, A = some ⟨g, 0, none⟩ ∧ n = R.length ∧ R.length ≤ c ∧ c ≤ 9223372036854775807 ∧ g ≠ m ∧ OwnB (.slice A n c) g ∧
    w.cell? ⟨g, i * 3, none⟩ = some (strV r.nm) ∧ w.cell? ⟨g, i * 3 + 1, none⟩ = some r.cv ∧ w.cell? ⟨g, i * 3 + 2, none⟩ = some (.int .i64 r.dur) ∧ w.frozen? ⟨g, i * 3 + 1, none⟩ = false ∧ w.frozen? ⟨g, i * 3 + 2, none⟩ = false := by
  have hi : i < R.length := (List.getElem?_eq_some_iff.1 hr).1
  obtain ⟨A', c', e1, h1, h2, h3⟩ := h.form
  injection e1 with ea en ec
  subst ea en ec
  obtain ⟨g, hA, hg, hc⟩ := h3 (by omega)
  obtain ⟨y0, y1, y2⟩ := hc i r hr
  have hne : g ≠ m := fun e => h.list.blk_ne h.head (by decide) (by rw [← e]; exact hg)
  rcases h.list.2 with ⟨e1, _⟩ | ⟨g', cap, cur, e1, hb, _⟩
  · rw [hA] at e1; cases e1
  · rw [hA] at e1
    injection e1 with e1
    injection e1 with e1
    injection e1 with e1 _
    subst e1
    exact ⟨g, hA, rfl, h1, h2, hne, hg, y0, y1, y2, hb.frozen _, hb.frozen _⟩

def RPost (w : World) (m : Nat) (off armed : Bool) (left : Nat) (lv : Value) (R R' : List RRec) (code : Int) (e : Ending) (w' : World) : Prop :=
  e = retE code ∧ ∃ lv', RefL w' m off armed left lv' R' ∧ Upd (fun k => k = m) w w' ∧ ∀ k, refFoot m lv' R' k → refFoot m lv R k ∨ w.heap.size ≤ k

theorem RefL.drew (h : RefL w m off armed left lv R) : RefL w.drew m off armed left lv R := h.upd (F := NoF) (Upd.refl NoF w).drew (fun _ _ h => h)

/-- The frame after a copy of the list and one write into the copy. -/
theorem RPost.mk {off2 armed2 off3 : Bool} {left2 : Nat} {lv' lvo : Value} {i j g : Nat} {r r' : RRec} {w2 w3 w4 : World} {u : Value} (_ : RefL w4 m off3 armed2 left2 lv' R) (hr : R[i]? = some r) (hcv : r'.cv = r.cv) (hoff : off3 = off2)
    (hu2 : Upd (fun k => k = m) w w2) (hu3 : Upd NoF w2 w3) (hN : ∀ k, OwnB lv' k → w2.heap.size ≤ k) (hgo : OwnB lv' g) (hw4 : w4 = w3.setCell ⟨m, 0, none⟩ lv')
    (hd : RefL (w4.setCell ⟨g, j, none⟩ u) m off3 armed2 left2 lv' (R.set i r')) :
    RPost w m off2 armed2 left2 lvo R (R.set i r') 0 (retE 0) (w4.setCell ⟨g, j, none⟩ u).drew := by
  subst hoff
  refine ⟨rfl, lv', hd.drew, ?_, ?_⟩
  · have h4 : Upd (fun k => k = m) w w4 := by
      rw [hw4]
      exact (hu2.trans hu3 (fun _ _ h => h.elim)).setCell (p := ⟨m, 0, none⟩) (.inl rfl) _
    exact (h4.setCell (p := ⟨g, j, none⟩) (.inr (Nat.le_trans hu2.size (hN g hgo))) _).drew
  · intro k hk
    rcases hk with hk | hk | ⟨x, hx, hk⟩
    · exact .inl (.inl hk)
    · exact .inr (Nat.le_trans hu2.size (hN k hk))
    · rcases mem_set hx with rfl | hx
      · rw [hcv] at hk
        exact .inl (.inr (.inr ⟨r, List.mem_of_getElem? hr, hk⟩))
      · exact .inl (.inr (.inr ⟨x, hx, hk⟩))

theorem idx_at {nm : List UInt8} {i : Nat} (h : idxR R nm = i) : ∃ r, R[i]? = some r ∧ r.nm = nm := by
  unfold idxR at h
  cases hf : R.findIdx? (fun r => r.nm == nm) with
  | none => rw [hf] at h; simp at h
  | some j =>
    rw [hf] at h
    obtain rfl : j = i := by have h2 : (j:Int) = i := by { simpa using h }; omega
    obtain ⟨hj, h1, _⟩ := List.findIdx?_eq_some_iff_getElem.1 hf
    exact ⟨R[j], List.getElem?_eq_getElem hj, by simpa using h1⟩

set_option maxRecDepth 100000 in
set_option maxHeartbeats 2000000 in
theorem rsync_yes (h : RefL w m false armed left lv R) (nm : List UInt8) (hn : nm.isEmpty = false) (i : Nat) (hi : idxR R nm = i) (r : RRec) (hr : R[i]? = some r) (hwb : wrB armed left = true) :
    Calls Try.prog 51 #[ptrV m, strV nm] w (RPost w m false armed (wrL armed left) lv R (R.set i { r with dur := r.c.length }) 0) := by
  have c3 : w.cell? ⟨m, 3, none⟩ = some (.bool false) := h.head.cell 3
  have hil : i < R.length := (List.getElem?_eq_some_iff.1 hr).1
  have FI := find_any h nm
  rw [hi] at FI
  have HF := Lib.hid FI
  have FA := fails_any h
  rw [hwb] at FA
  have HA := Lib.hid FA
  have H := Lib.hid h
  have HR := Lib.hid hr
  obtain ⟨i0, hi0, hz0, hz1, hz2⟩ := info_parts file_info
  have hnum := h.num
  obtain ⟨A, c, hlv, hnc, hc, _⟩ := h.form
  subst hlv
  obtain ⟨Av, cv, hcvf⟩ := (h.cont r (List.mem_of_getElem? hr)).form
  have HCV := Lib.hid hcvf
  have t1 : decide ((i : Int) < 0) = false := by simp
  clear h FI FA hi hwb hr hcvf
  go_enter Try.func51, Try.ntmps51
  go_wp2_with (first
    | (go_at_call 54; refine HF.out.mono ?_; rintro e w' ⟨rfl, rfl⟩)
    | (go_at_call 65; refine HA.out.mono ?_; rintro e w2 ⟨rfl, hd2, hu2⟩; have d0 := hd2.head.cell 0; have hmz := hd2.head.lt; have D2 := Lib.hid hd2; have U2 := Lib.hid hu2; clear hd2 hu2)
    | (at_builtin; refine wpList_append_new _ rfl (.tmp 20) (.tmp 24) 41 rfl 89 i0 _ 3 48 Try.underlying41 hi0 hz0 hz1 hz2 rfl (.slice (some ⟨w2.heap.size, 0, none⟩) 0 0) rfl (Own.fresh w2 _ _) (.slice A R.length c) R.length (cellsR R) rfl (D2.out.list.upd ((Upd.refl NoF w2).alloc _) (fun _ _ h => h)).rd (cellsR_one D2.out.cont) (by unfold maxLen; omega) (by omega) ?_; intro A1 c1 w3 hown1 hupd1 hnew1; have hU3 : Upd NoF w2 w3 := ((Upd.refl NoF w2).alloc _).trans hupd1 (fun k hk e => by simp [OwnB, Value.ownBlock] at e; omega); have hN : ∀ k, OwnB (.slice A1 R.length c1) k → w2.heap.size ≤ k := (fun k hk => by rcases hnew1 k hk with e | e; (simp [OwnB, Value.ownBlock] at e; omega); (simp at e; omega)); have D3 := Lib.hid (RefL.copied D2.out hU3 hown1 hN); have x0 := (hU3.blk D2.out.head (fun h => h)).cell 0; have x1 := (hU3.blk D2.out.head (fun h => h)).frozen 0; have U3 := Lib.hid hU3; have N3 := Lib.hid hN; clear hown1 hupd1 hnew1 hU3 hN d0))
  obtain ⟨w4, hw4⟩ : ∃ w4, w4 = w3.setCell ⟨m, 0, none⟩ (.slice A1 R.length c1) := ⟨_, rfl⟩
  rw [← hw4] at D3 ⊢
  obtain ⟨g, hA, -, hnc1, hc1, hgm, hgo, y0, y1, y2, z1, z2⟩ := D3.out.at_ HR.out
  subst hA
  rw [HCV.out] at y1
  have y3 := D3.out.head.cell 0
  have t2 : (0:Int) ≤ i := by omega
  have t3 : (i:Int) < R.length := by omega
  have W4 := Lib.hid hw4
  clear y0 hw4 x0 x1
  go_still_tail 16, (by kernel_rfl)
  change wpList _ _ _ _ _ w4.drew
  go_wp2
  go_ret
  exact RPost.mk (by simpa using D3.out) HR.out rfl rfl U2.out U3.out N3.out hgo W4.out (D3.out.setDur HR.out _)
end
end Go.Proofs.Ytmapijpphnlcmaa
