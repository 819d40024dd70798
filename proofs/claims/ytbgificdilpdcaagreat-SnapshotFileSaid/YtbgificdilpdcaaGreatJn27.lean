/- ReadSnapshot of the reference. Conditions: sizes. The reference disk: Files. No condition but the number of files. The reference disk's crash: plain facts. No condition. The reference disk: Crash. Conditions: every durable part lies within its file; the number of files. The reference disk: the walk through Crash. Conditions as in RefE. -/
import Derived.Test.YtbgificdilpdcaaGreatJn24
import Derived.Test.YtbgificdilpdcaaGreatJn23
import Derived.Test.YtbgificdilpdcaaGreatJn26
import Derived.Test.YtbgificdilpdcaaGreatJn5
import Derived.BigRegion
import Derived.StillTailTactics
namespace Go.Proofs.YtbgificdilpdcaaGreat
section
open Go.RowKit

theorem RefAt.upd32 {w w' : World} {m : Nat} {s : DSt} {F G : Nat → Prop} (h : RefAt w m s F) (hu : Upd G w w') (hG : ∀ k, F k → ¬ G k) : RefAt w' m s F := by
  obtain ⟨lv, R, a, b, rfl⟩ := h
  exact ⟨lv, R, a.upd hu hG, b, rfl⟩
theorem RefAt.lt32 {w : World} {m : Nat} {s : DSt} {F : Nat → Prop} (h : RefAt w m s F) {k : Nat} (hk : F k) : k < w.heap.size := by
  obtain ⟨lv, R, a, b, rfl⟩ := h
  exact a.foot_lt hk
theorem RefAt.mem32 {w : World} {m : Nat} {s : DSt} {F : Nat → Prop} (h : RefAt w m s F) : F m := by
  obtain ⟨lv, R, a, b, rfl⟩ := h
  exact .inl rfl
theorem DecodeView_of {w : World} {v : Value} {bs : List UInt8} (hr : Rd w 1 v bs.length (bs.map byteV)) (hm : bs.length ≤ 1000000000) (hq : bs.length ≤ 2000000 ∨ ∃ V, decodeS bs = some V ∧ V.votes.length ≤ 1000000 ∧ V.texts.length ≤ 1000000) : Calls Tryz.prog 13 #[v] w (DecPost w (decodeS bs)) := by
  rcases Nat.lt_or_ge bs.length 4 with h | h
  · exact DecodeView_short hr h
  · exact DecodeView_long hr h hm hq
set_option maxRecDepth 100000 in
set_option maxHeartbeats 8000000 in
theorem ReadSnapshot_any {w : World} {F : Nat → Prop} {d : Nat} {s : DSt} (h : RefAt w d s F) (nm : List UInt8) (hb : (sRead s nm).1.length ≤ 1000000000) (hq : (sRead s nm).1.length ≤ 2000000 ∨ ∃ V, decodeS (sRead s nm).1 = some V ∧ V.votes.length ≤ 1000000 ∧ V.texts.length ≤ 1000000) : Calls Tryz.prog 23 #[ptrV d, strV nm] w (SnReadPost w (sReadV s nm)) := by
  have UW := Lib.hid ((Upd.refl NoF w).alloc (.cells nil2 25))
  have BW := Lib.hid (Blk.new w 25 nil2)
  obtain ⟨W1, hW1⟩ : ∃ x, x = w.alloc (.cells nil2 25) := ⟨_, rfl⟩
  rw [← hW1] at UW BW
  have CR := Lib.hid (rread_spec (h.upd32 UW.out (fun _ _ f => f)) nm)
  have SR := Lib.hid (sReadV_eq s nm)
  have hR1 : w.heap.size < W1.heap.size := BW.out.lt
  clear h
  go_enter Tryz.func23, Tryz.ntmps23
  go_wp2_with fail
  rw [← hW1]
  clear hW1
  refine CR.out.mono ?_
  rintro e w2 ⟨A2, c2, rfl, hn2⟩
  have B2 := Lib.hid (hn2.2.2.blk BW.out (fun f => f))
  have U2 := Lib.hid (UW.out.trans hn2.2.2 (fun _ _ f => f))
  have R2 := Lib.hid hn2.1.rd
  have hR2 : w.heap.size < w2.heap.size := B2.out.lt
  clear hn2 CR
  obtain ⟨⟨bs, ec⟩, hr⟩ : ∃ x, sRead s nm = x := ⟨_, rfl⟩
  rw [hr] at R2 SR hb hq ⊢
  simp only at R2 SR hb hq
  clear hr
  by_cases h0 : ec = 0
  rotate_left
  · have t0 : decide (ec = 0) = false := by simp [h0]
    have t0' : (ec == 0) = false := by simp [h0]
    rw [if_pos h0] at SR
    have x0 : w2.cell? ⟨w.heap.size, 0, none⟩ = some (.slice none 0 0) := B2.out.cell 0; have x1 : w2.cell? ⟨w.heap.size, 1, none⟩ = some (.slice none 0 0) := B2.out.cell 1; have x2 : w2.frozen? ⟨w.heap.size, 0, none⟩ = false := B2.out.frozen 0; have x3 : w2.frozen? ⟨w.heap.size, 1, none⟩ = false := B2.out.frozen 1
    go_wp2
    refine bodyPost_ret (results_cell_tmp Tryz.results23 _ _ w.heap.size [.slice none 0 0, .slice none 0 0] _ rfl (range_blk ((B2.out.put 0 (.slice none 0 0)).put 1 (.slice none 0 0))) Tryz.underlying25 rfl (by rw [view_size]; rfl)) rfl ?_
    rw [SR.out]
    exact ⟨rfl, (U2.out.setCell (p := ⟨w.heap.size, 0, none⟩) (.inr (Nat.le_refl _)) _).setCell (p := ⟨w.heap.size, 1, none⟩) (.inr (Nat.le_refl _)) _⟩
  subst h0
  rw [if_neg (by decide)] at SR
  have CD := Lib.hid (DecodeView_of R2.out hb hq)
  go_wp2_with fail
  refine CD.out.mono ?_
  cases hd : decodeS bs with
  | none =>
    rw [hd] at SR
    clear hd CD
    rintro e w3 ⟨rfl, hu3⟩
    have B3 := Lib.hid (hu3.blk B2.out (fun f => f))
    have U3 := Lib.hid (U2.out.trans hu3 (fun _ _ f => f))
    have hR3 : w.heap.size < w3.heap.size := B3.out.lt
    clear hu3
    go_wp2_with (first
      | (refine wpList_alloc_row rfl 25 rfl nil2 alloc_view ?_; intro w4 hb4 hu4 hs4; have B4 := Lib.hid hb4; have U4 := Lib.hid hu4; have BR4 := Lib.hid (hu4.blk B3.out (fun f => f)); have y0 : w4.cell? ⟨w3.heap.size, 0, none⟩ = some (.slice none 0 0) := hb4.cell 0; have y1 : w4.cell? ⟨w3.heap.size, 1, none⟩ = some (.slice none 0 0) := hb4.cell 1; have y2 : w4.frozen? ⟨w3.heap.size, 0, none⟩ = false := hb4.frozen 0; have y3 : w4.frozen? ⟨w3.heap.size, 1, none⟩ = false := hb4.frozen 1; have x0 : w4.cell? ⟨w.heap.size, 0, none⟩ = some (.slice none 0 0) := BR4.out.cell 0; have x1 : w4.cell? ⟨w.heap.size, 1, none⟩ = some (.slice none 0 0) := BR4.out.cell 1; have x2 : w4.frozen? ⟨w.heap.size, 0, none⟩ = false := BR4.out.frozen 0; have x3 : w4.frozen? ⟨w.heap.size, 1, none⟩ = false := BR4.out.frozen 1; clear hb4 hu4 hs4))
    have RB1 := Lib.hid (show ∀ x y p q, Blk ((((w4.setCell ⟨w.heap.size, 0, none⟩ x).setCell ⟨w.heap.size, 1, none⟩ y).setCell ⟨w3.heap.size, 0, none⟩ p).setCell ⟨w3.heap.size, 1, none⟩ q) w.heap.size 25 #[x, y] from fun x y p q => (((Upd.refl (fun k => k = w3.heap.size) _).setCell (p := ⟨w3.heap.size, 0, none⟩) (.inl rfl) p).setCell (p := ⟨w3.heap.size, 1, none⟩) (.inl rfl) q).blk ((BR4.out.put 0 x).put 1 y) (fun e => by have e : w.heap.size = w3.heap.size := e; omega))
    have RB2 := Lib.hid (show ∀ x y p q, Blk ((((w4.setCell ⟨w3.heap.size, 0, none⟩ p).setCell ⟨w3.heap.size, 1, none⟩ q).setCell ⟨w.heap.size, 0, none⟩ x).setCell ⟨w.heap.size, 1, none⟩ y) w.heap.size 25 #[x, y] from fun x y p q => (((((Upd.refl (fun k => k = w3.heap.size) w4).setCell (p := ⟨w3.heap.size, 0, none⟩) (.inl rfl) p).setCell (p := ⟨w3.heap.size, 1, none⟩) (.inl rfl) q).blk BR4.out (fun e => by have e : w.heap.size = w3.heap.size := e; omega)).put 0 x).put 1 y)
    refine bodyPost_ret (results_cell_tmp Tryz.results23 _ _ w.heap.size [.slice none 0 0, .slice none 0 0] _ rfl (range_blk (RB2.out _ _ _ _)) Tryz.underlying25 rfl (by rw [view_size]; rfl)) rfl ?_
    rw [SR.out]
    refine ⟨rfl, ?_⟩
    exact ((((U3.out.trans U4.out (fun _ _ f => f)).setCell (p := ⟨w3.heap.size, 0, none⟩) (.inr (Nat.le_of_lt hR3)) _).setCell (p := ⟨w3.heap.size, 1, none⟩) (.inr (Nat.le_of_lt hR3)) _).setCell (p := ⟨w.heap.size, 0, none⟩) (.inr (Nat.le_refl _)) _).setCell (p := ⟨w.heap.size, 1, none⟩) (.inr (Nat.le_refl _)) _
  | some V =>
    rw [hd] at SR
    clear hd CD
    rintro e w3 ⟨a, b, rfl, hv3, hu3⟩
    have V3 := Lib.hid hv3
    obtain ⟨Aa, ca, rfl, -, -⟩ := (hv3 w3 (Upd.refl _ _)).1.form
    obtain ⟨Ab, cb, rfl, -, -⟩ := (hv3 w3 (Upd.refl _ _)).2.form
    have B3 := Lib.hid (hu3.blk B2.out (fun f => f))
    have U3 := Lib.hid (U2.out.trans hu3 (fun _ _ f => f))
    have hR3 : w.heap.size < w3.heap.size := B3.out.lt
    have hs3 := hu3.size
    have hs2 := U2.out.size
    clear hu3 hv3
    go_wp2_with (first
      | (refine wpList_alloc_row rfl 25 rfl nil2 alloc_view ?_; intro w4 hb4 hu4 hs4; have B4 := Lib.hid hb4; have U4 := Lib.hid hu4; have BR4 := Lib.hid (hu4.blk B3.out (fun f => f)); have y0 : w4.cell? ⟨w3.heap.size, 0, none⟩ = some (.slice none 0 0) := hb4.cell 0; have y1 : w4.cell? ⟨w3.heap.size, 1, none⟩ = some (.slice none 0 0) := hb4.cell 1; have y2 : w4.frozen? ⟨w3.heap.size, 0, none⟩ = false := hb4.frozen 0; have y3 : w4.frozen? ⟨w3.heap.size, 1, none⟩ = false := hb4.frozen 1; have x0 : w4.cell? ⟨w.heap.size, 0, none⟩ = some (.slice none 0 0) := BR4.out.cell 0; have x1 : w4.cell? ⟨w.heap.size, 1, none⟩ = some (.slice none 0 0) := BR4.out.cell 1; have x2 : w4.frozen? ⟨w.heap.size, 0, none⟩ = false := BR4.out.frozen 0; have x3 : w4.frozen? ⟨w.heap.size, 1, none⟩ = false := BR4.out.frozen 1; clear hb4 hu4 hs4))
    have RB1 := Lib.hid (show ∀ x y p q, Blk ((((w4.setCell ⟨w.heap.size, 0, none⟩ x).setCell ⟨w.heap.size, 1, none⟩ y).setCell ⟨w3.heap.size, 0, none⟩ p).setCell ⟨w3.heap.size, 1, none⟩ q) w.heap.size 25 #[x, y] from fun x y p q => (((Upd.refl (fun k => k = w3.heap.size) _).setCell (p := ⟨w3.heap.size, 0, none⟩) (.inl rfl) p).setCell (p := ⟨w3.heap.size, 1, none⟩) (.inl rfl) q).blk ((BR4.out.put 0 x).put 1 y) (fun e => by have e : w.heap.size = w3.heap.size := e; omega))
    have RB2 := Lib.hid (show ∀ x y p q, Blk ((((w4.setCell ⟨w3.heap.size, 0, none⟩ p).setCell ⟨w3.heap.size, 1, none⟩ q).setCell ⟨w.heap.size, 0, none⟩ x).setCell ⟨w.heap.size, 1, none⟩ y) w.heap.size 25 #[x, y] from fun x y p q => (((((Upd.refl (fun k => k = w3.heap.size) w4).setCell (p := ⟨w3.heap.size, 0, none⟩) (.inl rfl) p).setCell (p := ⟨w3.heap.size, 1, none⟩) (.inl rfl) q).blk BR4.out (fun e => by have e : w.heap.size = w3.heap.size := e; omega)).put 0 x).put 1 y)
    refine bodyPost_ret (results_cell_tmp Tryz.results23 _ _ w.heap.size [.slice Aa V.votes.length ca, .slice Ab V.texts.length cb] _ rfl (range_blk (RB2.out _ _ _ _)) Tryz.underlying25 rfl (by rw [view_size]; rfl)) rfl ?_
    rw [SR.out]
    refine ⟨_, _, rfl, fun w9 h9 => V3.out w9 (Upd.trans (F := fun k => k < w2.heap.size) ?_ h9 (fun k _ f => Nat.lt_of_lt_of_le (show k < w.heap.size from f) hs2)), ?_⟩
    · exact ((((U4.out.mono (fun _ _ f => f.elim)).setCell (p := ⟨w3.heap.size, 0, none⟩) (.inr (Nat.le_refl _)) _).setCell (p := ⟨w3.heap.size, 1, none⟩) (.inr (Nat.le_refl _)) _).setCell (p := ⟨w.heap.size, 0, none⟩) (.inl hR2) _).setCell (p := ⟨w.heap.size, 1, none⟩) (.inl hR2) _
    · exact ((((U3.out.trans U4.out (fun _ _ f => f)).setCell (p := ⟨w3.heap.size, 0, none⟩) (.inr (Nat.le_of_lt hR3)) _).setCell (p := ⟨w3.heap.size, 1, none⟩) (.inr (Nat.le_of_lt hR3)) _).setCell (p := ⟨w.heap.size, 0, none⟩) (.inr (Nat.le_refl _)) _).setCell (p := ⟨w.heap.size, 1, none⟩) (.inr (Nat.le_refl _)) _
end

section
open Go.RowKit Go.Maps

def FilesRel (w : World) (R : List RRec) (out i : Value) (wr : World) : Prop :=
  ∃ k : Nat, k ≤ R.length ∧ i = .int .i64 k ∧ ∃ A c, out = .slice A k c ∧ Own wr 9 1 (.slice A k c) k (((R.map (·.nm)).take k).map strV) ∧ (∀ j, OwnB (.slice A k c) j → w.heap.size ≤ j) ∧ Upd NoF w wr

theorem FilesRel.next {w wr w1 : World} {R : List RRec} {k : Nat} {r : RRec} {A A' : Option Addr} {c c' : Nat} {o : Obj} (hr : R[k]? = some r) (hN : ∀ j, OwnB (.slice A k c) j → w.heap.size ≤ j) (hU : Upd NoF w wr)
    (ho : Own w1 9 1 (.slice A' (k + 1) c') (k + 1) (((R.map (·.nm)).take k).map strV ++ [strV r.nm])) (hu1 : Upd (OwnB (.slice A k c)) (wr.alloc o) w1) (hN1 : ∀ j, OwnB (.slice A' (k + 1) c') j → OwnB (.slice A k c) j ∨ (wr.alloc o).heap.size ≤ j) :
    FilesRel w R (.slice A' (k + 1) c') (.int .i64 ((k + 1 : Nat) : Int)) w1 := by
  have hk : k < R.length := (List.getElem?_eq_some_iff.1 hr).1
  refine ⟨k + 1, by omega, rfl, A', c', rfl, ?_, ?_, (hU.alloc _).trans hu1 (fun j hj e => by have := hN j e; omega)⟩
  · have e1 : ((R.map (·.nm)).take (k + 1)).map strV = ((R.map (·.nm)).take k).map strV ++ [strV r.nm] := by
      rw [List.take_add_one, List.getElem?_map, hr]
      simp
    rw [e1]
    exact ho
  · intro j hj
    rcases hN1 j hj with e | e
    · exact hN j e
    · have := hU.size
      simp at e
      omega

section
variable {w w' : World} {m : Nat} {off armed : Bool} {left : Nat} {lv : Value} {R : List RRec}

end
end

section
open Go.RowKit Go.Maps

theorem below_drop (picks : List Int) (i n : Nat) : below (picks.drop i) n = ((((picks[i]?.getD 0) % (n : Int)).toNat), picks.drop (i + 1)) := by
  by_cases h : i < picks.length
  · rw [List.drop_eq_getElem_cons h]
    simp [below, h]
  · rw [List.drop_eq_nil_of_le (by omega), List.drop_eq_nil_of_le (by omega)]
    simp [below, h]

theorem flip_map {c : List UInt8} {b : UInt8} (hb : c[c.length - 1]? = some b) : (c.map byteV).set (c.length - 1) (byteV (b ^^^ 255)) = (flipLast c).map byteV := by
  unfold flipLast
  rw [← List.map_set]
  congr 1
  apply List.ext_getElem?
  intro i
  rw [List.getElem?_set, List.getElem?_modify]
  have hl := (List.getElem?_eq_some_iff.1 hb).1
  split
  · rename_i h
    subst h
    rw [hb]
    simp
  · simp

theorem zeroLast_zero (c : List UInt8) : zeroLast 0 c = c := by simp [zeroLast]
theorem zeroLast_len {j : Nat} {c : List UInt8} (h : j ≤ c.length) : (zeroLast j c).length = c.length := by simp [zeroLast]; omega
theorem zero_map {c : List UInt8} {j : Nat} (h : j < c.length) : ((zeroLast j c).map byteV).set (c.length - 1 - j) (byteV 0) = (zeroLast (j + 1) c).map byteV := by
  rw [← List.map_set]
  congr 1
  unfold zeroLast
  have e1 : c.take (c.length - j) = c.take (c.length - (j + 1)) ++ [c[c.length - (j + 1)]] := by
    rw [show c.length - j = c.length - (j + 1) + 1 by omega, List.take_succ_eq_append_getElem (by omega)]
  rw [e1, List.append_assoc, List.set_append_right _ _ (by simp; omega)]
  congr 1
  rw [show c.length - 1 - j - (c.take (c.length - (j + 1))).length = 0 by simp; omega]
  rfl
end

section
open Go.RowKit Go.Maps

/-- k files have been through the crash. -/
def CrR (w : World) (m : Nat) (lv lv' : Value) (R : List RRec) (picks : List Int) (at_ i : Value) (wr : World) : Prop :=
  ∃ (k a : Nat) (R' : List RRec), k ≤ R.length ∧ i = .int .i64 k ∧ at_ = .int .i64 a ∧ a ≤ 2 * k ∧ RefL wr m false false 0 lv' R' ∧ R'.map absRR = (crashRun picks (R.map absRR) k).1 ∧ (crashRun picks (R.map absRR) k).2 = picks.drop a ∧
    Upd (fun j => j = m) w wr ∧ ∀ j, refFoot m lv' R' j → refFoot m lv R j ∨ w.heap.size ≤ j

def RCrashPost (w : World) (m : Nat) (lv : Value) (R : List RRec) (picks : List Int) (e : Ending) (w' : World) : Prop :=
  e = .returned (.tuple #[]) ∧ ∃ lv' R', RefL w' m false false 0 lv' R' ∧ R'.map absRR = crashL picks (R.map absRR) ∧ Upd (fun j => j = m) w w' ∧ ∀ j, refFoot m lv' R' j → refFoot m lv R j ∨ w.heap.size ≤ j

section
variable {w wr w' : World} {m : Nat} {off armed : Bool} {left : Nat} {lv lv' : Value} {R R' : List RRec} {picks : List Int}

theorem CrR.len {k : Nat} (h : R'.map absRR = (crashRun picks (R.map absRR) k).1) : R'.length = R.length := by
  have := congrArg List.length h
  rw [crashRun_len] at this
  simpa using this

theorem CrR.at_ {k : Nat} {r : RRec} (h : R'.map absRR = (crashRun picks (R.map absRR) k).1) (hr : R'[k]? = some r) : (R.map absRR)[k]? = some (r.nm, ⟨r.c, r.dur⟩) := by
  have h1 := crashRun_at k picks (R.map absRR)
  rw [← h, List.getElem?_map, hr] at h1
  exact h1.symm

/-- One more file, nothing to do. -/
theorem CrR.skip {k a : Nat} {r : RRec} (hk : k < R.length) (ha : a ≤ 2 * k) (hD : RefL w' m false false 0 lv' R') (h1 : R'.map absRR = (crashRun picks (R.map absRR) k).1) (h2 : (crashRun picks (R.map absRR) k).2 = picks.drop a) (hr : R'[k]? = some r) (h0 : r.c.length - r.dur = 0)
    (hU : Upd (fun j => j = m) w w') (hF : ∀ j, refFoot m lv' R' j → refFoot m lv R j ∨ w.heap.size ≤ j) : CrR w m lv lv' R picks (.int .i64 a) (.int .i64 ((k + 1 : Nat) : Int)) w' := by
  have hs := crashRun_succ k picks (R.map absRR) r.nm ⟨r.c, r.dur⟩ (CrR.at_ h1 hr)
  have hc : ∀ ps, crashF ps ⟨r.c, r.dur⟩ = (⟨r.c, r.dur⟩, ps) := fun ps => by simp [crashF, h0]
  rw [hc] at hs
  refine ⟨k + 1, a, R', by omega, rfl, rfl, by omega, hD, ?_, by rw [hs]; exact h2, hU, hF⟩
  rw [hs, ← h1]
  simp only
  apply List.ext_getElem?
  intro i
  rw [List.getElem?_set]
  split
  · rename_i h
    subst h
    have : k < (R'.map absRR).length := by rw [List.length_map]; exact (List.getElem?_eq_some_iff.1 hr).1
    rw [if_pos this, List.getElem?_map, hr]
    rfl
  · rfl

/-- One more file, its content made anew. -/
theorem CrR.turn {k a : Nat} {r : RRec} {cv : Value} {c' : List UInt8} {g cl : Nat} {w6 : World} (hk : k < R.length) (ha : a ≤ 2 * k) (hlv : lv' = .slice (some ⟨g, 0, none⟩) R'.length cl) (hD : RefL w6 m false false 0 lv' R') (h1 : R'.map absRR = (crashRun picks (R.map absRR) k).1) (h2 : (crashRun picks (R.map absRR) k).2 = picks.drop a) (hr : R'[k]? = some r)
    (h0 : ¬ r.c.length - r.dur = 0) (ho : Own w6 5 1 cv c'.length (c'.map byteV)) (hcl : c'.length ≤ 1099511627776)
    (hc : c' = damaged ((picks[a + 1]?.getD 0 % 3).toNat) ((picks[a]?.getD 0 % ((r.c.length - r.dur + 1 : Nat) : Int)).toNat) (r.c.take (r.dur + (picks[a]?.getD 0 % ((r.c.length - r.dur + 1 : Nat) : Int)).toNat)))
    (hcn : c'.length = r.dur + (picks[a]?.getD 0 % ((r.c.length - r.dur + 1 : Nat) : Int)).toNat)
    (hU : Upd (fun j => j = m) w w6) (hg : w.heap.size ≤ g) (hF : ∀ j, refFoot m lv' R' j → refFoot m lv R j ∨ w.heap.size ≤ j) (hN : ∀ j, OwnB cv j → w.heap.size ≤ j) :
    CrR w m lv lv' R picks (.int .i64 ((a + 2 : Nat) : Int)) (.int .i64 ((k + 1 : Nat) : Int)) ((w6.setCell ⟨g, k * 3 + 1, none⟩ cv).setCell ⟨g, k * 3 + 2, none⟩ (.int .i64 (c'.length : Int))) := by
  subst hlv
  have hk' : k < R'.length := (List.getElem?_eq_some_iff.1 hr).1
  have hs := crashRun_succ k picks (R.map absRR) r.nm ⟨r.c, r.dur⟩ (CrR.at_ h1 hr)
  have hcr : crashF (picks.drop a) ⟨r.c, r.dur⟩ = (⟨c', c'.length⟩, picks.drop (a + 2)) := by
    unfold crashF
    simp only [h0, if_false]
    rw [below_drop]
    simp only
    rw [below_drop]
    simp only
    rw [hcn, hc]
    rfl
  rw [h2, hcr] at hs
  have hD1 := hD.setCont hr cv c' ho hcl
  have hx : (R'.set k { r with cv := cv, c := c' })[k]? = some { r with cv := cv, c := c' } := by simp [hk']
  have hD1' : RefL (w6.setCell ⟨g, k * 3 + 1, none⟩ cv) m false false 0 (.slice (some ⟨g, 0, none⟩) (R'.set k { r with cv := cv, c := c' }).length cl) (R'.set k { r with cv := cv, c := c' }) := by rw [List.length_set]; exact hD1
  have hD2 := hD1'.setDur hx c'.length
  rw [List.length_set] at hD2
  refine ⟨k + 1, a + 2, _, by omega, rfl, rfl, by omega, hD2, ?_, by rw [hs], (hU.setCell (p := ⟨g, k * 3 + 1, none⟩) (.inr hg) _).setCell (p := ⟨g, k * 3 + 2, none⟩) (.inr hg) _, ?_⟩
  · rw [hs, ← h1]
    simp [List.map_set, absRR]
  · rintro j (hj | hj | ⟨x, hx, hj⟩)
    · exact .inl (.inl hj)
    · exact hF j (.inr (.inl hj))
    · rcases mem_set hx with rfl | hx
      · exact .inr (hN j hj)
      · rcases mem_set hx with rfl | hx
        · exact .inr (hN j hj)
        · exact hF j (.inr (.inr ⟨x, hx, hj⟩))
end
end

section
open Go.RowKit Go.Maps

section
variable {w wr w' : World} {m : Nat} {off armed : Bool} {left : Nat} {lv lv' : Value} {R R' : List RRec} {picks : List Int}

theorem own_last {w : World} {A : Option Addr} {n c : Nat} {bs : List UInt8} {b : UInt8} (h : Own w 5 1 (.slice A n c) n (bs.map byteV)) (hl : bs.length = n) (h0 : 0 < n) (hb : bs[bs.length - 1]? = some b) : ∃ g, A = some ⟨g, 0, none⟩ ∧ w.cell? ⟨g, n - 1, none⟩ = some (byteV b) ∧ w.frozen? ⟨g, n - 1, none⟩ = false := by
  rcases h.2 with ⟨_, e⟩ | ⟨g, cap, cur, e, hB, hn, hc, hs, hx⟩
  · omega
  · injection e with e
    refine ⟨g, e, ?_, hB.frozen _⟩
    rw [hB.cell]
    have h1 : (bs.map byteV)[n - 1]? = some (byteV b) := by rw [List.getElem?_map, ← hl, hb]; rfl
    rw [← hx, List.getElem?_take, if_pos (by omega)] at h1
    simpa using h1

theorem own_some {w : World} {A : Option Addr} {n c : Nat} {xs : List Value} (h : Own w 5 1 (.slice A n c) n xs) (h0 : 0 < n) : ∃ g, A = some ⟨g, 0, none⟩ := by
  rcases h.2 with ⟨_, e⟩ | ⟨g, cap, cur, e, _⟩
  · omega
  · injection e with e
    exact ⟨g, e⟩
theorem own_free {w : World} {g n c : Nat} {xs : List Value} (h : Own w 5 1 (.slice (some ⟨g, 0, none⟩) n c) n xs) (j : Nat) : w.frozen? ⟨g, j, none⟩ = false := by
  rcases h.2 with ⟨e, _⟩ | ⟨g', cap, cur, e, hB, _⟩
  · cases e
  · injection e with e
    injection e with e
    injection e with e _
    subst e
    exact hB.frozen _
theorem own_cell {w : World} {g n c : Nat} {bs : List UInt8} (h : Own w 5 1 (.slice (some ⟨g, 0, none⟩) n c) n (bs.map byteV)) {j : Nat} (hj : j < n) : ∃ b, w.cell? ⟨g, j, none⟩ = some (byteV b) := by
  have hl := h.1
  obtain ⟨A, c', e, _, _, _, hx⟩ := h.rd
  obtain ⟨g', o, e', hx⟩ := hx (by omega)
  injection e with e
  rw [← e] at e'
  injection e' with e'
  injection e' with e1 e2
  subst e1 e2
  simp at hl
  refine ⟨bs[j]'(by omega), ?_⟩
  have := hx j (byteV (bs[j]'(by omega))) (by simp [hl, hj])
  simpa using this

/-- The blocks made since w. -/
def Ab' (w : World) : Nat → Prop := fun k => w.heap.size ≤ k

def ZeroRel (wo wr : World) (g5 c5 n : Nat) (bs : List UInt8) : Prop := Upd (Ab' wo) wo wr ∧ Own wr 5 1 (.slice (some ⟨g5, 0, none⟩) n c5) n (bs.map byteV)

theorem CrR.drewN {at_ i : Value} (h : CrR w m lv lv' R picks at_ i wr) (n : Nat) : CrR w m lv lv' R picks at_ i (wr.drewN n) := by
  obtain ⟨k, a, R', h1, h2, h3, h4, h5, h6, h7, h8, h9⟩ := h
  exact ⟨k, a, R', h1, h2, h3, h4, h5.upd ((Upd.refl NoF wr).drewN n) (fun _ _ h => h), h6, h7, h8.drewN n, h9⟩
theorem CrR.drew {at_ i : Value} (h : CrR w m lv lv' R picks at_ i wr) : CrR w m lv lv' R picks at_ i wr.drew := by
  obtain ⟨k, a, R', h1, h2, h3, h4, h5, h6, h7, h8, h9⟩ := h
  exact ⟨k, a, R', h1, h2, h3, h4, h5.upd ((Upd.refl NoF wr).drew) (fun _ _ h => h), h6, h7, h8.drew, h9⟩

set_option maxRecDepth 100000 in
set_option maxHeartbeats 8000000 in
theorem rcrash_any (h : RefL w m off armed left lv R) (hdur : ∀ r ∈ R, r.dur ≤ r.c.length) (v : Value) (picks : List Int) (hv : RdI (fun k => k = m) w v picks)
    (hp : ∀ z ∈ picks, -9223372036854775808 ≤ z ∧ z ≤ 9223372036854775807) (hR : R.length ≤ 4294967296) : Calls Tryz.prog 22 #[ptrV m, v] w (RCrashPost w m lv R picks) := by
  obtain ⟨Ap, cp, rfl, _⟩ := hv.now
  have b1 : w.cell? ⟨m, 1, none⟩ = some (.bool armed) := h.head.cell 1
  have b2 : w.cell? ⟨m, 2, none⟩ = some (.int .i64 left) := h.head.cell 2
  have b3 : w.cell? ⟨m, 3, none⟩ = some (.bool off) := h.head.cell 3
  have f1 : w.frozen? ⟨m, 1, none⟩ = false := h.head.frozen 1
  have f2 : w.frozen? ⟨m, 2, none⟩ = false := h.head.frozen 2
  have f3 : w.frozen? ⟨m, 3, none⟩ = false := h.head.frozen 3
  have b0 := h.head.cell 0
  have f0 := h.head.frozen 0
  have hmz : m < w.heap.size := h.head.lt
  have hu1 : Upd (fun k => k = m) w (((w.setCell ⟨m, 3, none⟩ (.bool false)).setCell ⟨m, 1, none⟩ (.bool false)).setCell ⟨m, 2, none⟩ (.int .i64 0)) :=
    (((Upd.refl (fun k => k = m) w).setCell (p := ⟨m, 3, none⟩) (.inl rfl) _).setCell (p := ⟨m, 1, none⟩) (.inl rfl) _).setCell (p := ⟨m, 2, none⟩) (.inl rfl) _
  have hd1 : RefL (((w.setCell ⟨m, 3, none⟩ (.bool false)).setCell ⟨m, 1, none⟩ (.bool false)).setCell ⟨m, 2, none⟩ (.int .i64 0)) m false false 0 lv R :=
    h.top hu1 (((h.head.put 3 _).put 1 _).put 2 _) (Nat.zero_le _)
  obtain ⟨i0, hi0, hz0, hz1, hz2⟩ := info_parts file_info
  obtain ⟨i1, hi1, hy0, hy1, hy2⟩ := info_parts byte_info
  have hnum := h.num
  obtain ⟨A, c, hlv, hnc, hc, _⟩ := h.form
  subst hlv
  have H := Lib.hid h
  have V := Lib.hid hv
  have HP := Lib.hid hp
  have HDU := Lib.hid hdur
  have D1 := Lib.hid hd1
  have U1 := Lib.hid hu1
  clear h hv hp hdur hd1 hu1
  go_enter Tryz.func22, Tryz.ntmps22
  go_wp2_with (at_builtin; refine wpList_append_new _ rfl (.tmp 22) (.tmp 26) 42 rfl 94 i0 _ 3 48 Tryz.underlying42 hi0 hz0 hz1 hz2 rfl (.slice (some ⟨w.heap.size, 0, none⟩) 0 0) rfl (by simpa using Own.fresh (((w.setCell ⟨m, 3, none⟩ (.bool false)).setCell ⟨m, 1, none⟩ (.bool false)).setCell ⟨m, 2, none⟩ (.int .i64 0)) _ _) (.slice A R.length c) R.length (cellsR R) rfl (D1.out.list.upd ((Upd.refl NoF (((w.setCell ⟨m, 3, none⟩ (.bool false)).setCell ⟨m, 1, none⟩ (.bool false)).setCell ⟨m, 2, none⟩ (.int .i64 0))).alloc _) (fun _ _ h => h)).rd (cellsR_one D1.out.cont) (by unfold maxLen; omega) (by omega) ?_; intro A1 c1 w3 hown1 hupd1 hnew1; have hU3 : Upd NoF (((w.setCell ⟨m, 3, none⟩ (.bool false)).setCell ⟨m, 1, none⟩ (.bool false)).setCell ⟨m, 2, none⟩ (.int .i64 0)) w3 := ((Upd.refl NoF (((w.setCell ⟨m, 3, none⟩ (.bool false)).setCell ⟨m, 1, none⟩ (.bool false)).setCell ⟨m, 2, none⟩ (.int .i64 0))).alloc _).trans hupd1 (fun k hk e => by simp [OwnB, Value.ownBlock] at e; simp at hk; omega); have hN : ∀ k, OwnB (.slice A1 R.length c1) k → (((w.setCell ⟨m, 3, none⟩ (.bool false)).setCell ⟨m, 1, none⟩ (.bool false)).setCell ⟨m, 2, none⟩ (.int .i64 0)).heap.size ≤ k := (fun k hk => by rcases hnew1 k hk with e | e; (simp [OwnB, Value.ownBlock] at e; simp; omega); (simp at e; simp; omega)); have D3 := Lib.hid (RefL.copied D1.out hU3 hown1 hN); have x0 := (hU3.blk D1.out.head (fun h => h)).cell 0; have x1 := (hU3.blk D1.out.head (fun h => h)).frozen 0; have U3 := Lib.hid hU3; have N3 := Lib.hid hN; clear hown1 hupd1 hnew1 hU3 hN)
  obtain ⟨w4, hw4⟩ : ∃ w4, w4 = w3.setCell ⟨m, 0, none⟩ (.slice A1 R.length c1) := ⟨_, rfl⟩
  rw [← hw4] at D3 ⊢
  have hz4 : w.heap.size ≤ w4.heap.size := by rw [hw4]; have := U3.out.size; simpa using this
  have hU4 : Upd (fun j => j = m) w w4 := by
    rw [hw4]
    exact (U1.out.trans U3.out (fun _ _ h => h.elim)).setCell (p := ⟨m, 0, none⟩) (.inl rfl) _
  have U4 := Lib.hid hU4
  clear hw4 x0 x1 b0 b1 b2 b3 f0 f1 f2 f3 hU4
  go_loopw [4, 5] (fun a i wr => CrR w m (.slice A R.length c) (.slice A1 R.length c1) R picks a i wr) (fun _ i _ => R.length - (intOf i).toNat)
  case atStart =>
    refine ⟨0, 0, R, Nat.zero_le _, rfl, rfl, by omega, D3.out, by rw [crashRun_zero], by rw [crashRun_zero]; rfl, U4.out, ?_⟩
    rintro j (hj | hj | hj)
    · exact .inl (.inl hj)
    · exact .inr (by have := N3.out j hj; simpa using this)
    · exact .inl (.inr (.inr hj))
  case round =>
    obtain ⟨wo, rfl⟩ : ∃ wo : World, wo = wr := ⟨_, rfl⟩
    obtain ⟨k, a, R', hk, rfl, rfl, ha, hD, h1, h2, hU, hF⟩ := hrel
    have d0 := hD.head.cell 0
    have hmo := hD.head.lt
    have hsz := hU.size
    have hRl := CrR.len h1
    by_cases hlt : k < R.length
    · obtain ⟨r, hr⟩ : ∃ r, R'[k]? = some r := ⟨_, List.getElem?_eq_getElem (by omega)⟩
      obtain ⟨g, hA, -, hnc1, hc1, hgm, hgo, y0, y1, y2, z1, z2⟩ := hD.at_ hr
      subst hA
      have hgz := hD.list.lt hgo
      have hgw : w.heap.size ≤ g := by have := N3.out g hgo; simpa using this
      have hrm : r ∈ R' := List.mem_of_getElem? hr
      have hrl := hD.len r hrm
      have hdl : r.dur ≤ r.c.length := by
        have e := CrR.at_ h1 hr
        rw [List.getElem?_map] at e
        cases e2 : R[k]? with
        | none => rw [e2] at e; cases e
        | some r0 =>
          rw [e2] at e
          injection e with e
          injection e with e3 e4
          injection e4 with e4 e5
          rw [← e4, ← e5]
          exact HDU.out r0 (List.mem_of_getElem? e2)
      obtain ⟨Av, cv, hcvf⟩ := (hD.cont r hrm).form
      have hcvo := hD.cont r hrm
      rw [hcvf] at hcvo y1
      have t1 : decide ((k : Int) < R.length) = true := by simpa using hlt
      have t2 : (0:Int) ≤ k := by omega
      have t3 : (k:Int) < R.length := by omega
      have HD := Lib.hid hD
      have HU := Lib.hid hU
      have HF := Lib.hid hF
      have HR := Lib.hid hr
      have H1 := Lib.hid h1
      have H2 := Lib.hid h2
      have HC := Lib.hid hcvo
      have HCV := Lib.hid hcvf
      have HRL := Lib.hid hRl
      clear hD hU hF hr h1 h2 hcvo hcvf hRl hgo hrm
      by_cases h0 : r.c.length - r.dur = 0
      · have t4 : decide ((r.c.length : Int) - (r.dur : Int) ≤ 0) = true := by simp; omega
        have H0 := Lib.hid h0
        clear h0
        go_wp2
        go_roundw
        case rel => exact CrR.skip hlt ha (HD.out.upd ((Upd.refl NoF wo).alloc _) (fun _ _ h => h)) H1.out H2.out HR.out H0.out (HU.out.alloc _) HF.out
        case measure => simp [intOf]; omega
      · have t4 : decide ((r.c.length : Int) - (r.dur : Int) ≤ 0) = false := by simp; omega
        have H0 := Lib.hid h0
        have hpos : r.dur < r.c.length := by omega
        clear h0
        obtain ⟨ga, hAv, hlc, hcm⟩ : ∃ ga, Av = some ⟨ga, 0, none⟩ ∧ r.c.length ≤ cv ∧ cv ≤ 9223372036854775807 := by
          rcases HC.out.2 with ⟨_, e2⟩ | ⟨ga, cap, cur, e1, _, e3, e4, _⟩
          · omega
          · injection e1 with e1 _ e5
            subst e5
            unfold maxLen at e4
            exact ⟨ga, e1, e3, e4⟩
        subst hAv
        obtain ⟨p1, hp1⟩ : ∃ p1, picks[a]?.getD 0 = p1 := ⟨_, rfl⟩
        obtain ⟨p2, hp2⟩ : ∃ p2, picks[a + 1]?.getD 0 = p2 := ⟨_, rfl⟩
        obtain ⟨kk, hkk⟩ : ∃ kk, (p1 % ((r.c.length - r.dur + 1 : Nat) : Int)).toNat = kk := ⟨_, rfl⟩
        obtain ⟨dm, hdm⟩ : ∃ dm, (p2 % ((3 : Nat) : Int)).toNat = dm := ⟨_, rfl⟩
        have hpb : ∀ i : Nat, -9223372036854775808 ≤ picks[i]?.getD 0 ∧ picks[i]?.getD 0 ≤ 9223372036854775807 := fun i => by
          cases e : picks[i]? with
          | none => simp
          | some z => exact HP.out z (List.mem_of_getElem? e)
        have hkl : kk ≤ r.c.length - r.dur := by
          have e1 := Int.emod_nonneg p1 (b := ((r.c.length - r.dur + 1 : Nat) : Int)) (by omega)
          have e2 := Int.emod_lt_of_pos p1 (b := ((r.c.length - r.dur + 1 : Nat) : Int)) (by omega)
          omega
        have hd3 : dm < 3 := by
          have e1 := Int.emod_nonneg p2 (b := ((3 : Nat) : Int)) (by omega)
          have e2 := Int.emod_lt_of_pos p2 (b := ((3 : Nat) : Int)) (by omega)
          omega
        have hRd : ∀ W, Upd (fun j => j = m) w W → RdI (fun j => j = m) W (.slice Ap picks.length cp) picks := fun W hW => V.out.upd hW
        have CP1 := Lib.hid (show ∀ W, Upd (fun j => j = m) w W → Calls Tryz.prog 60 #[.slice Ap picks.length cp, .int .i64 (a : Int)] W fun e W' => e = .returned (.int .i64 p1) ∧ W = W' from fun W hW => by
          have := rpick_any _ picks a W (hRd W hW) (by omega)
          rw [hp1] at this
          exact this)
        have CP2 := Lib.hid (show ∀ W, Upd (fun j => j = m) w W → Calls Tryz.prog 60 #[.slice Ap picks.length cp, .int .i64 ((a : Int) + 1)] W fun e W' => e = .returned (.int .i64 p2) ∧ W = W' from fun W hW => by
          have := rpick_any _ picks (a + 1) W (hRd W hW) (by omega)
          rw [hp2] at this
          simpa using this)
        have CM1 := Lib.hid (show ∀ W, Calls Tryz.prog 59 #[.int .i64 p1, .int .i64 ((r.c.length : Int) - (r.dur : Int) + 1)] W fun e W' => e = .returned (.int .i64 (kk : Int)) ∧ W = W' from fun W => by
          have e := hpb a
          rw [hp1] at e
          have := rmod_any p1 (r.c.length - r.dur + 1) W (by omega) (by omega) e.1 e.2
          rw [hkk, show ((r.c.length - r.dur + 1 : Nat) : Int) = (r.c.length : Int) - (r.dur : Int) + 1 by omega] at this
          exact this)
        have CM2 := Lib.hid (show ∀ W, Calls Tryz.prog 59 #[.int .i64 p2, .int .i64 3] W fun e W' => e = .returned (.int .i64 (dm : Int)) ∧ W = W' from fun W => by
          have e := hpb (a + 1)
          rw [hp2] at e
          have := rmod_any p2 3 W (by omega) (by omega) e.1 e.2
          rw [hdm] at this
          exact this)
        have KEEP := Lib.hid (show ∀ w6, Upd (Ab' wo) wo w6 → RefL w6 m false false 0 (.slice (some ⟨g, 0, none⟩) R.length c1) R' ∧ w6.cell? ⟨m, 0, none⟩ = some (.slice (some ⟨g, 0, none⟩) R.length c1) ∧ w6.frozen? ⟨g, k * 3 + 1, none⟩ = false ∧ w6.frozen? ⟨g, k * 3 + 2, none⟩ = false ∧ w6.cell? ⟨g, k * 3 + 1, none⟩ = some (.slice (some ⟨ga, 0, none⟩) r.c.length cv) ∧ w6.cell? ⟨g, k * 3 + 2, none⟩ = some (.int .i64 r.dur) from fun w6 hu => by
          have D := HD.out.upd hu (fun j hj e => by have := HD.out.foot_lt hj; simp only [Ab'] at e; omega)
          obtain ⟨g', e', -, -, -, -, -, -, q1, q3, q2, q4⟩ := D.at_ HR.out
          injection e' with e'
          injection e' with e' _
          subst e'
          rw [HCV.out] at q1
          exact ⟨D, D.head.cell 0, q2, q4, q1, q3⟩)
        have FIN := Lib.hid (show ∀ w6 A5 c5 c', Upd (Ab' wo) wo w6 → Own w6 5 1 (.slice A5 (r.dur + kk) c5) (r.dur + kk) (c'.map byteV) → c' = damaged dm kk (r.c.take (r.dur + kk)) → c'.length = r.dur + kk → (∀ j, OwnB (.slice A5 (r.dur + kk) c5) j → wo.heap.size ≤ j) →
            CrR w m (.slice A R.length c) (.slice (some ⟨g, 0, none⟩) R.length c1) R picks (.int .i64 ((a : Int) + 2)) (.int .i64 ((k : Int) + 1)) ((w6.setCell ⟨g, k * 3 + 1, none⟩ (.slice A5 (r.dur + kk) c5)).setCell ⟨g, k * 3 + 2, none⟩ (.int .i64 ((r.dur : Int) + (kk : Int)))) from fun w6 A5 c5 c' hu ho hc hcl hN => by
          have e0 := CrR.turn (w := w) (lv := .slice A R.length c) (cv := .slice A5 (r.dur + kk) c5) (c' := c') (g := g) (cl := c1) hlt ha (by rw [HRL.out]) (KEEP.out w6 hu).1 H1.out H2.out HR.out H0.out (by rw [hcl]; exact ho) (by omega)
            (by rw [hp1, hp2, hkk, show (p2 % 3).toNat = dm from hdm]; exact hc) (by rw [hp1, hkk]; exact hcl) (HU.out.trans hu (fun j hj e => by simp only [Ab'] at e; omega)) hgw HF.out (fun j hj => by have := hN j hj; omega)
          rw [hcl] at e0
          simpa using e0)
        have e1 : (0:Int) ≤ (r.dur : Int) + (kk : Int) := by omega
        have e2 : (r.dur : Int) + (kk : Int) ≤ cv := by omega
        have hkl2 : r.dur + kk ≤ r.c.length := by omega
        have B2 := Lib.hid (show ∀ W, Upd NoF wo W → Rd W 1 (.slice (some ⟨ga, 0, none⟩) (r.dur + kk) cv) (r.dur + kk) ((r.c.take (r.dur + kk)).map byteV) from fun W hW => by
          have := ((HC.out.upd hW (fun _ _ h => h)).rd).upto (k := r.dur + kk) hkl2
          rw [List.map_take]
          simpa using this)
        have B3 := Lib.hid (show ∀ u ∈ (r.c.take (r.dur + kk)).map byteV, u.oneCell' = true from bytes_oneCell _)
        have B4 := Lib.hid (show 0 + (r.dur + kk) ≤ maxLen by unfold maxLen; omega)
        have B5 := Lib.hid (show (0 + (r.dur + kk)) * 1 ≤ 140737488355328 by omega)
        clear hp1 hp2 hkk hdm hpb hRd
        go_wp2_with fail
        refine (CP1.out _ (HU.out.alloc _)).mono ?_
        rintro e W' ⟨rfl, rfl⟩
        go_wp2_with fail
        refine (CM1.out _).mono ?_
        rintro e W' ⟨rfl, rfl⟩
        go_wp2_with fail
        refine (CP2.out _ (HU.out.alloc _)).mono ?_
        rintro e W' ⟨rfl, rfl⟩
        go_wp2_with fail
        refine (CM2.out _).mono ?_
        rintro e W' ⟨rfl, rfl⟩
        obtain ⟨w1, hw1⟩ : ∃ w1, w1 = wo.alloc (.cells #[strV r.nm, .slice (some ⟨ga, 0, none⟩) r.c.length cv, .int .i64 r.dur] 94) := ⟨_, rfl⟩
        have x1 : w1.cell? ⟨wo.heap.size, 1, none⟩ = some (.slice (some ⟨ga, 0, none⟩) r.c.length cv) := by rw [hw1]; exact (Blk.new wo _ _).cell 1
        have x2 : w1.cell? ⟨wo.heap.size, 2, none⟩ = some (.int .i64 r.dur) := by rw [hw1]; exact (Blk.new wo _ _).cell 2
        have hw1z : wo.heap.size < w1.heap.size := by rw [hw1]; simp
        have W1 := Lib.hid (show Upd NoF wo w1 ∧ ∀ A5 c5 w5, Upd (OwnB (.slice (some ⟨w1.heap.size, 0, none⟩) 0 0)) (w1.alloc (.cells #[] 5)) w5 → (∀ j, OwnB (.slice A5 (r.dur + kk) c5) j → OwnB (.slice (some ⟨w1.heap.size, 0, none⟩) 0 0) j ∨ (w1.alloc (.cells #[] 5)).heap.size ≤ j) → Upd (Ab' wo) wo w5 ∧ ∀ j, OwnB (.slice A5 (r.dur + kk) c5) j → wo.heap.size ≤ j from by
          have h1 : Upd NoF wo w1 := by rw [hw1]; exact (Upd.refl NoF wo).alloc _
          refine ⟨h1, fun A5 c5 w5 hu hn => ⟨?_, fun j hj => ?_⟩⟩
          · exact ((h1.mono (G := Ab' wo) (fun _ _ h => h.elim)).alloc _).trans hu (fun j hj e => by simp [OwnB, Value.ownBlock] at e; simp only [Ab']; omega)
          · rcases hn j hj with e | e
            · simp [OwnB, Value.ownBlock] at e; omega
            · simp at e; omega)
        rw [← hw1]
        have B4' : r.dur + kk ≤ maxLen := by unfold maxLen; omega
        have B5' : (r.dur + kk) * 1 ≤ 140737488355328 := by omega
        have B4 := Lib.hid B4'
        have B5 := Lib.hid B5'
        clear hw1 B4' B5' y0 y1 y2 z1 z2 d0
        have hcl0 : (r.c.take (r.dur + kk)).length = r.dur + kk := by simp; omega
        have HCL := Lib.hid hcl0
        clear hcl0
        by_cases hcase : dm = 1 ∧ 0 < kk
        · obtain ⟨hd1, hkp⟩ := hcase
          have hdb : ((dm : Int) == 1) = true := by rw [hd1]; rfl
          have hdc : ((dm : Int) == 2) = false := by rw [hd1]; rfl
          have hkb : decide ((0 : Int) < kk) = true := by simp; omega
          have HD1 := Lib.hid hd1
          clear hd1
          obtain ⟨b, hb0⟩ : ∃ b, (r.c.take (r.dur + kk))[(r.c.take (r.dur + kk)).length - 1]? = some b := ⟨_, List.getElem?_eq_getElem (by rw [HCL.out]; omega)⟩
          have HB := Lib.hid hb0
          clear hb0
          have hbits : bits BinOp.xor IntKind.u8 (b.toNat : Int) 255 = ((b ^^^ 255).toNat : Int) := xor255 b
          go_wp2_with (at_builtin; refine wpList_append_new _ rfl (.tmp 67) (.tmp 74) 28 rfl 5 i1 _ 1 1 Tryz.underlying28 hi1 hy0 hy1 hy2 rfl (.slice (some ⟨w1.heap.size, 0, none⟩) 0 0) rfl (Own.fresh w1 _ _) (.slice (some ⟨ga, 0, none⟩) (r.dur + kk) cv) (r.dur + kk) ((r.c.take (r.dur + kk)).map byteV) rfl (B2.out _ (W1.out.1.alloc _)) B3.out B4.out B5.out ?_; intro A5 c5 w5 hown1 hupd1 hnew1; obtain ⟨hU5, hN5⟩ := W1.out.2 A5 c5 w5 hupd1 hnew1; have O5 := Lib.hid hown1; have U5 := Lib.hid hU5; have N5 := Lib.hid hN5; obtain ⟨g5, hA5, q1, q2⟩ := own_last hown1 HCL.out (by omega) HB.out; subst hA5; clear hown1 hupd1 hnew1 hU5 hN5)
          obtain ⟨w6, hw6⟩ : ∃ w6, w6 = w5.setCell ⟨g5, r.dur + kk - 1, none⟩ (.int .u8 ((b.toNat ^^^ 255 : Nat) : Int)) := ⟨_, rfl⟩
          rw [← hw6]
          have F6 := Lib.hid (show Upd (Ab' wo) wo w6 ∧ Own w6 5 1 (.slice (some ⟨g5, 0, none⟩) (r.dur + kk) c5) (r.dur + kk) ((flipLast (r.c.take (r.dur + kk))).map byteV) from by
            have hg5 : wo.heap.size ≤ g5 := N5.out g5 (by simp [OwnB, Value.ownBlock])
            refine ⟨by rw [hw6]; exact U5.out.setCell (p := ⟨g5, r.dur + kk - 1, none⟩) (.inl hg5) _, ?_⟩
            have e5 := O5.out.put (j := r.dur + kk - 1) (by omega) (byteV (b ^^^ 255))
            have e6 := flip_map HB.out
            rw [HCL.out] at e6
            rw [e6] at e5
            rw [hw6]
            simpa [byteV] using e5)
          obtain ⟨-, k0, k1, k2, k3, k4⟩ := KEEP.out w6 F6.out.1
          clear hw6 q1 q2
          go_loop [11] (fun j => j = .int .i64 0) (fun _ => 0)
          case atStart => rfl
          case round =>
            subst hrel
            go_wp2
            go_region
            go_wp2
            go_roundw
            case rel => exact (FIN.out w6 _ _ _ F6.out.1 F6.out.2 (by simp [damaged, HD1.out, hkp]) (by unfold flipLast; rw [List.length_modify]; exact HCL.out) N5.out).drew
            case measure => simp [intOf]; omega
        · by_cases hcase2 : dm = 2 ∧ 0 < kk
          · obtain ⟨hd1, hkp⟩ := hcase2
            have hdb : ((dm : Int) == 1) = false := by rw [hd1]; rfl
            have hdc : ((dm : Int) == 2) = true := by rw [hd1]; rfl
            have HD1 := Lib.hid hd1
            clear hd1 hcase
            go_wp2_with (at_builtin; refine wpList_append_new _ rfl (.tmp 67) (.tmp 74) 28 rfl 5 i1 _ 1 1 Tryz.underlying28 hi1 hy0 hy1 hy2 rfl (.slice (some ⟨w1.heap.size, 0, none⟩) 0 0) rfl (Own.fresh w1 _ _) (.slice (some ⟨ga, 0, none⟩) (r.dur + kk) cv) (r.dur + kk) ((r.c.take (r.dur + kk)).map byteV) rfl (B2.out _ (W1.out.1.alloc _)) B3.out B4.out B5.out ?_; intro A5 c5 w5 hown1 hupd1 hnew1; obtain ⟨hU5, hN5⟩ := W1.out.2 A5 c5 w5 hupd1 hnew1; have O5 := Lib.hid hown1; have U5 := Lib.hid hU5; have N5 := Lib.hid hN5; obtain ⟨g5, hA5⟩ := own_some hown1 (by omega); subst hA5; clear hown1 hupd1 hnew1 hU5 hN5)
            go_loopw [11] (fun j wr => ∃ jj : Nat, jj ≤ min kk 8 ∧ j = .int .i64 jj ∧ ZeroRel wo wr g5 c5 (r.dur + kk) (zeroLast jj (r.c.take (r.dur + kk)))) (fun j _ => 8 - (intOf j).toNat)
            case atStart => exact ⟨0, Nat.zero_le _, rfl, U5.out, by rw [zeroLast_zero]; exact O5.out⟩
            case round =>
              obtain ⟨jj, hjj, rfl, hU6, hO6⟩ := hrel
              have hg5 : wo.heap.size ≤ g5 := N5.out g5 (by simp [OwnB, Value.ownBlock])
              by_cases hj : jj < min kk 8
              · have s1 : decide ((jj : Int) < 8) = true := by simp; omega
                have s1' : decide (jj < 8) = true := by simp; omega
                have s2 : decide ((jj : Int) < kk) = true := by simp; omega
                have s2' : decide (jj < kk) = true := by simp; omega
                have s3 : (0 : Int) ≤ (r.dur : Int) + (kk : Int) - 1 - (jj : Int) := by omega
                have s4 : (r.dur : Int) + (kk : Int) - 1 - (jj : Int) < (r.dur : Int) + (kk : Int) := by omega
                have s5 : ((r.dur : Int) + (kk : Int) - 1 - (jj : Int)).toNat = r.dur + kk - 1 - jj := by omega
                have q1 := own_free hO6 (r.dur + kk - 1 - jj)
                obtain ⟨bq, q2⟩ := own_cell hO6 (j := r.dur + kk - 1 - jj) (by omega)
                have O6 := Lib.hid hO6
                have U6 := Lib.hid hU6
                clear hO6 hU6
                go_wp2
                go_roundw
                case rel =>
                  refine ⟨jj + 1, by omega, by go_num, U6.out.setCell (p := ⟨g5, r.dur + kk - 1 - jj, none⟩) (.inl hg5) _, ?_⟩
                  have e5 := O6.out.put (j := r.dur + kk - 1 - jj) (by omega) (byteV 0)
                  have e6 := zero_map (c := r.c.take (r.dur + kk)) (j := jj) (by rw [HCL.out]; omega)
                  rw [HCL.out] at e6
                  rw [e6] at e5
                  exact e5
                case measure => simp [intOf]; omega
              · obtain ⟨w6, rfl⟩ : ∃ w6 : World, w6 = wr := ⟨_, rfl⟩
                have hje : jj = min kk 8 := by omega
                have F6 := Lib.hid (And.intro hU6 hO6)
                obtain ⟨-, k0, k1, k2, k3, k4⟩ := KEEP.out w6 hU6
                have HJ := Lib.hid hje
                clear hU6 hO6 hje
                by_cases hj8 : jj < 8
                · have s1 : decide ((jj : Int) < 8) = true := by simp; omega
                  have s1' : decide (jj < 8) = true := by simp; omega
                  have s2 : decide ((jj : Int) < kk) = false := by simp; omega
                  have s2' : decide (jj < kk) = false := by simp; omega
                  go_wp2
                  go_region
                  go_wp2
                  go_roundw
                  case rel => exact (FIN.out w6 _ _ _ F6.out.1 F6.out.2 (by simp [damaged, HD1.out, HJ.out]) (by rw [zeroLast_len (by rw [HCL.out]; omega)]; exact HCL.out) N5.out).drew
                  case measure => simp [intOf]; omega
                · have s1 : decide ((jj : Int) < 8) = false := by simp; omega
                  have s1' : decide (jj < 8) = false := by simp; omega
                  go_wp2
                  go_region
                  go_wp2
                  go_roundw
                  case rel => exact (FIN.out w6 _ _ _ F6.out.1 F6.out.2 (by simp [damaged, HD1.out, HJ.out]) (by rw [zeroLast_len (by rw [HCL.out]; omega)]; exact HCL.out) N5.out).drew
                  case measure => simp [intOf]; omega
          · have hdmg : r.c.take (r.dur + kk) = damaged dm kk (r.c.take (r.dur + kk)) := by
              unfold damaged
              rw [if_neg hcase]
              split
              · have hk0 : kk = 0 := by omega
                subst hk0
                exact (zeroLast_none _).symm
              · rfl
            have HDM := Lib.hid hdmg
            have LAST := Lib.hid (show ∀ w6 A5 c5, Upd (Ab' wo) wo w6 → Own w6 5 1 (.slice A5 (r.dur + kk) c5) (r.dur + kk) ((r.c.take (r.dur + kk)).map byteV) → (∀ j, OwnB (.slice A5 (r.dur + kk) c5) j → wo.heap.size ≤ j) →
              CrR w m (.slice A R.length c) (.slice (some ⟨g, 0, none⟩) R.length c1) R picks (.int .i64 ((a : Int) + 2)) (.int .i64 ((k : Int) + 1)) ((w6.setCell ⟨g, k * 3 + 1, none⟩ (.slice A5 (r.dur + kk) c5)).setCell ⟨g, k * 3 + 2, none⟩ (.int .i64 ((r.dur : Int) + (kk : Int)))) from
              fun w6 A5 c5 h1 h2 h3 => FIN.out w6 A5 c5 _ h1 h2 hdmg HCL.out h3)
            clear hdmg
            by_cases hk0 : 0 < kk
            · have hdb : ((dm : Int) == 1) = false := by simp; omega
              have hdc : ((dm : Int) == 2) = false := by simp; omega
              clear hcase hcase2
              go_wp2_with (at_builtin; refine wpList_append_new _ rfl (.tmp 67) (.tmp 74) 28 rfl 5 i1 _ 1 1 Tryz.underlying28 hi1 hy0 hy1 hy2 rfl (.slice (some ⟨w1.heap.size, 0, none⟩) 0 0) rfl (Own.fresh w1 _ _) (.slice (some ⟨ga, 0, none⟩) (r.dur + kk) cv) (r.dur + kk) ((r.c.take (r.dur + kk)).map byteV) rfl (B2.out _ (W1.out.1.alloc _)) B3.out B4.out B5.out ?_; intro A5 c5 w5 hown1 hupd1 hnew1; obtain ⟨hU5, hN5⟩ := W1.out.2 A5 c5 w5 hupd1 hnew1; have O5 := Lib.hid hown1; have U5 := Lib.hid hU5; have N5 := Lib.hid hN5; obtain ⟨-, k0, k1, k2, k3, k4⟩ := KEEP.out w5 hU5; clear hown1 hupd1 hnew1 hU5 hN5)
              go_loop [11] (fun j => j = .int .i64 0) (fun _ => 0)
              case atStart => rfl
              case round =>
                subst hrel
                go_wp2
                go_region
                go_wp2
                go_roundw
                case rel => exact (LAST.out w5 _ _ U5.out O5.out N5.out).drew
                case measure => simp [intOf]; omega
            · have hkb : decide ((0 : Int) < kk) = false := by simp; omega
              have hkb' : decide (0 < kk) = false := by simp; omega
              by_cases hd1 : dm = 1
              · have hdb : ((dm : Int) == 1) = true := by rw [hd1]; rfl
                have hdc : ((dm : Int) == 2) = false := by rw [hd1]; rfl
                clear hd1
                clear hcase hcase2
                go_wp2_with (at_builtin; refine wpList_append_new _ rfl (.tmp 67) (.tmp 74) 28 rfl 5 i1 _ 1 1 Tryz.underlying28 hi1 hy0 hy1 hy2 rfl (.slice (some ⟨w1.heap.size, 0, none⟩) 0 0) rfl (Own.fresh w1 _ _) (.slice (some ⟨ga, 0, none⟩) (r.dur + kk) cv) (r.dur + kk) ((r.c.take (r.dur + kk)).map byteV) rfl (B2.out _ (W1.out.1.alloc _)) B3.out B4.out B5.out ?_; intro A5 c5 w5 hown1 hupd1 hnew1; obtain ⟨hU5, hN5⟩ := W1.out.2 A5 c5 w5 hupd1 hnew1; have O5 := Lib.hid hown1; have U5 := Lib.hid hU5; have N5 := Lib.hid hN5; obtain ⟨-, k0, k1, k2, k3, k4⟩ := KEEP.out w5 hU5; clear hown1 hupd1 hnew1 hU5 hN5)
                go_loop [11] (fun j => j = .int .i64 0) (fun _ => 0)
                case atStart => rfl
                case round =>
                  subst hrel
                  go_wp2
                  go_region
                  go_wp2
                  go_roundw
                  case rel => exact (LAST.out w5 _ _ U5.out O5.out N5.out).drew
                  case measure => simp [intOf]; omega
              · by_cases hd2 : dm = 2
                · have hdb : ((dm : Int) == 1) = false := by rw [hd2]; rfl
                  have hdc : ((dm : Int) == 2) = true := by rw [hd2]; rfl
                  clear hd1 hd2
                  clear hcase hcase2
                  go_wp2_with (at_builtin; refine wpList_append_new _ rfl (.tmp 67) (.tmp 74) 28 rfl 5 i1 _ 1 1 Tryz.underlying28 hi1 hy0 hy1 hy2 rfl (.slice (some ⟨w1.heap.size, 0, none⟩) 0 0) rfl (Own.fresh w1 _ _) (.slice (some ⟨ga, 0, none⟩) (r.dur + kk) cv) (r.dur + kk) ((r.c.take (r.dur + kk)).map byteV) rfl (B2.out _ (W1.out.1.alloc _)) B3.out B4.out B5.out ?_; intro A5 c5 w5 hown1 hupd1 hnew1; obtain ⟨hU5, hN5⟩ := W1.out.2 A5 c5 w5 hupd1 hnew1; have O5 := Lib.hid hown1; have U5 := Lib.hid hU5; have N5 := Lib.hid hN5; obtain ⟨-, k0, k1, k2, k3, k4⟩ := KEEP.out w5 hU5; clear hown1 hupd1 hnew1 hU5 hN5)
                  go_loop [11] (fun j => j = .int .i64 0) (fun _ => 0)
                  case atStart => rfl
                  case round =>
                    subst hrel
                    go_wp2
                    go_region
                    go_wp2
                    go_roundw
                    case rel => exact (LAST.out w5 _ _ U5.out O5.out N5.out).drew
                    case measure => simp [intOf]; omega
                · have hdb : ((dm : Int) == 1) = false := by simp; omega
                  have hdc : ((dm : Int) == 2) = false := by simp; omega
                  clear hd1 hd2
                  clear hcase hcase2
                  go_wp2_with (at_builtin; refine wpList_append_new _ rfl (.tmp 67) (.tmp 74) 28 rfl 5 i1 _ 1 1 Tryz.underlying28 hi1 hy0 hy1 hy2 rfl (.slice (some ⟨w1.heap.size, 0, none⟩) 0 0) rfl (Own.fresh w1 _ _) (.slice (some ⟨ga, 0, none⟩) (r.dur + kk) cv) (r.dur + kk) ((r.c.take (r.dur + kk)).map byteV) rfl (B2.out _ (W1.out.1.alloc _)) B3.out B4.out B5.out ?_; intro A5 c5 w5 hown1 hupd1 hnew1; obtain ⟨hU5, hN5⟩ := W1.out.2 A5 c5 w5 hupd1 hnew1; have O5 := Lib.hid hown1; have U5 := Lib.hid hU5; have N5 := Lib.hid hN5; obtain ⟨-, k0, k1, k2, k3, k4⟩ := KEEP.out w5 hU5; clear hown1 hupd1 hnew1 hU5 hN5)
                  go_loop [11] (fun j => j = .int .i64 0) (fun _ => 0)
                  case atStart => rfl
                  case round =>
                    subst hrel
                    go_wp2
                    go_region
                    go_wp2
                    go_roundw
                    case rel => exact (LAST.out w5 _ _ U5.out O5.out N5.out).drew
                    case measure => simp [intOf]; omega
    · have t1 : decide ((k : Int) < R.length) = false := by simp; omega
      have HD := Lib.hid hD
      have HU := Lib.hid hU
      have HF := Lib.hid hF
      have H1 := Lib.hid h1
      have hkn : k = R.length := by omega
      clear hD hU hF h1 h2 hRl
      subst hkn
      go_wp2
      go_end0
      refine ⟨rfl, _, R', HD.out, ?_, HU.out, HF.out⟩
      rw [H1.out, ← crashRun_all (R.map absRR) picks]
      simp
end
end
end Go.Proofs.YtbgificdilpdcaaGreat
