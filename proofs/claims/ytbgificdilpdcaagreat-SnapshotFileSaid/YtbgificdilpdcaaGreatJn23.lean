/- Read of package snapshot. Conditions: sizes. slices.EqualFunc of texts. Conditions: sizes. slices.EqualFunc of signed votes. Conditions: sizes. Equal of package snapshot. Conditions: sizes. The sanity check of the statements on snapshots returns true. No condition. heavy of law 32. Conditions: sizes. SnapshotEncode returns true. Conditions: sizes. -/
import Derived.Test.YtbgificdilpdcaaGreatJn17
import Derived.Test.YtbgificdilpdcaaGreatJn22
import Derived.Test.YtbgificdilpdcaaGreatJn20
import Derived.Test.YtbgificdilpdcaaGreatJn15
import Derived.Test.YtbgificdilpdcaaGreatEnc2
namespace Go.Proofs.YtbgificdilpdcaaGreat
section
open Go.RowKit

theorem alloc_view (w : World) : (Instr.alloc 25 true (.tuple #[])).run Tryz.prog w = .ok (.pointer (some ⟨w.heap.size, 0, none⟩)) (w.alloc (.cells nil2 25)) := by kernel_rfl
theorem Decode_any {w : World} {v : Value} {bs : List UInt8} (hr : Rd w 1 v bs.length (bs.map byteV)) (hm : bs.length ≤ 1000000000) : Calls Tryz.prog 11 #[v] w (DecPost w (decodeS bs)) := by
  rcases Nat.lt_or_ge bs.length 4 with h | h
  · exact Decode_short hr h
  · exact Decode_long hr h hm
def sReadV (s : DSt) (nm : List UInt8) : Option ViewS × Int :=
  if (sRead s nm).2 ≠ 0 then (none, (sRead s nm).2) else
  match decodeS (sRead s nm).1 with
  | none => (none, 104)
  | some V => (some V, 0)
theorem sReadV_eq (s : DSt) (nm : List UInt8) : sReadV s nm = if (sRead s nm).2 ≠ 0 then (none, (sRead s nm).2) else
  match decodeS (sRead s nm).1 with
  | none => (none, 104)
  | some V => (some V, 0) := rfl
/-- What Read returns. -/
def SnReadPost (w : World) : Option ViewS × Int → Ending → World → Prop
  | (none, c), e, w' => e = .returned (.tuple #[.agg nil2, .int .i64 c]) ∧ Upd NoF w w'
  | (some V, c), e, w' => ∃ a b, e = .returned (.tuple #[.agg #[a, b], .int .i64 c]) ∧ (∀ w'', Upd (fun k => k < w.heap.size) w' w'' → VwR w'' a b V) ∧ Upd NoF w w'
set_option maxRecDepth 100000 in
set_option maxHeartbeats 8000000 in
theorem Read_any {w : World} {F : Nat → Prop} {d : Nat} {s : DSt} (h : DiskAt w d s F) (nm : List UInt8) (hm : nm.length ≤ maxLen) (hb : (sRead s nm).1.length ≤ 1000000000) : Calls Tryz.prog 15 #[ptrV d, strV nm] w (SnReadPost w (sReadV s nm)) := by
  have UW := Lib.hid ((Upd.refl NoF w).alloc (.cells nil2 25))
  have BW := Lib.hid (Blk.new w 25 nil2)
  obtain ⟨W1, hW1⟩ : ∃ x, x = w.alloc (.cells nil2 25) := ⟨_, rfl⟩
  rw [← hW1] at UW BW
  have CR := Lib.hid (read_spec (h.upd UW.out (fun _ _ f => f)) nm hm)
  have SR := Lib.hid (sReadV_eq s nm)
  have hR1 : w.heap.size < W1.heap.size := BW.out.lt
  clear h hm
  go_enter Tryz.func15, Tryz.ntmps15
  go_wp2_with fail
  rw [← hW1]
  clear hW1
  refine CR.out.mono ?_
  rintro e w2 ⟨A2, c2, rfl, hn2⟩
  have B2 := Lib.hid (hn2.2.2.blk BW.out (fun f => f))
  have U2 := Lib.hid (UW.out.trans hn2.2.2 (fun _ _ f => f))
  have R2 := Lib.hid hn2.1.rd
  have hR2 : w.heap.size < w2.heap.size := B2.out.lt
  clear hn2 CR
  obtain ⟨⟨bs, ec⟩, hr⟩ : ∃ x, sRead s nm = x := ⟨_, rfl⟩
  rw [hr] at R2 SR hb ⊢
  simp only at R2 SR hb
  clear hr
  by_cases h0 : ec = 0
  rotate_left
  · have t0 : decide (ec = 0) = false := by simp [h0]
    have t0' : (ec == 0) = false := by simp [h0]
    rw [if_pos h0] at SR
    have x0 : w2.cell? ⟨w.heap.size, 0, none⟩ = some (.slice none 0 0) := B2.out.cell 0; have x1 : w2.cell? ⟨w.heap.size, 1, none⟩ = some (.slice none 0 0) := B2.out.cell 1; have x2 : w2.frozen? ⟨w.heap.size, 0, none⟩ = false := B2.out.frozen 0; have x3 : w2.frozen? ⟨w.heap.size, 1, none⟩ = false := B2.out.frozen 1
    go_wp2
    refine bodyPost_ret (results_cell_tmp Tryz.results15 _ _ w.heap.size [.slice none 0 0, .slice none 0 0] _ rfl (range_blk ((B2.out.put 0 (.slice none 0 0)).put 1 (.slice none 0 0))) Tryz.underlying25 rfl (by rw [view_size]; rfl)) rfl ?_
    rw [SR.out]
    exact ⟨rfl, (U2.out.setCell (p := ⟨w.heap.size, 0, none⟩) (.inr (Nat.le_refl _)) _).setCell (p := ⟨w.heap.size, 1, none⟩) (.inr (Nat.le_refl _)) _⟩
  subst h0
  rw [if_neg (by decide)] at SR
  have CD := Lib.hid (Decode_any R2.out hb)
  go_wp2_with fail
  refine CD.out.mono ?_
  cases hd : decodeS bs with
  | none =>
    rw [hd] at SR
    clear hd CD
    rintro e w3 ⟨rfl, hu3⟩
    have B3 := Lib.hid (hu3.blk B2.out (fun f => f))
    have U3 := Lib.hid (U2.out.trans hu3 (fun _ _ f => f))
    have hR3 : w.heap.size < w3.heap.size := B3.out.lt
    clear hu3
    go_wp2_with (first
      | (refine wpList_alloc_row rfl 25 rfl nil2 alloc_view ?_; intro w4 hb4 hu4 hs4; have B4 := Lib.hid hb4; have U4 := Lib.hid hu4; have BR4 := Lib.hid (hu4.blk B3.out (fun f => f)); have y0 : w4.cell? ⟨w3.heap.size, 0, none⟩ = some (.slice none 0 0) := hb4.cell 0; have y1 : w4.cell? ⟨w3.heap.size, 1, none⟩ = some (.slice none 0 0) := hb4.cell 1; have y2 : w4.frozen? ⟨w3.heap.size, 0, none⟩ = false := hb4.frozen 0; have y3 : w4.frozen? ⟨w3.heap.size, 1, none⟩ = false := hb4.frozen 1; have x0 : w4.cell? ⟨w.heap.size, 0, none⟩ = some (.slice none 0 0) := BR4.out.cell 0; have x1 : w4.cell? ⟨w.heap.size, 1, none⟩ = some (.slice none 0 0) := BR4.out.cell 1; have x2 : w4.frozen? ⟨w.heap.size, 0, none⟩ = false := BR4.out.frozen 0; have x3 : w4.frozen? ⟨w.heap.size, 1, none⟩ = false := BR4.out.frozen 1; clear hb4 hu4 hs4))
    have RB1 := Lib.hid (show ∀ x y p q, Blk ((((w4.setCell ⟨w.heap.size, 0, none⟩ x).setCell ⟨w.heap.size, 1, none⟩ y).setCell ⟨w3.heap.size, 0, none⟩ p).setCell ⟨w3.heap.size, 1, none⟩ q) w.heap.size 25 #[x, y] from fun x y p q => (((Upd.refl (fun k => k = w3.heap.size) _).setCell (p := ⟨w3.heap.size, 0, none⟩) (.inl rfl) p).setCell (p := ⟨w3.heap.size, 1, none⟩) (.inl rfl) q).blk ((BR4.out.put 0 x).put 1 y) (fun e => by have e : w.heap.size = w3.heap.size := e; omega))
    have RB2 := Lib.hid (show ∀ x y p q, Blk ((((w4.setCell ⟨w3.heap.size, 0, none⟩ p).setCell ⟨w3.heap.size, 1, none⟩ q).setCell ⟨w.heap.size, 0, none⟩ x).setCell ⟨w.heap.size, 1, none⟩ y) w.heap.size 25 #[x, y] from fun x y p q => (((((Upd.refl (fun k => k = w3.heap.size) w4).setCell (p := ⟨w3.heap.size, 0, none⟩) (.inl rfl) p).setCell (p := ⟨w3.heap.size, 1, none⟩) (.inl rfl) q).blk BR4.out (fun e => by have e : w.heap.size = w3.heap.size := e; omega)).put 0 x).put 1 y)
    refine bodyPost_ret (results_cell_tmp Tryz.results15 _ _ w.heap.size [.slice none 0 0, .slice none 0 0] _ rfl (range_blk (RB2.out _ _ _ _)) Tryz.underlying25 rfl (by rw [view_size]; rfl)) rfl ?_
    rw [SR.out]
    refine ⟨rfl, ?_⟩
    exact ((((U3.out.trans U4.out (fun _ _ f => f)).setCell (p := ⟨w3.heap.size, 0, none⟩) (.inr (Nat.le_of_lt hR3)) _).setCell (p := ⟨w3.heap.size, 1, none⟩) (.inr (Nat.le_of_lt hR3)) _).setCell (p := ⟨w.heap.size, 0, none⟩) (.inr (Nat.le_refl _)) _).setCell (p := ⟨w.heap.size, 1, none⟩) (.inr (Nat.le_refl _)) _
  | some V =>
    rw [hd] at SR
    clear hd CD
    rintro e w3 ⟨a, b, rfl, hv3, hu3⟩
    have V3 := Lib.hid hv3
    obtain ⟨Aa, ca, rfl, -, -⟩ := (hv3 w3 (Upd.refl _ _)).1.form
    obtain ⟨Ab, cb, rfl, -, -⟩ := (hv3 w3 (Upd.refl _ _)).2.form
    have B3 := Lib.hid (hu3.blk B2.out (fun f => f))
    have U3 := Lib.hid (U2.out.trans hu3 (fun _ _ f => f))
    have hR3 : w.heap.size < w3.heap.size := B3.out.lt
    have hs3 := hu3.size
    have hs2 := U2.out.size
    clear hu3 hv3
    go_wp2_with (first
      | (refine wpList_alloc_row rfl 25 rfl nil2 alloc_view ?_; intro w4 hb4 hu4 hs4; have B4 := Lib.hid hb4; have U4 := Lib.hid hu4; have BR4 := Lib.hid (hu4.blk B3.out (fun f => f)); have y0 : w4.cell? ⟨w3.heap.size, 0, none⟩ = some (.slice none 0 0) := hb4.cell 0; have y1 : w4.cell? ⟨w3.heap.size, 1, none⟩ = some (.slice none 0 0) := hb4.cell 1; have y2 : w4.frozen? ⟨w3.heap.size, 0, none⟩ = false := hb4.frozen 0; have y3 : w4.frozen? ⟨w3.heap.size, 1, none⟩ = false := hb4.frozen 1; have x0 : w4.cell? ⟨w.heap.size, 0, none⟩ = some (.slice none 0 0) := BR4.out.cell 0; have x1 : w4.cell? ⟨w.heap.size, 1, none⟩ = some (.slice none 0 0) := BR4.out.cell 1; have x2 : w4.frozen? ⟨w.heap.size, 0, none⟩ = false := BR4.out.frozen 0; have x3 : w4.frozen? ⟨w.heap.size, 1, none⟩ = false := BR4.out.frozen 1; clear hb4 hu4 hs4))
    have RB1 := Lib.hid (show ∀ x y p q, Blk ((((w4.setCell ⟨w.heap.size, 0, none⟩ x).setCell ⟨w.heap.size, 1, none⟩ y).setCell ⟨w3.heap.size, 0, none⟩ p).setCell ⟨w3.heap.size, 1, none⟩ q) w.heap.size 25 #[x, y] from fun x y p q => (((Upd.refl (fun k => k = w3.heap.size) _).setCell (p := ⟨w3.heap.size, 0, none⟩) (.inl rfl) p).setCell (p := ⟨w3.heap.size, 1, none⟩) (.inl rfl) q).blk ((BR4.out.put 0 x).put 1 y) (fun e => by have e : w.heap.size = w3.heap.size := e; omega))
    have RB2 := Lib.hid (show ∀ x y p q, Blk ((((w4.setCell ⟨w3.heap.size, 0, none⟩ p).setCell ⟨w3.heap.size, 1, none⟩ q).setCell ⟨w.heap.size, 0, none⟩ x).setCell ⟨w.heap.size, 1, none⟩ y) w.heap.size 25 #[x, y] from fun x y p q => (((((Upd.refl (fun k => k = w3.heap.size) w4).setCell (p := ⟨w3.heap.size, 0, none⟩) (.inl rfl) p).setCell (p := ⟨w3.heap.size, 1, none⟩) (.inl rfl) q).blk BR4.out (fun e => by have e : w.heap.size = w3.heap.size := e; omega)).put 0 x).put 1 y)
    refine bodyPost_ret (results_cell_tmp Tryz.results15 _ _ w.heap.size [.slice Aa V.votes.length ca, .slice Ab V.texts.length cb] _ rfl (range_blk (RB2.out _ _ _ _)) Tryz.underlying25 rfl (by rw [view_size]; rfl)) rfl ?_
    rw [SR.out]
    refine ⟨_, _, rfl, fun w9 h9 => V3.out w9 (Upd.trans (F := fun k => k < w2.heap.size) ?_ h9 (fun k _ f => Nat.lt_of_lt_of_le (show k < w.heap.size from f) hs2)), ?_⟩
    · exact ((((U4.out.mono (fun _ _ f => f.elim)).setCell (p := ⟨w3.heap.size, 0, none⟩) (.inr (Nat.le_refl _)) _).setCell (p := ⟨w3.heap.size, 1, none⟩) (.inr (Nat.le_refl _)) _).setCell (p := ⟨w.heap.size, 0, none⟩) (.inl hR2) _).setCell (p := ⟨w.heap.size, 1, none⟩) (.inl hR2) _
    · exact ((((U3.out.trans U4.out (fun _ _ f => f)).setCell (p := ⟨w3.heap.size, 0, none⟩) (.inr (Nat.le_of_lt hR3)) _).setCell (p := ⟨w3.heap.size, 1, none⟩) (.inr (Nat.le_of_lt hR3)) _).setCell (p := ⟨w.heap.size, 0, none⟩) (.inr (Nat.le_refl _)) _).setCell (p := ⟨w.heap.size, 1, none⟩) (.inr (Nat.le_refl _)) _
end

section
open Go.RowKit

set_option maxRecDepth 100000 in
set_option maxHeartbeats 8000000 in
theorem EqualFuncT_any {w : World} {a b : Value} {l m : List (List UInt8)} (ha : TxR w a l) (hb : TxR w b m) (_hs1 : l.length ≤ 1099511627776) (_hs2 : m.length ≤ 1099511627776) : Calls Tryz.prog 64 #[a, b, fnV 65] w fun e w' => e = .returned (.bool (decide (l = m))) ∧ Upd NoF w w' := by
  obtain ⟨A, ca, rfl, hlc, hcm⟩ := ha.form
  obtain ⟨B, cb, rfl, hld, hdm⟩ := hb.form
  have HA := Lib.hid ha
  have HB := Lib.hid hb
  obtain ⟨n, hn⟩ : ∃ n, l.length = n := ⟨_, rfl⟩
  have HN := Lib.hid hn
  by_cases hlen : l.length = m.length
  rotate_left
  · have t0 : decide ((l.length : Int) = (m.length : Int)) = false := by simp; omega
    have HZ := Lib.hid (show decide (l = m) = false from by rw [decide_eq_false_iff_not]; intro e; exact hlen (by rw [e]))
    have t0' : decide (l.length = m.length) = false := by simp; omega
    generalize decide (l = m) = Z at HZ ⊢
    clear ha hb HA HB hn HN
    go_enter Tryz.func64, Tryz.ntmps64
    go_wp2
    go_ret
    exact ⟨retb HZ.out.symm, Upd.refl _ _⟩
  have HL := Lib.hid hlen
  rw [← hlen] at _hs2 hld HB ⊢
  rw [hn] at hlc _hs2 hld HA HB ⊢
  clear ha hb hlen hn
  generalize hZ : decide (l = m) = Z at ⊢
  have HZ := Lib.hid hZ
  clear hZ
  unfold fnV
  go_enter Tryz.func64, Tryz.ntmps64
  go_wp2
  go_loopw [17] (fun i wr => SameRel l m w i wr) (fun i _ => n - (intOf i).toNat)
  case atStart => exact ⟨0, rfl, by omega, fun j h => absurd h (by omega), Upd.refl _ _⟩
  case round =>
    obtain ⟨k, rfl, hk, hch, hu⟩ := hrel
    have hnn := HN.out
    have hll := HL.out
    have HU := Lib.hid hu
    by_cases hlt : k < n
    · obtain ⟨s, hx⟩ : ∃ x, l[k]? = some x := ⟨_, List.getElem?_eq_getElem (by omega)⟩
      obtain ⟨t, hy⟩ : ∃ x, m[k]? = some x := ⟨_, List.getElem?_eq_getElem (by omega)⟩
      have t1 : decide ((k : Int) < (n : Int)) = true := by simp; omega
      have q0 : (0 : Int) ≤ (k : Int) := by omega
      have q1 : (k : Int) < (n : Int) := by omega
      obtain ⟨g, o, Au, cu, rfl, r1, r2, -⟩ := (HA.out.keep hu).at_ hx
      obtain ⟨g2, o2, Av, cv, rfl, r3, r4, -⟩ := (HB.out.keep hu).at_ hy
      have x1 : wr.cell? ⟨g, o + k, none⟩ = some (.slice Au s.length cu) := r1
      have x2 : wr.cell? ⟨g2, o2 + k, none⟩ = some (.slice Av t.length cv) := r3
      have CB := Lib.hid (bEqual_any r2 r4)
      clear r1 r2 r3 r4
      by_cases he : s = t
      · have HCH := Lib.hid (hch.next hx hy he)
        have hst : (s == t) = true := by simp [he]
        clear hx hy hch hu hnn hll he
        go_wp2_with fail
        refine CB.out.mono ?_
        rintro e w3 ⟨rfl, rfl⟩
        rw [hst]
        clear hst
        go_wp2
        go_roundw
        case rel => exact ⟨k + 1, by go_num, by have := HN.out; omega, HCH.out, HU.out⟩
        case measure => simp [intOf]; omega
      · have HCH := Lib.hid (same_no hx hy he)
        have hst : (s == t) = false := by simp [he]
        clear hx hy hch hu hnn hll he
        go_wp2_with fail
        refine CB.out.mono ?_
        rintro e w3 ⟨rfl, rfl⟩
        rw [hst]
        clear hst
        go_wp2
        go_ret
        exact ⟨retb (by rw [← HZ.out, decide_eq_false HCH.out]), HU.out⟩
    · have t1 : decide ((k : Int) < (n : Int)) = false := by simp; omega
      have HCV := Lib.hid (hch.end_ hll (by omega))
      clear hnn hch hu hll
      go_wp2
      go_ret
      exact ⟨retb (by rw [← HZ.out, decide_eq_true HCV.out]), HU.out⟩
end

section
open Go.RowKit

set_option maxRecDepth 100000 in
set_option maxHeartbeats 16000000 in
theorem EqualFuncS_any {w : World} {a b : Value} {l m : List SignedS} (ha : SgR w a l) (hb : SgR w b m) (_hs1 : l.length ≤ 1099511627776) (_hs2 : m.length ≤ 1099511627776) : Calls Tryz.prog 62 #[a, b, fnV 63] w fun e w' => e = .returned (.bool (decide (l = m))) ∧ Upd NoF w w' := by
  obtain ⟨A, ca, rfl, hlc, hcm⟩ := ha.form
  obtain ⟨B, cb, rfl, hld, hdm⟩ := hb.form
  have HA := Lib.hid ha
  have HB := Lib.hid hb
  obtain ⟨n, hn⟩ : ∃ n, l.length = n := ⟨_, rfl⟩
  have HN := Lib.hid hn
  by_cases hlen : l.length = m.length
  rotate_left
  · have t0 : decide ((l.length : Int) = (m.length : Int)) = false := by simp; omega
    have HZ := Lib.hid (show decide (l = m) = false from by rw [decide_eq_false_iff_not]; intro e; exact hlen (by rw [e]))
    have t0' : decide (l.length = m.length) = false := by simp; omega
    generalize decide (l = m) = Z at HZ ⊢
    clear ha hb HA HB hn HN
    go_enter Tryz.func62, Tryz.ntmps62
    go_wp2
    go_ret
    exact ⟨retb HZ.out.symm, Upd.refl _ _⟩
  have HL := Lib.hid hlen
  rw [← hlen] at _hs2 hld HB ⊢
  rw [hn] at hlc _hs2 hld HA HB ⊢
  clear ha hb hlen hn
  generalize hZ : decide (l = m) = Z at ⊢
  have HZ := Lib.hid hZ
  clear hZ
  unfold fnV
  go_enter Tryz.func62, Tryz.ntmps62
  go_wp2
  go_loopw [17] (fun i wr => SameRel l m w i wr) (fun i _ => n - (intOf i).toNat)
  case atStart => exact ⟨0, rfl, by omega, fun j h => absurd h (by omega), Upd.refl _ _⟩
  case round =>
    obtain ⟨k, rfl, hk, hch, hu⟩ := hrel
    have hnn := HN.out
    have hll := HL.out
    have HU := Lib.hid hu
    by_cases hlt : k < n
    · obtain ⟨s, hx⟩ : ∃ x, l[k]? = some x := ⟨_, List.getElem?_eq_getElem (by omega)⟩
      obtain ⟨t, hy⟩ : ∃ x, m[k]? = some x := ⟨_, List.getElem?_eq_getElem (by omega)⟩
      have t1 : decide ((k : Int) < (n : Int)) = true := by simp; omega
      have q0 : (0 : Int) ≤ (k : Int) := by omega
      have q1 : (k : Int) < (n : Int) := by omega
      obtain ⟨g, o, Au, cu, rfl, r1, r2, -⟩ := (HA.out.keep hu).at_ hx
      obtain ⟨g2, o2, Av, cv, rfl, r3, r4, -⟩ := (HB.out.keep hu).at_ hy
      have FS := Lib.hid (HA.out.fit hx)
      have FT := Lib.hid (HB.out.fit hy)
      have R1 := Lib.hid r1
      have R3 := Lib.hid (show ∀ W, Upd NoF wr W → W.rangeAt g2 (o2 + k * 23) (rowS t (.slice Av t.sig.length cv)) from fun W hq j x hj => hq.cell (r3 j x hj) (fun h => h))
      obtain ⟨ra, hra⟩ : ∃ z, (rowS s (.slice Au s.sig.length cu)).toArray = z := ⟨_, rfl⟩
      obtain ⟨rb, hrb⟩ : ∃ z, (rowS t (.slice Av t.sig.length cv)).toArray = z := ⟨_, rfl⟩
      have HRA := Lib.hid hra
      have HRB := Lib.hid hrb
      have RSA := Lib.hid (show zeroRow.size = ra.size ∧ (Tryz.prog.info? 57).map (·.size) = some ra.size ∧ ra.all (·.oneCell') = true from by
        rw [← hra]
        exact ⟨by rw [zeroRow_size]; simp [rowS_len FS.out], row_info FS.out _, row_one _ rfl⟩)
      have RSB := Lib.hid (show zeroRow.size = rb.size ∧ (Tryz.prog.info? 57).map (·.size) = some rb.size ∧ rb.all (·.oneCell') = true from by
        rw [← hrb]
        exact ⟨by rw [zeroRow_size]; simp [rowS_len FT.out], row_info FT.out _, row_one _ rfl⟩)
      have RBA := Lib.hid (show ∀ W q, Blk W q 57 ra → W.rangeAt q 0 (rowS s (.slice Au s.sig.length cu)) from fun W q h => by rw [← HRA.out] at h; exact range_blk h)
      have RBB := Lib.hid (show ∀ W q, Blk W q 57 rb → W.rangeAt q 0 (rowS t (.slice Av t.sig.length cv)) from fun W q h => by rw [← HRB.out] at h; exact range_blk h)
      have CE := Lib.hid (show ∀ W, Upd NoF wr W → Calls Tryz.prog 63 #[.agg ra, .agg rb] W (fun e w' => e = .returned (.bool (decide (s = t))) ∧ Upd NoF W w') from fun W hu => by
        rw [← HRA.out, ← HRB.out]
        exact equalVotes_any FS.out FT.out W (Rd.keep r2 hu) (Rd.keep r4 hu))
      clear r1 r3 hra hrb
      by_cases he : s = t
      · have HCH := Lib.hid (hch.next hx hy he)
        rw [decide_eq_true he] at CE
        clear hx hy hch hu hnn hll he
        clear r2 r4
        go_wp2_with (first
          | ((fail_if_success (have := B3)); refine wpList_alloc_row rfl 57 rfl zeroRow alloc_signed ?_; intro w3 hb3 hu3 hs3; have B3 := Lib.hid hb3; have U3 := Lib.hid hu3; clear hb3 hu3 hs3)
          | ((fail_if_success (have := B5)); refine wpList_alloc_row rfl 57 rfl zeroRow alloc_signed ?_; intro w5 hb5 hu5 hs5; have B5 := Lib.hid hb5; have U5 := Lib.hid (U4.out.trans hu5 (fun _ _ f => f)); have B45 := Lib.hid (hu5.blk B4.out (fun f => f)); clear hb5 hu5 hs5)
          | (refine wpList_load_signed rfl (.tmp 20) rfl g (o + k * 23) rfl s (.slice Au s.sig.length cu) FS.out R1.out (.agg ra) (congrArg Value.agg HRA.out) ?_)
          | (refine wpList_store_row rfl 57 (.tmp 8) (.tmp 21) rfl wr.heap.size rfl ra rfl 57 _ B3.out RSA.out.1 RSA.out.2.1 RSA.out.2.2 ?_; intro w4 hb4 hu4 hs4; have B4 := Lib.hid hb4; have U4 := Lib.hid (U3.out.trans hu4 (fun k hk e => by have e : k = wr.heap.size := e; omega)); clear hb4 hu4 hs4)
          | (refine wpList_load_signed rfl (.tmp 24) rfl g2 (o2 + k * 23) rfl t (.slice Av t.sig.length cv) FT.out (R3.out _ U4.out) (.agg rb) (congrArg Value.agg HRB.out) ?_)
          | (refine wpList_store_row rfl 57 (.tmp 9) (.tmp 25) rfl w4.heap.size rfl rb rfl 57 _ B5.out RSB.out.1 RSB.out.2.1 RSB.out.2.2 ?_; intro w6 hb6 hu6 hs6; have B6 := Lib.hid hb6; have B46 := Lib.hid (hu6.blk B45.out (fun e => by have e : wr.heap.size = w4.heap.size := e; have := B4.out.lt; omega)); have U6 := Lib.hid (U5.out.trans hu6 (fun k hk e => by have e : k = w4.heap.size := e; have := U4.out.size; omega)); clear hb6 hu6 hs6)
          | (refine wpList_load_signed rfl (.tmp 8) rfl wr.heap.size 0 rfl s (.slice Au s.sig.length cu) FS.out (RBA.out _ _ B46.out) (.agg ra) (congrArg Value.agg HRA.out) ?_)
          | (refine wpList_load_signed rfl (.tmp 9) rfl w4.heap.size 0 rfl t (.slice Av t.sig.length cv) FT.out (RBB.out _ _ B6.out) (.agg rb) (congrArg Value.agg HRB.out) ?_))
        refine (CE.out _ U6.out).mono ?_
        rintro e w7 ⟨rfl, hu7⟩
        have U7 := Lib.hid (HU.out.trans (U6.out.trans hu7 (fun _ _ f => f)) (fun _ _ f => f))
        clear hu7
        go_wp2
        go_roundw
        case rel => exact ⟨k + 1, by go_num, by have := HN.out; omega, HCH.out, U7.out⟩
        case measure => simp [intOf]; omega
      · have HCH := Lib.hid (same_no hx hy he)
        rw [decide_eq_false he] at CE
        clear hx hy hch hu hnn hll he
        clear r2 r4
        go_wp2_with (first
          | ((fail_if_success (have := B3)); refine wpList_alloc_row rfl 57 rfl zeroRow alloc_signed ?_; intro w3 hb3 hu3 hs3; have B3 := Lib.hid hb3; have U3 := Lib.hid hu3; clear hb3 hu3 hs3)
          | ((fail_if_success (have := B5)); refine wpList_alloc_row rfl 57 rfl zeroRow alloc_signed ?_; intro w5 hb5 hu5 hs5; have B5 := Lib.hid hb5; have U5 := Lib.hid (U4.out.trans hu5 (fun _ _ f => f)); have B45 := Lib.hid (hu5.blk B4.out (fun f => f)); clear hb5 hu5 hs5)
          | (refine wpList_load_signed rfl (.tmp 20) rfl g (o + k * 23) rfl s (.slice Au s.sig.length cu) FS.out R1.out (.agg ra) (congrArg Value.agg HRA.out) ?_)
          | (refine wpList_store_row rfl 57 (.tmp 8) (.tmp 21) rfl wr.heap.size rfl ra rfl 57 _ B3.out RSA.out.1 RSA.out.2.1 RSA.out.2.2 ?_; intro w4 hb4 hu4 hs4; have B4 := Lib.hid hb4; have U4 := Lib.hid (U3.out.trans hu4 (fun k hk e => by have e : k = wr.heap.size := e; omega)); clear hb4 hu4 hs4)
          | (refine wpList_load_signed rfl (.tmp 24) rfl g2 (o2 + k * 23) rfl t (.slice Av t.sig.length cv) FT.out (R3.out _ U4.out) (.agg rb) (congrArg Value.agg HRB.out) ?_)
          | (refine wpList_store_row rfl 57 (.tmp 9) (.tmp 25) rfl w4.heap.size rfl rb rfl 57 _ B5.out RSB.out.1 RSB.out.2.1 RSB.out.2.2 ?_; intro w6 hb6 hu6 hs6; have B6 := Lib.hid hb6; have B46 := Lib.hid (hu6.blk B45.out (fun e => by have e : wr.heap.size = w4.heap.size := e; have := B4.out.lt; omega)); have U6 := Lib.hid (U5.out.trans hu6 (fun k hk e => by have e : k = w4.heap.size := e; have := U4.out.size; omega)); clear hb6 hu6 hs6)
          | (refine wpList_load_signed rfl (.tmp 8) rfl wr.heap.size 0 rfl s (.slice Au s.sig.length cu) FS.out (RBA.out _ _ B46.out) (.agg ra) (congrArg Value.agg HRA.out) ?_)
          | (refine wpList_load_signed rfl (.tmp 9) rfl w4.heap.size 0 rfl t (.slice Av t.sig.length cv) FT.out (RBB.out _ _ B6.out) (.agg rb) (congrArg Value.agg HRB.out) ?_))
        refine (CE.out _ U6.out).mono ?_
        rintro e w7 ⟨rfl, hu7⟩
        have U7 := Lib.hid (HU.out.trans (U6.out.trans hu7 (fun _ _ f => f)) (fun _ _ f => f))
        clear hu7
        go_wp2
        go_ret
        exact ⟨retb (by rw [← HZ.out, decide_eq_false HCH.out]), U7.out⟩
    · have t1 : decide ((k : Int) < (n : Int)) = false := by simp; omega
      have HCV := Lib.hid (hch.end_ hll (by omega))
      clear hnn hch hu hll
      go_wp2
      go_ret
      exact ⟨retb (by rw [← HZ.out, decide_eq_true HCV.out]), HU.out⟩
end

section
open Go.RowKit

set_option maxRecDepth 100000 in
set_option maxHeartbeats 8000000 in
theorem Equal_any {w : World} {a b a' b' : Value} {V V' : ViewS} (h : VwR w a b V) (h' : VwR w a' b' V') (hs1 : V.votes.length ≤ 1099511627776) (hs2 : V.texts.length ≤ 1099511627776) (hs1' : V'.votes.length ≤ 1099511627776) (hs2' : V'.texts.length ≤ 1099511627776) : Calls Tryz.prog 24 #[.agg #[a, b], .agg #[a', b']] w fun e w' => e = .returned (.bool (decide (V = V'))) ∧ Upd NoF w w' := by
  obtain ⟨A, ca, hea, -, -⟩ := h.1.form
  obtain ⟨A', cb, hea', -, -⟩ := h'.1.form
  obtain ⟨Tx, ta, htA, -, -⟩ := h.2.form
  obtain ⟨Tx', tb, htB, -, -⟩ := h'.2.form
  have B1 := Lib.hid ((Blk.new w 25 #[a, b]).alloc (.cells #[a', b'] 25))
  have B2 := Lib.hid (show Blk ((w.alloc (.cells #[a, b] 25)).alloc (.cells #[a', b'] 25)) (w.heap.size + 1) 25 #[a', b'] from by have := Blk.new (w.alloc (.cells #[a, b] 25)) 25 #[a', b']; simpa using this)
  have UW := Lib.hid (((Upd.refl NoF w).alloc (.cells #[a, b] 25)).alloc (.cells #[a', b'] 25))
  have HZ := Lib.hid (view_eq (V := V) (V' := V'))
  generalize decide (V = V') = Z at HZ ⊢
  have HV := Lib.hid h
  have HV' := Lib.hid h'
  subst hea hea' htA htB
  obtain ⟨W1, hW1⟩ : ∃ x, x = (w.alloc (.cells #[.slice A V.votes.length ca, .slice Tx V.texts.length ta] 25)).alloc (.cells #[.slice A' V'.votes.length cb, .slice Tx' V'.texts.length tb] 25) := ⟨_, rfl⟩
  rw [← hW1] at B1 B2 UW
  have CS := Lib.hid (EqualFuncS_any (HV.out.keep UW.out).1 (HV'.out.keep UW.out).1 hs1 hs1')
  have c10 : W1.cell? ⟨w.heap.size, 0, none⟩ = some (.slice A V.votes.length ca) := B1.out.cell 0
  have c20 : W1.cell? ⟨(w.heap.size + 1), 0, none⟩ = some (.slice A' V'.votes.length cb) := B2.out.cell 0
  rw [hW1] at c10 c20
  clear h h'
  go_enter Tryz.func24, Tryz.ntmps24
  go_wp2_with fail
  rw [← hW1]
  refine CS.out.mono ?_
  rintro e w3 ⟨rfl, hu3⟩
  have d1 : w3.cell? ⟨w.heap.size, 1, none⟩ = some (.slice Tx V.texts.length ta) := (hu3.blk B1.out (fun h => h)).cell 1
  have d2 : w3.cell? ⟨(w.heap.size + 1), 1, none⟩ = some (.slice Tx' V'.texts.length tb) := (hu3.blk B2.out (fun h => h)).cell 1
  have U3 := Lib.hid (UW.out.trans hu3 (fun _ _ h => h))
  have CT := Lib.hid (EqualFuncT_any (HV.out.keep U3.out).2 (HV'.out.keep U3.out).2 hs2 hs2')
  clear hu3 c10 c20 hW1
  cases he : decide (V.votes = V'.votes) with
  | true =>
    rw [he] at HZ
    clear he
    go_wp2_with fail
    refine CT.out.mono ?_
    rintro e w4 ⟨rfl, hu4⟩
    have U4 := Lib.hid (U3.out.trans hu4 (fun _ _ h => h))
    clear hu4
    go_wp2
    go_ret
    exact ⟨retb (by rw [HZ.out, Bool.true_and]), U4.out⟩
  | false =>
    rw [he] at HZ
    clear he
    go_wp2
    go_ret
    exact ⟨retb (by rw [HZ.out, Bool.false_and]), U3.out⟩
end

section
open Go.RowKit

abbrev V0 : ViewS := ⟨[], []⟩
abbrev V2 : ViewS := ⟨[], [[1], [2]]⟩
abbrev aw8 : List UInt8 := [0, 0, 0, 0, 0, 0, 0, 0]
abbrev aw14 : List UInt8 := [0, 0, 0, 0, 0, 0, 0, 2, 0, 1, 1, 0, 1, 2]
theorem aw_enc0 : encodeS V0 = (aw8, 0) := by kernel_rfl
theorem aw_enc2 : encodeS V2 = (aw14, 0) := by kernel_rfl
theorem aw_dec0 : decodeS aw8 = some V0 := by kernel_rfl
theorem aw_decn : decodeS [] = none := by kernel_rfl
abbrev awS : DSt := ⟨[([115], ⟨aw14, 14⟩)], false, false, 0⟩
theorem aw_write : sWrite sNew [115] V2 = (0, awS) := by kernel_rfl
theorem aw_read32 : sReadV awS [115] = (some V2, 0) := by kernel_rfl
theorem aw_uni : uniT [[1], [2]] [[1], [2]] = [[1], [2]] := by kernel_rfl
theorem lit_texts {w : World} {g1 g2 g3 : Nat} (h1 : Blk w g1 5 #[byteV 1]) (h2 : Blk w g2 5 #[byteV 2]) (h3 : Blk w g3 28 #[.slice (some ⟨g1, 0, none⟩) 1 1, .slice (some ⟨g2, 0, none⟩) 1 1]) : TxR w (.slice (some ⟨g3, 0, none⟩) 2 2) [[1], [2]] := by
  refine ⟨[.slice (some ⟨g1, 0, none⟩) 1 1, .slice (some ⟨g2, 0, none⟩) 1 1], rfl, Rd.of_blk h3 (by decide) (by decide) rfl (fun j u hu => by rw [Nat.zero_add]; simpa using hu), fun i b hb => ?_⟩
  match i, hb with
  | 0, hb =>
    simp at hb
    subst hb
    exact ⟨_, rfl, Rd.of_blk h1 (by decide) (by decide) rfl (fun j u hu => by rw [Nat.zero_add]; simpa using hu)⟩
  | 1, hb =>
    simp at hb
    subst hb
    exact ⟨_, rfl, Rd.of_blk h2 (by decide) (by decide) rfl (fun j u hu => by rw [Nat.zero_add]; simpa using hu)⟩
  | n + 2, hb => simp at hb

theorem field_view1 (A B : Option Addr) (n m c d : Nat) (w : World) : (Instr.field 25 (.agg #[.slice A n c, .slice B m d]) 1).run Tryz.prog w = .ok (.slice B m d) w := by kernel_rfl
set_option maxRecDepth 100000 in
set_option maxHeartbeats 8000000 in
theorem awake32 (w : World) : Calls Tryz.prog 8 #[] w fun e w' => e = .returned (.bool true) ∧ Upd NoF w w' := by
  have CE := Lib.hid (Encode_any (w := w) (V := V0) ⟨SgR.nil w, TxR.nil w⟩ (by decide) (by decide))
  rw [aw_enc0] at CE
  go_enter Tryz.func8, Tryz.ntmps8
  go_wp2_with fail
  refine CE.out.mono ?_
  rintro e w1 ⟨A1, c1, rfl, hn1⟩
  have U1 := Lib.hid hn1.2.2
  have CD := Lib.hid (Decode_any (bs := aw8) hn1.1.rd (by decide))
  rw [aw_dec0] at CD
  clear hn1 CE
  go_wp2_with fail
  refine CD.out.mono ?_
  rintro e w2 ⟨a2, b2, rfl, hv2, hu2⟩
  obtain ⟨Aa, ca, rfl, -, hca⟩ := (hv2 w2 (Upd.refl _ _)).1.form
  obtain ⟨Ab, cb, rfl, -, hcb⟩ := (hv2 w2 (Upd.refl _ _)).2.form
  have HVV := Lib.hid (show ∀ W, VwR W (.slice Aa 0 ca) (.slice Ab 0 cb) V0 from fun W => ⟨SgR.of0 (Rd.of0 W 23 hca), ⟨[], rfl, Rd.of0 W 1 hcb, fun _ _ h => by cases h⟩⟩)
  have U2 := Lib.hid (U1.out.trans hu2 (fun _ _ f => f))
  clear hv2 hu2 CD hca hcb
  have BV := Lib.hid (Blk.new w2 25 #[.slice Aa 0 ca, .slice Ab 0 cb])
  have U3 := Lib.hid (U2.out.alloc (.cells #[.slice Aa 0 ca, .slice Ab 0 cb] 25))
  go_wp2_with fail
  obtain ⟨v, hv⟩ : ∃ x, x = w2.heap.size := ⟨_, rfl⟩
  rw [← hv] at BV ⊢
  obtain ⟨w3, hw3⟩ : ∃ x, x = w2.alloc (.cells #[.slice Aa 0 ca, .slice Ab 0 cb] 25) := ⟨_, rfl⟩
  rw [← hw3] at BV U3 ⊢
  clear hv hw3 U2
  refine (Decode_any (w := w3) (bs := []) (Rd.nil w3 1) (by decide)).mono ?_
  rw [aw_decn]
  rintro e w4 ⟨rfl, hu4⟩
  have B4 := Lib.hid ((hu4.blk BV.out (fun f => f)).alloc (.cells nil2 25))
  have U4 := Lib.hid ((U3.out.trans hu4 (fun _ _ f => f)).alloc (.cells nil2 25))
  clear hu4 BV U3
  go_wp2_with fail
  obtain ⟨w5, hw5⟩ : ∃ x, x = w4.alloc (.cells nil2 25) := ⟨_, rfl⟩
  rw [← hw5] at B4 U4 ⊢
  clear hw5
  refine (new_spec w5).mono ?_
  rintro e w6 ⟨rfl, F6, hd6, hu6, hf6⟩
  have B6 := Lib.hid (hu6.blk B4.out (fun f => f))
  have U6 := Lib.hid (U4.out.trans hu6 (fun _ _ f => f))
  have D6 := Lib.hid hd6
  have HW56 := Lib.hid hu6.size
  have HW45 := Lib.hid U4.out.size
  have HF6 := Lib.hid (show ∀ k, F6 k → w5.heap.size ≤ k from fun k hk => (hf6 k hk).resolve_left (fun f => f))
  have hvl : v < w5.heap.size := B4.out.lt
  generalize w5.heap.size + 1 = d at D6 ⊢
  clear hd6 hu6 hf6 B4 U4
  go_wp2_with fail
  obtain ⟨W7, hW7⟩ : ∃ x, x = (((w6.alloc (.cells #[.int .u8 1] 5)).alloc (.cells #[.int .u8 2] 5)).alloc (.cells #[.slice (some ⟨w6.heap.size, 0, none⟩) 1 1, .slice (some ⟨w6.heap.size + 1, 0, none⟩) 1 1] 28)) := ⟨_, rfl⟩
  have hu7 : Upd NoF w6 W7 := by rw [hW7]; exact (((Upd.refl NoF w6).alloc _).alloc _).alloc _
  have hT7 : TxR W7 (.slice (some ⟨w6.heap.size + 1 + 1, 0, none⟩) 2 2) [[1], [2]] := by
    have sz1 : (w6.alloc (.cells #[.int .u8 1] 5)).heap.size = w6.heap.size + 1 := by simp
    have sz2 : ((w6.alloc (.cells #[.int .u8 1] 5)).alloc (.cells #[.int .u8 2] 5)).heap.size = w6.heap.size + 1 + 1 := by simp
    have g1 := ((Blk.new w6 5 #[byteV 1]).alloc (.cells #[.int .u8 2] 5)).alloc (.cells #[.slice (some ⟨w6.heap.size, 0, none⟩) 1 1, .slice (some ⟨w6.heap.size + 1, 0, none⟩) 1 1] 28)
    have g2 := (Blk.new (w6.alloc (.cells #[.int .u8 1] 5)) 5 #[byteV 2]).alloc (.cells #[.slice (some ⟨w6.heap.size, 0, none⟩) 1 1, .slice (some ⟨w6.heap.size + 1, 0, none⟩) 1 1] 28)
    have g3 := Blk.new ((w6.alloc (.cells #[.int .u8 1] 5)).alloc (.cells #[.int .u8 2] 5)) 28 #[.slice (some ⟨w6.heap.size, 0, none⟩) 1 1, .slice (some ⟨w6.heap.size + 1, 0, none⟩) 1 1]
    rw [sz1] at g2
    rw [sz2] at g3
    rw [hW7]
    exact lit_texts g1 g2 g3
  rw [← hW7]
  clear hW7
  have CW := Lib.hid (Write_any (D6.out.upd hu7 (fun _ _ f => f)) (V := V2) ⟨SgR.nil W7, hT7⟩ [115] (by decide) (by decide) (by decide) (by rw [aw_enc2]; decide) (by decide) (by rw [aw_enc2]; decide))
  rw [aw_write] at CW
  have B7 := Lib.hid (hu7.blk B6.out (fun f => f))
  have U7 := Lib.hid (U6.out.trans hu7 (fun _ _ f => f))
  have HS7 := Lib.hid hu7.size
  clear hu7 hT7 D6 B6 U6
  refine CW.out.mono ?_
  rintro e w8 ⟨rfl, F8, hd8, hu8, hf8⟩
  have h5 := HF6.out
  have B8 := Lib.hid (hu8.blk B7.out (fun f => by have := h5 _ f; omega))
  have U8 := Lib.hid (U7.out.trans hu8 (fun k hk f => by have h1 := h5 _ f; have h2 := HW45.out; omega))
  have CR := Lib.hid (Read_any hd8 [115] (by decide) (by decide))
  rw [aw_read32] at CR
  clear hd8 hu8 hf8 h5 CW B7 U7
  unfold retE
  go_wp2_with fail
  refine CR.out.mono ?_
  rintro e w9 ⟨a9, b9, rfl, hv9, hu9⟩
  obtain ⟨Ax, cx, rfl, -, -⟩ := (hv9 w9 (Upd.refl _ _)).1.form
  obtain ⟨Ay, cy, rfl, -, -⟩ := (hv9 w9 (Upd.refl _ _)).2.form
  have B9 := Lib.hid ((hu9.blk B8.out (fun f => f)).alloc (.cells #[.slice Ax 0 cx, .slice Ay 2 cy] 25))
  have X9 := Lib.hid (Blk.new w9 25 #[.slice Ax 0 cx, .slice Ay 2 cy])
  have U9 := Lib.hid ((U8.out.trans hu9 (fun _ _ f => f)).alloc (.cells #[.slice Ax 0 cx, .slice Ay 2 cy] 25))
  have V9 := Lib.hid ((hv9 w9 (Upd.refl _ _)).keep ((Upd.refl NoF w9).alloc (.cells #[.slice Ax 0 cx, .slice Ay 2 cy] 25)))
  clear hv9 hu9 CR B8 U8
  have c0 : (w9.alloc (.cells #[.slice Ax 0 cx, .slice Ay 2 cy] 25)).cell? ⟨v, 0, none⟩ = some (.slice Aa 0 ca) := B9.out.cell 0
  have c1 : (w9.alloc (.cells #[.slice Ax 0 cx, .slice Ay 2 cy] 25)).cell? ⟨v, 1, none⟩ = some (.slice Ab 0 cb) := B9.out.cell 1
  go_wp2_with fail
  obtain ⟨x, hx⟩ : ∃ x, x = w9.heap.size := ⟨_, rfl⟩
  obtain ⟨w10, hw10⟩ : ∃ x, x = w9.alloc (.cells #[.slice Ax 0 cx, .slice Ay 2 cy] 25) := ⟨_, rfl⟩
  rw [← hw10] at B9 X9 U9 V9 ⊢
  rw [← hx] at X9 ⊢
  clear c0 c1 hx hw10
  refine (Equal_any V9.out V9.out (by decide) (by decide) (by decide) (by decide)).mono ?_
  rintro e w11 ⟨rfl, hu11⟩
  rw [show decide (V2 = V2) = true from by decide]
  have B11 := Lib.hid (hu11.blk B9.out (fun f => f))
  have X11 := Lib.hid (hu11.blk X9.out (fun f => f))
  have U11 := Lib.hid (U9.out.trans hu11 (fun _ _ f => f))
  have V11 := Lib.hid (V9.out.keep hu11)
  have c0 : w11.cell? ⟨v, 0, none⟩ = some (.slice Aa 0 ca) := B11.out.cell 0
  have c1 : w11.cell? ⟨v, 1, none⟩ = some (.slice Ab 0 cb) := B11.out.cell 1
  have c2 : w11.cell? ⟨x, 0, none⟩ = some (.slice Ax 0 cx) := X11.out.cell 0
  have c3 : w11.cell? ⟨x, 1, none⟩ = some (.slice Ay 2 cy) := X11.out.cell 1
  clear hu11 B9 X9 U9 V9
  go_wp2_with fail
  refine (Equal_any V11.out (HVV.out w11) (by decide) (by decide) (by decide) (by decide)).mono ?_
  rintro e w12 ⟨rfl, hu12⟩
  rw [show decide (V2 = V0) = false from by decide]
  have X12 := Lib.hid (hu12.blk X11.out (fun f => f))
  have U12 := Lib.hid (U11.out.trans hu12 (fun _ _ f => f))
  have V12 := Lib.hid (V11.out.keep hu12)
  have c2 : w12.cell? ⟨x, 0, none⟩ = some (.slice Ax 0 cx) := X12.out.cell 0
  have c3 : w12.cell? ⟨x, 1, none⟩ = some (.slice Ay 2 cy) := X12.out.cell 1
  clear hu12 B11 X11 U11 V11
  go_wp2_with fail
  refine (Union0_any V12.out.1 V12.out.2 V12.out.1 V12.out.2 (by decide) (by decide) (by decide)).mono ?_
  rw [aw_uni]
  rintro e w13 ⟨a, b, rfl, hv13, hu13⟩
  obtain ⟨Ap, cp, rfl, -, -⟩ := hv13.1.form
  obtain ⟨Aq, cq, rfl, -, -⟩ := hv13.2.form
  have U13 := Lib.hid (U12.out.trans hu13 (fun _ _ f => f))
  clear hv13 hu13
  have ff := field_view1 Ap Aq 0 2 cp cq w13
  go_wp2
  go_ret
  exact ⟨rfl, U13.out⟩
end

section
open Go.RowKit

theorem min_div (a c d : Nat) (_hd : 0 < d) (hc : c / d ≤ 1000) : ∃ q : Nat, (min (a : Int) (c : Int)).tdiv (d : Int) = (q : Int) ∧ q ≤ 1000 := by
  refine ⟨min a c / d, ?_, ?_⟩
  · have h : (min (a : Int) (c : Int)) = ((min a c : Nat) : Int) := by omega
    rw [h, Int.tdiv_eq_ediv_of_nonneg (by omega)]
    rfl
  · have := Nat.div_le_div_right (c := d) (Nat.min_le_right a c)
    omega
def HvRel (N L : Nat) (W : World) (n i : Value) (wr : World) : Prop := ∃ k x : Nat, n = .int .i64 (x : Int) ∧ i = .int .i64 (k : Int) ∧ k ≤ L ∧ N ≤ x ∧ x ≤ N + 1000 * k ∧ Upd NoF W wr
def HeavyPost (w : World) (V : ViewS) (e : Ending) (w' : World) : Prop := ∃ b : Bool, e = .returned (.bool b) ∧ (b = false → V.votes.length + V.texts.length ≤ 200) ∧ Upd NoF w w'
set_option maxRecDepth 100000 in
set_option maxHeartbeats 8000000 in
theorem heavy_any {w : World} {a b : Value} {V : ViewS} (h : VwR w a b V) (hs1 : V.votes.length ≤ 140737488355328) (hs2 : V.texts.length ≤ 140737488355328) : Calls Tryz.prog 7 #[.agg #[a, b]] w (HeavyPost w V) := by
  obtain ⟨A, ca, rfl, hlc, hcm⟩ := h.1.form
  obtain ⟨B, cb, rfl, hld, hdm⟩ := h.2.form
  have HV := Lib.hid h.1
  have HT := Lib.hid h.2
  obtain ⟨n, hn⟩ : ∃ n, V.votes.length = n := ⟨_, rfl⟩
  obtain ⟨m, hm⟩ : ∃ n, V.texts.length = n := ⟨_, rfl⟩
  have BV := Lib.hid (Blk.new w 25 #[.slice A V.votes.length ca, .slice B V.texts.length cb])
  have UW := Lib.hid ((Upd.refl NoF w).alloc (.cells #[.slice A V.votes.length ca, .slice B V.texts.length cb] 25))
  have HN := Lib.hid hn
  have HM := Lib.hid hm
  rw [hn] at hlc hs1 BV UW HV ⊢
  rw [hm] at hld hs2 BV UW HT ⊢
  obtain ⟨W1, hW1⟩ : ∃ x, x = w.alloc (.cells #[.slice A n ca, .slice B m cb] 25) := ⟨_, rfl⟩
  rw [← hW1] at BV UW
  clear h hn hm
  go_enter Tryz.func7, Tryz.ntmps7
  go_wp2
  rw [← hW1]
  clear hW1
  go_loopw [3, 4] (fun x i wr => HvRel (n + m) n W1 x i wr) (fun _ i _ => n - (intOf i).toNat)
  case atStart => exact ⟨0, n + m, by go_num, rfl, by omega, by omega, by omega, Upd.refl _ _⟩
  case round =>

    obtain ⟨k, x, rfl, rfl, hk, hx0, hx1, hu⟩ := hrel
    have HU := Lib.hid hu
    have c00 : wr.cell? ⟨w.heap.size, 0, none⟩ = some (.slice A n ca) := (hu.blk BV.out (fun h => h)).cell 0
    have hnn := HN.out
    by_cases hlt : k < n
    · have t1 : decide ((k : Int) < (n : Int)) = true := by simp; omega
      by_cases hle : x ≤ 200
      · have t2 : decide ((x : Int) ≤ 200) = true := by simp; omega
        have t2' : decide (x ≤ 200) = true := by simp; omega
        obtain ⟨s, hx⟩ : ∃ y, V.votes[k]? = some y := ⟨_, List.getElem?_eq_getElem (by omega)⟩
        obtain ⟨g, o, Au, cu, hA, r1, r2, -⟩ := (HV.out.keep (UW.out.trans hu (fun _ _ h => h))).at_ hx
        subst hA
        have y0 : wr.cell? ⟨g, o + k * 23 + 22, none⟩ = some (.slice Au s.sig.length cu) := range_sig (HV.out.fit hx) r1
        have q0 : (0 : Int) ≤ (k : Int) := by omega
        have q1 : (k : Int) < (n : Int) := by omega
        obtain ⟨q, hq, hq2⟩ : ∃ q : Nat, (min (s.sig.length : Int) 100000).tdiv 400 = (q : Int) ∧ q ≤ 1000 := min_div _ _ _ (by decide) (by decide)
        clear hx r1 r2 hu hnn
        go_wp2
        go_roundw
        case rel => exact ⟨k + 1, x + q, by go_num, by go_num, by omega, by omega, by omega, HU.out⟩
        case measure => simp [intOf]; omega
      · have t2 : decide ((x : Int) ≤ 200) = false := by simp; omega
        have t2' : decide (x ≤ 200) = false := by simp; omega
        clear hu
        go_wp2
        obtain ⟨wo, rfl⟩ : ∃ wo : World, wo = wr := ⟨_, rfl⟩
        have HX0 := Lib.hid hx0
        go_loopw [3, 5] (fun y i wr => HvRel x m W1 y i wr) (fun _ i _ => m - (intOf i).toNat)
        case atStart => exact ⟨0, x, by go_num, rfl, by omega, by omega, by omega, HU.out⟩
        case round =>
          clear t1 hlt hk c00 HU
          have hx00 := HX0.out
          obtain ⟨x0, rfl⟩ : ∃ y, y = x := ⟨_, rfl⟩
          have hxb := hx1
          clear hx0 hx1
          obtain ⟨k, x, rfl, rfl, hk, hx0, hx1, hu⟩ := hrel
          have HU := Lib.hid hu
          have c00 : wr.cell? ⟨w.heap.size, 1, none⟩ = some (.slice B m cb) := (hu.blk BV.out (fun h => h)).cell 1
          have hnn := HM.out
          by_cases hlt : k < m
          · have t1 : decide ((k : Int) < (m : Int)) = true := by simp; omega
            by_cases hle : x ≤ 200
            · exfalso; omega
            · have t2 : decide ((x : Int) ≤ 200) = false := by simp; omega
              have t2' : decide (x ≤ 200) = false := by simp; omega
              clear hu
              go_wp2
              go_ret
              refine ⟨_, rfl, fun hb => ?_, UW.out.trans HU.out (fun _ _ h => h)⟩
              have e1 := HN.out
              have e2 := HM.out
              simp at hb
              omega
          · have t1 : decide ((k : Int) < (m : Int)) = false := by simp; omega
            clear hu
            go_wp2
            go_ret
            refine ⟨_, rfl, fun hb => ?_, UW.out.trans HU.out (fun _ _ h => h)⟩
            have e1 := HN.out
            have e2 := HM.out
            simp at hb
            omega
    · have t1 : decide ((k : Int) < (n : Int)) = false := by simp; omega
      clear hu
      go_wp2
      obtain ⟨wo, rfl⟩ : ∃ wo : World, wo = wr := ⟨_, rfl⟩
      have HX0 := Lib.hid hx0
      go_loopw [3, 5] (fun y i wr => HvRel x m W1 y i wr) (fun _ i _ => m - (intOf i).toNat)
      case atStart => exact ⟨0, x, by go_num, rfl, by omega, by omega, by omega, HU.out⟩
      case round =>
        clear t1 hlt hk c00 HU
        have hx00 := HX0.out
        obtain ⟨x0, rfl⟩ : ∃ y, y = x := ⟨_, rfl⟩
        have hxb := hx1
        clear hx0 hx1
        obtain ⟨k, x, rfl, rfl, hk, hx0, hx1, hu⟩ := hrel
        have HU := Lib.hid hu
        have c00 : wr.cell? ⟨w.heap.size, 1, none⟩ = some (.slice B m cb) := (hu.blk BV.out (fun h => h)).cell 1
        have hnn := HM.out
        by_cases hlt : k < m
        · have t1 : decide ((k : Int) < (m : Int)) = true := by simp; omega
          by_cases hle : x ≤ 200
          · have t2 : decide ((x : Int) ≤ 200) = true := by simp; omega
            have t2' : decide (x ≤ 200) = true := by simp; omega
            obtain ⟨s, hx⟩ : ∃ y, V.texts[k]? = some y := ⟨_, List.getElem?_eq_getElem (by omega)⟩
            obtain ⟨g, o, Au, cu, hA, r1, r2, -⟩ := (HT.out.keep (UW.out.trans hu (fun _ _ h => h))).at_ hx
            subst hA
            have y0 : wr.cell? ⟨g, o + k, none⟩ = some (.slice Au s.length cu) := r1
            have q0 : (0 : Int) ≤ (k : Int) := by omega
            have q1 : (k : Int) < (m : Int) := by omega
            obtain ⟨q, hq, hq2⟩ : ∃ q : Nat, (min (s.length : Int) 1000000).tdiv 1000 = (q : Int) ∧ q ≤ 1000 := min_div _ _ _ (by decide) (by decide)
            clear hx r1 r2 hu hnn
            go_wp2
            go_roundw
            case rel => exact ⟨k + 1, x + q, by go_num, by go_num, by omega, by omega, by omega, HU.out⟩
            case measure => simp [intOf]; omega
          · have t2 : decide ((x : Int) ≤ 200) = false := by simp; omega
            have t2' : decide (x ≤ 200) = false := by simp; omega
            clear hu
            go_wp2
            go_ret
            refine ⟨_, rfl, fun hb => ?_, UW.out.trans HU.out (fun _ _ h => h)⟩
            have e1 := HN.out
            have e2 := HM.out
            simp at hb
            omega
        · have t1 : decide ((k : Int) < (m : Int)) = false := by simp; omega
          clear hu
          go_wp2
          go_ret
          refine ⟨_, rfl, fun hb => ?_, UW.out.trans HU.out (fun _ _ h => h)⟩
          have e1 := HN.out
          have e2 := HM.out
          simp at hb
          omega
end

section
open Go.RowKit

theorem flat_le {α : Type} (f : α → List UInt8) (c : Nat) : ∀ l : List α, (∀ x ∈ l, (f x).length ≤ c) → ((l.map f).flatten).length ≤ c * l.length
  | [], _ => by simp
  | x :: l, h => by
    have h1 := h x (by simp)
    have h2 := flat_le f c l (fun y hy => h y (by simp [hy]))
    rw [List.map_cons, List.flatten_cons, List.length_append, List.length_cons, Nat.mul_succ]
    omega
/-- What Encode returns for a view of moderate size. -/
theorem enc_cases {V : ViewS} (hf : ∀ s ∈ V.votes, s.vote.Fit) (h : V.votes.length + V.texts.length ≤ 200) : (∃ bs, encodeS V = (bs, 0) ∧ decodeS bs = some V ∧ bs.length ≤ 100000000) ∨ ∃ ec, ec ≠ 0 ∧ encodeS V = ([], ec) := by
  unfold encodeS
  by_cases ha : argB V = true
  · by_cases ho : ordB V = true
    · rw [if_pos ha, if_pos ho]
      refine .inl ⟨_, rfl, decode_encode hf (by omega) (by omega) ha ho, ?_⟩
      unfold argB at ha
      rw [Bool.and_eq_true, List.all_eq_true, List.all_eq_true] at ha
      have h1 := flat_le encS 393 V.votes (fun s hs => Nat.le_of_eq (encS_len (hf s hs) (okS_true.1 (ha.1 s hs)).2))
      have h2 := flat_le encT 65537 V.texts (fun t ht => by
        have := ha.2 t ht
        simp only [okT, decide_eq_true_eq] at this
        simp only [encT, List.length_append, beB_len]
        omega)
      unfold encView
      simp only [List.length_append, beB_len]
      omega
    · rw [if_pos ha, if_neg ho]
      exact .inr ⟨10, by decide, rfl⟩
  · rw [if_neg ha]
    exact .inr ⟨1, by decide, rfl⟩
end
end Go.Proofs.YtbgificdilpdcaaGreat
