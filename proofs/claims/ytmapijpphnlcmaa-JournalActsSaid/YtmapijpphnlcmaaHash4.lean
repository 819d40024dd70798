/- The hash functions of package hash and of the reference: Sum, Tagged. Conditions: sizes. -/
import Derived.Test.YtmapijpphnlcmaaHash3
import Derived.Test.YtmapijpphnlcmaaRegion
import Derived.Deep.RegionHeld3
namespace Go.Proofs.Ytmapijpphnlcmaa
open Go.RowKit

/-- The rest of a slice of bytes. -/
theorem rd_from {w : World} {g o n c k : Nat} {bs : List UInt8} (h : Rd w 1 (.slice (some ⟨g, o, none⟩) n c) n (bs.map byteV)) (hl : bs.length = n) (hk : k < n) : Rd w 1 (.slice (some ⟨g, o + k, none⟩) (n - k) (c - k)) (bs.drop k).length ((bs.drop k).map byteV) := by
  obtain ⟨A, c', e, h1, h2, h3, hx⟩ := h
  injection e with e1 _ e3
  subst e1 e3
  obtain ⟨g', o', e', hc⟩ := hx (by omega)
  injection e' with e'
  injection e' with e1 e2
  subst e1 e2
  refine ⟨_, c - k, by rw [List.length_drop, hl], by simp; omega, by omega, by simp, fun _ => ⟨g, o + k, rfl, fun j u hu => ?_⟩⟩
  rw [Nat.add_assoc]
  refine hc (k + j) u ?_
  rw [List.getElem?_map, List.getElem?_drop] at hu
  rw [List.getElem?_map]
  exact hu

/-- A name stored into its block. -/
theorem name_put {W : World} {g : Nat} {z0 z1 z2 z3 z4 z5 z6 z7 : Value} (hb : Blk W g 95 #[z0, z1, z2, z3, z4, z5, z6, z7]) (b0 b1 b2 b3 b4 b5 b6 b7 : UInt8) : Blk ((((((((W.setCell ⟨g, 0, none⟩ (.int .u8 (b0.toNat : Int))).setCell ⟨g, 1, none⟩ (.int .u8 (b1.toNat : Int))).setCell ⟨g, 2, none⟩ (.int .u8 (b2.toNat : Int))).setCell ⟨g, 3, none⟩ (.int .u8 (b3.toNat : Int))).setCell ⟨g, 4, none⟩ (.int .u8 (b4.toNat : Int))).setCell ⟨g, 5, none⟩ (.int .u8 (b5.toNat : Int))).setCell ⟨g, 6, none⟩ (.int .u8 (b6.toNat : Int))).setCell ⟨g, 7, none⟩ (.int .u8 (b7.toNat : Int))) g 95 #[byteV b0, byteV b1, byteV b2, byteV b3, byteV b4, byteV b5, byteV b6, byteV b7] := by
  have h0 : Blk (W.setCell ⟨g, 0, none⟩ (.int .u8 (b0.toNat : Int))) g 95 #[byteV b0, z1, z2, z3, z4, z5, z6, z7] := hb.put 0 (byteV b0)
  have h1 : Blk ((W.setCell ⟨g, 0, none⟩ (.int .u8 (b0.toNat : Int))).setCell ⟨g, 1, none⟩ (.int .u8 (b1.toNat : Int))) g 95 #[byteV b0, byteV b1, z2, z3, z4, z5, z6, z7] := h0.put 1 (byteV b1)
  have h2 : Blk (((W.setCell ⟨g, 0, none⟩ (.int .u8 (b0.toNat : Int))).setCell ⟨g, 1, none⟩ (.int .u8 (b1.toNat : Int))).setCell ⟨g, 2, none⟩ (.int .u8 (b2.toNat : Int))) g 95 #[byteV b0, byteV b1, byteV b2, z3, z4, z5, z6, z7] := h1.put 2 (byteV b2)
  have h3 : Blk ((((W.setCell ⟨g, 0, none⟩ (.int .u8 (b0.toNat : Int))).setCell ⟨g, 1, none⟩ (.int .u8 (b1.toNat : Int))).setCell ⟨g, 2, none⟩ (.int .u8 (b2.toNat : Int))).setCell ⟨g, 3, none⟩ (.int .u8 (b3.toNat : Int))) g 95 #[byteV b0, byteV b1, byteV b2, byteV b3, z4, z5, z6, z7] := h2.put 3 (byteV b3)
  have h4 : Blk (((((W.setCell ⟨g, 0, none⟩ (.int .u8 (b0.toNat : Int))).setCell ⟨g, 1, none⟩ (.int .u8 (b1.toNat : Int))).setCell ⟨g, 2, none⟩ (.int .u8 (b2.toNat : Int))).setCell ⟨g, 3, none⟩ (.int .u8 (b3.toNat : Int))).setCell ⟨g, 4, none⟩ (.int .u8 (b4.toNat : Int))) g 95 #[byteV b0, byteV b1, byteV b2, byteV b3, byteV b4, z5, z6, z7] := h3.put 4 (byteV b4)
  have h5 : Blk ((((((W.setCell ⟨g, 0, none⟩ (.int .u8 (b0.toNat : Int))).setCell ⟨g, 1, none⟩ (.int .u8 (b1.toNat : Int))).setCell ⟨g, 2, none⟩ (.int .u8 (b2.toNat : Int))).setCell ⟨g, 3, none⟩ (.int .u8 (b3.toNat : Int))).setCell ⟨g, 4, none⟩ (.int .u8 (b4.toNat : Int))).setCell ⟨g, 5, none⟩ (.int .u8 (b5.toNat : Int))) g 95 #[byteV b0, byteV b1, byteV b2, byteV b3, byteV b4, byteV b5, z6, z7] := h4.put 5 (byteV b5)
  have h6 : Blk (((((((W.setCell ⟨g, 0, none⟩ (.int .u8 (b0.toNat : Int))).setCell ⟨g, 1, none⟩ (.int .u8 (b1.toNat : Int))).setCell ⟨g, 2, none⟩ (.int .u8 (b2.toNat : Int))).setCell ⟨g, 3, none⟩ (.int .u8 (b3.toNat : Int))).setCell ⟨g, 4, none⟩ (.int .u8 (b4.toNat : Int))).setCell ⟨g, 5, none⟩ (.int .u8 (b5.toNat : Int))).setCell ⟨g, 6, none⟩ (.int .u8 (b6.toNat : Int))) g 95 #[byteV b0, byteV b1, byteV b2, byteV b3, byteV b4, byteV b5, byteV b6, z7] := h5.put 6 (byteV b6)
  have h7 : Blk ((((((((W.setCell ⟨g, 0, none⟩ (.int .u8 (b0.toNat : Int))).setCell ⟨g, 1, none⟩ (.int .u8 (b1.toNat : Int))).setCell ⟨g, 2, none⟩ (.int .u8 (b2.toNat : Int))).setCell ⟨g, 3, none⟩ (.int .u8 (b3.toNat : Int))).setCell ⟨g, 4, none⟩ (.int .u8 (b4.toNat : Int))).setCell ⟨g, 5, none⟩ (.int .u8 (b5.toNat : Int))).setCell ⟨g, 6, none⟩ (.int .u8 (b6.toNat : Int))).setCell ⟨g, 7, none⟩ (.int .u8 (b7.toNat : Int))) g 95 #[byteV b0, byteV b1, byteV b2, byteV b3, byteV b4, byteV b5, byteV b6, byteV b7] := h6.put 7 (byteV b7)
  exact h7
theorem name_upd {F : Nat → Prop} {w0 W : World} {g : Nat} (h : Upd F w0 W) (hg : F g ∨ w0.heap.size ≤ g) (b0 b1 b2 b3 b4 b5 b6 b7 : UInt8) : Upd F w0 ((((((((W.setCell ⟨g, 0, none⟩ (.int .u8 (b0.toNat : Int))).setCell ⟨g, 1, none⟩ (.int .u8 (b1.toNat : Int))).setCell ⟨g, 2, none⟩ (.int .u8 (b2.toNat : Int))).setCell ⟨g, 3, none⟩ (.int .u8 (b3.toNat : Int))).setCell ⟨g, 4, none⟩ (.int .u8 (b4.toNat : Int))).setCell ⟨g, 5, none⟩ (.int .u8 (b5.toNat : Int))).setCell ⟨g, 6, none⟩ (.int .u8 (b6.toNat : Int))).setCell ⟨g, 7, none⟩ (.int .u8 (b7.toNat : Int))) :=
  (((((((h.setCell (p := ⟨g, 0, none⟩) hg _).setCell (p := ⟨g, 1, none⟩) hg _).setCell (p := ⟨g, 2, none⟩) hg _).setCell (p := ⟨g, 3, none⟩) hg _).setCell (p := ⟨g, 4, none⟩) hg _).setCell (p := ⟨g, 5, none⟩) hg _).setCell (p := ⟨g, 6, none⟩) hg _).setCell (p := ⟨g, 7, none⟩) hg _

def HsRel (w : World) (gs : Nat) (bs : List UInt8) (i : Value) (wr : World) : Prop :=
  ∃ k : Nat, 8 * k ≤ bs.length + 7 ∧ i = .int .i64 ((8 * k : Nat) : Int) ∧ Blk wr gs 121 #[u64V (hk bs k).1, u64V (hk bs k).2] ∧ Upd NoF w wr

theorem hk_end (bs : List UInt8) (k : Nat) (h1 : 8 * k ≤ bs.length + 7) (h2 : bs.length ≤ 8 * k) : k = (bs.length + 7) / 8 := by omega

set_option maxRecDepth 100000 in
set_option maxHeartbeats 4000000 in
theorem hSum_any {w : World} {v : Value} {bs : List UInt8} (h : Rd w 1 v bs.length (bs.map byteV)) (hbl : bs.length ≤ 4611686018427387904) : Calls Try.prog 82 #[v] w fun e w' => e = .returned (nameV (hsum bs)) ∧ Upd NoF w w' := by
  obtain ⟨A, c, rfl, hlc, hcm, _⟩ := id h
  unfold maxLen at hcm
  have hrd : ∀ w', Upd NoF w w' → Rd w' 1 (.slice A bs.length c) bs.length (bs.map byteV) := fun w' hu => by
    obtain ⟨A', c', e, h1, h2, h3, hx⟩ := h
    exact ⟨A', c', e, h1, h2, h3, fun h0 => by
      obtain ⟨g, o, e', hc⟩ := hx h0
      exact ⟨g, o, e', fun j u hu' => hu.cell (hc j u hu') (fun h => h)⟩⟩
  have HR := Lib.hid hrd
  have hwl : IntKind.u64.wrap (bs.length : Int) = bs.length := wrap_u64_nat _ (by omega)
  clear h hrd
  go_enter Try.func82, Try.ntmps82
  go_wp2
  go_loopw [4] (fun i wr => HsRel w (w.heap.size + 1) bs i wr ∧ Blk wr w.heap.size 95 #[.int .u8 0, .int .u8 0, .int .u8 0, .int .u8 0, .int .u8 0, .int .u8 0, .int .u8 0, .int .u8 0]) (fun i _ => bs.length + 7 - (intOf i).toNat)
  case atStart =>
    refine ⟨⟨0, by omega, rfl, ?_, ((Upd.refl NoF w).alloc _).alloc _⟩, (Blk.new w _ _).alloc _⟩
    have := Blk.new (w.alloc (.cells #[.int .u8 0, .int .u8 0, .int .u8 0, .int .u8 0, .int .u8 0, .int .u8 0, .int .u8 0, .int .u8 0] 95)) 121 #[u64V 2611923443488327891, u64V 1376283091369227076]
    exact (show w.heap.size + 1 = (w.alloc (.cells #[.int .u8 0, .int .u8 0, .int .u8 0, .int .u8 0, .int .u8 0, .int .u8 0, .int .u8 0, .int .u8 0] 95)).heap.size by simp) ▸ this
  case round =>
    obtain ⟨⟨k, hk8, rfl, hB, hU⟩, hN⟩ := hrel
    have hsz : w.heap.size + 1 < wr.heap.size := hB.lt
    obtain ⟨q, hq⟩ : ∃ q, hk bs k = q := ⟨_, rfl⟩
    rw [hq] at hB
    obtain ⟨x, y⟩ := q
    simp only at hB
    have c0 : wr.cell? ⟨w.heap.size + 1, 0, none⟩ = some (u64V x) := hB.cell 0
    have c1 : wr.cell? ⟨w.heap.size + 1, 1, none⟩ = some (u64V y) := hB.cell 1
    have f0 : wr.frozen? ⟨w.heap.size + 1, 0, none⟩ = false := hB.frozen 0
    have f1 : wr.frozen? ⟨w.heap.size + 1, 1, none⟩ = false := hB.frozen 1
    have HB := Lib.hid hB
    have HU := Lib.hid hU
    have HN := Lib.hid hN
    by_cases hlt : 8 * k < bs.length
    · have hq1 : hk bs (k + 1) = mixN 2 (bits .xor .u64 x (wordN (bs.drop (8 * k))), y) := by
        show hstep (hk bs k) (bs.drop (8 * k)) = _
        rw [hq]
        rfl
      have HQ := Lib.hid hq1
      obtain ⟨g, o, rfl, -⟩ := rd_cells (HR.out w (Upd.refl NoF w)) (by omega)
      have CW := Lib.hid (show ∀ W, Upd NoF wr W → Calls Try.prog 87 #[.slice (some ⟨g, o + 8 * k, none⟩) (bs.length - 8 * k) (c - 8 * k)] W fun e w' => e = .returned (u64V (wordN (bs.drop (8 * k)))) ∧ Upd NoF W w' from fun W hW =>
        hword_any (rd_from (HR.out W (hU.trans hW (fun _ _ h => h))) rfl hlt) (by simp; omega))
      obtain ⟨N, hNw⟩ : ∃ N, wordN (bs.drop (8 * k)) = N := ⟨_, rfl⟩
      rw [hNw] at CW HQ
      have t1 : decide (((8 * k : Nat) : Int) < bs.length) = true := by simp; omega
      have t1' : decide (8 * (k : Int) < bs.length) = true := by simp; omega
      have t2 : (0:Int) ≤ 8 * (k : Int) := by omega
      have t3 : 8 * (k : Int) ≤ bs.length := by omega
      have t4 : (bs.length : Int) ≤ c := by omega
      have t5 : ¬ c = 8 * k := by omega
      have t6 : (8 * (k : Int)).toNat = 8 * k := by omega
      clear hB hU hN hq hq1 hNw
      go_wp2
      go_region_law
        (first
          | (go_simp; go_at_call 87; refine (CW.out _ ((Upd.refl NoF wr).drew)).mono ?_; rintro e w2 ⟨rfl, hu2⟩; have c0' : w2.cell? ⟨w.heap.size + 1, 0, none⟩ = some (u64V x) := hu2.cell (p := ⟨w.heap.size + 1, 0, none⟩) (v := u64V x) (HB.out.drew.cell 0) (fun h => h); have f0' := (hu2.blk HB.out.drew (fun h => h)).frozen 0; have U2 := Lib.hid hu2; clear hu2))
      all_goals
        obtain ⟨w3, hw3⟩ : ∃ w3, w3 = w2.setCell ⟨w.heap.size + 1, 0, none⟩ (.int .u64 (bits .xor .u64 x (N : Int))) := ⟨_, rfl⟩
        rw [← hw3]
        have B3 := Lib.hid (show Blk w3 (w.heap.size + 1) 121 #[u64V (bits .xor .u64 x (N : Int)), u64V y] ∧ Blk w3 w.heap.size 95 #[.int .u8 0, .int .u8 0, .int .u8 0, .int .u8 0, .int .u8 0, .int .u8 0, .int .u8 0, .int .u8 0] ∧ Upd NoF w w3 from by
          rw [hw3]
          exact ⟨(U2.out.blk HB.out.drew (fun h => h)).put 0 _, (U2.out.blk HN.out.drew (fun h => h)).far (by simp) _, ((HU.out.drew).trans U2.out (fun _ _ h => h)).setCell (p := ⟨w.heap.size + 1, 0, none⟩) (.inr (by simp)) _⟩)
        clear hw3 c0 c1 f0 f1 c0' f0'
        go_wp2_with fail
        refine (hmix_any (p := (bits .xor .u64 x (N : Int), y)) B3.out.1 2 (by omega)).mono ?_
        rintro e w4 ⟨rfl, hB4, hU4⟩
        have B4 := Lib.hid hB4
        have U4 := Lib.hid hU4
        clear hB4 hU4
        go_wp2
        go_roundw
        case rel =>
          refine ⟨⟨k + 1, by omega, by go_num, ?_, B3.out.2.2.trans U4.out (fun j hj e => by have e : j = w.heap.size + 1 := e; omega)⟩, U4.out.blk B3.out.2.1 (by simp)⟩
          rw [HQ.out]
          exact B4.out
        case measure => simp [intOf]; omega
    · have t1 : decide (((8 * k : Nat) : Int) < bs.length) = false := by simp; omega
      have t1' : decide (8 * (k : Int) < bs.length) = false := by simp; omega
      have E := Lib.hid (show ofV (bits .xor .u64 (hend (x, y) bs.length).1 (hend (x, y) bs.length).2) = hsum bs from by
        unfold hsum
        rw [← hk_end bs k hk8 (by omega), hq])
      have K3 := Lib.hid (show Blk (wr.setCell ⟨w.heap.size + 1, 1, none⟩ (u64V (bits .xor .u64 y (bs.length : Int)))) (w.heap.size + 1) 121 #[u64V x, u64V (bits .xor .u64 y (bs.length : Int))] ∧ Blk (wr.setCell ⟨w.heap.size + 1, 1, none⟩ (u64V (bits .xor .u64 y (bs.length : Int)))) w.heap.size 95 #[.int .u8 0, .int .u8 0, .int .u8 0, .int .u8 0, .int .u8 0, .int .u8 0, .int .u8 0, .int .u8 0] ∧ Upd NoF w (wr.setCell ⟨w.heap.size + 1, 1, none⟩ (u64V (bits .xor .u64 y (bs.length : Int)))) from
        ⟨hB.put 1 _, hN.far (by simp) _, hU.setCell (p := ⟨w.heap.size + 1, 1, none⟩) (.inr (by simp)) _⟩)
      clear hB hU hN hq
      go_wp2_with fail
      refine (hmix_any (p := (x, bits .xor .u64 y (bs.length : Int))) K3.out.1 4 (by omega)).mono ?_
      rintro e w4 ⟨rfl, hB4, hU4⟩
      have d0 : w4.cell? ⟨w.heap.size + 1, 0, none⟩ = some (u64V (hend (x, y) bs.length).1) := hB4.cell 0
      have d1 : w4.cell? ⟨w.heap.size + 1, 1, none⟩ = some (u64V (hend (x, y) bs.length).2) := hB4.cell 1
      have U5 := Lib.hid (show Upd NoF w w4 ∧ Blk w4 w.heap.size 95 #[.int .u8 0, .int .u8 0, .int .u8 0, .int .u8 0, .int .u8 0, .int .u8 0, .int .u8 0, .int .u8 0] from ⟨K3.out.2.2.trans hU4 (fun j hj e => by have e : j = w.heap.size + 1 := e; omega), hU4.blk K3.out.2.1 (by simp)⟩)
      clear hB4 hU4 c0 c1 f0 f1
      generalize (hend (x, y) bs.length).1 = x' at E d0
      generalize (hend (x, y) bs.length).2 = y' at E d1
      go_wp2_with fail
      refine (hOf_any _ _).mono ?_
      rintro e w5 ⟨rfl, hu5⟩
      rw [E.out]
      have hb5 := hu5.blk U5.out.2 (fun h => h)
      obtain ⟨b0, b1, b2, b3, b4, b5, b6, b7, l', hl'⟩ := eight (hsum bs) (Nat.le_of_eq rfl)
      obtain rfl : l' = [] := by
        have := congrArg List.length hl'
        rw [show (hsum bs).length = 8 from rfl] at this
        simpa using this
      have HL' := Lib.hid hl'
      rw [hl']
      have g0 : w5.frozen? ⟨w.heap.size, 0, none⟩ = false := hb5.frozen 0
      have r0 : w5.cell? ⟨w.heap.size, 0, none⟩ = some (.int .u8 0) := hb5.cell 0
      have g1 : w5.frozen? ⟨w.heap.size, 1, none⟩ = false := hb5.frozen 1
      have r1 : w5.cell? ⟨w.heap.size, 1, none⟩ = some (.int .u8 0) := hb5.cell 1
      have g2 : w5.frozen? ⟨w.heap.size, 2, none⟩ = false := hb5.frozen 2
      have r2 : w5.cell? ⟨w.heap.size, 2, none⟩ = some (.int .u8 0) := hb5.cell 2
      have g3 : w5.frozen? ⟨w.heap.size, 3, none⟩ = false := hb5.frozen 3
      have r3 : w5.cell? ⟨w.heap.size, 3, none⟩ = some (.int .u8 0) := hb5.cell 3
      have g4 : w5.frozen? ⟨w.heap.size, 4, none⟩ = false := hb5.frozen 4
      have r4 : w5.cell? ⟨w.heap.size, 4, none⟩ = some (.int .u8 0) := hb5.cell 4
      have g5 : w5.frozen? ⟨w.heap.size, 5, none⟩ = false := hb5.frozen 5
      have r5 : w5.cell? ⟨w.heap.size, 5, none⟩ = some (.int .u8 0) := hb5.cell 5
      have g6 : w5.frozen? ⟨w.heap.size, 6, none⟩ = false := hb5.frozen 6
      have r6 : w5.cell? ⟨w.heap.size, 6, none⟩ = some (.int .u8 0) := hb5.cell 6
      have g7 : w5.frozen? ⟨w.heap.size, 7, none⟩ = false := hb5.frozen 7
      have r7 : w5.cell? ⟨w.heap.size, 7, none⟩ = some (.int .u8 0) := hb5.cell 7
      have B5 := Lib.hid hb5
      have U6 := Lib.hid (U5.out.1.trans hu5 (fun _ _ h => h))
      clear hb5 hu5 d0 d1 hl'
      go_wp2
      refine bodyPost_ret (v := nameV [b0, b1, b2, b3, b4, b5, b6, b7]) ?_ rfl ⟨by rw [HL'.out], ?_⟩
      · exact results_cell_row (P := Try.prog) Try.results82 _ _ w.heap.size 95 #[byteV b0, byteV b1, byteV b2, byteV b3, byteV b4, byteV b5, byteV b6, byteV b7] (0, 0) _ rfl (name_put B5.out b0 b1 b2 b3 b4 b5 b6 b7) Try.underlying95 rfl (by kernel_rfl)
      · exact name_upd U6.out (.inr (Nat.le_refl _)) b0 b1 b2 b3 b4 b5 b6 b7

def RsRel (w : World) (bs : List UInt8) (x y i : Value) (wr : World) : Prop :=
  ∃ k : Nat, 8 * k ≤ bs.length + 7 ∧ i = .int .i64 (8 * (k : Int)) ∧ x = u64V (hk bs k).1 ∧ y = u64V (hk bs k).2 ∧ Upd NoF w wr ∧ Blk wr w.heap.size 95 #[.int .u8 0, .int .u8 0, .int .u8 0, .int .u8 0, .int .u8 0, .int .u8 0, .int .u8 0, .int .u8 0]
def R4Rel (p : Int × Int) (x y i : Value) : Prop := ∃ k : Nat, k ≤ 4 ∧ i = .int .i64 k ∧ x = u64V (mixN k p).1 ∧ y = u64V (mixN k p).2

set_option maxRecDepth 100000 in
set_option maxHeartbeats 4000000 in
theorem r1Sum_any {w : World} {v : Value} {bs : List UInt8} (h : Rd w 1 v bs.length (bs.map byteV)) (hbl : bs.length ≤ 4611686018427387904) : Calls Try.prog 83 #[v] w fun e w' => e = .returned (nameV (hsum bs)) ∧ Upd NoF w w' := by
  obtain ⟨A, c, rfl, hlc, hcm, _⟩ := id h
  unfold maxLen at hcm
  have hrd : ∀ w', Upd NoF w w' → Rd w' 1 (.slice A bs.length c) bs.length (bs.map byteV) := fun w' hu => by
    obtain ⟨A', c', e, h1, h2, h3, hx⟩ := h
    exact ⟨A', c', e, h1, h2, h3, fun h0 => by
      obtain ⟨g, o, e', hc⟩ := hx h0
      exact ⟨g, o, e', fun j u hu' => hu.cell (hc j u hu') (fun h => h)⟩⟩
  have HR := Lib.hid hrd
  have hwl : IntKind.u64.wrap (bs.length : Int) = bs.length := wrap_u64_nat _ (by omega)
  clear h hrd
  go_enter Try.func83, Try.ntmps83
  go_wp2
  go_loopw [3, 4, 5] (fun x y i wr => RsRel w bs x y i wr) (fun _ _ i _ => bs.length + 7 - (intOf i).toNat)
  case atStart => exact ⟨0, by omega, rfl, rfl, rfl, (Upd.refl NoF w).alloc _, Blk.new w _ _⟩
  case round =>
    obtain ⟨k, hk8, rfl, hx, hy, hU, hN⟩ := hrel
    have hsz : w.heap.size < wr.heap.size := hN.lt
    obtain ⟨q, hq⟩ : ∃ q, hk bs k = q := ⟨_, rfl⟩
    rw [hq] at hx hy
    obtain ⟨x, y⟩ := q
    simp only at hx hy
    subst hx hy
    have HU := Lib.hid hU
    have HN := Lib.hid hN
    by_cases hlt : 8 * k < bs.length
    · have hq1 : hk bs (k + 1) = mixS (mixS (bits .xor .u64 x (wordN (bs.drop (8 * k))), y)) := by
        show hstep (hk bs k) (bs.drop (8 * k)) = _
        rw [hq]
        rfl
      have HQ := Lib.hid hq1
      obtain ⟨g, o, rfl, -⟩ := rd_cells (HR.out w (Upd.refl NoF w)) (by omega)
      have CW := Lib.hid (show Calls Try.prog 90 #[.slice (some ⟨g, o + 8 * k, none⟩) (bs.length - 8 * k) (c - 8 * k)] wr fun e w' => e = .returned (u64V (wordN (bs.drop (8 * k)))) ∧ Upd NoF wr w' from
        r1word_any (rd_from (HR.out wr hU) rfl hlt))
      obtain ⟨N, hNw⟩ : ∃ N, wordN (bs.drop (8 * k)) = N := ⟨_, rfl⟩
      rw [hNw] at CW HQ
      have t1 : decide (((8 * k : Nat) : Int) < bs.length) = true := by simp; omega
      have t1' : decide (8 * (k : Int) < bs.length) = true := by simp; omega
      have t2 : (0:Int) ≤ 8 * (k : Int) := by omega
      have t3 : 8 * (k : Int) ≤ bs.length := by omega
      have t4 : (bs.length : Int) ≤ c := by omega
      have t5 : ¬ c = 8 * k := by omega
      have t6 : (8 * (k : Int)).toNat = 8 * k := by omega
      clear hU hN hq hq1 hNw
      go_wp2_with fail
      refine CW.out.mono ?_
      rintro e w2 ⟨rfl, hu2⟩
      have U2 := Lib.hid hu2
      clear hu2
      go_wp2_with fail
      refine (r1mix_any _ _ _).mono ?_
      rintro e w' ⟨rfl, rfl⟩
      go_wp2_with fail
      refine (r1mix_any _ _ _).mono ?_
      rintro e w' ⟨rfl, rfl⟩
      go_wp2
      go_roundw
      case rel =>
        refine ⟨k + 1, by omega, by go_num, ?_, ?_, HU.out.trans U2.out (fun _ _ h => h), U2.out.blk HN.out (fun h => h)⟩
        · rw [HQ.out]
        · rw [HQ.out]
      case measure => simp [intOf]; omega
    · have t1 : decide (((8 * k : Nat) : Int) < bs.length) = false := by simp; omega
      have t1' : decide (8 * (k : Int) < bs.length) = false := by simp; omega
      have E := Lib.hid (show ofV (bits .xor .u64 (hend (x, y) bs.length).1 (hend (x, y) bs.length).2) = hsum bs from by
        unfold hsum
        rw [← hk_end bs k hk8 (by omega), hq])
      clear hU hN hq
      go_wp2
      go_loop [3, 4, 6] (fun x' y' i => R4Rel (x, bits .xor .u64 y (bs.length : Int)) x' y' i) (fun _ _ i => 4 - (intOf i).toNat)
      case atStart => exact ⟨0, by omega, rfl, rfl, rfl⟩
      case round =>
        obtain ⟨j, hj, rfl, hx, hy⟩ := hrel
        obtain ⟨q, hq⟩ : ∃ q, mixN j (x, bits .xor .u64 y (bs.length : Int)) = q := ⟨_, rfl⟩
        rw [hq] at hx hy
        obtain ⟨x', y'⟩ := q
        simp only at hx hy
        subst hx hy
        by_cases hj4 : j < 4
        · have s1 : decide ((j : Int) < 4) = true := by simp; omega
          have s1' : decide (j < 4) = true := by simp; omega
          have HQ := Lib.hid (show mixN (j + 1) (x, bits .xor .u64 y (bs.length : Int)) = mixS (x', y') from by rw [← hq]; rfl)
          clear hq
          go_wp2_with fail
          refine (r1mix_any _ _ _).mono ?_
          rintro e w' ⟨rfl, rfl⟩
          go_wp2
          go_round
          case rel => exact ⟨j + 1, by omega, by go_num, by rw [HQ.out], by rw [HQ.out]⟩
          case measure => simp [intOf]; omega
        · have s1 : decide ((j : Int) < 4) = false := by simp; omega
          have s1' : decide (j < 4) = false := by simp; omega
          obtain rfl : j = 4 := by omega
          have e1 : hend (x, y) bs.length = (x', y') := hq
          rw [e1] at E
          clear hq e1
          go_wp2_with fail
          refine (r1Of_any _ _).mono ?_
          rintro e w5 ⟨rfl, hu5⟩
          rw [E.out]
          have hb5 := hu5.blk HN.out (fun h => h)
          obtain ⟨b0, b1, b2, b3, b4, b5, b6, b7, l', hl'⟩ := eight (hsum bs) (Nat.le_of_eq rfl)
          obtain rfl : l' = [] := by
            have := congrArg List.length hl'
            rw [show (hsum bs).length = 8 from rfl] at this
            simpa using this
          have HL' := Lib.hid hl'
          rw [hl']
          have g0 : w5.frozen? ⟨w.heap.size, 0, none⟩ = false := hb5.frozen 0
          have r0 : w5.cell? ⟨w.heap.size, 0, none⟩ = some (.int .u8 0) := hb5.cell 0
          have g1 : w5.frozen? ⟨w.heap.size, 1, none⟩ = false := hb5.frozen 1
          have r1 : w5.cell? ⟨w.heap.size, 1, none⟩ = some (.int .u8 0) := hb5.cell 1
          have g2 : w5.frozen? ⟨w.heap.size, 2, none⟩ = false := hb5.frozen 2
          have r2 : w5.cell? ⟨w.heap.size, 2, none⟩ = some (.int .u8 0) := hb5.cell 2
          have g3 : w5.frozen? ⟨w.heap.size, 3, none⟩ = false := hb5.frozen 3
          have r3 : w5.cell? ⟨w.heap.size, 3, none⟩ = some (.int .u8 0) := hb5.cell 3
          have g4 : w5.frozen? ⟨w.heap.size, 4, none⟩ = false := hb5.frozen 4
          have r4 : w5.cell? ⟨w.heap.size, 4, none⟩ = some (.int .u8 0) := hb5.cell 4
          have g5 : w5.frozen? ⟨w.heap.size, 5, none⟩ = false := hb5.frozen 5
          have r5 : w5.cell? ⟨w.heap.size, 5, none⟩ = some (.int .u8 0) := hb5.cell 5
          have g6 : w5.frozen? ⟨w.heap.size, 6, none⟩ = false := hb5.frozen 6
          have r6 : w5.cell? ⟨w.heap.size, 6, none⟩ = some (.int .u8 0) := hb5.cell 6
          have g7 : w5.frozen? ⟨w.heap.size, 7, none⟩ = false := hb5.frozen 7
          have r7 : w5.cell? ⟨w.heap.size, 7, none⟩ = some (.int .u8 0) := hb5.cell 7
          have B5 := Lib.hid hb5
          have U6 := Lib.hid (HU.out.trans hu5 (fun _ _ h => h))
          clear hb5 hu5 hl'
          go_wp2
          refine bodyPost_ret (v := nameV [b0, b1, b2, b3, b4, b5, b6, b7]) ?_ rfl ⟨by rw [HL'.out], ?_⟩
          · exact results_cell_row (P := Try.prog) Try.results83 _ _ w.heap.size 95 #[byteV b0, byteV b1, byteV b2, byteV b3, byteV b4, byteV b5, byteV b6, byteV b7] (0, 0) _ rfl (name_put B5.out b0 b1 b2 b3 b4 b5 b6 b7) Try.underlying95 rfl (by kernel_rfl)
          · exact name_upd U6.out (.inr (Nat.le_refl _)) b0 b1 b2 b3 b4 b5 b6 b7
end Go.Proofs.Ytmapijpphnlcmaa
