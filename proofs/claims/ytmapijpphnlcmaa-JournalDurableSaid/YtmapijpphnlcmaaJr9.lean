/- Package journal: Append, Sync, the walks. Conditions: sizes. -/
import Derived.Test.YtmapijpphnlcmaaJr8
namespace Go.Proofs.Ytmapijpphnlcmaa
open Go.RowKit

def JPost (w : World) (F G : Nat → Prop) (d j : Nat) (nm : List UInt8) (code : Int) (s : DSt) (l : List (List UInt8)) (safe : Nat) (dead : Bool) (e : Ending) (w' : World) : Prop := e = retE code ∧ DJStep w F G d s j nm l safe dead w'

section
variable {w : World} {d : Nat} {s : DSt} {F : Nat → Prop} {j : Nat} {nm : List UInt8} {l : List (List UInt8)} {safe : Nat} {dead : Bool} {G : Nat → Prop}

/-- One more record in the journal. -/
theorem jap_end {w3 w4 w5 : World} {s' : DSt} {F' : Nat → Prop} {A0 A4 A5 : Option Addr} {c0 c4 c5 : Nat} {vs : List Value} {b : List UInt8} {o : Obj} (hD : DiskAt w3 d s' F') (hdis : ∀ k, F' k → ¬ G k) (hB : Blk w3 j 99 #[ptrV d, strV nm, .slice A0 l.length c0, .int .i64 safe, .bool false]) (hV : RecsV w3 (.slice A0 l.length c0) l vs) (hG : G = fun k => k = j ∨ RecsF (.slice A0 l.length c0) vs k)
    (hU : Upd (fun k => F k ∨ G k) w w3) (hF : ∀ k, F' k → F k ∨ w.heap.size ≤ k) (h4 : Upd NoF w3 w4) (hO4 : Own w4 5 1 (.slice A4 b.length c4) b.length (b.map byteV)) (hn4 : ∀ k, OwnB (.slice A4 b.length c4) k → w3.heap.size ≤ k)
    (hO5 : Own w5 27 1 (.slice A5 (l.length + 1) c5) (l.length + 1) (vs ++ [.slice A4 b.length c4])) (hU5 : Upd (OwnB (.slice A0 l.length c0)) (w4.alloc o) w5) (hN5 : ∀ k, OwnB (.slice A5 (l.length + 1) c5) k → OwnB (.slice A0 l.length c0) k ∨ (w4.alloc o).heap.size ≤ k)
    (hs : safe ≤ 1099511627776) (hl : l.length < 1099511627776) (hl2 : ∀ x ∈ l, x.length ≤ 65536) (hb : b.length ≤ 65536) : DJStep w F G d s' j nm (l ++ [b]) safe false (w5.setCell ⟨j, 2, none⟩ (.slice A5 (l.length + 1) c5)) := by
  have hGj : G j := by rw [hG]; exact .inl rfl
  have hGr : ∀ k, RecsF (.slice A0 l.length c0) vs k → G k := fun k hk => by rw [hG]; exact .inr hk
  obtain ⟨g1, g2⟩ := RecsV.push hV (h4.alloc o) (hO4.upd ((Upd.refl NoF w4).alloc o) (fun _ _ h => h)) hO5 hU5 hN5
  have u5 : Upd (OwnB (.slice A0 l.length c0)) w3 w5 := ((h4.alloc o).mono (fun _ _ h => h.elim)).trans hU5 (fun _ _ h => h)
  have hjb : ¬ OwnB (.slice A0 l.length c0) j := hV.1.blk_ne hB (by decide)
  have hB5 := u5.blk hB hjb
  have hu6 : Upd (fun k => k = j) w5 (w5.setCell ⟨j, 2, none⟩ (.slice A5 (l.length + 1) c5)) := (Upd.refl (fun k => k = j) w5).setCell (p := ⟨j, 2, none⟩) (.inl rfl) _
  have hV6 : RecsV (w5.setCell ⟨j, 2, none⟩ (.slice A5 (l.length + 1) c5)) (.slice A5 (l.length + 1) c5) (l ++ [b]) (vs ++ [.slice A4 b.length c4]) :=
    ⟨g1.1.upd hu6 (fun k hk e => g1.1.blk_ne hB5 (by decide) (by rw [← e]; exact hk)), fun i x hx => by obtain ⟨u, x1, x2⟩ := g1.2 i x hx; exact ⟨u, x1, x2.upd hu6 (fun k hk e => x2.blk_ne hB5 (by decide) (by rw [← e]; exact hk))⟩⟩
  have hsz : w.heap.size ≤ w3.heap.size := hU.size
  have hsz4 := h4.size
  have hnew : ∀ k, RecsF (.slice A5 (l.length + 1) c5) (vs ++ [.slice A4 b.length c4]) k → G k ∨ w3.heap.size ≤ k := fun k hk => by
    rcases g2 k hk with e | e | e
    · exact .inl (hGr k e)
    · exact .inr (hn4 k e)
    · simp at e; exact .inr (by omega)
  refine ⟨F', _, ⟨(hD.upd u5 (fun k hk e => hdis k hk (hGr k (.inl e)))).upd hu6 (fun k hk e => hdis k hk (by rw [e]; exact hGj)), ⟨_, _, hB5.put 2 _, hV6, hs, by simp; omega, fun x hx => ?_, rfl⟩, fun k hk hg => ?_⟩, (hU.trans u5 (fun k _ e => .inr (hGr k (.inl e)))).trans hu6 (fun k _ e => .inr (by rw [e]; exact hGj)), hF, fun k hg => ?_⟩
  · rcases List.mem_append.1 hx with e | e
    · exact hl2 x e
    · simp at e; subst e; exact hb
  · rcases hg with rfl | hg
    · exact hdis _ hk hGj
    · rcases hnew k hg with e | e
      · exact hdis k hk e
      · have := hD.lt hk; omega
  · rcases hg with rfl | hg
    · exact .inl hGj
    · rcases hnew k hg with e | e
      · exact .inl e
      · exact .inr (by omega)

set_option maxRecDepth 100000 in
set_option maxHeartbeats 8000000 in
theorem jAppend_live (h : DJ w d s F j nm l safe false G) {v : Value} {b : List UInt8} (hb : RdB (fun k => F k ∨ G k) w v b) (hbig : b.length ≤ 65536) (hm : nm.length ≤ maxLen) (hl1 : ((getF s.fs nm).getD ⟨[], 0⟩).c.length ≤ 549755813888) (hL : s.fs.length < maxLen) (hll : l.length < 1099511627776) :
    Calls Try.prog 30 #[ptrV j, v] w (JPost w F G d j nm (sAppend s nm (frameS l.length b)).1 (sAppend s nm (frameS l.length b)).2 (if (sAppend s nm (frameS l.length b)).1 = 0 then l ++ [b] else l) safe (noteB false (sAppend s nm (frameS l.length b)).1)) := by
  obtain ⟨i0, hi0, hz0, hz1, hz2⟩ := info_parts bytes_info
  have H := Lib.hid h
  obtain ⟨rv, vs, hB, hV, hsf, hln, hlb, hG⟩ := h.2.1
  obtain ⟨A0, c0, rfl, hlc, hcm⟩ := RecsAt.form ⟨vs, hV, rfl⟩
  have q0 : w.cell? ⟨j, 0, none⟩ = some (ptrV d) := hB.cell 0
  have q1 : w.cell? ⟨j, 1, none⟩ = some (strV nm) := hB.cell 1
  have q2 : w.cell? ⟨j, 2, none⟩ = some (.slice A0 l.length c0) := hB.cell 2
  have q4 : w.cell? ⟨j, 4, none⟩ = some (.bool false) := hB.cell 4
  have hGj : G j := by rw [hG]; exact .inl rfl
  have hFlt : ∀ k, F k → k < w.heap.size := fun k hk => h.1.lt hk
  have hGlt : ∀ k, G k → k < w.heap.size := fun k hk => h.2.1.lt hk
  obtain ⟨A, c, rfl, _⟩ := hb.now
  have t1 : decide ((65536 : Int) < (b.length : Int)) = false := by simp; omega
  have t1' : decide (65536 < b.length) = false := by simp; omega
  have hfl : (frameS l.length b).length = 12 + b.length := by simp [frameS, beB_len, jsumS_len]; omega
  obtain ⟨r, hr⟩ : ∃ r, sAppend s nm (frameS l.length b) = r := ⟨_, rfl⟩
  rw [hr]
  have CF := Lib.hid (jFrame_any (w := w.drew) (hb.now.keep ((Upd.refl NoF w).drew)) (by omega) l.length (by omega))
  have CA := Lib.hid (show ∀ w1 A1 c1, NewO w.drew (frameS l.length b) A1 c1 w1 → Calls Try.prog 13 #[ptrV d, strV nm, .slice A1 (frameS l.length b).length c1] w1 (ErrPost w1 d F r) from fun w1 A1 c1 h1 => by
    rw [← hr]
    have u1 : Upd NoF w w1 := ((Upd.refl NoF w).drew).trans h1.2.2 (fun _ _ h => h)
    refine append_spec (h.1.upd u1 (fun _ _ h => h)) nm hm _ (frameS l.length b) ?_ (by omega) hL
    exact h1.1.rdF (fun k hk hf => by have := h1.2.1 k hk; have := hFlt k hf; simp at *; omega))
  have K1 := Lib.hid (show ∀ w1 A1 c1, NewO w.drew (frameS l.length b) A1 c1 w1 → Blk w1 j 99 #[ptrV d, strV nm, .slice A0 l.length c0, .int .i64 safe, .bool false] from fun w1 A1 c1 h1 => h1.2.2.blk hB.drew (fun h => h))
  have K2 := Lib.hid (show ∀ w1 w2 A1 c1, NewO w.drew (frameS l.length b) A1 c1 w1 → DiskStep w1 d r.2 F w2 → Blk w2 j 99 #[ptrV d, strV nm, .slice A0 l.length c0, .int .i64 safe, .bool false] from fun w1 w2 A1 c1 h1 h2 => by
    obtain ⟨F', a1, a2, a3⟩ := h2
    exact a2.blk (K1.out w1 A1 c1 h1) (fun e => h.2.2 j e hGj))
  have MID := Lib.hid (show ∀ w1 w2 w3 A1 c1, NewO w.drew (frameS l.length b) A1 c1 w1 → DiskStep w1 d r.2 F w2 → Blk w3 j 99 #[ptrV d, strV nm, .slice A0 l.length c0, .int .i64 safe, .bool (noteB false r.1)] → Upd (fun k => k = j) w2 w3 →
      ∃ F', DJ w3 d r.2 F' j nm l safe (noteB false r.1) G ∧ RecsV w3 (.slice A0 l.length c0) l vs ∧ Upd (fun k => F k ∨ G k) w w3 ∧ (∀ k, F' k → F k ∨ w.heap.size ≤ k) from fun w1 w2 w3 A1 c1 h1 h2 h3 h4 => jap_mid h hB hV hG hsf hln hlb h1 h2 h3 h4)
  have HBD := Lib.hid hb
  have HG := Lib.hid hG
  have HBB := Lib.hid hB
  have HLB := Lib.hid hlb
  have HGL := Lib.hid hGlt
  generalize frameS l.length b = fr at CF CA K1 K2 MID hfl
  clear h hb hB hV hlb hG hGlt hFlt hr hfl
  obtain ⟨code, s'⟩ := r
  simp only at CA K2 MID ⊢
  by_cases hc : code = 0
  · subst hc
    rw [if_pos rfl]
    rw [show noteB false 0 = false from rfl] at MID ⊢
    go_enter Try.func30, Try.ntmps30
    go_wp2
    go_region_held3 (fun w' => w'.cell? ⟨j, 0, none⟩ = some (ptrV d) ∧ w'.cell? ⟨j, 1, none⟩ = some (strV nm) ∧ w'.cell? ⟨j, 2, none⟩ = some (.slice A0 l.length c0))
      (first | exact ⟨q0, q1, q2⟩ | exact ⟨y0, y1, y2⟩ | exact ⟨z0, z1, z2⟩ | exact ⟨x0, x1, x2⟩)
      (first
        | (go_at_call 56; refine CF.out.mono ?_; rintro e w1 ⟨A1, c1, rfl, hn1⟩; have y0 : w1.cell? ⟨j, 0, none⟩ = some (ptrV d) := (K1.out w1 A1 c1 hn1).cell 0; have y1 : w1.cell? ⟨j, 1, none⟩ = some (strV nm) := (K1.out w1 A1 c1 hn1).cell 1; have y2 : w1.cell? ⟨j, 2, none⟩ = some (.slice A0 l.length c0) := (K1.out w1 A1 c1 hn1).cell 2; have N1 := Lib.hid hn1; clear hn1)
        | (go_at_call 13; refine (CA.out w1 A1 c1 N1.out).mono ?_; rintro e w2 ⟨rfl, hs2⟩; have z0 : w2.cell? ⟨j, 0, none⟩ = some (ptrV d) := (K2.out w1 w2 A1 c1 N1.out hs2).cell 0; have z1 : w2.cell? ⟨j, 1, none⟩ = some (strV nm) := (K2.out w1 w2 A1 c1 N1.out hs2).cell 1; have z2 : w2.cell? ⟨j, 2, none⟩ = some (.slice A0 l.length c0) := (K2.out w1 w2 A1 c1 N1.out hs2).cell 2; have S2 := Lib.hid hs2; clear hs2)
        | (go_at_call 62; refine (jnote_any (K2.out w1 w2 A1 c1 N1.out S2.out) 0).mono ?_; rintro e w3 ⟨rfl, hb3, hu3⟩; have x0 : w3.cell? ⟨j, 0, none⟩ = some (ptrV d) := hb3.cell 0; have x1 : w3.cell? ⟨j, 1, none⟩ = some (strV nm) := hb3.cell 1; have x2 : w3.cell? ⟨j, 2, none⟩ = some (.slice A0 l.length c0) := hb3.cell 2; have B3 := Lib.hid hb3; have U3 := Lib.hid hu3; clear hb3 hu3))
    clear q0 q1 q2 y0 y1 y2 z0 z1 z2 x0 x1 x2
    obtain ⟨F', g1, g2, g3, g4⟩ := MID.out w1 w2 w3 A1 c1 N1.out S2.out (by have := B3.out; rw [show noteB false 0 = false from rfl] at this; exact this) U3.out
    have hB3 : Blk w3 j 99 #[ptrV d, strV nm, .slice A0 l.length c0, .int .i64 safe, .bool false] := by have := B3.out; rw [show noteB false 0 = false from rfl] at this; exact this
    have p2 : w3.cell? ⟨j, 2, none⟩ = some (.slice A0 l.length c0) := hB3.cell 2
    have p2f : w3.frozen? ⟨j, 2, none⟩ = false := hB3.frozen 2
    have CC := Lib.hid (clone_any _ b w3.drew ((HBD.out.upd g3.drew).now) (by omega))
    have hjlt : j < w3.heap.size := hB3.lt
    have KB := Lib.hid (show ∀ w4, Upd NoF w3.drew w4 → ∀ o w5, Upd (OwnB (.slice A0 l.length c0)) (w4.alloc o) w5 → Blk w4 j 99 #[ptrV d, strV nm, .slice A0 l.length c0, .int .i64 safe, .bool false] ∧ Blk w5 j 99 #[ptrV d, strV nm, .slice A0 l.length c0, .int .i64 safe, .bool false] from fun w4 u4 o w5 u5 => by
      have e4 := u4.blk hB3.drew (fun h => h)
      exact ⟨e4, u5.blk (e4.alloc o) (g2.1.blk_ne hB3 (by decide))⟩)
    have OW := Lib.hid (show ∀ w4, Upd NoF w3.drew w4 → ∀ o, Own (w4.alloc o) 27 1 (.slice A0 l.length c0) l.length vs from fun w4 u4 o => (g2.1.upd (((Upd.refl NoF w3).drew).trans u4 (fun _ _ h => h)) (fun _ _ h => h)).upd ((Upd.refl NoF w4).alloc o) (fun _ _ h => h))
    have FIN := Lib.hid (show ∀ w4 w5 A4 c4 A5 c5 o, Upd NoF w3.drew w4 → Own w4 5 1 (.slice A4 b.length c4) b.length (b.map byteV) → (∀ k, OwnB (.slice A4 b.length c4) k → w3.drew.heap.size ≤ k) → Own w5 27 1 (.slice A5 (l.length + 1) c5) (l.length + 1) (vs ++ [.slice A4 b.length c4]) → Upd (OwnB (.slice A0 l.length c0)) (w4.alloc o) w5 →
        (∀ k, OwnB (.slice A5 (l.length + 1) c5) k → OwnB (.slice A0 l.length c0) k ∨ (w4.alloc o).heap.size ≤ k) → DJStep w F G d s' j nm (l ++ [b]) safe false (w5.setCell ⟨j, 2, none⟩ (.slice A5 (l.length + 1) c5)) from fun w4 w5 A4 c4 A5 c5 o u4 o4 n4 o5 u5 n5 =>
      jap_end g1.1 g1.2.2 hB3 g2 HG.out g3 g4 (((Upd.refl NoF w3).drew).trans u4 (fun _ _ h => h)) o4 n4 o5 u5 n5 hsf hll HLB.out hbig)
    clear g1 g2 g3 g4 hB3 q4
    go_wp2
    go_region_law
      (first
        | (go_simp; go_at_call 46; refine CC.out.mono ?_; rintro e w4 ⟨A4, c4, rfl, hO4, hn4, hU4⟩; have p4 : w4.cell? ⟨j, 2, none⟩ = some (.slice A0 l.length c0) := (KB.out w4 hU4 (.cells #[] 0) _ (Upd.refl _ _)).1.cell 2; have p4f : w4.frozen? ⟨j, 2, none⟩ = false := (KB.out w4 hU4 (.cells #[] 0) _ (Upd.refl _ _)).1.frozen 2; have hj4 : j < w4.heap.size := Nat.lt_of_lt_of_le hjlt hU4.size; have O4 := Lib.hid hO4; have N4 := Lib.hid hn4; have U4 := Lib.hid hU4; clear hO4 hn4 hU4)
        | (refine step_append_to _ (by rfl) (.tmp 50) (.tmp 53) _ (by rfl) 27 i0 _ 1 24 Try.underlying22 hi0 hz0 hz1 hz2 rfl (.slice A0 l.length c0) l.length vs (by rfl) (OW.out w4 U4.out _) (.slice (some ⟨w4.heap.size, 0, none⟩) 1 1) 1 [.slice A4 b.length c4] (by rfl) (Rd.of_blk (Blk.new w4 _ _) (by omega) (by unfold maxLen; omega) rfl (by intro i u hu; cases i with | zero => simpa using hu | succ i => simp at hu)) (by simp [Value.oneCell']) (by unfold maxLen; omega) (by omega) ?_; intro A5 c5 w5 hown5 hupd5 hnew5; have p5f : w5.frozen? ⟨j, 2, none⟩ = false := (KB.out w4 U4.out _ w5 hupd5).2.frozen 2; have p5 : w5.cell? ⟨j, 2, none⟩ = some (.slice A0 l.length c0) := (KB.out w4 U4.out _ w5 hupd5).2.cell 2; have O5 := Lib.hid hown5; have U5 := Lib.hid hupd5; have N5 := Lib.hid hnew5; clear hown5 hupd5 hnew5))
    all_goals
      go_wp2
      go_ret
      exact ⟨rfl, FIN.out w4 w5 A4 c4 A5 c5 _ U4.out O4.out N4.out O5.out U5.out N5.out⟩
  · have t2 : (code == 0) = false := by simpa using hc
    have t2' : (code != 0) = true := by simpa using hc
    rw [if_neg hc]
    clear hc
    go_enter Try.func30, Try.ntmps30
    go_wp2
    go_region_held3 (fun w' => w'.cell? ⟨j, 0, none⟩ = some (ptrV d) ∧ w'.cell? ⟨j, 1, none⟩ = some (strV nm) ∧ w'.cell? ⟨j, 2, none⟩ = some (.slice A0 l.length c0))
      (first | exact ⟨q0, q1, q2⟩ | exact ⟨y0, y1, y2⟩ | exact ⟨z0, z1, z2⟩ | exact ⟨x0, x1, x2⟩)
      (first
        | (go_at_call 56; refine CF.out.mono ?_; rintro e w1 ⟨A1, c1, rfl, hn1⟩; have y0 : w1.cell? ⟨j, 0, none⟩ = some (ptrV d) := (K1.out w1 A1 c1 hn1).cell 0; have y1 : w1.cell? ⟨j, 1, none⟩ = some (strV nm) := (K1.out w1 A1 c1 hn1).cell 1; have y2 : w1.cell? ⟨j, 2, none⟩ = some (.slice A0 l.length c0) := (K1.out w1 A1 c1 hn1).cell 2; have N1 := Lib.hid hn1; clear hn1)
        | (go_at_call 13; refine (CA.out w1 A1 c1 N1.out).mono ?_; rintro e w2 ⟨rfl, hs2⟩; have z0 : w2.cell? ⟨j, 0, none⟩ = some (ptrV d) := (K2.out w1 w2 A1 c1 N1.out hs2).cell 0; have z1 : w2.cell? ⟨j, 1, none⟩ = some (strV nm) := (K2.out w1 w2 A1 c1 N1.out hs2).cell 1; have z2 : w2.cell? ⟨j, 2, none⟩ = some (.slice A0 l.length c0) := (K2.out w1 w2 A1 c1 N1.out hs2).cell 2; have S2 := Lib.hid hs2; clear hs2)
        | (go_at_call 62; refine (jnote_any (K2.out w1 w2 A1 c1 N1.out S2.out) code).mono ?_; rintro e w3 ⟨rfl, hb3, hu3⟩; have x0 : w3.cell? ⟨j, 0, none⟩ = some (ptrV d) := hb3.cell 0; have x1 : w3.cell? ⟨j, 1, none⟩ = some (strV nm) := hb3.cell 1; have x2 : w3.cell? ⟨j, 2, none⟩ = some (.slice A0 l.length c0) := hb3.cell 2; have B3 := Lib.hid hb3; have U3 := Lib.hid hu3; clear hb3 hu3))
    clear q0 q1 q2 y0 y1 y2 z0 z1 z2 x0 x1 x2
    go_wp2
    go_ret
    obtain ⟨F', g1, g2, g3, g4⟩ := MID.out w1 w2 w3 A1 c1 N1.out S2.out B3.out U3.out
    exact ⟨rfl, F', G, g1, g3, g4, fun k hk => .inl hk⟩
end
end Go.Proofs.Ytmapijpphnlcmaa
