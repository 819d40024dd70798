/- Package journal: Append, Sync; the sanity check of the statements. Conditions: those that each theorem states. -/
import Derived.Test.YtmapijpphnlcmaaMj3
import Derived.Lib.SlBytesConst
namespace Go.Proofs.Ytmapijpphnlcmaa
section
open Go.RowKit

def sJAppend (s : DSt) (nm : List UInt8) (l : List (List UInt8)) (dead : Bool) (b : List UInt8) : Int × DSt × List (List UInt8) × Bool :=
  if 65536 < b.length then (1, s, l, dead) else if dead then (103, s, l, dead) else
  ((sAppend s nm (frameS l.length b)).1, (sAppend s nm (frameS l.length b)).2, if (sAppend s nm (frameS l.length b)).1 = 0 then l ++ [b] else l, noteB dead (sAppend s nm (frameS l.length b)).1)
def sJSync (s : DSt) (nm : List UInt8) (l : List (List UInt8)) (safe : Nat) (dead : Bool) : Int × DSt × Nat × Bool :=
  if dead then (103, s, safe, dead) else if l.length = 0 then (0, s, safe, dead) else
  ((sSync s nm).1, (sSync s nm).2, if (sSync s nm).1 = 0 then l.length else safe, noteB dead (sSync s nm).1)

def DJ (w : World) (d : Nat) (s : DSt) (F : Nat → Prop) (j : Nat) (nm : List UInt8) (l : List (List UInt8)) (safe : Nat) (dead : Bool) (G : Nat → Prop) : Prop := DiskAt w d s F ∧ JAt w j d nm l safe dead G ∧ ∀ k, F k → ¬ G k
def DJStep (w : World) (F G : Nat → Prop) (d : Nat) (s : DSt) (j : Nat) (nm : List UInt8) (l : List (List UInt8)) (safe : Nat) (dead : Bool) (w' : World) : Prop :=
  ∃ F' G', DJ w' d s F' j nm l safe dead G' ∧ Upd (fun k => F k ∨ G k) w w' ∧ (∀ k, F' k → F k ∨ w.heap.size ≤ k) ∧ (∀ k, G' k → G k ∨ w.heap.size ≤ k)

section
variable {w : World} {d : Nat} {s : DSt} {F : Nat → Prop} {j : Nat} {nm : List UInt8} {l : List (List UInt8)} {safe : Nat} {dead : Bool} {G : Nat → Prop}

theorem DJ.refl (h : DJ w d s F j nm l safe dead G) : DJStep w F G d s j nm l safe dead w := ⟨F, G, h, Upd.refl _ _, fun _ h => .inl h, fun _ h => .inl h⟩
theorem DJ.upd (h : DJ w d s F j nm l safe dead G) {w' : World} (hu : Upd NoF w w') : DJ w' d s F j nm l safe dead G := ⟨h.1.upd hu (fun _ _ h => h), h.2.1.upd hu (fun _ _ h => h), h.2.2⟩
theorem DJ.stepped (h : DJ w d s F j nm l safe dead G) {w' : World} (hu : Upd NoF w w') : DJStep w F G d s j nm l safe dead w' := ⟨F, G, h.upd hu, hu.mono (fun _ _ h => h.elim), fun _ h => .inl h, fun _ h => .inl h⟩

set_option maxRecDepth 100000 in
theorem jAppend_nil (w : World) : Calls Try.prog 30 #[.pointer none, .slice none 0 0] w fun e w' => e = retE 1 ∧ w = w' := by
  go_enter Try.func30, Try.ntmps30
  go_wp2
  go_ret
  exact ⟨rfl, rfl⟩
set_option maxRecDepth 100000 in
theorem jSync_nil (w : World) : Calls Try.prog 32 #[.pointer none] w fun e w' => e = retE 1 ∧ w = w' := by
  go_enter Try.func32, Try.ntmps32
  go_wp2
  go_ret
  exact ⟨rfl, rfl⟩

set_option maxRecDepth 100000 in
theorem jAppend_big (h : DJ w d s F j nm l safe dead G) {v : Value} {b : List UInt8} (hb : RdB (fun k => F k ∨ G k) w v b) (hbig : 65536 < b.length) : Calls Try.prog 30 #[ptrV j, v] w fun e w' => e = retE 1 ∧ w = w' := by
  obtain ⟨rv, vs, h1, _⟩ := h.2.1
  have c0 : w.cell? ⟨j, 0, none⟩ = some (ptrV d) := h1.cell 0
  obtain ⟨A, c, rfl, _⟩ := hb.now
  have t1 : decide ((65536 : Int) < (b.length : Int)) = true := by simp; omega
  have t1' : decide (65536 < b.length) = true := by simp; omega
  clear h h1 hb
  go_enter Try.func30, Try.ntmps30
  go_wp2
  go_ret
  exact ⟨rfl, rfl⟩
set_option maxRecDepth 100000 in
theorem jAppend_dead (h : DJ w d s F j nm l safe true G) {v : Value} {b : List UInt8} (hb : RdB (fun k => F k ∨ G k) w v b) (hbig : ¬ 65536 < b.length) : Calls Try.prog 30 #[ptrV j, v] w fun e w' => e = retE 103 ∧ w = w' := by
  obtain ⟨rv, vs, h1, _⟩ := h.2.1
  have c0 : w.cell? ⟨j, 0, none⟩ = some (ptrV d) := h1.cell 0
  have c4 : w.cell? ⟨j, 4, none⟩ = some (.bool true) := h1.cell 4
  obtain ⟨A, c, rfl, _⟩ := hb.now
  have t1 : decide ((65536 : Int) < (b.length : Int)) = false := by simp; omega
  have t1' : decide (65536 < b.length) = false := by simp; omega
  clear h h1 hb
  go_enter Try.func30, Try.ntmps30
  go_wp2
  go_ret
  exact ⟨rfl, rfl⟩

/-- The disk has appended the frame, and the journal has taken note. -/
theorem jap_mid (h : DJ w d s F j nm l safe false G) {w1 w2 w3 : World} {rv : Value} {vs : List Value} {A : Option Addr} {c : Nat} {fr : List UInt8} {r : Int × DSt} (hB : Blk w j 99 #[ptrV d, strV nm, rv, .int .i64 safe, .bool false]) (hV : RecsV w rv l vs) (hG : G = fun k => k = j ∨ RecsF rv vs k) (hs : safe ≤ 1099511627776) (hl : l.length ≤ 1099511627776) (hl2 : ∀ b ∈ l, b.length ≤ 65536)
    (h1 : NewO w.drew fr A c w1) (h2 : DiskStep w1 d r.2 F w2) (h3 : Blk w3 j 99 #[ptrV d, strV nm, rv, .int .i64 safe, .bool (noteB false r.1)]) (h4 : Upd (fun k => k = j) w2 w3) :
    ∃ F', DJ w3 d r.2 F' j nm l safe (noteB false r.1) G ∧ RecsV w3 rv l vs ∧ Upd (fun k => F k ∨ G k) w w3 ∧ (∀ k, F' k → F k ∨ w.heap.size ≤ k) := by
  obtain ⟨hD, hJ, hdis⟩ := h
  obtain ⟨F', a1, a2, a3⟩ := h2
  have u1 : Upd NoF w w1 := ((Upd.refl NoF w).drew).trans h1.2.2 (fun _ _ h => h)
  have hGj : G j := by rw [hG]; exact .inl rfl
  have hFG1 : ∀ k, F' k → ¬ G k := fun k hk hg => by
    rcases a3 k hk with e | e
    · exact hdis k e hg
    · have := hJ.lt hg; have := u1.size; omega
  have v1 : RecsV w1 rv l vs ∧ RecsV w2 rv l vs ∧ RecsV w3 rv l vs := by
    obtain ⟨vs1, e1, e2⟩ := RecsAt.upd ⟨vs, hV, rfl⟩ u1 (fun _ _ h => h)
    have q1 : RecsV w1 rv l vs := ⟨hV.1.upd u1 (fun _ _ h => h), fun i b hb => by obtain ⟨u, x1, x2⟩ := hV.2 i b hb; exact ⟨u, x1, x2.upd u1 (fun _ _ h => h)⟩⟩
    have hno : ∀ k, RecsF rv vs k → G k := fun k hk => by rw [hG]; exact .inr hk
    have q2 : RecsV w2 rv l vs := ⟨q1.1.upd a2 (fun k hk e => hdis k e (hno k (.inl hk))), fun i b hb => by obtain ⟨u, x1, x2⟩ := q1.2 i b hb; exact ⟨u, x1, x2.upd a2 (fun k hk e => hdis k e (hno k (.inr ⟨u, List.mem_of_getElem? x1, hk⟩)))⟩⟩
    have hB2 : Blk w2 j 99 #[ptrV d, strV nm, rv, .int .i64 safe, .bool false] := a2.blk (u1.blk hB (fun h => h)) (fun e => hdis j e hGj)
    have q3 : RecsV w3 rv l vs := ⟨q2.1.upd h4 (fun k hk e => q2.1.blk_ne hB2 (by decide) (by rw [← e]; exact hk)), fun i b hb => by obtain ⟨u, x1, x2⟩ := q2.2 i b hb; exact ⟨u, x1, x2.upd h4 (fun k hk e => x2.blk_ne hB2 (by decide) (by rw [← e]; exact hk))⟩⟩
    exact ⟨q1, q2, q3⟩
  refine ⟨F', ⟨a1.upd h4 (fun k hk e => hFG1 k hk (by rw [e]; exact hGj)), ⟨rv, vs, h3, v1.2.2, hs, hl, hl2, hG⟩, hFG1⟩, v1.2.2, ?_, fun k hk => ?_⟩
  · exact ((u1.mono (G := fun k => F k ∨ G k) (fun _ _ h => h.elim)).trans a2 (fun k _ e => .inl e)).trans h4 (fun k _ e => .inr (by rw [e]; exact hGj))
  · rcases a3 k hk with e | e
    · exact .inl e
    · exact .inr (Nat.le_trans u1.size e)
end
end

section
open Go.RowKit

def JPost (w : World) (F G : Nat → Prop) (d j : Nat) (nm : List UInt8) (code : Int) (s : DSt) (l : List (List UInt8)) (safe : Nat) (dead : Bool) (e : Ending) (w' : World) : Prop := e = retE code ∧ DJStep w F G d s j nm l safe dead w'

section
variable {w : World} {d : Nat} {s : DSt} {F : Nat → Prop} {j : Nat} {nm : List UInt8} {l : List (List UInt8)} {safe : Nat} {dead : Bool} {G : Nat → Prop}

/-- One more record in the journal. -/
theorem jap_end {w3 w4 w5 : World} {s' : DSt} {F' : Nat → Prop} {A0 A4 A5 : Option Addr} {c0 c4 c5 : Nat} {vs : List Value} {b : List UInt8} {o : Obj} (hD : DiskAt w3 d s' F') (hdis : ∀ k, F' k → ¬ G k) (hB : Blk w3 j 99 #[ptrV d, strV nm, .slice A0 l.length c0, .int .i64 safe, .bool false]) (hV : RecsV w3 (.slice A0 l.length c0) l vs) (hG : G = fun k => k = j ∨ RecsF (.slice A0 l.length c0) vs k)
    (hU : Upd (fun k => F k ∨ G k) w w3) (hF : ∀ k, F' k → F k ∨ w.heap.size ≤ k) (h4 : Upd NoF w3 w4) (hO4 : Own w4 5 1 (.slice A4 b.length c4) b.length (b.map byteV)) (hn4 : ∀ k, OwnB (.slice A4 b.length c4) k → w3.heap.size ≤ k)
    (hO5 : Own w5 27 1 (.slice A5 (l.length + 1) c5) (l.length + 1) (vs ++ [.slice A4 b.length c4])) (hU5 : Upd (OwnB (.slice A0 l.length c0)) (w4.alloc o) w5) (hN5 : ∀ k, OwnB (.slice A5 (l.length + 1) c5) k → OwnB (.slice A0 l.length c0) k ∨ (w4.alloc o).heap.size ≤ k)
    (hs : safe ≤ 1099511627776) (hl : l.length < 1099511627776) (hl2 : ∀ x ∈ l, x.length ≤ 65536) (hb : b.length ≤ 65536) : DJStep w F G d s' j nm (l ++ [b]) safe false (w5.setCell ⟨j, 2, none⟩ (.slice A5 (l.length + 1) c5)) := by
  have hGj : G j := by rw [hG]; exact .inl rfl
  have hGr : ∀ k, RecsF (.slice A0 l.length c0) vs k → G k := fun k hk => by rw [hG]; exact .inr hk
  obtain ⟨g1, g2⟩ := RecsV.push hV (h4.alloc o) (hO4.upd ((Upd.refl NoF w4).alloc o) (fun _ _ h => h)) hO5 hU5 hN5
  have u5 : Upd (OwnB (.slice A0 l.length c0)) w3 w5 := ((h4.alloc o).mono (fun _ _ h => h.elim)).trans hU5 (fun _ _ h => h)
  have hjb : ¬ OwnB (.slice A0 l.length c0) j := hV.1.blk_ne hB (by decide)
  have hB5 := u5.blk hB hjb
  have hu6 : Upd (fun k => k = j) w5 (w5.setCell ⟨j, 2, none⟩ (.slice A5 (l.length + 1) c5)) := (Upd.refl (fun k => k = j) w5).setCell (p := ⟨j, 2, none⟩) (.inl rfl) _
  have hV6 : RecsV (w5.setCell ⟨j, 2, none⟩ (.slice A5 (l.length + 1) c5)) (.slice A5 (l.length + 1) c5) (l ++ [b]) (vs ++ [.slice A4 b.length c4]) :=
    ⟨g1.1.upd hu6 (fun k hk e => g1.1.blk_ne hB5 (by decide) (by rw [← e]; exact hk)), fun i x hx => by obtain ⟨u, x1, x2⟩ := g1.2 i x hx; exact ⟨u, x1, x2.upd hu6 (fun k hk e => x2.blk_ne hB5 (by decide) (by rw [← e]; exact hk))⟩⟩
  have hsz : w.heap.size ≤ w3.heap.size := hU.size
  have hsz4 := h4.size
  have hnew : ∀ k, RecsF (.slice A5 (l.length + 1) c5) (vs ++ [.slice A4 b.length c4]) k → G k ∨ w3.heap.size ≤ k := fun k hk => by
    rcases g2 k hk with e | e | e
    · exact .inl (hGr k e)
    · exact .inr (hn4 k e)
    · simp at e; exact .inr (by omega)
  refine ⟨F', _, ⟨(hD.upd u5 (fun k hk e => hdis k hk (hGr k (.inl e)))).upd hu6 (fun k hk e => hdis k hk (by rw [e]; exact hGj)), ⟨_, _, hB5.put 2 _, hV6, hs, by simp; omega, fun x hx => ?_, rfl⟩, fun k hk hg => ?_⟩, (hU.trans u5 (fun k _ e => .inr (hGr k (.inl e)))).trans hu6 (fun k _ e => .inr (by rw [e]; exact hGj)), hF, fun k hg => ?_⟩
  · rcases List.mem_append.1 hx with e | e
    · exact hl2 x e
    · simp at e; subst e; exact hb
  · rcases hg with rfl | hg
    · exact hdis _ hk hGj
    · rcases hnew k hg with e | e
      · exact hdis k hk e
      · have := hD.lt hk; omega
  · rcases hg with rfl | hg
    · exact .inl hGj
    · rcases hnew k hg with e | e
      · exact .inl e
      · exact .inr (by omega)

set_option maxRecDepth 100000 in
set_option maxHeartbeats 8000000 in
theorem jAppend_live (h : DJ w d s F j nm l safe false G) {v : Value} {b : List UInt8} (hb : RdB (fun k => F k ∨ G k) w v b) (hbig : b.length ≤ 65536) (hm : nm.length ≤ maxLen) (hl1 : ((getF s.fs nm).getD ⟨[], 0⟩).c.length ≤ 549755813888) (hL : s.fs.length < maxLen) (hll : l.length < 1099511627776) :
    Calls Try.prog 30 #[ptrV j, v] w (JPost w F G d j nm (sAppend s nm (frameS l.length b)).1 (sAppend s nm (frameS l.length b)).2 (if (sAppend s nm (frameS l.length b)).1 = 0 then l ++ [b] else l) safe (noteB false (sAppend s nm (frameS l.length b)).1)) := by
  obtain ⟨i0, hi0, hz0, hz1, hz2⟩ := info_parts bytes_info
  have H := Lib.hid h
  obtain ⟨rv, vs, hB, hV, hsf, hln, hlb, hG⟩ := h.2.1
  obtain ⟨A0, c0, rfl, hlc, hcm⟩ := RecsAt.form ⟨vs, hV, rfl⟩
  have q0 : w.cell? ⟨j, 0, none⟩ = some (ptrV d) := hB.cell 0
  have q1 : w.cell? ⟨j, 1, none⟩ = some (strV nm) := hB.cell 1
  have q2 : w.cell? ⟨j, 2, none⟩ = some (.slice A0 l.length c0) := hB.cell 2
  have q4 : w.cell? ⟨j, 4, none⟩ = some (.bool false) := hB.cell 4
  have hGj : G j := by rw [hG]; exact .inl rfl
  have hFlt : ∀ k, F k → k < w.heap.size := fun k hk => h.1.lt hk
  have hGlt : ∀ k, G k → k < w.heap.size := fun k hk => h.2.1.lt hk
  obtain ⟨A, c, rfl, _⟩ := hb.now
  have t1 : decide ((65536 : Int) < (b.length : Int)) = false := by simp; omega
  have t1' : decide (65536 < b.length) = false := by simp; omega
  have hfl : (frameS l.length b).length = 12 + b.length := by simp [frameS, beB_len, jsumS_len]; omega
  obtain ⟨r, hr⟩ : ∃ r, sAppend s nm (frameS l.length b) = r := ⟨_, rfl⟩
  rw [hr]
  have CF := Lib.hid (jFrame_any (w := w.drew) (hb.now.keep ((Upd.refl NoF w).drew)) (by omega) l.length (by omega))
  have CA := Lib.hid (show ∀ w1 A1 c1, NewO w.drew (frameS l.length b) A1 c1 w1 → Calls Try.prog 13 #[ptrV d, strV nm, .slice A1 (frameS l.length b).length c1] w1 (ErrPost w1 d F r) from fun w1 A1 c1 h1 => by
    rw [← hr]
    have u1 : Upd NoF w w1 := ((Upd.refl NoF w).drew).trans h1.2.2 (fun _ _ h => h)
    refine append_spec (h.1.upd u1 (fun _ _ h => h)) nm hm _ (frameS l.length b) ?_ (by omega) hL
    exact h1.1.rdF (fun k hk hf => by have := h1.2.1 k hk; have := hFlt k hf; simp at *; omega))
  have K1 := Lib.hid (show ∀ w1 A1 c1, NewO w.drew (frameS l.length b) A1 c1 w1 → Blk w1 j 99 #[ptrV d, strV nm, .slice A0 l.length c0, .int .i64 safe, .bool false] from fun w1 A1 c1 h1 => h1.2.2.blk hB.drew (fun h => h))
  have K2 := Lib.hid (show ∀ w1 w2 A1 c1, NewO w.drew (frameS l.length b) A1 c1 w1 → DiskStep w1 d r.2 F w2 → Blk w2 j 99 #[ptrV d, strV nm, .slice A0 l.length c0, .int .i64 safe, .bool false] from fun w1 w2 A1 c1 h1 h2 => by
    obtain ⟨F', a1, a2, a3⟩ := h2
    exact a2.blk (K1.out w1 A1 c1 h1) (fun e => h.2.2 j e hGj))
  have MID := Lib.hid (show ∀ w1 w2 w3 A1 c1, NewO w.drew (frameS l.length b) A1 c1 w1 → DiskStep w1 d r.2 F w2 → Blk w3 j 99 #[ptrV d, strV nm, .slice A0 l.length c0, .int .i64 safe, .bool (noteB false r.1)] → Upd (fun k => k = j) w2 w3 →
      ∃ F', DJ w3 d r.2 F' j nm l safe (noteB false r.1) G ∧ RecsV w3 (.slice A0 l.length c0) l vs ∧ Upd (fun k => F k ∨ G k) w w3 ∧ (∀ k, F' k → F k ∨ w.heap.size ≤ k) from fun w1 w2 w3 A1 c1 h1 h2 h3 h4 => jap_mid h hB hV hG hsf hln hlb h1 h2 h3 h4)
  have HBD := Lib.hid hb
  have HG := Lib.hid hG
  have HBB := Lib.hid hB
  have HLB := Lib.hid hlb
  have HGL := Lib.hid hGlt
  generalize frameS l.length b = fr at CF CA K1 K2 MID hfl
  clear h hb hB hV hlb hG hGlt hFlt hr hfl
  obtain ⟨code, s'⟩ := r
  simp only at CA K2 MID ⊢
  by_cases hc : code = 0
  · subst hc
    rw [if_pos rfl]
    rw [show noteB false 0 = false from rfl] at MID ⊢
    go_enter Try.func30, Try.ntmps30
    go_wp2
    go_region_held3 (fun w' => w'.cell? ⟨j, 0, none⟩ = some (ptrV d) ∧ w'.cell? ⟨j, 1, none⟩ = some (strV nm) ∧ w'.cell? ⟨j, 2, none⟩ = some (.slice A0 l.length c0))
      (first | exact ⟨q0, q1, q2⟩ | exact ⟨y0, y1, y2⟩ | exact ⟨z0, z1, z2⟩ | exact ⟨x0, x1, x2⟩)
      (first
        | (go_at_call 56; refine CF.out.mono ?_; rintro e w1 ⟨A1, c1, rfl, hn1⟩; have y0 : w1.cell? ⟨j, 0, none⟩ = some (ptrV d) := (K1.out w1 A1 c1 hn1).cell 0; have y1 : w1.cell? ⟨j, 1, none⟩ = some (strV nm) := (K1.out w1 A1 c1 hn1).cell 1; have y2 : w1.cell? ⟨j, 2, none⟩ = some (.slice A0 l.length c0) := (K1.out w1 A1 c1 hn1).cell 2; have N1 := Lib.hid hn1; clear hn1)
        | (go_at_call 13; refine (CA.out w1 A1 c1 N1.out).mono ?_; rintro e w2 ⟨rfl, hs2⟩; have z0 : w2.cell? ⟨j, 0, none⟩ = some (ptrV d) := (K2.out w1 w2 A1 c1 N1.out hs2).cell 0; have z1 : w2.cell? ⟨j, 1, none⟩ = some (strV nm) := (K2.out w1 w2 A1 c1 N1.out hs2).cell 1; have z2 : w2.cell? ⟨j, 2, none⟩ = some (.slice A0 l.length c0) := (K2.out w1 w2 A1 c1 N1.out hs2).cell 2; have S2 := Lib.hid hs2; clear hs2)
        | (go_at_call 62; refine (jnote_any (K2.out w1 w2 A1 c1 N1.out S2.out) 0).mono ?_; rintro e w3 ⟨rfl, hb3, hu3⟩; have x0 : w3.cell? ⟨j, 0, none⟩ = some (ptrV d) := hb3.cell 0; have x1 : w3.cell? ⟨j, 1, none⟩ = some (strV nm) := hb3.cell 1; have x2 : w3.cell? ⟨j, 2, none⟩ = some (.slice A0 l.length c0) := hb3.cell 2; have B3 := Lib.hid hb3; have U3 := Lib.hid hu3; clear hb3 hu3))
    clear q0 q1 q2 y0 y1 y2 z0 z1 z2 x0 x1 x2
    obtain ⟨F', g1, g2, g3, g4⟩ := MID.out w1 w2 w3 A1 c1 N1.out S2.out (by have := B3.out; rw [show noteB false 0 = false from rfl] at this; exact this) U3.out
    have hB3 : Blk w3 j 99 #[ptrV d, strV nm, .slice A0 l.length c0, .int .i64 safe, .bool false] := by have := B3.out; rw [show noteB false 0 = false from rfl] at this; exact this
    have p2 : w3.cell? ⟨j, 2, none⟩ = some (.slice A0 l.length c0) := hB3.cell 2
    have p2f : w3.frozen? ⟨j, 2, none⟩ = false := hB3.frozen 2
    have CC := Lib.hid (clone_any _ b w3.drew ((HBD.out.upd g3.drew).now) (by omega))
    have hjlt : j < w3.heap.size := hB3.lt
    have KB := Lib.hid (show ∀ w4, Upd NoF w3.drew w4 → ∀ o w5, Upd (OwnB (.slice A0 l.length c0)) (w4.alloc o) w5 → Blk w4 j 99 #[ptrV d, strV nm, .slice A0 l.length c0, .int .i64 safe, .bool false] ∧ Blk w5 j 99 #[ptrV d, strV nm, .slice A0 l.length c0, .int .i64 safe, .bool false] from fun w4 u4 o w5 u5 => by
      have e4 := u4.blk hB3.drew (fun h => h)
      exact ⟨e4, u5.blk (e4.alloc o) (g2.1.blk_ne hB3 (by decide))⟩)
    have OW := Lib.hid (show ∀ w4, Upd NoF w3.drew w4 → ∀ o, Own (w4.alloc o) 27 1 (.slice A0 l.length c0) l.length vs from fun w4 u4 o => (g2.1.upd (((Upd.refl NoF w3).drew).trans u4 (fun _ _ h => h)) (fun _ _ h => h)).upd ((Upd.refl NoF w4).alloc o) (fun _ _ h => h))
    have FIN := Lib.hid (show ∀ w4 w5 A4 c4 A5 c5 o, Upd NoF w3.drew w4 → Own w4 5 1 (.slice A4 b.length c4) b.length (b.map byteV) → (∀ k, OwnB (.slice A4 b.length c4) k → w3.drew.heap.size ≤ k) → Own w5 27 1 (.slice A5 (l.length + 1) c5) (l.length + 1) (vs ++ [.slice A4 b.length c4]) → Upd (OwnB (.slice A0 l.length c0)) (w4.alloc o) w5 →
        (∀ k, OwnB (.slice A5 (l.length + 1) c5) k → OwnB (.slice A0 l.length c0) k ∨ (w4.alloc o).heap.size ≤ k) → DJStep w F G d s' j nm (l ++ [b]) safe false (w5.setCell ⟨j, 2, none⟩ (.slice A5 (l.length + 1) c5)) from fun w4 w5 A4 c4 A5 c5 o u4 o4 n4 o5 u5 n5 =>
      jap_end g1.1 g1.2.2 hB3 g2 HG.out g3 g4 (((Upd.refl NoF w3).drew).trans u4 (fun _ _ h => h)) o4 n4 o5 u5 n5 hsf hll HLB.out hbig)
    clear g1 g2 g3 g4 hB3 q4
    go_wp2
    go_region_law
      (first
        | (go_simp; go_at_call 46; refine CC.out.mono ?_; rintro e w4 ⟨A4, c4, rfl, hO4, hn4, hU4⟩; have p4 : w4.cell? ⟨j, 2, none⟩ = some (.slice A0 l.length c0) := (KB.out w4 hU4 (.cells #[] 0) _ (Upd.refl _ _)).1.cell 2; have p4f : w4.frozen? ⟨j, 2, none⟩ = false := (KB.out w4 hU4 (.cells #[] 0) _ (Upd.refl _ _)).1.frozen 2; have hj4 : j < w4.heap.size := Nat.lt_of_lt_of_le hjlt hU4.size; have O4 := Lib.hid hO4; have N4 := Lib.hid hn4; have U4 := Lib.hid hU4; clear hO4 hn4 hU4)
        | (refine step_append_to _ (by rfl) (.tmp 50) (.tmp 53) _ (by rfl) 27 i0 _ 1 24 Try.underlying22 hi0 hz0 hz1 hz2 rfl (.slice A0 l.length c0) l.length vs (by rfl) (OW.out w4 U4.out _) (.slice (some ⟨w4.heap.size, 0, none⟩) 1 1) 1 [.slice A4 b.length c4] (by rfl) (Rd.of_blk (Blk.new w4 _ _) (by omega) (by unfold maxLen; omega) rfl (by intro i u hu; cases i with | zero => simpa using hu | succ i => simp at hu)) (by simp [Value.oneCell']) (by unfold maxLen; omega) (by omega) ?_; intro A5 c5 w5 hown5 hupd5 hnew5; have p5f : w5.frozen? ⟨j, 2, none⟩ = false := (KB.out w4 U4.out _ w5 hupd5).2.frozen 2; have p5 : w5.cell? ⟨j, 2, none⟩ = some (.slice A0 l.length c0) := (KB.out w4 U4.out _ w5 hupd5).2.cell 2; have O5 := Lib.hid hown5; have U5 := Lib.hid hupd5; have N5 := Lib.hid hnew5; clear hown5 hupd5 hnew5))
    all_goals
      go_wp2
      go_ret
      exact ⟨rfl, FIN.out w4 w5 A4 c4 A5 c5 _ U4.out O4.out N4.out O5.out U5.out N5.out⟩
  · have t2 : (code == 0) = false := by simpa using hc
    have t2' : (code != 0) = true := by simpa using hc
    rw [if_neg hc]
    clear hc
    go_enter Try.func30, Try.ntmps30
    go_wp2
    go_region_held3 (fun w' => w'.cell? ⟨j, 0, none⟩ = some (ptrV d) ∧ w'.cell? ⟨j, 1, none⟩ = some (strV nm) ∧ w'.cell? ⟨j, 2, none⟩ = some (.slice A0 l.length c0))
      (first | exact ⟨q0, q1, q2⟩ | exact ⟨y0, y1, y2⟩ | exact ⟨z0, z1, z2⟩ | exact ⟨x0, x1, x2⟩)
      (first
        | (go_at_call 56; refine CF.out.mono ?_; rintro e w1 ⟨A1, c1, rfl, hn1⟩; have y0 : w1.cell? ⟨j, 0, none⟩ = some (ptrV d) := (K1.out w1 A1 c1 hn1).cell 0; have y1 : w1.cell? ⟨j, 1, none⟩ = some (strV nm) := (K1.out w1 A1 c1 hn1).cell 1; have y2 : w1.cell? ⟨j, 2, none⟩ = some (.slice A0 l.length c0) := (K1.out w1 A1 c1 hn1).cell 2; have N1 := Lib.hid hn1; clear hn1)
        | (go_at_call 13; refine (CA.out w1 A1 c1 N1.out).mono ?_; rintro e w2 ⟨rfl, hs2⟩; have z0 : w2.cell? ⟨j, 0, none⟩ = some (ptrV d) := (K2.out w1 w2 A1 c1 N1.out hs2).cell 0; have z1 : w2.cell? ⟨j, 1, none⟩ = some (strV nm) := (K2.out w1 w2 A1 c1 N1.out hs2).cell 1; have z2 : w2.cell? ⟨j, 2, none⟩ = some (.slice A0 l.length c0) := (K2.out w1 w2 A1 c1 N1.out hs2).cell 2; have S2 := Lib.hid hs2; clear hs2)
        | (go_at_call 62; refine (jnote_any (K2.out w1 w2 A1 c1 N1.out S2.out) code).mono ?_; rintro e w3 ⟨rfl, hb3, hu3⟩; have x0 : w3.cell? ⟨j, 0, none⟩ = some (ptrV d) := hb3.cell 0; have x1 : w3.cell? ⟨j, 1, none⟩ = some (strV nm) := hb3.cell 1; have x2 : w3.cell? ⟨j, 2, none⟩ = some (.slice A0 l.length c0) := hb3.cell 2; have B3 := Lib.hid hb3; have U3 := Lib.hid hu3; clear hb3 hu3))
    clear q0 q1 q2 y0 y1 y2 z0 z1 z2 x0 x1 x2
    go_wp2
    go_ret
    obtain ⟨F', g1, g2, g3, g4⟩ := MID.out w1 w2 w3 A1 c1 N1.out S2.out B3.out U3.out
    exact ⟨rfl, F', G, g1, g3, g4, fun k hk => .inl hk⟩
end
end

section
open Go.RowKit

section
variable {w : World} {d : Nat} {s : DSt} {F : Nat → Prop} {j : Nat} {nm : List UInt8} {l : List (List UInt8)} {safe : Nat} {dead : Bool} {G : Nat → Prop}

set_option maxRecDepth 100000 in
theorem jSync_dead (h : DJ w d s F j nm l safe true G) : Calls Try.prog 32 #[ptrV j] w fun e w' => e = retE 103 ∧ w = w' := by
  obtain ⟨rv, vs, h1, _⟩ := h.2.1
  have c0 : w.cell? ⟨j, 0, none⟩ = some (ptrV d) := h1.cell 0
  have c4 : w.cell? ⟨j, 4, none⟩ = some (.bool true) := h1.cell 4
  clear h h1
  go_enter Try.func32, Try.ntmps32
  go_wp2
  go_ret
  exact ⟨rfl, rfl⟩
set_option maxRecDepth 100000 in
theorem jSync_none (h : DJ w d s F j nm l safe false G) (hl : l.length = 0) : Calls Try.prog 32 #[ptrV j] w fun e w' => e = retE 0 ∧ w = w' := by
  obtain ⟨rv, vs, h1, h2, _⟩ := h.2.1
  obtain ⟨A0, c0', rfl, hlc, hcm⟩ := RecsAt.form ⟨vs, h2, rfl⟩
  have c0 : w.cell? ⟨j, 0, none⟩ = some (ptrV d) := h1.cell 0
  have c2 : w.cell? ⟨j, 2, none⟩ = some (.slice A0 0 c0') := by rw [← hl]; exact h1.cell 2
  have c4 : w.cell? ⟨j, 4, none⟩ = some (.bool false) := h1.cell 4
  clear h h1 h2 hl
  go_enter Try.func32, Try.ntmps32
  go_wp2
  go_ret
  exact ⟨rfl, rfl⟩

set_option maxRecDepth 100000 in
set_option maxHeartbeats 8000000 in
theorem jSync_live (h : DJ w d s F j nm l safe false G) (hl0 : ¬ l.length = 0) (hm : nm.length ≤ maxLen) :
    Calls Try.prog 32 #[ptrV j] w (JPost w F G d j nm (sSync s nm).1 (sSync s nm).2 l (if (sSync s nm).1 = 0 then l.length else safe) (noteB false (sSync s nm).1)) := by
  obtain ⟨rv, vs, hB, hV, hsf, hln, hlb, hG⟩ := h.2.1
  obtain ⟨A0, c0, rfl, hlc, hcm⟩ := RecsAt.form ⟨vs, hV, rfl⟩
  have q0 : w.cell? ⟨j, 0, none⟩ = some (ptrV d) := hB.cell 0
  have q1 : w.cell? ⟨j, 1, none⟩ = some (strV nm) := hB.cell 1
  have q2 : w.cell? ⟨j, 2, none⟩ = some (.slice A0 l.length c0) := hB.cell 2
  have q4 : w.cell? ⟨j, 4, none⟩ = some (.bool false) := hB.cell 4
  have hGj : G j := by rw [hG]; exact .inl rfl
  have t1 : ((l.length : Int) == 0) = false := by simpa using hl0
  obtain ⟨r, hr⟩ : ∃ r, sSync s nm = r := ⟨_, rfl⟩
  rw [hr]
  have CA := Lib.hid (show Calls Try.prog 12 #[ptrV d, strV nm] w.drew (ErrPost w.drew d F r) from by
    rw [← hr]
    exact sync_spec (h.1.upd ((Upd.refl NoF w).drew) (fun _ _ h => h)) nm hm)
  have K2 := Lib.hid (show ∀ w2, DiskStep w.drew d r.2 F w2 → Blk w2 j 99 #[ptrV d, strV nm, .slice A0 l.length c0, .int .i64 safe, .bool false] from fun w2 h2 => by
    obtain ⟨F', a1, a2, a3⟩ := h2
    exact a2.blk hB.drew (fun e => h.2.2 j e hGj))
  have MID := Lib.hid (show ∀ w2 w3, DiskStep w.drew d r.2 F w2 → Blk w3 j 99 #[ptrV d, strV nm, .slice A0 l.length c0, .int .i64 safe, .bool (noteB false r.1)] → Upd (fun k => k = j) w2 w3 →
      ∃ F', DJ w3 d r.2 F' j nm l safe (noteB false r.1) G ∧ RecsV w3 (.slice A0 l.length c0) l vs ∧ Upd (fun k => F k ∨ G k) w w3 ∧ (∀ k, F' k → F k ∨ w.heap.size ≤ k) from fun w2 w3 h2 h3 h4 =>
    jap_mid (fr := []) (A := none) (c := 0) (w1 := w.drew) h hB hV hG hsf hln hlb ⟨Own.nil _ _ _, fun k hk => (by simp [OwnB, Value.ownBlock] at hk), Upd.refl _ _⟩ h2 h3 h4)
  have HG := Lib.hid hG
  have HLB := Lib.hid hlb
  have hlb63 : l.length ≤ 1099511627776 := hln
  clear h hB hV hlb hG hr
  obtain ⟨code, s'⟩ := r
  simp only at CA K2 MID ⊢
  by_cases hc : code = 0
  · subst hc
    rw [if_pos rfl]
    rw [show noteB false 0 = false from rfl] at MID ⊢
    go_enter Try.func32, Try.ntmps32
    go_wp2
    go_region_held3 (fun w' => w'.cell? ⟨j, 0, none⟩ = some (ptrV d) ∧ w'.cell? ⟨j, 1, none⟩ = some (strV nm))
      (first | exact ⟨q0, q1⟩ | exact ⟨z0, z1⟩ | exact ⟨x0, x1⟩)
      (first
        | (go_at_call 12; refine CA.out.mono ?_; rintro e w2 ⟨rfl, hs2⟩; have z0 : w2.cell? ⟨j, 0, none⟩ = some (ptrV d) := (K2.out w2 hs2).cell 0; have z1 : w2.cell? ⟨j, 1, none⟩ = some (strV nm) := (K2.out w2 hs2).cell 1; have S2 := Lib.hid hs2; clear hs2)
        | (go_at_call 62; refine (jnote_any (K2.out w2 S2.out) 0).mono ?_; rintro e w3 ⟨rfl, hb3, hu3⟩; have x0 : w3.cell? ⟨j, 0, none⟩ = some (ptrV d) := hb3.cell 0; have x1 : w3.cell? ⟨j, 1, none⟩ = some (strV nm) := hb3.cell 1; have B3 := Lib.hid hb3; have U3 := Lib.hid hu3; clear hb3 hu3))
    clear q0 q1 q2 z0 z1 x0 x1 q4
    have hB3 : Blk w3 j 99 #[ptrV d, strV nm, .slice A0 l.length c0, .int .i64 safe, .bool false] := by have := B3.out; rw [show noteB false 0 = false from rfl] at this; exact this
    obtain ⟨F', g1, g2, g3, g4⟩ := MID.out w2 w3 S2.out hB3 U3.out
    have p2 : w3.cell? ⟨j, 2, none⟩ = some (.slice A0 l.length c0) := hB3.cell 2
    have p3 : w3.cell? ⟨j, 3, none⟩ = some (.int .i64 safe) := hB3.cell 3
    have p3f : w3.frozen? ⟨j, 3, none⟩ = false := hB3.frozen 3
    have FIN := Lib.hid (show DJStep w F G d s' j nm l l.length false (w3.setCell ⟨j, 3, none⟩ (.int .i64 (l.length : Int))) from by
      have hu6 : Upd (fun k => k = j) w3 (w3.setCell ⟨j, 3, none⟩ (.int .i64 (l.length : Int))) := (Upd.refl (fun k => k = j) w3).setCell (p := ⟨j, 3, none⟩) (.inl rfl) _
      have hV6 : RecsV (w3.setCell ⟨j, 3, none⟩ (.int .i64 (l.length : Int))) (.slice A0 l.length c0) l vs :=
        ⟨g2.1.upd hu6 (fun k hk e => g2.1.blk_ne hB3 (by decide) (by rw [← e]; exact hk)), fun i x hx => by obtain ⟨u, x1, x2⟩ := g2.2 i x hx; exact ⟨u, x1, x2.upd hu6 (fun k hk e => x2.blk_ne hB3 (by decide) (by rw [← e]; exact hk))⟩⟩
      exact ⟨F', G, ⟨g1.1.upd hu6 (fun k hk e => g1.2.2 k hk (by rw [e]; exact hGj)), ⟨_, vs, hB3.put 3 _, hV6, hln, hln, HLB.out, HG.out⟩, g1.2.2⟩, g3.trans hu6 (fun k _ e => .inr (by rw [e]; exact hGj)), g4, fun k hk => .inl hk⟩)
    clear g1 g2 g3 g4 hB3
    go_wp2
    go_ret
    exact ⟨rfl, FIN.out⟩
  · have t2 : (code == 0) = false := by simpa using hc
    have t2' : (code != 0) = true := by simpa using hc
    rw [if_neg hc]
    clear hc
    go_enter Try.func32, Try.ntmps32
    go_wp2
    go_region_held3 (fun w' => w'.cell? ⟨j, 0, none⟩ = some (ptrV d) ∧ w'.cell? ⟨j, 1, none⟩ = some (strV nm))
      (first | exact ⟨q0, q1⟩ | exact ⟨z0, z1⟩ | exact ⟨x0, x1⟩)
      (first
        | (go_at_call 12; refine CA.out.mono ?_; rintro e w2 ⟨rfl, hs2⟩; have z0 : w2.cell? ⟨j, 0, none⟩ = some (ptrV d) := (K2.out w2 hs2).cell 0; have z1 : w2.cell? ⟨j, 1, none⟩ = some (strV nm) := (K2.out w2 hs2).cell 1; have S2 := Lib.hid hs2; clear hs2)
        | (go_at_call 62; refine (jnote_any (K2.out w2 S2.out) code).mono ?_; rintro e w3 ⟨rfl, hb3, hu3⟩; have x0 : w3.cell? ⟨j, 0, none⟩ = some (ptrV d) := hb3.cell 0; have x1 : w3.cell? ⟨j, 1, none⟩ = some (strV nm) := hb3.cell 1; have B3 := Lib.hid hb3; have U3 := Lib.hid hu3; clear hb3 hu3))
    clear q0 q1 q2 z0 z1 x0 x1
    go_wp2
    go_ret
    obtain ⟨F', g1, g2, g3, g4⟩ := MID.out w2 w3 S2.out B3.out U3.out
    exact ⟨rfl, F', G, g1, g3, g4, fun k hk => .inl hk⟩

theorem jAppend_spec (h : DJ w d s F j nm l safe dead G) {v : Value} {b : List UInt8} (hb : RdB (fun k => F k ∨ G k) w v b) (hm : nm.length ≤ maxLen) (hl1 : ((getF s.fs nm).getD ⟨[], 0⟩).c.length ≤ 549755813888) (hL : s.fs.length < maxLen) (hll : l.length < 1099511627776) :
    Calls Try.prog 30 #[ptrV j, v] w (JPost w F G d j nm (sJAppend s nm l dead b).1 (sJAppend s nm l dead b).2.1 (sJAppend s nm l dead b).2.2.1 safe (sJAppend s nm l dead b).2.2.2) := by
  unfold sJAppend
  split
  · rename_i hbig
    refine (jAppend_big h hb hbig).mono ?_
    rintro e w' ⟨rfl, rfl⟩
    exact ⟨rfl, h.refl⟩
  · rename_i hbig
    cases dead with
    | true =>
      refine (jAppend_dead h hb hbig).mono ?_
      rintro e w' ⟨rfl, rfl⟩
      exact ⟨rfl, h.refl⟩
    | false => exact jAppend_live h hb (by omega) hm hl1 hL hll
theorem jSync_spec (h : DJ w d s F j nm l safe dead G) (hm : nm.length ≤ maxLen) :
    Calls Try.prog 32 #[ptrV j] w (JPost w F G d j nm (sJSync s nm l safe dead).1 (sJSync s nm l safe dead).2.1 l (sJSync s nm l safe dead).2.2.1 (sJSync s nm l safe dead).2.2.2) := by
  unfold sJSync
  cases dead with
  | true =>
    refine (jSync_dead h).mono ?_
    rintro e w' ⟨rfl, rfl⟩
    exact ⟨rfl, h.refl⟩
  | false =>
    split
    · contradiction
    · split
      · rename_i hl0
        refine (jSync_none h hl0).mono ?_
        rintro e w' ⟨rfl, rfl⟩
        exact ⟨rfl, h.refl⟩
      · rename_i hl0
        exact jSync_live h hl0 hm
end
end

section
open Go.RowKit

/-- A disk, all of whose blocks are newer than w0. -/
def DA (w0 : World) (d : Nat) (s : DSt) (w : World) : Prop := ∃ F, DiskAt w d s F ∧ (∀ k, F k → w0.heap.size ≤ k) ∧ Upd NoF w0 w
/-- A disk and a journal on it, all of whose blocks are newer than w0. -/
def AW (w0 : World) (d : Nat) (s : DSt) (j : Nat) (nm : List UInt8) (l : List (List UInt8)) (safe : Nat) (dead : Bool) (w : World) : Prop :=
  ∃ F G, DJ w d s F j nm l safe dead G ∧ (∀ k, F k → w0.heap.size ≤ k) ∧ (∀ k, G k → w0.heap.size ≤ k) ∧ Upd NoF w0 w

section
variable {w0 w w' : World} {d : Nat} {s s' : DSt} {j : Nat} {nm : List UInt8} {l l' : List (List UInt8)} {safe safe' : Nat} {dead dead' : Bool}

theorem AW.upd (h : AW w0 d s j nm l safe dead w) (hu : Upd NoF w w') : AW w0 d s j nm l safe dead w' := by
  obtain ⟨F, G, h1, h2, h3, h4⟩ := h
  exact ⟨F, G, h1.upd hu, h2, h3, h4.trans hu (fun _ _ h => h)⟩
theorem AW.out (h : AW w0 d s j nm l safe dead w) : Upd NoF w0 w := by obtain ⟨F, G, h1, h2, h3, h4⟩ := h; exact h4
theorem AW.da (h : AW w0 d s j nm l safe dead w) : DA w0 d s w := by obtain ⟨F, G, h1, h2, h3, h4⟩ := h; exact ⟨F, h1.1, h2, h4⟩
theorem DA.out (h : DA w0 d s w) : Upd NoF w0 w := by obtain ⟨F, h1, h2, h4⟩ := h; exact h4
theorem DA.upd (h : DA w0 d s w) (hu : Upd NoF w w') : DA w0 d s w' := by
  obtain ⟨F, h1, h2, h4⟩ := h
  exact ⟨F, h1.upd hu (fun _ _ h => h), h2, h4.trans hu (fun _ _ h => h)⟩

/-- A call that works on the disk alone. -/
theorem AW.disk (h : AW w0 d s j nm l safe dead w) {f : FuncId} {args : Array Value} {e0 : Ending} (hc : ∀ F, DiskAt w d s F → (∀ k, F k → w0.heap.size ≤ k) → Calls Try.prog f args w fun e w' => e = e0 ∧ DiskStep w d s' F w') : Calls Try.prog f args w fun e w' => e = e0 ∧ AW w0 d s' j nm l safe dead w' := by
  obtain ⟨F, G, ⟨h1, h5, h6⟩, h2, h3, h4⟩ := h
  refine (hc F h1 h2).mono ?_
  rintro e w' ⟨rfl, F', a1, a2, a3⟩
  have hz := h4.size
  refine ⟨rfl, F', G, ⟨a1, h5.upd a2 (fun k hk e => h6 k e hk), fun k hk hg => ?_⟩, fun k hk => ?_, h3, h4.trans a2 (fun k hk e => by have := h2 k e; omega)⟩
  · rcases a3 k hk with e | e
    · exact h6 k e hg
    · have := h5.lt hg; omega
  · rcases a3 k hk with e | e
    · exact h2 k e
    · omega
theorem DA.disk (h : DA w0 d s w) {f : FuncId} {args : Array Value} {e0 : Ending} (hc : ∀ F, DiskAt w d s F → (∀ k, F k → w0.heap.size ≤ k) → Calls Try.prog f args w fun e w' => e = e0 ∧ DiskStep w d s' F w') : Calls Try.prog f args w fun e w' => e = e0 ∧ DA w0 d s' w' := by
  obtain ⟨F, h1, h2, h4⟩ := h
  refine (hc F h1 h2).mono ?_
  rintro e w' ⟨rfl, F', a1, a2, a3⟩
  have hz := h4.size
  refine ⟨rfl, F', a1, fun k hk => ?_, h4.trans a2 (fun k hk e => by have := h2 k e; omega)⟩
  rcases a3 k hk with e | e
  · exact h2 k e
  · omega
theorem AW.of_step {F G : Nat → Prop} (h2 : ∀ k, F k → w0.heap.size ≤ k) (h3 : ∀ k, G k → w0.heap.size ≤ k) (h4 : Upd NoF w0 w) (hs : DJStep w F G d s j nm l safe dead w') : AW w0 d s j nm l safe dead w' := by
  obtain ⟨F', G', a1, a2, a3, a4⟩ := hs
  have hz := h4.size
  refine ⟨F', G', a1, fun k hk => ?_, fun k hk => ?_, h4.trans a2 (fun k hk e => ?_)⟩
  · rcases a3 k hk with e | e
    · exact h2 k e
    · omega
  · rcases a4 k hk with e | e
    · exact h3 k e
    · omega
  · rcases e with e | e
    · have := h2 k e; omega
    · have := h3 k e; omega

theorem AW.append (h : AW w0 d s j nm l safe dead w) {v : Value} {b : List UInt8} (hb : ∀ F : Nat → Prop, (∀ k, F k → w0.heap.size ≤ k ∧ k < w.heap.size) → RdB F w' v b) (hu : Upd NoF w w') (hm : nm.length ≤ maxLen) (hl1 : ((getF s.fs nm).getD ⟨[], 0⟩).c.length ≤ 549755813888) (hL : s.fs.length < maxLen) (hll : l.length < 1099511627776) :
    Calls Try.prog 30 #[ptrV j, v] w' fun e w2 => e = retE (sJAppend s nm l dead b).1 ∧ AW w0 d (sJAppend s nm l dead b).2.1 j nm (sJAppend s nm l dead b).2.2.1 safe (sJAppend s nm l dead b).2.2.2 w2 := by
  obtain ⟨F, G, h1, h2, h3, h4⟩ := h
  have hr := hb (fun k => F k ∨ G k) (fun k hk => ⟨hk.elim (h2 k) (h3 k), hk.elim (fun e => h1.1.lt e) (fun e => h1.2.1.lt e)⟩)
  refine (jAppend_spec (h1.upd hu) hr hm hl1 hL hll).mono ?_
  rintro e w2 ⟨rfl, hs⟩
  exact ⟨rfl, AW.of_step h2 h3 (h4.trans hu (fun _ _ h => h)) hs⟩
theorem AW.sync (h : AW w0 d s j nm l safe dead w) (hm : nm.length ≤ maxLen) : Calls Try.prog 32 #[ptrV j] w fun e w2 => e = retE (sJSync s nm l safe dead).1 ∧ AW w0 d (sJSync s nm l safe dead).2.1 j nm l (sJSync s nm l safe dead).2.2.1 (sJSync s nm l safe dead).2.2.2 w2 := by
  obtain ⟨F, G, h1, h2, h3, h4⟩ := h
  refine (jSync_spec h1 hm).mono ?_
  rintro e w2 ⟨rfl, hs⟩
  exact ⟨rfl, AW.of_step h2 h3 h4 hs⟩
theorem AW.records (h : AW w0 d s j nm l safe dead w) : Calls Try.prog 37 #[ptrV j] w (RecsPost w l) := by
  obtain ⟨F, G, h1, _⟩ := h
  exact jRecords_any h1.2.1
theorem AW.synced (h : AW w0 d s j nm l safe dead w) : Calls Try.prog 38 #[ptrV j] w fun e w' => e = .returned (.int .i64 (safe : Int)) ∧ w = w' := by
  obtain ⟨F, G, h1, _⟩ := h
  exact jSynced_any h1.2.1

/-- Open where no journal is there yet. -/
def OpenDA (w0 : World) (d : Nat) (nm : List UInt8) (r : Int × DSt × List (List UInt8)) (e : Ending) (w' : World) : Prop :=
  (r.1 = 0 ∧ ∃ j, e = .returned (.tuple #[ptrV j, .int .i64 0]) ∧ AW w0 d r.2.1 j nm r.2.2 r.2.2.length false w') ∨ (r.1 ≠ 0 ∧ e = .returned (.tuple #[.pointer none, .int .i64 r.1]) ∧ DA w0 d r.2.1 w')
theorem DA.open (h : DA w0 d s w) (nm : List UInt8) (hm : nm.length ≤ maxLen) (hb : (sRead s nm).1.length ≤ 549755813888) : Calls Try.prog 28 #[ptrV d, strV nm] w (OpenDA w0 d nm (sOpen s nm)) := by
  obtain ⟨F, h1, h2, h4⟩ := h
  have hz := h4.size
  refine (jOpen_any h1 nm hm hb).mono ?_
  rintro e w' (⟨e0, j, F', G', rfl, a1, a2, a3, a4, a5, a6⟩ | ⟨e0, rfl, F', a1, a2, a3⟩)
  · refine .inl ⟨e0, j, rfl, F', G', ⟨a1, a2, a3⟩, fun k hk => ?_, fun k hk => ?_, h4.trans a6 (fun k hk e => by have := h2 k e; omega)⟩
    · rcases a4 k hk with e | e
      · exact h2 k e
      · omega
    · have := a5 k hk; omega
  · refine .inr ⟨e0, rfl, F', a1, fun k hk => ?_, h4.trans a2 (fun k hk e => by have := h2 k e; omega)⟩
    rcases a3 k hk with e | e
    · exact h2 k e
    · omega
/-- Open where a journal is there already. -/
def OpenAW (w0 : World) (d : Nat) (nm : List UInt8) (r : Int × DSt × List (List UInt8)) (j : Nat) (nm0 : List UInt8) (l : List (List UInt8)) (safe : Nat) (dead : Bool) (e : Ending) (w' : World) : Prop :=
  AW w0 d r.2.1 j nm0 l safe dead w' ∧ ((r.1 = 0 ∧ ∃ j', e = .returned (.tuple #[ptrV j', .int .i64 0]) ∧ AW w0 d r.2.1 j' nm r.2.2 r.2.2.length false w') ∨ (r.1 ≠ 0 ∧ e = .returned (.tuple #[.pointer none, .int .i64 r.1])))
theorem AW.open (h : AW w0 d s j nm l safe dead w) (nm' : List UInt8) (hm : nm'.length ≤ maxLen) (hb : (sRead s nm').1.length ≤ 549755813888) : Calls Try.prog 28 #[ptrV d, strV nm'] w (OpenAW w0 d nm' (sOpen s nm') j nm l safe dead) := by
  obtain ⟨F, G, ⟨h1, h5, h6⟩, h2, h3, h4⟩ := h
  have hz := h4.size
  refine (jOpen_any h1 nm' hm hb).mono ?_
  rintro e w' (⟨e0, j', F', G', rfl, a1, a2, a3, a4, a5, a6⟩ | ⟨e0, rfl, F', a1, a2, a3⟩)
  · have q1 : ∀ k, F' k → w0.heap.size ≤ k := fun k hk => by
      rcases a4 k hk with e | e
      · exact h2 k e
      · omega
    have q2 : Upd NoF w0 w' := h4.trans a6 (fun k hk e => by have := h2 k e; omega)
    refine ⟨⟨F', G, ⟨a1, h5.upd a6 (fun k hk e => h6 k e hk), fun k hk hg => ?_⟩, q1, h3, q2⟩, .inl ⟨e0, j', rfl, F', G', ⟨a1, a2, a3⟩, q1, fun k hk => ?_, q2⟩⟩
    · rcases a4 k hk with e | e
      · exact h6 k e hg
      · have := h5.lt hg; omega
    · have := a5 k hk; omega
  · have q1 : ∀ k, F' k → w0.heap.size ≤ k := fun k hk => by
      rcases a3 k hk with e | e
      · exact h2 k e
      · omega
    refine ⟨⟨F', G, ⟨a1, h5.upd a2 (fun k hk e => h6 k e hk), fun k hk hg => ?_⟩, q1, h3, h4.trans a2 (fun k hk e => by have := h2 k e; omega)⟩, .inr ⟨e0, rfl⟩⟩
    rcases a3 k hk with e | e
    · exact h6 k e hg
    · have := h5.lt hg; omega
end

/-! ### frames parsed back -/
theorem be_beB (n : Nat) (h : n < 4294967296) : be (beB (n : Int) 4) = n := by
  have e : ∀ i : Nat, (byteAt (n : Int) i).toNat = n / 2 ^ (8 * i) % 256 := fun i => by
    unfold byteAt
    have e1 : ((n : Int) / 2 ^ (8 * i)) % 256 = ((n / 2 ^ (8 * i) % 256 : Nat) : Int) := by simp
    rw [e1, Int.toNat_natCast, UInt8.toNat_ofNat_of_lt' (by simp [UInt8.size]; omega)]
  simp only [be, beB, List.foldl_cons, List.foldl_nil, e]
  omega

theorem parseStep_frame (pre r post : List UInt8) (i : Nat) (hr : r.length ≤ 65536) : parseStep (pre ++ frameS i r ++ post) pre.length i = some (r, pre.length + 12 + r.length) := by
  have hl : (frameS i r).length = 12 + r.length := by simp [frameS, beB_len, jsumS_len]; omega
  have hd : (pre ++ frameS i r ++ post).drop pre.length = frameS i r ++ post := by rw [List.append_assoc, List.drop_left]
  have h4 : ((pre ++ frameS i r ++ post).drop pre.length).take 4 = beB (r.length : Int) 4 := by
    rw [hd]
    unfold frameS
    rw [List.append_assoc, List.append_assoc, List.take_append_of_le_length (by simp [beB_len]), List.take_of_length_le (by simp [beB_len])]
  have h8 : ((pre ++ frameS i r ++ post).drop (pre.length + 4)).take 8 = jsumS i r := by
    rw [← List.drop_drop, hd]
    unfold frameS
    rw [List.append_assoc, List.append_assoc, List.drop_append_of_le_length (by simp [beB_len]), List.drop_of_length_le (by simp [beB_len]), List.nil_append, List.take_append_of_le_length (by simp [jsumS_len]), List.take_of_length_le (by simp [jsumS_len])]
  have h12 : ((pre ++ frameS i r ++ post).drop (pre.length + 12)).take r.length = r := by
    rw [← List.drop_drop, hd]
    unfold frameS
    rw [List.append_assoc, show (12 : Nat) = (beB (r.length : Int) 4 ++ jsumS i r).length by simp [beB_len, jsumS_len], List.drop_left, List.take_left]
  have hn := be_beB r.length (by omega)
  have := ps_yes (bs := pre ++ frameS i r ++ post) (a := pre.length) (idx := i) (by simp [hl]; omega) (by rw [h4, hn]; exact ⟨hr, by simp [hl]; omega⟩) (by rw [h4, hn, h12]; exact h8)
  rw [h4, hn, h12] at this
  exact this

def framesF : Nat → List (List UInt8) → List UInt8
  | _, [] => []
  | i, r :: L => frameS i r ++ framesF (i + 1) L
theorem framesF_snoc : ∀ (L : List (List UInt8)) (i : Nat) (r : List UInt8), framesF i (L ++ [r]) = framesF i L ++ frameS (i + L.length) r
  | [], i, r => by simp [framesF]
  | x :: L, i, r => by
    simp only [List.cons_append, framesF, framesF_snoc L (i + 1) r, List.append_assoc, List.length_cons]
    rw [show i + 1 + L.length = i + (L.length + 1) by omega]

/-- A sequence of frames is parsed back. -/
theorem parse_frames : ∀ (L : List (List UInt8)) (pre post : List UInt8) (l : List (List UInt8)) (f : Nat), (∀ r ∈ L, r.length ≤ 65536) → parseF (pre ++ framesF l.length L ++ post) (f + L.length) l pre.length = parseF (pre ++ framesF l.length L ++ post) f (l ++ L) (pre ++ framesF l.length L).length
  | [], pre, post, l, f, _ => by simp [framesF]
  | r :: L, pre, post, l, f, h => by
    have hs := parseStep_frame pre r (framesF (l.length + 1) L ++ post) l.length (h r (by simp))
    have e1 : pre ++ framesF l.length (r :: L) ++ post = pre ++ frameS l.length r ++ (framesF (l.length + 1) L ++ post) := by simp [framesF]
    rw [e1, List.length_cons, show f + (L.length + 1) = (f + L.length) + 1 by omega, parseF, hs]
    simp only
    have hl : (frameS l.length r).length = 12 + r.length := by simp [frameS, beB_len, jsumS_len]; omega
    have ih := parse_frames L (pre ++ frameS l.length r) post (l ++ [r]) f (fun x hx => h x (by simp [hx]))
    rw [List.length_append, List.length_singleton] at ih
    rw [show pre.length + 12 + r.length = (pre ++ frameS l.length r).length by simp [hl]; omega]
    have e2 : pre ++ frameS l.length r ++ (framesF (l.length + 1) L ++ post) = pre ++ frameS l.length r ++ framesF (l.length + 1) L ++ post := by simp
    rw [e2, ih]
    simp [framesF]

theorem parse_one (r : List UInt8) (hr : r.length ≤ 65536) : parseS (frameS 0 r) = ([r], 12 + r.length) := by
  have hl : (frameS 0 r).length = 12 + r.length := by simp [frameS, beB_len, jsumS_len]; omega
  have h := parse_frames [r] [] [] [] (frameS 0 r).length (by simpa using hr)
  simp only [framesF, List.nil_append, List.append_nil, List.length_nil, List.length_cons] at h
  unfold parseS
  rw [h, hl, show 12 + r.length = (11 + r.length) + 1 by omega, parseF, ps_short (by rw [hl]; omega)]
end

section
open Go.RowKit

theorem lit_rd2 (w0 w : World) (cs : Array Value) (fr : Nat × Nat) (b : List UInt8) (n : Nat) (hn : b.length = n) (hcs : cs = (b.map byteV).toArray) (hm : n ≤ maxLen) :
    ∀ F : Nat → Prop, (∀ k, F k → w0.heap.size ≤ k ∧ k < w.heap.size) → RdB F (w.alloc (.cells cs 5 fr)) (.slice (some ⟨w.heap.size, 0, none⟩) n n) b := by
  intro F hF
  subst hn hcs
  exact RdF.of_new w _ _ fr (fun h => by have := (hF _ h).2; omega) (Nat.le_refl _) hm (by simp) (fun j u hu => by simpa using hu)

abbrev jS (c : List UInt8) (n : Nat) : DSt := ⟨[([106], ⟨c, n⟩)], false, false, 0⟩
theorem aw_open0 : sOpen sNew [106] = (0, sNew, []) := sOpen_none rfl
theorem aw_app (fr : List UInt8) : sAppend sNew [106] fr = (0, jS fr 0) := rfl
theorem aw_app2 (c fr : List UInt8) (n : Nat) : sAppend (jS c n) [106] fr = (0, jS (c ++ fr) n) := rfl
theorem aw_sync (c : List UInt8) (n : Nat) : sSync (jS c n) [106] = (0, jS c c.length) := rfl
theorem aw_read (c : List UInt8) (n : Nat) : sRead (jS c n) [106] = (c, 0) := rfl
theorem aw_crash (c x : List UInt8) (hx : ¬ x.length = 0) : sCrash (jS (c ++ x) c.length) [] = jS c c.length := by
  have h1 : ¬ (c ++ x).length - c.length = 0 := by simp; simpa using hx
  simp [sCrash, crashL, crashF, below, damaged, hx]
theorem aw_open1 (c : List UInt8) (l : List (List UInt8)) (hp : parseS c = (l, c.length)) : sOpen (jS c c.length) [106] = (0, jS c c.length, l) := by
  rw [sOpen_whole (aw_read c c.length) hp (by omega), aw_sync]
  rfl

set_option maxRecDepth 100000 in
set_option maxHeartbeats 8000000 in
theorem awake31 (w : World) : Calls Try.prog 24 #[] w fun e w' => e = .returned (.bool true) ∧ Upd NoF w w' := by
  have kc := fun (w : World) (C : Array Value) (n c : Nat) => Lib.run_convert_bytes_const (P := Try.prog) w 27 5 C n c Try.underlying27 Try.underlying5
  obtain ⟨f0, hf0⟩ : ∃ f0, frameS 0 [97] = f0 := ⟨_, rfl⟩
  have hf0l : f0.length = 13 := by rw [← hf0]; simp [frameS, beB_len, jsumS_len]
  obtain ⟨f1, hf1⟩ : ∃ f1, frameS 1 [98, 99] = f1 := ⟨_, rfl⟩
  have hf1l : f1.length = 14 := by rw [← hf1]; simp [frameS, beB_len, jsumS_len]
  have hb3 : f0[3]? = some 1 := by
    rw [← hf0]
    unfold frameS
    rw [List.append_assoc, List.getElem?_append_left (by simp [beB_len])]
    decide
  have hpar : parseS f0 = ([[97]], f0.length) := by rw [hf0l, ← hf0]; exact parse_one [97] (by decide)
  have P0 := Lib.hid hpar
  have HF0 := Lib.hid hf0
  have HF1 := Lib.hid hf1
  have L0 := Lib.hid hf0l
  have L1 := Lib.hid hf1l
  have HB3 := Lib.hid hb3
  clear hf0 hf1 hf0l hf1l hb3 hpar
  go_enter Try.func24, Try.ntmps24
  go_wp2_with fail
  refine (jFrame_any (bs := [97]) ((lit_rd2 w w _ _ [97] 1 rfl rfl (by decide) NoF (fun _ h => h.elim)).now) (by decide) 0 (by decide)).mono ?_
  rw [HF0.out]
  rintro e w1 ⟨A1, c1, rfl, hN1⟩
  rw [L0.out]
  have N1 := Lib.hid hN1
  have U1 := Lib.hid (show Upd NoF w w1 from ((Upd.refl NoF w).alloc _).trans hN1.2.2 (fun _ _ h => h))
  clear hN1
  go_wp2_with fail
  refine (new_dk w1).mono ?_
  rintro e w2 ⟨rfl, hd2⟩
  have D2 := Lib.hid (show DA w1 (w1.heap.size + 1) sNew w2 from by
    obtain ⟨F, a1, a2, a3⟩ := hd2
    exact ⟨F, a1, fun k hk => (a3 k hk).resolve_left (fun h => h), a2⟩)
  clear hd2
  generalize w1.heap.size + 1 = d at D2 ⊢
  go_wp2_with fail
  refine (D2.out.open [106] (by decide) (by decide)).mono ?_
  rw [aw_open0]
  rintro e w3 (⟨-, j, rfl, h3⟩ | ⟨h, _⟩)
  case inr => exact absurd rfl h
  have W3 := Lib.hid h3
  clear h3
  go_wp2_with fail
  refine (W3.out.append (b := [97]) (lit_rd2 w1 w3 _ _ [97] 1 rfl rfl (by decide)) ((Upd.refl NoF w3).alloc _) (by decide) (by decide) (by decide) (by decide)).mono ?_
  rw [show sJAppend sNew [106] [] false [97] = (0, jS f0 0, [[97]], false) by rw [← HF0.out]; rfl]
  rintro e w4 ⟨rfl, h4⟩
  have W4 := Lib.hid h4
  clear h4
  go_wp2_with fail
  refine (W4.out.sync (by decide)).mono ?_
  rw [show sJSync (jS f0 0) [106] [[97]] ([] : List (List UInt8)).length false = (0, jS f0 f0.length, 1, false) by rfl]
  rintro e w5 ⟨rfl, h5⟩
  have W5 := Lib.hid h5
  clear h5
  go_wp2_with fail
  refine (W5.out.append (b := [98, 99]) (lit_rd2 w1 w5 _ _ [98, 99] 2 rfl rfl (by decide)) ((Upd.refl NoF w5).alloc _) (by decide) (by have := L0.out; simp [getF]; omega) (by simp [maxLen]) (by decide)).mono ?_
  rw [show sJAppend (jS f0 f0.length) [106] [[97]] false [98, 99] = (0, jS (f0 ++ f1) f0.length, [[97], [98, 99]], false) by rw [← HF1.out]; rfl]
  rintro e w6 ⟨rfl, h6⟩
  have W6 := Lib.hid h6
  clear h6
  go_wp2_with fail
  refine (W6.out.disk (fun F hF _ => crash_spec hF (.slice none 0 0) [] (RdF.nil _ _ _) (by simp) (by simp))).mono ?_
  rw [aw_crash f0 f1 (by rw [L1.out]; decide)]
  rintro e w7 ⟨rfl, h7⟩
  have W7 := Lib.hid h7
  clear h7
  go_wp2_with fail
  refine (W7.out.open [106] (by decide) (by rw [aw_read, L0.out]; decide)).mono ?_
  rw [aw_open1 f0 [[97]] P0.out]
  rintro e w8 ⟨h8, (⟨-, j', rfl, h8'⟩ | ⟨h, _⟩)⟩
  case inr => exact absurd rfl h
  have W8 := Lib.hid h8
  have X8 := Lib.hid h8'
  clear h8 h8'
  go_wp2_with fail
  refine X8.out.records.mono ?_
  rintro e w9 ⟨v9, F9, rfl, h9, -, hu9⟩
  obtain ⟨A9, c9, rfl, -, -⟩ := h9.form
  obtain ⟨g9, Au, cu, rfl, q1, q2⟩ := h9.get (i := 0) (b := [97]) rfl
  have W9 := Lib.hid (W8.out.upd hu9)
  have X9 := Lib.hid (X8.out.upd hu9)
  have hstr : ∀ w', Upd NoF w9 w' → (convert 27 9 (.slice Au 1 cu)).run Try.prog w' = .ok (strV [97]) w' := fun w' hu => run_str (bs := [97]) (q2.rd.keep hu)
  have HST := Lib.hid hstr
  have HQ1 := Lib.hid q1
  obtain ⟨gA, oA, hA1, hcA⟩ := rd_cells (n := 13) (bs := f0) (by have := N1.out.1.rd; rw [L0.out] at this; exact this) (by omega)
  subst hA1
  have hc3 := hcA 3 1 HB3.out
  have C3 := Lib.hid hc3
  clear h9 q1 q2 hstr hc3 hcA
  have c3 : w9.cell? ⟨gA, oA + 3, none⟩ = some (byteV 1) := W9.out.out.cell C3.out (fun h => h)
  have z1 : (3 : Int) < 13 := by decide
  go_wp2_with fail
  refine W9.out.synced.mono ?_
  rintro e w' ⟨rfl, rfl⟩
  go_wp2_with fail
  refine W9.out.records.mono ?_
  rintro e w10 ⟨v10, F10, rfl, h10, -, hu10⟩
  obtain ⟨A10, c10, rfl, -, -⟩ := h10.form
  have q10 := hu10.cell HQ1.out (fun h => h)
  have s10 := HST.out w10 hu10
  have X10 := Lib.hid (X9.out.upd hu10)
  clear h10 hu10 c3
  go_wp2_with fail
  refine X10.out.synced.mono ?_
  rintro e w' ⟨rfl, rfl⟩
  go_wp2_with fail
  refine (jAppend_nil _).mono ?_
  rintro e w' ⟨rfl, rfl⟩
  go_wp2_with fail
  refine (jSync_nil _).mono ?_
  rintro e w' ⟨rfl, rfl⟩
  go_wp2_with fail
  refine (jRecords_nil _).mono ?_
  rintro e w' ⟨rfl, rfl⟩
  go_wp2_with fail
  refine (jSynced_nil _).mono ?_
  rintro e w' ⟨rfl, rfl⟩
  go_wp2
  go_ret
  exact ⟨rfl, U1.out.trans X10.out.out (fun _ _ h => h)⟩
end
end Go.Proofs.Ytmapijpphnlcmaa
