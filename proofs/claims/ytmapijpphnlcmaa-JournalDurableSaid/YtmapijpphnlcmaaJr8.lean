/- Package journal: Append, Sync. Conditions: sizes. -/
import Derived.Test.YtmapijpphnlcmaaJr7
namespace Go.Proofs.Ytmapijpphnlcmaa
open Go.RowKit

def sJAppend (s : DSt) (nm : List UInt8) (l : List (List UInt8)) (dead : Bool) (b : List UInt8) : Int × DSt × List (List UInt8) × Bool :=
  if 65536 < b.length then (1, s, l, dead) else if dead then (103, s, l, dead) else
  ((sAppend s nm (frameS l.length b)).1, (sAppend s nm (frameS l.length b)).2, if (sAppend s nm (frameS l.length b)).1 = 0 then l ++ [b] else l, noteB dead (sAppend s nm (frameS l.length b)).1)
def sJSync (s : DSt) (nm : List UInt8) (l : List (List UInt8)) (safe : Nat) (dead : Bool) : Int × DSt × Nat × Bool :=
  if dead then (103, s, safe, dead) else if l.length = 0 then (0, s, safe, dead) else
  ((sSync s nm).1, (sSync s nm).2, if (sSync s nm).1 = 0 then l.length else safe, noteB dead (sSync s nm).1)

def DJ (w : World) (d : Nat) (s : DSt) (F : Nat → Prop) (j : Nat) (nm : List UInt8) (l : List (List UInt8)) (safe : Nat) (dead : Bool) (G : Nat → Prop) : Prop := DiskAt w d s F ∧ JAt w j d nm l safe dead G ∧ ∀ k, F k → ¬ G k
def DJStep (w : World) (F G : Nat → Prop) (d : Nat) (s : DSt) (j : Nat) (nm : List UInt8) (l : List (List UInt8)) (safe : Nat) (dead : Bool) (w' : World) : Prop :=
  ∃ F' G', DJ w' d s F' j nm l safe dead G' ∧ Upd (fun k => F k ∨ G k) w w' ∧ (∀ k, F' k → F k ∨ w.heap.size ≤ k) ∧ (∀ k, G' k → G k ∨ w.heap.size ≤ k)

section
variable {w : World} {d : Nat} {s : DSt} {F : Nat → Prop} {j : Nat} {nm : List UInt8} {l : List (List UInt8)} {safe : Nat} {dead : Bool} {G : Nat → Prop}

theorem DJ.refl (h : DJ w d s F j nm l safe dead G) : DJStep w F G d s j nm l safe dead w := ⟨F, G, h, Upd.refl _ _, fun _ h => .inl h, fun _ h => .inl h⟩
theorem DJ.upd (h : DJ w d s F j nm l safe dead G) {w' : World} (hu : Upd NoF w w') : DJ w' d s F j nm l safe dead G := ⟨h.1.upd hu (fun _ _ h => h), h.2.1.upd hu (fun _ _ h => h), h.2.2⟩
theorem DJ.stepped (h : DJ w d s F j nm l safe dead G) {w' : World} (hu : Upd NoF w w') : DJStep w F G d s j nm l safe dead w' := ⟨F, G, h.upd hu, hu.mono (fun _ _ h => h.elim), fun _ h => .inl h, fun _ h => .inl h⟩

set_option maxRecDepth 100000 in
theorem jAppend_nil (w : World) : Calls Try.prog 30 #[.pointer none, .slice none 0 0] w fun e w' => e = retE 1 ∧ w = w' := by
  go_enter Try.func30, Try.ntmps30
  go_wp2
  go_ret
  exact ⟨rfl, rfl⟩
set_option maxRecDepth 100000 in
theorem jSync_nil (w : World) : Calls Try.prog 32 #[.pointer none] w fun e w' => e = retE 1 ∧ w = w' := by
  go_enter Try.func32, Try.ntmps32
  go_wp2
  go_ret
  exact ⟨rfl, rfl⟩

set_option maxRecDepth 100000 in
theorem jAppend_big (h : DJ w d s F j nm l safe dead G) {v : Value} {b : List UInt8} (hb : RdB (fun k => F k ∨ G k) w v b) (hbig : 65536 < b.length) : Calls Try.prog 30 #[ptrV j, v] w fun e w' => e = retE 1 ∧ w = w' := by
  obtain ⟨rv, vs, h1, _⟩ := h.2.1
  have c0 : w.cell? ⟨j, 0, none⟩ = some (ptrV d) := h1.cell 0
  obtain ⟨A, c, rfl, _⟩ := hb.now
  have t1 : decide ((65536 : Int) < (b.length : Int)) = true := by simp; omega
  have t1' : decide (65536 < b.length) = true := by simp; omega
  clear h h1 hb
  go_enter Try.func30, Try.ntmps30
  go_wp2
  go_ret
  exact ⟨rfl, rfl⟩
set_option maxRecDepth 100000 in
theorem jAppend_dead (h : DJ w d s F j nm l safe true G) {v : Value} {b : List UInt8} (hb : RdB (fun k => F k ∨ G k) w v b) (hbig : ¬ 65536 < b.length) : Calls Try.prog 30 #[ptrV j, v] w fun e w' => e = retE 103 ∧ w = w' := by
  obtain ⟨rv, vs, h1, _⟩ := h.2.1
  have c0 : w.cell? ⟨j, 0, none⟩ = some (ptrV d) := h1.cell 0
  have c4 : w.cell? ⟨j, 4, none⟩ = some (.bool true) := h1.cell 4
  obtain ⟨A, c, rfl, _⟩ := hb.now
  have t1 : decide ((65536 : Int) < (b.length : Int)) = false := by simp; omega
  have t1' : decide (65536 < b.length) = false := by simp; omega
  clear h h1 hb
  go_enter Try.func30, Try.ntmps30
  go_wp2
  go_ret
  exact ⟨rfl, rfl⟩

/-- The disk has appended the frame, and the journal has taken note. -/
theorem jap_mid (h : DJ w d s F j nm l safe false G) {w1 w2 w3 : World} {rv : Value} {vs : List Value} {A : Option Addr} {c : Nat} {fr : List UInt8} {r : Int × DSt} (hB : Blk w j 99 #[ptrV d, strV nm, rv, .int .i64 safe, .bool false]) (hV : RecsV w rv l vs) (hG : G = fun k => k = j ∨ RecsF rv vs k) (hs : safe ≤ 1099511627776) (hl : l.length ≤ 1099511627776) (hl2 : ∀ b ∈ l, b.length ≤ 65536)
    (h1 : NewO w.drew fr A c w1) (h2 : DiskStep w1 d r.2 F w2) (h3 : Blk w3 j 99 #[ptrV d, strV nm, rv, .int .i64 safe, .bool (noteB false r.1)]) (h4 : Upd (fun k => k = j) w2 w3) :
    ∃ F', DJ w3 d r.2 F' j nm l safe (noteB false r.1) G ∧ RecsV w3 rv l vs ∧ Upd (fun k => F k ∨ G k) w w3 ∧ (∀ k, F' k → F k ∨ w.heap.size ≤ k) := by
  obtain ⟨hD, hJ, hdis⟩ := h
  obtain ⟨F', a1, a2, a3⟩ := h2
  have u1 : Upd NoF w w1 := ((Upd.refl NoF w).drew).trans h1.2.2 (fun _ _ h => h)
  have hGj : G j := by rw [hG]; exact .inl rfl
  have hFG1 : ∀ k, F' k → ¬ G k := fun k hk hg => by
    rcases a3 k hk with e | e
    · exact hdis k e hg
    · have := hJ.lt hg; have := u1.size; omega
  have v1 : RecsV w1 rv l vs ∧ RecsV w2 rv l vs ∧ RecsV w3 rv l vs := by
    obtain ⟨vs1, e1, e2⟩ := RecsAt.upd ⟨vs, hV, rfl⟩ u1 (fun _ _ h => h)
    have q1 : RecsV w1 rv l vs := ⟨hV.1.upd u1 (fun _ _ h => h), fun i b hb => by obtain ⟨u, x1, x2⟩ := hV.2 i b hb; exact ⟨u, x1, x2.upd u1 (fun _ _ h => h)⟩⟩
    have hno : ∀ k, RecsF rv vs k → G k := fun k hk => by rw [hG]; exact .inr hk
    have q2 : RecsV w2 rv l vs := ⟨q1.1.upd a2 (fun k hk e => hdis k e (hno k (.inl hk))), fun i b hb => by obtain ⟨u, x1, x2⟩ := q1.2 i b hb; exact ⟨u, x1, x2.upd a2 (fun k hk e => hdis k e (hno k (.inr ⟨u, List.mem_of_getElem? x1, hk⟩)))⟩⟩
    have hB2 : Blk w2 j 99 #[ptrV d, strV nm, rv, .int .i64 safe, .bool false] := a2.blk (u1.blk hB (fun h => h)) (fun e => hdis j e hGj)
    have q3 : RecsV w3 rv l vs := ⟨q2.1.upd h4 (fun k hk e => q2.1.blk_ne hB2 (by decide) (by rw [← e]; exact hk)), fun i b hb => by obtain ⟨u, x1, x2⟩ := q2.2 i b hb; exact ⟨u, x1, x2.upd h4 (fun k hk e => x2.blk_ne hB2 (by decide) (by rw [← e]; exact hk))⟩⟩
    exact ⟨q1, q2, q3⟩
  refine ⟨F', ⟨a1.upd h4 (fun k hk e => hFG1 k hk (by rw [e]; exact hGj)), ⟨rv, vs, h3, v1.2.2, hs, hl, hl2, hG⟩, hFG1⟩, v1.2.2, ?_, fun k hk => ?_⟩
  · exact ((u1.mono (G := fun k => F k ∨ G k) (fun _ _ h => h.elim)).trans a2 (fun k _ e => .inl e)).trans h4 (fun k _ e => .inr (by rw [e]; exact hGj))
  · rcases a3 k hk with e | e
    · exact .inl e
    · exact .inr (Nat.le_trans u1.size e)
end
end Go.Proofs.Ytmapijpphnlcmaa
