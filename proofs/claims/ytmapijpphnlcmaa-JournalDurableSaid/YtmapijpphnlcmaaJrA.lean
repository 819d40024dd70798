/- Package journal: Sync; Append and Sync against their specifications. Conditions: sizes. -/
import Derived.Test.YtmapijpphnlcmaaJr9
namespace Go.Proofs.Ytmapijpphnlcmaa
open Go.RowKit

section
variable {w : World} {d : Nat} {s : DSt} {F : Nat → Prop} {j : Nat} {nm : List UInt8} {l : List (List UInt8)} {safe : Nat} {dead : Bool} {G : Nat → Prop}

set_option maxRecDepth 100000 in
theorem jSync_dead (h : DJ w d s F j nm l safe true G) : Calls Try.prog 32 #[ptrV j] w fun e w' => e = retE 103 ∧ w = w' := by
  obtain ⟨rv, vs, h1, _⟩ := h.2.1
  have c0 : w.cell? ⟨j, 0, none⟩ = some (ptrV d) := h1.cell 0
  have c4 : w.cell? ⟨j, 4, none⟩ = some (.bool true) := h1.cell 4
  clear h h1
  go_enter Try.func32, Try.ntmps32
  go_wp2
  go_ret
  exact ⟨rfl, rfl⟩
set_option maxRecDepth 100000 in
theorem jSync_none (h : DJ w d s F j nm l safe false G) (hl : l.length = 0) : Calls Try.prog 32 #[ptrV j] w fun e w' => e = retE 0 ∧ w = w' := by
  obtain ⟨rv, vs, h1, h2, _⟩ := h.2.1
  obtain ⟨A0, c0', rfl, hlc, hcm⟩ := RecsAt.form ⟨vs, h2, rfl⟩
  have c0 : w.cell? ⟨j, 0, none⟩ = some (ptrV d) := h1.cell 0
  have c2 : w.cell? ⟨j, 2, none⟩ = some (.slice A0 0 c0') := by rw [← hl]; exact h1.cell 2
  have c4 : w.cell? ⟨j, 4, none⟩ = some (.bool false) := h1.cell 4
  clear h h1 h2 hl
  go_enter Try.func32, Try.ntmps32
  go_wp2
  go_ret
  exact ⟨rfl, rfl⟩

set_option maxRecDepth 100000 in
set_option maxHeartbeats 8000000 in
theorem jSync_live (h : DJ w d s F j nm l safe false G) (hl0 : ¬ l.length = 0) (hm : nm.length ≤ maxLen) :
    Calls Try.prog 32 #[ptrV j] w (JPost w F G d j nm (sSync s nm).1 (sSync s nm).2 l (if (sSync s nm).1 = 0 then l.length else safe) (noteB false (sSync s nm).1)) := by
  obtain ⟨rv, vs, hB, hV, hsf, hln, hlb, hG⟩ := h.2.1
  obtain ⟨A0, c0, rfl, hlc, hcm⟩ := RecsAt.form ⟨vs, hV, rfl⟩
  have q0 : w.cell? ⟨j, 0, none⟩ = some (ptrV d) := hB.cell 0
  have q1 : w.cell? ⟨j, 1, none⟩ = some (strV nm) := hB.cell 1
  have q2 : w.cell? ⟨j, 2, none⟩ = some (.slice A0 l.length c0) := hB.cell 2
  have q4 : w.cell? ⟨j, 4, none⟩ = some (.bool false) := hB.cell 4
  have hGj : G j := by rw [hG]; exact .inl rfl
  have t1 : ((l.length : Int) == 0) = false := by simpa using hl0
  obtain ⟨r, hr⟩ : ∃ r, sSync s nm = r := ⟨_, rfl⟩
  rw [hr]
  have CA := Lib.hid (show Calls Try.prog 12 #[ptrV d, strV nm] w.drew (ErrPost w.drew d F r) from by
    rw [← hr]
    exact sync_spec (h.1.upd ((Upd.refl NoF w).drew) (fun _ _ h => h)) nm hm)
  have K2 := Lib.hid (show ∀ w2, DiskStep w.drew d r.2 F w2 → Blk w2 j 99 #[ptrV d, strV nm, .slice A0 l.length c0, .int .i64 safe, .bool false] from fun w2 h2 => by
    obtain ⟨F', a1, a2, a3⟩ := h2
    exact a2.blk hB.drew (fun e => h.2.2 j e hGj))
  have MID := Lib.hid (show ∀ w2 w3, DiskStep w.drew d r.2 F w2 → Blk w3 j 99 #[ptrV d, strV nm, .slice A0 l.length c0, .int .i64 safe, .bool (noteB false r.1)] → Upd (fun k => k = j) w2 w3 →
      ∃ F', DJ w3 d r.2 F' j nm l safe (noteB false r.1) G ∧ RecsV w3 (.slice A0 l.length c0) l vs ∧ Upd (fun k => F k ∨ G k) w w3 ∧ (∀ k, F' k → F k ∨ w.heap.size ≤ k) from fun w2 w3 h2 h3 h4 =>
    jap_mid (fr := []) (A := none) (c := 0) (w1 := w.drew) h hB hV hG hsf hln hlb ⟨Own.nil _ _ _, fun k hk => (by simp [OwnB, Value.ownBlock] at hk), Upd.refl _ _⟩ h2 h3 h4)
  have HG := Lib.hid hG
  have HLB := Lib.hid hlb
  have hlb63 : l.length ≤ 1099511627776 := hln
  clear h hB hV hlb hG hr
  obtain ⟨code, s'⟩ := r
  simp only at CA K2 MID ⊢
  by_cases hc : code = 0
  · subst hc
    rw [if_pos rfl]
    rw [show noteB false 0 = false from rfl] at MID ⊢
    go_enter Try.func32, Try.ntmps32
    go_wp2
    go_region_held3 (fun w' => w'.cell? ⟨j, 0, none⟩ = some (ptrV d) ∧ w'.cell? ⟨j, 1, none⟩ = some (strV nm))
      (first | exact ⟨q0, q1⟩ | exact ⟨z0, z1⟩ | exact ⟨x0, x1⟩)
      (first
        | (go_at_call 12; refine CA.out.mono ?_; rintro e w2 ⟨rfl, hs2⟩; have z0 : w2.cell? ⟨j, 0, none⟩ = some (ptrV d) := (K2.out w2 hs2).cell 0; have z1 : w2.cell? ⟨j, 1, none⟩ = some (strV nm) := (K2.out w2 hs2).cell 1; have S2 := Lib.hid hs2; clear hs2)
        | (go_at_call 62; refine (jnote_any (K2.out w2 S2.out) 0).mono ?_; rintro e w3 ⟨rfl, hb3, hu3⟩; have x0 : w3.cell? ⟨j, 0, none⟩ = some (ptrV d) := hb3.cell 0; have x1 : w3.cell? ⟨j, 1, none⟩ = some (strV nm) := hb3.cell 1; have B3 := Lib.hid hb3; have U3 := Lib.hid hu3; clear hb3 hu3))
    clear q0 q1 q2 z0 z1 x0 x1 q4
    have hB3 : Blk w3 j 99 #[ptrV d, strV nm, .slice A0 l.length c0, .int .i64 safe, .bool false] := by have := B3.out; rw [show noteB false 0 = false from rfl] at this; exact this
    obtain ⟨F', g1, g2, g3, g4⟩ := MID.out w2 w3 S2.out hB3 U3.out
    have p2 : w3.cell? ⟨j, 2, none⟩ = some (.slice A0 l.length c0) := hB3.cell 2
    have p3 : w3.cell? ⟨j, 3, none⟩ = some (.int .i64 safe) := hB3.cell 3
    have p3f : w3.frozen? ⟨j, 3, none⟩ = false := hB3.frozen 3
    have FIN := Lib.hid (show DJStep w F G d s' j nm l l.length false (w3.setCell ⟨j, 3, none⟩ (.int .i64 (l.length : Int))) from by
      have hu6 : Upd (fun k => k = j) w3 (w3.setCell ⟨j, 3, none⟩ (.int .i64 (l.length : Int))) := (Upd.refl (fun k => k = j) w3).setCell (p := ⟨j, 3, none⟩) (.inl rfl) _
      have hV6 : RecsV (w3.setCell ⟨j, 3, none⟩ (.int .i64 (l.length : Int))) (.slice A0 l.length c0) l vs :=
        ⟨g2.1.upd hu6 (fun k hk e => g2.1.blk_ne hB3 (by decide) (by rw [← e]; exact hk)), fun i x hx => by obtain ⟨u, x1, x2⟩ := g2.2 i x hx; exact ⟨u, x1, x2.upd hu6 (fun k hk e => x2.blk_ne hB3 (by decide) (by rw [← e]; exact hk))⟩⟩
      exact ⟨F', G, ⟨g1.1.upd hu6 (fun k hk e => g1.2.2 k hk (by rw [e]; exact hGj)), ⟨_, vs, hB3.put 3 _, hV6, hln, hln, HLB.out, HG.out⟩, g1.2.2⟩, g3.trans hu6 (fun k _ e => .inr (by rw [e]; exact hGj)), g4, fun k hk => .inl hk⟩)
    clear g1 g2 g3 g4 hB3
    go_wp2
    go_ret
    exact ⟨rfl, FIN.out⟩
  · have t2 : (code == 0) = false := by simpa using hc
    have t2' : (code != 0) = true := by simpa using hc
    rw [if_neg hc]
    clear hc
    go_enter Try.func32, Try.ntmps32
    go_wp2
    go_region_held3 (fun w' => w'.cell? ⟨j, 0, none⟩ = some (ptrV d) ∧ w'.cell? ⟨j, 1, none⟩ = some (strV nm))
      (first | exact ⟨q0, q1⟩ | exact ⟨z0, z1⟩ | exact ⟨x0, x1⟩)
      (first
        | (go_at_call 12; refine CA.out.mono ?_; rintro e w2 ⟨rfl, hs2⟩; have z0 : w2.cell? ⟨j, 0, none⟩ = some (ptrV d) := (K2.out w2 hs2).cell 0; have z1 : w2.cell? ⟨j, 1, none⟩ = some (strV nm) := (K2.out w2 hs2).cell 1; have S2 := Lib.hid hs2; clear hs2)
        | (go_at_call 62; refine (jnote_any (K2.out w2 S2.out) code).mono ?_; rintro e w3 ⟨rfl, hb3, hu3⟩; have x0 : w3.cell? ⟨j, 0, none⟩ = some (ptrV d) := hb3.cell 0; have x1 : w3.cell? ⟨j, 1, none⟩ = some (strV nm) := hb3.cell 1; have B3 := Lib.hid hb3; have U3 := Lib.hid hu3; clear hb3 hu3))
    clear q0 q1 q2 z0 z1 x0 x1
    go_wp2
    go_ret
    obtain ⟨F', g1, g2, g3, g4⟩ := MID.out w2 w3 S2.out B3.out U3.out
    exact ⟨rfl, F', G, g1, g3, g4, fun k hk => .inl hk⟩

theorem jAppend_spec (h : DJ w d s F j nm l safe dead G) {v : Value} {b : List UInt8} (hb : RdB (fun k => F k ∨ G k) w v b) (hm : nm.length ≤ maxLen) (hl1 : ((getF s.fs nm).getD ⟨[], 0⟩).c.length ≤ 549755813888) (hL : s.fs.length < maxLen) (hll : l.length < 1099511627776) :
    Calls Try.prog 30 #[ptrV j, v] w (JPost w F G d j nm (sJAppend s nm l dead b).1 (sJAppend s nm l dead b).2.1 (sJAppend s nm l dead b).2.2.1 safe (sJAppend s nm l dead b).2.2.2) := by
  unfold sJAppend
  split
  · rename_i hbig
    refine (jAppend_big h hb hbig).mono ?_
    rintro e w' ⟨rfl, rfl⟩
    exact ⟨rfl, h.refl⟩
  · rename_i hbig
    cases dead with
    | true =>
      refine (jAppend_dead h hb hbig).mono ?_
      rintro e w' ⟨rfl, rfl⟩
      exact ⟨rfl, h.refl⟩
    | false => exact jAppend_live h hb (by omega) hm hl1 hL hll
theorem jSync_spec (h : DJ w d s F j nm l safe dead G) (hm : nm.length ≤ maxLen) :
    Calls Try.prog 32 #[ptrV j] w (JPost w F G d j nm (sJSync s nm l safe dead).1 (sJSync s nm l safe dead).2.1 l (sJSync s nm l safe dead).2.2.1 (sJSync s nm l safe dead).2.2.2) := by
  unfold sJSync
  cases dead with
  | true =>
    refine (jSync_dead h).mono ?_
    rintro e w' ⟨rfl, rfl⟩
    exact ⟨rfl, h.refl⟩
  | false =>
    split
    · contradiction
    · split
      · rename_i hl0
        refine (jSync_none h hl0).mono ?_
        rintro e w' ⟨rfl, rfl⟩
        exact ⟨rfl, h.refl⟩
      · rename_i hl0
        exact jSync_live h hl0 hm
end
end Go.Proofs.Ytmapijpphnlcmaa
