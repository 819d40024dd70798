/- Truncate of package disk. No condition. -/
import Derived.Test.YtmapijpphnlcmaaDisk7
namespace Go.Proofs.Ytmapijpphnlcmaa
open Go.RowKit Go.Maps

section
variable {w : World} {d mb : Nat} {off armed : Bool} {left : Nat} {L : List FRec}

set_option maxRecDepth 100000 in
theorem truncate1 (fb bs : Nat) (A : Option Addr) (n c : Nat) (dur : Nat) (size : Int) (w : World) (hA : A = none ∧ n = 0 ∧ c = 0 ∨ ∃ g, A = some ⟨g, 0, none⟩) (h : Blk w fb 77 #[.slice A n c, .int .i64 dur]) (hs : Blk w bs 3 #[.int .i64 size]) (hn : n ≤ c) (hc : c ≤ 9223372036854775807) (hd : dur ≤ n) (_h0 : -9223372036854775808 ≤ size) (_h1 : size ≤ 9223372036854775807) :
    Calls Try.prog 70 #[ptrV fb, ptrV bs] w fun e w' => e = .returned (.tuple #[]) ∧ Blk w' fb 77 #[.slice A (cutAt size n) (cutAt size n), .int .i64 (min dur (cutAt size n) : Nat)] ∧ Upd (fun k => k = fb) w w' := by
  obtain ⟨k, hk⟩ : ∃ k, cutAt size n = k := ⟨_, rfl⟩
  have hkn : k ≤ n := by rw [← hk]; unfold cutAt; omega
  have hmin : min (max size 0) (n : Int) = (k : Int) := by rw [← hk]; unfold cutAt; omega
  rw [hk]
  clear hk
  have c0 : w.cell? ⟨fb, 0, none⟩ = some (.slice A n c) := h.cell 0
  have c1 : w.cell? ⟨fb, 1, none⟩ = some (.int .i64 dur) := h.cell 1
  have f0 : w.frozen? ⟨fb, 0, none⟩ = false := h.frozen 0
  have f1 : w.frozen? ⟨fb, 1, none⟩ = false := h.frozen 1
  have b0 : w.cell? ⟨bs, 0, none⟩ = some (.int .i64 size) := hs.cell 0
  have fin : ∀ nq, Blk (((w.drewN nq).setCell ⟨fb, 0, none⟩ (.slice A k k)).setCell ⟨fb, 1, none⟩ (.int .i64 (min (dur : Int) k))) fb 77 #[.slice A k k, .int .i64 (min dur k : Nat)] ∧ Upd (fun k => k = fb) w (((w.drewN nq).setCell ⟨fb, 0, none⟩ (.slice A k k)).setCell ⟨fb, 1, none⟩ (.int .i64 (min (dur : Int) k))) := by
    intro nq
    refine ⟨?_, (((Upd.refl (fun k => k = fb) w).drewN nq).setCell (p := ⟨fb, 0, none⟩) (.inl rfl) _).setCell (p := ⟨fb, 1, none⟩) (.inl rfl) _⟩
    have := ((h.drewN nq).put 0 (.slice A k k)).put 1 (.int .i64 (min (dur : Int) k))
    have e : (min (dur : Int) (k : Int)) = ((min dur k : Nat) : Int) := by omega
    rw [e] at this ⊢
    exact this
  have FIN := Lib.hid fin
  clear h hs fin
  rcases hA with ⟨rfl, rfl, rfl⟩ | ⟨g, rfl⟩
  · obtain rfl : k = 0 := by omega
    obtain rfl : dur = 0 := by omega
    have hmin0 : min (max size 0) (0 : Int) = 0 := by omega
    clear hmin
    go_enter Try.func70, Try.ntmps70
    go_wp2
    go_quiet (fail)
    go_wp2
    go_end0
    exact ⟨rfl, FIN.out nq⟩
  · go_enter Try.func70, Try.ntmps70
    go_wp2
    go_quiet (fail)
    go_wp2
    go_end0
    exact ⟨rfl, FIN.out nq⟩

theorem truncate_turn (h : DiskL w d mb off armed left L) {r : FRec} (hr : r ∈ L) (bs : Nat) (size : Int) (hs : Blk w bs 3 #[.int .i64 size]) (h0 : -9223372036854775808 ≤ size) (h1 : size ≤ 9223372036854775807) :
    Calls Try.prog 70 #[ptrV r.fb, ptrV bs] w fun e w' => e = .returned (.tuple #[]) ∧ TurnPost w d mb off armed left L r (r.c.take (cutAt size r.c.length)) (min r.dur (cutAt size r.c.length)) w' := by
  have hf := h.file r hr
  have hw := h.own r hr
  have hle : cutAt size r.c.length ≤ r.c.length := by unfold cutAt; omega
  have hlen := h.len r hr
  obtain ⟨A, c, hcv, hA, hnc, hcm, hcut⟩ : ∃ A c, r.cv = .slice A r.c.length c ∧ (A = none ∧ r.c.length = 0 ∧ c = 0 ∨ ∃ g, A = some ⟨g, 0, none⟩) ∧ r.c.length ≤ c ∧ c ≤ maxLen ∧
      ∀ w', Upd (fun k => k = r.fb) w w' → Own w' 5 1 (.slice A (cutAt size r.c.length) (cutAt size r.c.length)) (r.c.take (cutAt size r.c.length)).length ((r.c.take (cutAt size r.c.length)).map byteV) := by
    have hlt : (r.c.take (cutAt size r.c.length)).length = cutAt size r.c.length := by simp; omega
    rcases hw.2 with ⟨hv, hn⟩ | ⟨g, cap, cur, hv, hb, hn, hcm, hcs, hx⟩
    · refine ⟨none, 0, by rw [hv, hn], .inl ⟨rfl, hn, rfl⟩, by omega, Nat.zero_le _, fun w' _ => ?_⟩
      have e0 : cutAt size r.c.length = 0 := by omega
      rw [e0]
      simp
      exact Own.nil _ _ _
    · refine ⟨some ⟨g, 0, none⟩, cap, hv, .inr ⟨g, rfl⟩, hn, hcm, fun w' hu => ?_⟩
      rw [hlt]
      refine ⟨by simp; omega, .inr ⟨g, _, cur, rfl, hu.blk hb (fun e => hw.blk_ne hf (by decide) (by rw [hv]; simp [OwnB, Value.ownBlock, e])), Nat.le_refl _, by omega, by omega, ?_⟩⟩
      rw [List.map_take, ← hx, List.take_take]
      congr 1
      simp
      omega
  have hf' : Blk w r.fb 77 #[.slice A r.c.length c, .int .i64 r.dur] := by rw [← hcv]; exact hf
  refine (truncate1 r.fb bs A r.c.length c r.dur size w hA hf' hs hnc (by unfold maxLen at hcm; omega) (h.dur r hr) h0 h1).mono ?_
  rintro e w' ⟨rfl, hb, hu⟩
  have hnew : ∀ k, OwnB (.slice A (cutAt size r.c.length) (cutAt size r.c.length)) k → OwnB r.cv k ∨ w.heap.size ≤ k := by
    intro k hk
    rw [hcv]
    left
    revert hk
    cases A <;> simp [OwnB, Value.ownBlock]
  refine ⟨rfl, { r with cv := .slice A (cutAt size r.c.length) (cutAt size r.c.length), c := r.c.take (cutAt size r.c.length), dur := min r.dur (cutAt size r.c.length) }, rfl, rfl, rfl, rfl, ?_, hu.mono ?_, fun k hk => ?_⟩
  · refine h.turn hr rfl rfl (by simp; omega) (by simp; omega) (hu.mono (fun k _ e => .inl e)) hb (hcut w' hu) hnew
  · rintro k _ rfl
    exact .inr (.inr ⟨r, hr, .inl rfl⟩)
  · exact foot_setR (r' := { r with cv := .slice A (cutAt size r.c.length) (cutAt size r.c.length), c := r.c.take (cutAt size r.c.length), dur := min r.dur (cutAt size r.c.length) }) hr rfl hnew hk
end
end Go.Proofs.Ytmapijpphnlcmaa
