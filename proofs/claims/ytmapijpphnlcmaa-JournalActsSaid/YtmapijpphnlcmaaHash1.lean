/- The hash functions of package hash and of the reference: rotations, mixing, words. No condition. -/
import Derived.Test.YtmapijpphnlcmaaDisk
import Derived.Test.YtmapijpphnlcmaaHashS
import Derived.Laws.MathBits
import Derived.Lib.Hide
import Derived.RegionTactic
import Derived.BigRegion
import Derived.StillTailTactics
namespace Go.Proofs.Ytmapijpphnlcmaa
open Go.RowKit

abbrev u64V (x : Int) : Value := .int .u64 x

set_option maxRecDepth 100000 in
theorem r1rotl_13 (x : Int) (w : World) : Calls Try.prog 106 #[u64V x, .int .u64 13] w fun e w' => e = .returned (u64V (rot13 x)) ∧ w = w' := by
  go_enter Try.func106, Try.ntmps106
  go_wp2
  go_ret
  exact ⟨rfl, rfl⟩
set_option maxRecDepth 100000 in
theorem r1rotl_32 (x : Int) (w : World) : Calls Try.prog 106 #[u64V x, .int .u64 32] w fun e w' => e = .returned (u64V (rot32 x)) ∧ w = w' := by
  go_enter Try.func106, Try.ntmps106
  go_wp2
  go_ret
  exact ⟨rfl, rfl⟩
set_option maxRecDepth 100000 in
theorem rotate_13 (x : Int) (w : World) : Calls Try.prog 105 #[u64V x, .int .i64 13] w fun e w' => e = .returned (u64V (rot13 x)) ∧ w = w' := by
  have e0 : bits .and .u64 13 63 = 13 := by decide
  go_enter Try.func105, Try.ntmps105
  go_wp2
  go_ret
  exact ⟨rfl, rfl⟩
set_option maxRecDepth 100000 in
theorem rotate_32 (x : Int) (w : World) : Calls Try.prog 105 #[u64V x, .int .i64 32] w fun e w' => e = .returned (u64V (rot32 x)) ∧ w = w' := by
  have e1 : bits .and .u64 32 63 = 32 := by decide
  go_enter Try.func105, Try.ntmps105
  go_wp2
  go_ret
  exact ⟨rfl, rfl⟩

set_option maxRecDepth 100000 in
theorem r1mix_any (x y : Int) (w : World) : Calls Try.prog 91 #[u64V x, u64V y] w fun e w' => e = .returned (.tuple #[u64V (mixS (x, y)).1, u64V (mixS (x, y)).2]) ∧ w = w' := by
  go_enter Try.func91, Try.ntmps91
  go_wp2_with fail
  refine (r1rotl_13 y w).mono ?_
  rintro e w' ⟨rfl, rfl⟩
  go_wp2_with fail
  refine (r1rotl_32 _ w).mono ?_
  rintro e w' ⟨rfl, rfl⟩
  go_wp2
  go_ret2
  exact ⟨rfl, rfl⟩

def MixPost (w : World) (g : Nat) (p : Int × Int) (e : Ending) (w' : World) : Prop := e = .returned (.tuple #[]) ∧ Blk w' g 121 #[u64V p.1, u64V p.2] ∧ Upd (fun k => k = g) w w'

def MixRel (w : World) (g n : Nat) (p : Int × Int) (i : Value) (wr : World) : Prop := ∃ k : Nat, k ≤ n ∧ i = .int .i64 k ∧ Blk wr g 121 #[u64V (mixN k p).1, u64V (mixN k p).2] ∧ Upd (fun k => k = g) w wr

set_option maxRecDepth 100000 in
set_option maxHeartbeats 2000000 in
theorem hmix_any {w : World} {g : Nat} {p : Int × Int} (h : Blk w g 121 #[u64V p.1, u64V p.2]) (n : Nat) (hn : n ≤ 1000) : Calls Try.prog 88 #[ptrV g, .int .i64 n] w (MixPost w g (mixN n p)) := by
  have H := Lib.hid h
  clear h
  go_enter Try.func88, Try.ntmps88
  go_wp2
  go_loopw [5] (fun i wr => MixRel w g n p i wr) (fun i _ => n - (intOf i).toNat)
  case atStart => exact ⟨0, Nat.zero_le _, rfl, H.out, Upd.refl _ _⟩
  case round =>
    obtain ⟨k, hk, rfl, hB, hU⟩ := hrel
    by_cases hlt : k < n
    · have t1 : decide ((k : Int) < n) = true := by simpa using hlt
      obtain ⟨q, hq⟩ : ∃ q, mixN k p = q := ⟨_, rfl⟩
      have hq1 : mixN (k + 1) p = mixS q := by rw [← hq]; rfl
      rw [hq] at hB
      obtain ⟨x, y⟩ := q
      simp only at hB
      have c0 : wr.cell? ⟨g, 0, none⟩ = some (u64V x) := hB.cell 0
      have c1 : wr.cell? ⟨g, 1, none⟩ = some (u64V y) := hB.cell 1
      have f0 : wr.frozen? ⟨g, 0, none⟩ = false := hB.frozen 0
      have f1 : wr.frozen? ⟨g, 1, none⟩ = false := hB.frozen 1
      have HB := Lib.hid hB
      have HU := Lib.hid hU
      have HQ := Lib.hid hq1
      clear hB hU hq hq1
      go_wp2
      go_region
      obtain ⟨w1, hw1⟩ : ∃ w1, w1 = (wr.setCell ⟨g, 0, none⟩ (u64V (IntKind.u64.wrap (x + y)))).drew := ⟨_, rfl⟩
      rw [← hw1]
      have B1 := Lib.hid (show Blk w1 g 121 #[u64V (IntKind.u64.wrap (x + y)), u64V y] ∧ Upd (fun k => k = g) w w1 from by
        rw [hw1]
        exact ⟨(HB.out.put 0 _).drew, (HU.out.setCell (p := ⟨g, 0, none⟩) (.inl rfl) _).drew⟩)
      have d0 : w1.drew.cell? ⟨g, 0, none⟩ = some (u64V (IntKind.u64.wrap (x + y))) := B1.out.1.drew.cell 0
      have d1 : w1.drew.cell? ⟨g, 1, none⟩ = some (u64V y) := B1.out.1.drew.cell 1
      have e0 : w1.drew.frozen? ⟨g, 0, none⟩ = false := B1.out.1.drew.frozen 0
      have e1 : w1.drew.frozen? ⟨g, 1, none⟩ = false := B1.out.1.drew.frozen 1
      clear hw1 c0 c1 f0 f1
      go_wp2_with fail
      go_still_tail 13, (by kernel_rfl)
      still_call ((rotate_13 y _).mono fun e w' ⟨a, b⟩ => ⟨a, b.symm⟩)
      repeat still_step
      refine wpStill_nil ?_
      change wpList _ _ _ _ _ w1.drew
      generalize hw2 : w1.drew = w2 at d0 d1 e0 e1 ⊢
      have W2 := Lib.hid hw2
      clear hw2
      go_wp2_with fail
      refine (rotate_32 _ _).mono ?_
      rintro e w' ⟨rfl, rfl⟩
      go_wp2
      go_roundw
      case rel =>
        refine ⟨k + 1, by omega, by go_num, ?_, ?_⟩
        · rw [HQ.out, ← W2.out]
          exact (B1.out.1.drew.put 1 _).put 0 _
        · rw [← W2.out]
          exact ((B1.out.2.drew).setCell (p := ⟨g, 1, none⟩) (.inl rfl) _).setCell (p := ⟨g, 0, none⟩) (.inl rfl) _
      case measure => simp [intOf]; omega
    · have t1 : decide ((k : Int) < n) = false := by simp; omega
      have HB := Lib.hid hB
      have HU := Lib.hid hU
      obtain rfl : k = n := by omega
      clear hB hU
      go_wp2
      go_end0
      exact ⟨rfl, HB.out, HU.out⟩
end Go.Proofs.Ytmapijpphnlcmaa
