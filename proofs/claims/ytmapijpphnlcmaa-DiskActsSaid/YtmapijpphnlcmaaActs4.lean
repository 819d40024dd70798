/- 'heavy' of DiskActs. No condition. -/
import Derived.Test.YtmapijpphnlcmaaActs1
import Derived.Deep.QuietTactic
import Derived.BigQuiet
import Derived.IntWalk
namespace Go.Proofs.Ytmapijpphnlcmaa
open Go.RowKit

def HeavyPost (w : World) (l : List ActR) (e : Ending) (w' : World) : Prop := ∃ b, e = .returned (.bool b) ∧ (b = false → l.length ≤ 200 ∧ ∀ a ∈ l, a.data.length ≤ 3000) ∧ Upd NoF w w'

def HvRel (w : World) (l : List ActR) (n i : Value) (wr : World) : Prop :=
  ∃ k N : Nat, k ≤ l.length ∧ i = .int .i64 k ∧ n = .int .i64 N ∧ N ≤ 9223372036854775807 ∧ (N ≤ 3000 → ∀ j a, j < k → l[j]? = some a → a.data.length ≤ 3000) ∧ Upd NoF w wr

set_option maxRecDepth 100000 in
set_option maxHeartbeats 4000000 in
theorem heavy_any {w : World} {v : Value} {l : List ActR} (h : RdActs (Ab w) w v l) : Calls Try.prog 19 #[v] w (HeavyPost w l) := by
  obtain ⟨A, c, rfl, hn, hc, hx⟩ := h.form
  unfold maxLen at hc
  have HX := Lib.hid hx
  have H := Lib.hid h
  clear h hx
  go_enter Try.func19, Try.ntmps19
  go_wp2
  go_loopw [3, 4] (fun n i wr => HvRel w l n i wr) (fun _ i _ => l.length - (intOf i).toNat)
  case atStart => exact ⟨0, l.length, Nat.zero_le _, rfl, rfl, by omega, fun _ j a hj => absurd hj (by omega), Upd.refl _ _⟩
  case round =>
    obtain ⟨k, N, hk, rfl, rfl, hN, hd, hU⟩ := hrel
    have HD := Lib.hid hd
    have HU := Lib.hid hU
    clear hd hU
    by_cases hlt : k < l.length
    · by_cases hN3 : N ≤ 3000
      · obtain ⟨g, o, rfl, hcell⟩ := HX.out (by omega)
        obtain ⟨a, ha⟩ : ∃ a, l[k]? = some a := ⟨_, List.getElem?_eq_getElem hlt⟩
        obtain ⟨-, q1, q2, q3, -, q5⟩ := hcell wr (HU.out.mono (fun _ _ h => h.elim)) k a ha
        obtain ⟨A0, c0, e0, _⟩ := (H.out.2 a (List.mem_of_getElem? ha)).data.now
        obtain ⟨A1, c1, e1, _⟩ := (H.out.2 a (List.mem_of_getElem? ha)).picks.now
        rw [e0] at q3
        rw [e1] at q5
        have HA := Lib.hid ha
        have t1 : decide ((k : Int) < l.length) = true := by simpa using hlt
        have t2 : decide ((N : Int) ≤ 3000) = true := by simp; omega
        have t2' : decide (N ≤ 3000) = true := by simpa using hN3
        have t3 : (0:Int) ≤ k := by omega
        have t4 : (k:Int) < l.length := by omega
        have b1 : IntKind.i64.wrap ((N : Int) + min (a.data.length : Int) 3001) = (N : Int) + min (a.data.length : Int) 3001 := IntWalk.i64_in _ (by omega)
        have b2 : IntKind.i64.wrap ((N : Int) + min (a.data.length : Int) 3001 + min (a.nm.length : Int) 3001) = (N : Int) + min (a.data.length : Int) 3001 + min (a.nm.length : Int) 3001 := IntWalk.i64_in _ (by omega)
        have b3 : IntKind.i64.wrap ((N : Int) + min (a.data.length : Int) 3001 + min (a.nm.length : Int) 3001 + min (a.to.length : Int) 3001) = (N : Int) + min (a.data.length : Int) 3001 + min (a.nm.length : Int) 3001 + min (a.to.length : Int) 3001 := IntWalk.i64_in _ (by omega)
        have b4 : IntKind.i64.wrap ((N : Int) + min (a.data.length : Int) 3001 + min (a.nm.length : Int) 3001 + min (a.to.length : Int) 3001 + min (a.picks.length : Int) 3001) = (N : Int) + min (a.data.length : Int) 3001 + min (a.nm.length : Int) 3001 + min (a.to.length : Int) 3001 + min (a.picks.length : Int) 3001 := IntWalk.i64_in _ (by omega)
        clear hcell ha e0 e1
        go_wp2
        go_quiet (fail)
        clear b1 b2 b3 b4
        go_wp2
        go_roundw
        case rel =>
          refine ⟨k + 1, N + min a.data.length 3001 + min a.nm.length 3001 + min a.to.length 3001 + min a.picks.length 3001, by omega, by go_num, by go_num, by omega, fun hs j x hj hx => ?_, HU.out.drewN nq⟩
          rcases Nat.lt_or_ge j k with hjk | hjk
          · exact HD.out hN3 j x hjk hx
          · obtain rfl : j = k := by omega
            rw [HA.out] at hx
            injection hx with hx
            subst hx
            omega
        case measure => simp [intOf]; omega
      · have t1 : decide ((k : Int) < l.length) = true := by simpa using hlt
        have t2 : decide ((N : Int) ≤ 3000) = false := by simp; omega
        have t2' : decide (N ≤ 3000) = false := by simp; omega
        have t3 : decide ((3000 : Int) < N) = true := by simp; omega
        have t3' : decide (3000 < N) = true := by simp; omega
        go_wp2
        go_ret
        exact ⟨true, rfl, fun h => (by cases h), HU.out⟩
    · have t1 : decide ((k : Int) < l.length) = false := by simp; omega
      obtain rfl : k = l.length := by omega
      by_cases hN3 : N ≤ 3000
      · have t3 : decide ((3000 : Int) < N) = false := by simp; omega
        have t3' : decide (3000 < N) = false := by simp; omega
        go_wp2
        go_ret
        refine ⟨_, rfl, fun h => ⟨?_, fun a ha => ?_⟩, HU.out⟩
        · simp at h; omega
        · obtain ⟨j, hj, rfl⟩ := List.mem_iff_getElem.1 ha
          exact HD.out hN3 j _ hj (List.getElem?_eq_getElem hj)
      · have t3 : decide ((3000 : Int) < N) = true := by simp; omega
        have t3' : decide (3000 < N) = true := by simp; omega
        go_wp2
        go_ret
        exact ⟨true, rfl, fun h => (by cases h), HU.out⟩
end Go.Proofs.Ytmapijpphnlcmaa
