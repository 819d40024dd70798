/- Journals in memory; rows, Records, Synced, note. Conditions: sizes. -/
import Derived.Test.YtmapijpphnlcmaaJr4
namespace Go.Proofs.Ytmapijpphnlcmaa
open Go.RowKit

/-- A slice of slices of bytes that reads as l. -/
def RowsRd (w : World) (v : Value) (l : List (List UInt8)) : Prop :=
  ∃ A c, v = .slice A l.length c ∧ l.length ≤ maxLen ∧ (0 < l.length → ∃ g o, A = some ⟨g, o, none⟩ ∧ ∀ (i : Nat) b, l[i]? = some b → ∃ Au cu, w.cell? ⟨g, o + i, none⟩ = some (.slice Au b.length cu) ∧ Rd w 1 (.slice Au b.length cu) b.length (b.map byteV))
theorem RowsRd.keep {w w' : World} {v : Value} {l : List (List UInt8)} (h : RowsRd w v l) (hu : Upd NoF w w') : RowsRd w' v l := by
  obtain ⟨A, c, e, hm, hx⟩ := h
  refine ⟨A, c, e, hm, fun h0 => ?_⟩
  obtain ⟨g, o, e', hc⟩ := hx h0
  refine ⟨g, o, e', fun i b hb => ?_⟩
  obtain ⟨Au, cu, h1, h2⟩ := hc i b hb
  exact ⟨Au, cu, hu.cell h1 (fun h => h), h2.keep hu⟩
theorem RecsAt.rows {w : World} {v : Value} {l : List (List UInt8)} {F : Nat → Prop} (h : RecsAt w v l F) : RowsRd w v l := by
  obtain ⟨A, c, rfl, h1, h2⟩ := h.form
  refine ⟨A, c, rfl, by omega, fun h0 => ?_⟩
  obtain ⟨g, _, _, rfl, _⟩ := h.get (i := 0) (List.getElem?_eq_getElem h0)
  refine ⟨g, 0, rfl, fun i b hb => ?_⟩
  obtain ⟨g', Au, cu, e, h3, h4⟩ := h.get hb
  injection e with e
  injection e with e _
  subst e
  exact ⟨Au, cu, by simpa using h3, h4.rd⟩

def RowRel (w : World) (a b : List (List UInt8)) (i : Value) (wr : World) : Prop := ∃ k : Nat, k ≤ a.length ∧ i = .int .i64 k ∧ a.take k = b.take k ∧ Upd NoF w wr

set_option maxRecDepth 100000 in
set_option maxHeartbeats 2000000 in
theorem rows_any {w : World} {va vb : Value} {a b : List (List UInt8)} (ha : RowsRd w va a) (hb : RowsRd w vb b) : Calls Try.prog 27 #[va, vb] w fun e w' => e = .returned (.bool (a == b)) ∧ Upd NoF w w' := by
  obtain ⟨A, c, rfl, hma, hxa⟩ := id ha
  obtain ⟨B, d, rfl, hmb, hxb⟩ := id hb
  unfold maxLen at hma hmb
  have HA := Lib.hid hxa
  have HB := Lib.hid hxb
  clear ha hb hxa hxb
  by_cases hl : a.length = b.length
  · have t0 : ((a.length : Int) == (b.length : Int)) = true := by simp [hl]
    have t0' : ((a.length : Int) != (b.length : Int)) = false := by simp [hl]
    have t0n : (a.length == b.length) = true := by simp [hl]
    have t0n' : (a.length != b.length) = false := by simp [hl]
    have HL := Lib.hid hl
    clear hl
    go_enter Try.func27, Try.ntmps27
    go_wp2
    go_loopw [5] (fun i wr => RowRel w a b i wr) (fun i _ => a.length - (intOf i).toNat)
    case atStart => exact ⟨0, Nat.zero_le _, rfl, rfl, Upd.refl _ _⟩
    case round =>
      obtain ⟨k, hk, rfl, he, hU⟩ := hrel
      have HE := Lib.hid he
      have HU := Lib.hid hU
      clear he hU
      by_cases hlt : k < a.length
      · have hltb : k < b.length := by have := HL.out; omega
        obtain ⟨x, hx⟩ : ∃ x, a[k]? = some x := ⟨_, List.getElem?_eq_getElem hlt⟩
        obtain ⟨y, hy⟩ : ∃ y, b[k]? = some y := ⟨_, List.getElem?_eq_getElem hltb⟩
        obtain ⟨ga, oa, rfl, hca⟩ := HA.out (by omega)
        obtain ⟨gb, ob, rfl, hcb⟩ := HB.out (by omega)
        obtain ⟨Ax, cx, x1, x2⟩ := hca k x hx
        obtain ⟨By, cy, y1, y2⟩ := hcb k y hy
        have x3 := HU.out.cell x1 (fun h => h)
        have y3 := HU.out.cell y1 (fun h => h)
        have hs1 : ∀ q, (convert 27 9 (.slice Ax x.length cx)).run Try.prog (wr.drewN q) = .ok (strV x) (wr.drewN q) := fun q => run_str (x2.keep (HU.out.drewN q))
        have hs2 : ∀ q, (convert 27 9 (.slice By y.length cy)).run Try.prog (wr.drewN q) = .ok (strV y) (wr.drewN q) := fun q => run_str (y2.keep (HU.out.drewN q))
        have t1 : decide ((k : Int) < a.length) = true := by simpa using hlt
        have t2 : (0:Int) ≤ k := by omega
        have t3 : (k:Int) < a.length := by omega
        have t4 : (k:Int) < b.length := by omega
        have HX := Lib.hid hx
        have HY := Lib.hid hy
        clear hca hcb x1 x2 y1 y2 hx hy
        by_cases hq : x = y
        · subst hq
          go_wp2
          go_quiet (fail)
          go_wp2
          go_roundw
          case rel =>
            refine ⟨k + 1, by omega, by go_num, ?_, HU.out.drewN nq⟩
            rw [List.take_add_one, List.take_add_one, HE.out, HX.out, HY.out]
          case measure => simp [intOf]; omega
        · have q1 : (x == y) = false := by simpa using hq
          have q2 : (x != y) = true := by simpa using hq
          have HQ := Lib.hid hq
          have E := Lib.hid (show false = (a == b) from by
            symm
            rw [beq_eq_false_iff_ne]
            intro e
            subst e
            have h1 := HX.out
            rw [HY.out] at h1
            exact hq (Option.some.inj h1).symm)
          clear hq
          go_wp2
          go_quiet (fail)
          go_wp2
          go_ret
          exact ⟨congrArg (fun z => Ending.returned (.bool z)) E.out, HU.out.drewN nq⟩
      · have t1 : decide ((k : Int) < a.length) = false := by simp; omega
        have E := Lib.hid (show true = (a == b) from by
          symm
          rw [beq_iff_eq]
          have h1 := HE.out
          rwa [List.take_of_length_le (by omega), List.take_of_length_le (by have := HL.out; omega)] at h1)
        go_wp2
        go_ret
        exact ⟨congrArg (fun z => Ending.returned (.bool z)) E.out, HU.out⟩
  · have t0 : ((a.length : Int) == (b.length : Int)) = false := by simp; omega
    have t0' : ((a.length : Int) != (b.length : Int)) = true := by simp; omega
    have t0n : (a.length == b.length) = false := by simp; omega
    have t0n' : (a.length != b.length) = true := by simp; omega
    have E := Lib.hid (show false = (a == b) from by
      symm
      rw [beq_eq_false_iff_ne]
      intro e
      exact hl (by rw [e]))
    clear hl
    go_enter Try.func27, Try.ntmps27
    go_wp2
    go_ret
    exact ⟨congrArg (fun z => Ending.returned (.bool z)) E.out, Upd.refl _ _⟩

/-! ### journals -/
def JAt (w : World) (j d : Nat) (nm : List UInt8) (l : List (List UInt8)) (safe : Nat) (dead : Bool) (G : Nat → Prop) : Prop :=
  ∃ rv vs, Blk w j 99 #[ptrV d, strV nm, rv, .int .i64 safe, .bool dead] ∧ RecsV w rv l vs ∧ safe ≤ 1099511627776 ∧ l.length ≤ 1099511627776 ∧ (∀ b ∈ l, b.length ≤ 65536) ∧ G = fun k => k = j ∨ RecsF rv vs k

section
variable {w w' : World} {j d : Nat} {nm : List UInt8} {l : List (List UInt8)} {safe : Nat} {dead : Bool} {G H : Nat → Prop}
theorem JAt.recs (h : JAt w j d nm l safe dead G) : ∃ rv F, Blk w j 99 #[ptrV d, strV nm, rv, .int .i64 safe, .bool dead] ∧ RecsAt w rv l F ∧ (∀ k, F k → G k) ∧ G j := by
  obtain ⟨rv, vs, h1, h2, _, _, _, rfl⟩ := h
  exact ⟨rv, _, h1, ⟨vs, h2, rfl⟩, fun k hk => .inr hk, .inl rfl⟩
theorem JAt.upd (h : JAt w j d nm l safe dead G) (hu : Upd H w w') (hH : ∀ k, G k → ¬ H k) : JAt w' j d nm l safe dead G := by
  obtain ⟨rv, vs, h1, h2, h3, h4, h5, rfl⟩ := h
  obtain ⟨vs', h6, h7⟩ := RecsAt.upd ⟨vs, h2, rfl⟩ hu (fun k hk => hH k (.inr hk))
  exact ⟨rv, vs', hu.blk h1 (hH j (.inl rfl)), h6, h3, h4, h5, by rw [h7]⟩
theorem JAt.lt (h : JAt w j d nm l safe dead G) {k : Nat} (hk : G k) : k < w.heap.size := by
  obtain ⟨rv, vs, h1, h2, _, _, _, rfl⟩ := h
  rcases hk with rfl | hk
  · exact h1.lt
  · exact RecsAt.lt ⟨vs, h2, rfl⟩ hk
end

set_option maxRecDepth 100000 in
theorem jSynced_any {w : World} {j d : Nat} {nm : List UInt8} {l : List (List UInt8)} {safe : Nat} {dead : Bool} {G : Nat → Prop} (h : JAt w j d nm l safe dead G) : Calls Try.prog 38 #[ptrV j] w fun e w' => e = .returned (.int .i64 (safe : Int)) ∧ w = w' := by
  obtain ⟨rv, vs, h1, _⟩ := h
  have c3 : w.cell? ⟨j, 3, none⟩ = some (.int .i64 safe) := h1.cell 3
  clear h1
  go_enter Try.func38, Try.ntmps38
  go_wp2
  go_ret
  exact ⟨rfl, rfl⟩
set_option maxRecDepth 100000 in
theorem jSynced_nil (w : World) : Calls Try.prog 38 #[.pointer none] w fun e w' => e = .returned (.int .i64 0) ∧ w = w' := by
  go_enter Try.func38, Try.ntmps38
  go_wp2
  go_ret
  exact ⟨rfl, rfl⟩
end Go.Proofs.Ytmapijpphnlcmaa
