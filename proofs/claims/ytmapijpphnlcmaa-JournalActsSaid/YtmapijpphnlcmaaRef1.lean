/- The reference disk in memory: find, fails. No condition. -/
import Derived.Test.YtmapijpphnlcmaaLaw30a
namespace Go.Proofs.Ytmapijpphnlcmaa
open Go.RowKit Go.Maps

/-- A file of the reference disk. -/
structure RRec where
  nm : List UInt8
  cv : Value
  c : List UInt8
  dur : Nat

def cellsR (R : List RRec) : List Value := R.flatMap (fun r => [strV r.nm, r.cv, .int .i64 r.dur])

theorem length_cellsR (R : List RRec) : (cellsR R).length = R.length * 3 := by
  induction R with
  | nil => rfl
  | cons r R ih => simp only [cellsR, List.flatMap_cons, List.length_append, List.length_cons, List.length_nil] at ih ⊢; omega

theorem cellsR_at {R : List RRec} {i : Nat} {r : RRec} (h : R[i]? = some r) : (cellsR R)[i * 3]? = some (strV r.nm) ∧ (cellsR R)[i * 3 + 1]? = some r.cv ∧ (cellsR R)[i * 3 + 2]? = some (.int .i64 r.dur) := by
  induction R generalizing i with
  | nil => cases h
  | cons x R ih =>
    cases i with
    | zero =>
      simp at h
      subst h
      simp [cellsR]
    | succ i =>
      have := ih (i := i) (by simpa using h)
      simp only [cellsR, List.flatMap_cons] at this ⊢
      refine ⟨?_, ?_, ?_⟩
      · rw [show (i + 1) * 3 = 3 + i * 3 by omega, List.getElem?_append_right (by simp)]; simpa using this.1
      · rw [show (i + 1) * 3 + 1 = 3 + (i * 3 + 1) by omega, List.getElem?_append_right (by simp)]; simpa using this.2.1
      · rw [show (i + 1) * 3 + 2 = 3 + (i * 3 + 2) by omega, List.getElem?_append_right (by simp)]; simpa using this.2.2

theorem cellsR_append (a b : List RRec) : cellsR (a ++ b) = cellsR a ++ cellsR b := by simp [cellsR]
theorem cellsR_take (R : List RRec) (k : Nat) : (cellsR R).take (k * 3) = cellsR (R.take k) := by
  induction R generalizing k with
  | nil => simp [cellsR]
  | cons r R ih =>
    cases k with
    | zero => simp [cellsR]
    | succ k =>
      have := ih k
      simp only [cellsR, List.flatMap_cons, List.take_succ_cons] at this ⊢
      rw [show (k + 1) * 3 = 3 + k * 3 by omega, List.take_append, List.take_of_length_le (by simp)]
      simp [this]
theorem cellsR_drop (R : List RRec) (k : Nat) : (cellsR R).drop (k * 3) = cellsR (R.drop k) := by
  induction R generalizing k with
  | nil => simp [cellsR]
  | cons r R ih =>
    cases k with
    | zero => simp [cellsR]
    | succ k =>
      have := ih k
      simp only [cellsR, List.flatMap_cons, List.drop_succ_cons] at this ⊢
      rw [show (k + 1) * 3 = 3 + k * 3 by omega, List.drop_append, List.drop_of_length_le (by simp)]
      simp [this]

structure RefL (w : World) (m : Nat) (off armed : Bool) (left : Nat) (lv : Value) (R : List RRec) : Prop where
  head : Blk w m 43 #[lv, .bool armed, .int .i64 left, .bool off]
  list : Own w 89 3 lv R.length (cellsR R)
  cont : ∀ r ∈ R, Own w 5 1 r.cv r.c.length (r.c.map byteV)
  lft : left ≤ 9223372036854775807
  len : ∀ r ∈ R, r.c.length ≤ 1099511627776
  num : R.length ≤ 1099511627776

def refFoot (m : Nat) (lv : Value) (R : List RRec) : Nat → Prop := fun k => k = m ∨ OwnB lv k ∨ ∃ r ∈ R, OwnB r.cv k

section
variable {w w' : World} {m : Nat} {off armed : Bool} {left : Nat} {lv : Value} {R : List RRec}

theorem RefL.upd (h : RefL w m off armed left lv R) {F : Nat → Prop} (hu : Upd F w w') (hF : ∀ k, refFoot m lv R k → ¬ F k) : RefL w' m off armed left lv R :=
  { head := hu.blk h.head (hF _ (.inl rfl)), list := h.list.upd hu (fun k hk => hF k (.inr (.inl hk))), cont := fun r hr => (h.cont r hr).upd hu (fun k hk => hF k (.inr (.inr ⟨r, hr, hk⟩))), lft := h.lft, len := h.len, num := h.num }
theorem RefL.foot_lt (h : RefL w m off armed left lv R) {k : Nat} (hk : refFoot m lv R k) : k < w.heap.size := by
  rcases hk with rfl | hk | ⟨r, hr, hk⟩
  · exact h.head.lt
  · exact h.list.lt hk
  · exact (h.cont r hr).lt hk

theorem RefL.form (h : RefL w m off armed left lv R) : ∃ A c, lv = .slice A R.length c ∧ R.length ≤ c ∧ c ≤ 9223372036854775807 ∧ (0 < R.length → ∃ g, A = some ⟨g, 0, none⟩ ∧ OwnB lv g ∧
    ∀ i r, R[i]? = some r → w.cell? ⟨g, i * 3, none⟩ = some (strV r.nm) ∧ w.cell? ⟨g, i * 3 + 1, none⟩ = some r.cv ∧ w.cell? ⟨g, i * 3 + 2, none⟩ = some (.int .i64 r.dur)) := by
  rcases h.list.2 with ⟨rfl, h0⟩ | ⟨g, cap, cur, rfl, hb, hn, hc, hs, hx⟩
  · exact ⟨none, 0, by rw [h0], by omega, by omega, fun h => by omega⟩
  · unfold maxLen at hc
    refine ⟨_, cap, rfl, hn, by omega, fun _ => ⟨g, rfl, by simp [OwnB, Value.ownBlock], fun i r hr => ?_⟩⟩
    have hi : i < R.length := (List.getElem?_eq_some_iff.1 hr).1
    obtain ⟨h1, h2, h3⟩ := cellsR_at hr
    rw [← hx] at h1 h2 h3
    rw [List.getElem?_take, if_pos (by omega)] at h1 h2 h3
    exact ⟨by rw [hb.cell]; simpa using h1, by rw [hb.cell]; simpa using h2, by rw [hb.cell]; simpa using h3⟩

theorem RefL.form2 {A : Option Addr} {n c : Nat} (h : RefL w m off armed left (.slice A n c) R) : (A = none ∧ R.length = 0 ∧ c = 0) ∨ ∃ g, A = some ⟨g, 0, none⟩ := by
  rcases h.list.2 with ⟨e, h0⟩ | ⟨g, cap, cur, e, _⟩
  · injection e with e1 _ e3
    exact .inl ⟨e1, h0, e3⟩
  · injection e with e1
    exact .inr ⟨g, e1⟩

def idxR (R : List RRec) (nm : List UInt8) : Int := match R.findIdx? (fun r => r.nm == nm) with | some i => i | none => -1

theorem idxR_some {nm : List UInt8} {k : Nat} {r : RRec} (hr : R[k]? = some r) (he : (r.nm == nm) = true) (hno : ∀ j, j < k → ∀ r, R[j]? = some r → (r.nm == nm) = false) : idxR R nm = k := by
  have hk : k < R.length := (List.getElem?_eq_some_iff.1 hr).1
  have : R.findIdx? (fun r => r.nm == nm) = some k := by
    rw [List.findIdx?_eq_some_iff_getElem]
    refine ⟨hk, ?_, fun j hj => ?_⟩
    · rw [(List.getElem?_eq_some_iff.1 hr).2]; exact he
    · simpa using hno j hj _ (List.getElem?_eq_getElem (by omega))
  simp [idxR, this]
theorem idxR_none {nm : List UInt8} (hno : ∀ j, j < R.length → ∀ r, R[j]? = some r → (r.nm == nm) = false) : idxR R nm = -1 := by
  have : R.findIdx? (fun r => r.nm == nm) = none := by
    rw [List.findIdx?_eq_none_iff]
    intro x hx
    obtain ⟨j, hj, rfl⟩ := List.mem_iff_getElem.1 hx
    exact hno j hj _ (List.getElem?_eq_getElem hj)
  simp [idxR, this]

set_option maxRecDepth 100000 in
theorem find_any (h : RefL w m off armed left lv R) (nm : List UInt8) : Calls Try.prog 54 #[ptrV m, strV nm] w fun e w' => e = .returned (.int .i64 (idxR R nm)) ∧ w = w' := by
  obtain ⟨A, c, rfl, hn, hc, hx⟩ := h.form
  have c0 : w.cell? ⟨m, 0, none⟩ = some (.slice A R.length c) := h.head.cell 0
  have HX := Lib.hid hx
  clear h hx
  go_enter Try.func54, Try.ntmps54
  go_wp2
  go_loop [5] (fun i => ∃ k : Nat, k ≤ R.length ∧ i = .int .i64 k ∧ ∀ j, j < k → ∀ r, R[j]? = some r → (r.nm == nm) = false) (fun i => R.length - (intOf i).toNat)
  case atStart => exact ⟨0, Nat.zero_le _, rfl, fun j h => absurd h (by omega)⟩
  case round =>
    obtain ⟨k, hk, rfl, hno⟩ := hrel
    have HNO := Lib.hid hno
    clear hno
    by_cases hlt : k < R.length
    · obtain ⟨g, rfl, _, hcell⟩ := HX.out (by omega)
      obtain ⟨r, hr⟩ : ∃ r, R[k]? = some r := ⟨_, List.getElem?_eq_getElem hlt⟩
      have hc1 := (hcell k r hr).1
      have HR := Lib.hid hr
      clear hcell hr
      cases heq : (r.nm == nm)
      · have HE := Lib.hid heq
        go_wp2
        go_round
        case rel =>
          refine ⟨k + 1, by omega, by go_num, fun j hj r' hr' => ?_⟩
          rcases Nat.lt_or_ge j k with h | h
          · exact HNO.out j h r' hr'
          · obtain rfl : j = k := by omega
            rw [HR.out] at hr'
            injection hr' with hr'
            subst hr'
            exact HE.out
        case measure => simp [intOf]; omega
      · have HE := Lib.hid heq
        go_wp2
        go_ret
        exact ⟨by rw [idxR_some HR.out HE.out HNO.out]; rfl, rfl⟩
    · have hkn : k = R.length := by omega
      subst hkn
      go_wp2
      go_ret
      exact ⟨by rw [idxR_none HNO.out]; rfl, rfl⟩

/-- Only the disk's own block has turned. -/
theorem RefL.top (h : RefL w m off armed left lv R) {off' armed' : Bool} {left' : Nat} (hu : Upd (fun k => k = m) w w') (hb : Blk w' m 43 #[lv, .bool armed', .int .i64 left', .bool off']) (hl : left' ≤ 9223372036854775807) : RefL w' m off' armed' left' lv R :=
  { head := hb, list := h.list.upd hu (fun k hk e => h.list.ne_of h.head (by decide) hk e), cont := fun r hr => (h.cont r hr).upd hu (fun k hk e => (h.cont r hr).ne_of h.head (by decide) hk e), lft := hl, len := h.len, num := h.num }

theorem fails_any (h : RefL w m off armed left lv R) : Calls Try.prog 65 #[ptrV m] w fun e w' => e = .returned (.bool (!wrB armed left)) ∧ RefL w' m (off || !wrB armed left) armed (wrL armed left) lv R ∧ Upd (fun k => k = m) w w' := by
  have c1 : w.cell? ⟨m, 1, none⟩ = some (.bool armed) := h.head.cell 1
  have c2 : w.cell? ⟨m, 2, none⟩ = some (.int .i64 left) := h.head.cell 2
  have c3 : w.cell? ⟨m, 3, none⟩ = some (.bool off) := h.head.cell 3
  have f2 : w.frozen? ⟨m, 2, none⟩ = false := h.head.frozen 2
  have f3 : w.frozen? ⟨m, 3, none⟩ = false := h.head.frozen 3
  have hl := h.lft
  have H := Lib.hid h
  clear h
  cases armed with
  | false =>
    go_enter Try.func65, Try.ntmps65
    go_wp2
    go_ret
    exact ⟨rfl, by simpa [wrB, wrL] using H.out, Upd.refl _ _⟩
  | true =>
    by_cases h0 : 0 < left
    · have q : decide (0 < left) = true := by simpa using h0
      go_enter Try.func65, Try.ntmps65
      go_wp2
      go_ret
      have hw : wrB true left = true := by simp [wrB]; omega
      have e1 : (left : Int) - 1 = ((left - 1 : Nat) : Int) := by omega
      rw [e1]
      have hu : Upd (fun k => k = m) w (w.setCell ⟨m, 2, none⟩ (.int .i64 ((left - 1 : Nat) : Int))) := (Upd.refl (fun k => k = m) w).setCell (p := ⟨m, 2, none⟩) (.inl rfl) _
      refine ⟨by rw [hw]; rfl, ?_, hu⟩
      have := H.out.top hu (off' := off) (armed' := true) (left' := left - 1) (H.out.head.put 2 _) (by omega)
      simpa [hw, wrL] using this
    · obtain rfl : left = 0 := by omega
      have q : decide ((0 : Int) < ((0 : Nat) : Int)) = false := by simp
      go_enter Try.func65, Try.ntmps65
      go_wp2
      go_ret
      have hu : Upd (fun k => k = m) w (w.setCell ⟨m, 3, none⟩ (.bool true)) := (Upd.refl (fun k => k = m) w).setCell (p := ⟨m, 3, none⟩) (.inl rfl) _
      refine ⟨rfl, ?_, hu⟩
      have := H.out.top hu (off' := true) (armed' := true) (left' := 0) (H.out.head.put 3 _) (by omega)
      simpa [wrB, wrL] using this
end
end Go.Proofs.Ytmapijpphnlcmaa
