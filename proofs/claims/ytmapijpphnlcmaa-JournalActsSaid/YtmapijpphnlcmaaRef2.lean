/- The reference disk: drop, put. No condition. -/
import Derived.Test.YtmapijpphnlcmaaRef1
import Derived.Test.YtmapijpphnlcmaaRegion
namespace Go.Proofs.Ytmapijpphnlcmaa
open Go.RowKit Go.Maps

theorem file_info : (Try.prog.info? 89).map (fun i => (i.zero, i.size, i.bytes)) = some (some (.agg #[.string ⟨#[]⟩, .slice none 0 0, .int .i64 0]), 3, 48) := by kernel_rfl

theorem cellsR_one {R : List RRec} {w : World} (h : ∀ r ∈ R, Own w 5 1 r.cv r.c.length (r.c.map byteV)) : ∀ u ∈ cellsR R, u.oneCell' = true := by
  intro u hu
  obtain ⟨r, hr, hu⟩ := List.mem_flatMap.1 hu
  obtain ⟨A, c, hcv⟩ := (h r hr).form
  simp only [List.mem_cons, List.not_mem_nil, or_false] at hu
  rcases hu with rfl | rfl | rfl
  · rfl
  · rw [hcv]; rfl
  · rfl

section
variable {w w' : World} {m : Nat} {off armed : Bool} {left : Nat} {lv : Value} {R : List RRec}

/-- The list of files is another one. -/
theorem RefL.relist (h : RefL w m off armed left lv R) {lv' : Value} {R' : List RRec} {F : Nat → Prop} (hu : Upd F w w') (hFc : ∀ r ∈ R', ∀ k, OwnB r.cv k → ¬ F k) (hb : Blk w' m 43 #[lv', .bool armed, .int .i64 left, .bool off])
    (hl : Own w' 89 3 lv' R'.length (cellsR R')) (hsub : ∀ r ∈ R', r ∈ R) (hn : R'.length ≤ 1099511627776) : RefL w' m off armed left lv' R' :=
  { head := hb, list := hl, cont := fun r hr => (h.cont r (hsub r hr)).upd hu (hFc r hr), lft := h.lft, len := fun r hr => h.len r (hsub r hr), num := hn }

/-- The part of a slice before k, and the part from k on. -/
theorem Rd.upto {size n c k : Nat} {A : Option Addr} {xs : List Value} (h : Rd w size (.slice A n c) n xs) (hk : k ≤ n) : Rd w size (.slice A k c) k (xs.take (k * size)) := by
  obtain ⟨A', c', e, hn, hc, hl, hx⟩ := h
  injection e with e1 _ e3
  subst e1 e3
  refine ⟨A, c, rfl, by omega, hc, ?_, fun h0 => ?_⟩
  · rw [List.length_take, hl]; exact Nat.min_eq_left (Nat.mul_le_mul_right _ hk)
  · obtain ⟨g, o, rfl, hx'⟩ := hx (by omega)
    refine ⟨g, o, rfl, fun j u hu => hx' j u ?_⟩
    rw [List.getElem?_take] at hu
    split at hu
    · exact hu
    · cases hu
theorem Rd.from_ {size n c k g o : Nat} {xs : List Value} (h : Rd w size (.slice (some ⟨g, o, none⟩) n c) n xs) (hk : k ≤ n) (A' : Option Addr) (hA : k < n → A' = some ⟨g, o + k * size, none⟩) : Rd w size (.slice A' (n - k) (c - k)) (n - k) (xs.drop (k * size)) := by
  obtain ⟨A0, c', e, hn, hc, hl, hx⟩ := h
  injection e with e1 _ e3
  subst e1 e3
  refine ⟨A', c - k, rfl, by omega, by omega, ?_, fun h0 => ?_⟩
  · rw [List.length_drop, hl, Nat.sub_mul]
  · obtain ⟨g', o', e, hx'⟩ := hx (by omega)
    injection e with e
    injection e with e1 e2
    subst e1 e2
    refine ⟨g, o + k * size, hA (by omega), fun j u hu => ?_⟩
    rw [Nat.add_assoc]
    exact hx' _ u (by rw [← hu, List.getElem?_drop])

def DropPost (w : World) (m : Nat) (off armed : Bool) (left : Nat) (R' : List RRec) (F : Nat → Prop) (e : Ending) (w' : World) : Prop :=
  e = .returned (.tuple #[]) ∧ ∃ lv', RefL w' m off armed left lv' R' ∧ Upd F w w' ∧ (∀ k, OwnB lv' k → w.heap.size ≤ k)

set_option maxRecDepth 100000 in
set_option maxHeartbeats 4000000 in
theorem drop_any (h : RefL w m off armed left lv R) (i : Nat) (hi : i < R.length) :
    Calls Try.prog 72 #[ptrV m, .int .i64 i] w (DropPost w m off armed left (R.take i ++ R.drop (i + 1)) (fun k => k = m)) := by
  obtain ⟨A, c, hlv, hn, hc, hx⟩ := h.form
  obtain ⟨g, rfl, hog, _⟩ := hx (by omega)
  subst hlv
  have c0 : w.cell? ⟨m, 0, none⟩ = some (.slice (some ⟨g, 0, none⟩) R.length c) := h.head.cell 0
  have f0 : w.frozen? ⟨m, 0, none⟩ = false := h.head.frozen 0
  have hmz : m < w.heap.size := h.head.lt
  have hgz : g < w.heap.size := h.list.lt hog
  obtain ⟨i0, hi0, hz0, hz1, hz2⟩ := info_parts file_info
  have b1 : (0 : Int) ≤ (i : Int) := by omega
  have b2 : (i : Int) ≤ (c : Int) := by omega
  have b3 : (i : Int) + 1 ≤ (R.length : Int) := by omega
  have b4 : (R.length : Int) ≤ (c : Int) := by omega
  have b5 : IntKind.i64.wrap ((i : Int) + 1) = (i : Int) + 1 := IntWalk.i64_in _ (by omega)
  have b7 : (0 : Int) ≤ (i : Int) + 1 := by omega
  have b8 : (i : Int) ≤ (i : Int) + 1 := by omega
  have hw0 : Upd NoF w (w.alloc (.cells #[] 89)).drew := ((Upd.refl NoF w).alloc _).drew
  have A1 := Lib.hid (show Own (w.alloc (.cells #[] 89)).drew 89 3 (.slice (some ⟨w.heap.size, 0, none⟩) 0 0) 0 [] from ⟨by simp, .inr ⟨w.heap.size, 0, #[], rfl, (Blk.new w _ _).drew, Nat.le_refl _, Nat.zero_le _, Nat.zero_le _, rfl⟩⟩)
  have hrd : RdF (fun k => k = m ∨ k = w.heap.size) (w.alloc (.cells #[] 89)).drew 3 (.slice (some ⟨g, 0, none⟩) R.length c) R.length (cellsR R) :=
    RdF.upd' (F := fun k => k = m) (h.list.rdF (fun k hk e => h.list.ne_of h.head (by decide) hk e)) (hw0.mono (fun _ _ h => h.elim)) (fun k hk h => by rcases h with h | h; exact h; omega)
  have A2 := Lib.hid (hrd.now.upto (k := i) (by omega))
  have A3 := Lib.hid (show ∀ u ∈ (cellsR R).take (i * 3), u.oneCell' = true from fun u hu => cellsR_one h.cont u (List.mem_of_mem_take hu))
  have hnum := h.num
  have A4 := Lib.hid (show i ≤ maxLen by unfold maxLen; omega)
  have A5 := Lib.hid (show i * 48 ≤ 140737488355328 by omega)
  have B3 := Lib.hid (show ∀ u ∈ (cellsR R).drop ((i + 1) * 3), u.oneCell' = true from fun u hu => cellsR_one h.cont u (List.mem_of_mem_drop hu))
  have B4 := Lib.hid (show i + (R.length - (i + 1)) ≤ maxLen by unfold maxLen; omega)
  have B5 := Lib.hid (show (i + (R.length - (i + 1))) * 48 ≤ 140737488355328 by omega)
  have K1 := Lib.hid (show ∀ w1, Upd (OwnB (.slice (some ⟨w.heap.size, 0, none⟩) 0 0)) (w.alloc (.cells #[] 89)).drew w1 → w1.cell? ⟨m, 0, none⟩ = some (.slice (some ⟨g, 0, none⟩) R.length c) ∧ w1.frozen? ⟨m, 0, none⟩ = false from fun w1 hu => by
    have hb : Blk (w.alloc (.cells #[] 89)).drew m 43 #[.slice (some ⟨g, 0, none⟩) R.length c, .bool armed, .int .i64 left, .bool off] := (h.head.alloc _).drew
    have hb1 := hu.blk hb (by simp [OwnB, Value.ownBlock]; omega)
    exact ⟨hb1.cell 0, hb1.frozen 0⟩)
  have B2 := Lib.hid (show ∀ w1, Upd (OwnB (.slice (some ⟨w.heap.size, 0, none⟩) 0 0)) (w.alloc (.cells #[] 89)).drew w1 → ∀ A', (i + 1 < R.length → A' = some ⟨g, (i + 1) * 3, none⟩) → Rd w1 3 (.slice A' (R.length - (i + 1)) (c - (i + 1))) (R.length - (i + 1)) ((cellsR R).drop ((i + 1) * 3)) from fun w1 hu A' hA' =>
    (hrd w1 (hu.mono (fun k _ hk => by simp [OwnB, Value.ownBlock] at hk; exact .inr hk.symm))).from_ (k := i + 1) (by omega) A' (fun h => by rw [hA' h]; simp))
  have K2 := Lib.hid (show ∀ w1 A c1, Upd (OwnB (.slice (some ⟨w.heap.size, 0, none⟩) 0 0)) (w.alloc (.cells #[] 89)).drew w1 → (∀ k, OwnB (.slice A i c1) k → OwnB (.slice (some ⟨w.heap.size, 0, none⟩) 0 0) k ∨ (w.alloc (.cells #[] 89)).drew.heap.size ≤ k) → ∀ w2, Upd (OwnB (.slice A i c1)) w1 w2 → w2.cell? ⟨m, 0, none⟩ = some (.slice (some ⟨g, 0, none⟩) R.length c) ∧ w2.frozen? ⟨m, 0, none⟩ = false from fun w1 A c1 hu hN w2 hu2 => by
    have hb : Blk (w.alloc (.cells #[] 89)).drew m 43 #[.slice (some ⟨g, 0, none⟩) R.length c, .bool armed, .int .i64 left, .bool off] := (h.head.alloc _).drew
    have hb1 := hu.blk hb (by simp [OwnB, Value.ownBlock]; omega)
    have hb2 := hu2.blk hb1 (fun hk => ?_)
    · exact ⟨hb2.cell 0, hb2.frozen 0⟩
    rcases hN m hk with e | e
    · simp [OwnB, Value.ownBlock] at e; omega
    · simp at e; omega)
  have KP0 := Lib.hid (show (w.alloc (.cells #[] 89)).drew.cell? ⟨m, 0, none⟩ = some (.slice (some ⟨g, 0, none⟩) R.length c) ∧ (w.alloc (.cells #[] 89)).drew.frozen? ⟨m, 0, none⟩ = false from ⟨((h.head.alloc _).drew).cell 0, ((h.head.alloc _).drew).frozen 0⟩)
  have fin : ∀ w1 w2 A c1 A' c2, Upd (OwnB (.slice (some ⟨w.heap.size, 0, none⟩) 0 0)) (w.alloc (.cells #[] 89)).drew w1 → (∀ k, OwnB (.slice A i c1) k → OwnB (.slice (some ⟨w.heap.size, 0, none⟩) 0 0) k ∨ (w.alloc (.cells #[] 89)).drew.heap.size ≤ k) →
      Upd (OwnB (.slice A i c1)) w1 w2 → (∀ k, OwnB (.slice A' (i + (R.length - (i + 1))) c2) k → OwnB (.slice A i c1) k ∨ w1.heap.size ≤ k) → Own w2 89 3 (.slice A' (i + (R.length - (i + 1))) c2) (i + (R.length - (i + 1))) ((cellsR R).take (i * 3) ++ (cellsR R).drop ((i + 1) * 3)) →
      DropPost w m off armed left (R.take i ++ R.drop (i + 1)) (fun k => k = m) (.returned (.tuple #[])) (w2.setCell ⟨m, 0, none⟩ (.slice A' (i + (R.length - (i + 1))) c2)) := by
    intro w1 w2 A c1 A' c2 u1 n1 u2 n2 ho
    have hN1 : ∀ k, OwnB (.slice A i c1) k → w.heap.size ≤ k := fun k hk => by
      rcases n1 k hk with e | e
      · simp [OwnB, Value.ownBlock] at e; omega
      · simp at e; omega
    have hU : Upd NoF w w2 := (hw0.trans u1 (fun k hk e => by simp [OwnB, Value.ownBlock] at e; omega)).trans u2 (fun k hk e => by have := hN1 k e; omega)
    have hN2 : ∀ k, OwnB (.slice A' (i + (R.length - (i + 1))) c2) k → w.heap.size ≤ k := fun k hk => by
      rcases n2 k hk with e | e
      · exact hN1 k e
      · have := u1.size; simp at this; omega
    have hlen : i + (R.length - (i + 1)) = (R.take i ++ R.drop (i + 1)).length := by simp; omega
    have hb2 := hU.blk h.head (fun h => h)
    have hU3 : Upd (fun k => k = m) w (w2.setCell ⟨m, 0, none⟩ (.slice A' (i + (R.length - (i + 1))) c2)) := (hU.mono (G := fun k => k = m) (fun _ _ h => h.elim)).setCell (p := ⟨m, 0, none⟩) (.inl rfl) _
    refine ⟨rfl, _, h.relist hU3 ?_ (hb2.put 0 _) ?_ ?_ (by simp; omega), hU3, hN2⟩
    · intro r hr k hk e
      rcases List.mem_append.1 hr with hr | hr
      · exact (h.cont r (List.mem_of_mem_take hr)).ne_of h.head (by decide) hk e
      · exact (h.cont r (List.mem_of_mem_drop hr)).ne_of h.head (by decide) hk e
    · rw [← hlen, cellsR_append, ← cellsR_take, ← cellsR_drop]
      exact ho.upd ((Upd.refl (fun k => k = m) w2).setCell (p := ⟨m, 0, none⟩) (.inl rfl) _) (fun k hk e => by have := hN2 k hk; omega)
    · intro r hr
      rcases List.mem_append.1 hr with hr | hr
      · exact List.mem_of_mem_take hr
      · exact List.mem_of_mem_drop hr
  have FIN := Lib.hid fin
  have H := Lib.hid h
  clear h hx hrd hw0 fin
  by_cases hce : c = i + 1
  · subst hce
    go_enter Try.func72, Try.ntmps72
    go_wp2_with fail
    go_region_law
      (first
        | (refine step_append_new _ (by rfl) (.tmp 5) (.tmp 11) _ (by rfl) 89 i0 _ 3 48 Try.underlying41 hi0 hz0 hz1 hz2 rfl (.slice (some ⟨w.heap.size, 0, none⟩) 0 0) (by rfl) (by exact A1.out) (.slice (some ⟨g, 0, none⟩) i (i + 1)) i ((cellsR R).take (i * 3)) (by rfl) (by exact A2.out) A3.out A4.out A5.out ?_; intro A c1 w1 hown1 hupd1 hnew1; obtain ⟨kp1, kf1⟩ := K1.out w1 hupd1; have O1 := Lib.hid hown1; have U1 := Lib.hid hupd1; have N1 := Lib.hid hnew1; clear hown1 hupd1 hnew1)
        | (refine step_append_none _ (by rfl) (.tmp 12) (.tmp 19) _ (by rfl) 89 i0 3 Try.underlying41 hi0 (.slice A i c1) i ((cellsR R).take (i * 3)) (by rfl) O1.out (some ⟨g, 0, none⟩) 0 (by rfl) ?_))
    all_goals
      go_wp2
      go_end0
      have e0 : i + (R.length - (i + 1)) = i := by omega
      have e1 : (cellsR R).drop ((i + 1) * 3) = [] := List.drop_eq_nil_of_le (by rw [length_cellsR]; omega)
      have := FIN.out w1 w1 A c1 A c1 U1.out N1.out (Upd.refl _ _) (by rw [e0]; exact fun k hk => .inl hk) (by rw [e0, e1, List.append_nil]; exact O1.out)
      rw [e0] at this
      exact this
  · have b6 : ¬ c = i + 1 := hce
    go_enter Try.func72, Try.ntmps72
    go_wp2_with fail
    go_region_law
      (first
        | (refine step_append_new _ (by rfl) (.tmp 5) (.tmp 11) _ (by rfl) 89 i0 _ 3 48 Try.underlying41 hi0 hz0 hz1 hz2 rfl (.slice (some ⟨w.heap.size, 0, none⟩) 0 0) (by rfl) (by exact A1.out) (.slice (some ⟨g, 0, none⟩) i c) i ((cellsR R).take (i * 3)) (by rfl) (by exact A2.out) A3.out A4.out A5.out ?_; intro A c1 w1 hown1 hupd1 hnew1; obtain ⟨kp1, kf1⟩ := K1.out w1 hupd1; have O1 := Lib.hid hown1; have U1 := Lib.hid hupd1; have N1 := Lib.hid hnew1; clear hown1 hupd1 hnew1)
        | (refine step_append_to _ (by rfl) (.tmp 12) (.tmp 19) _ (by rfl) 89 i0 _ 3 48 Try.underlying41 hi0 hz0 hz1 hz2 rfl (.slice A i c1) i ((cellsR R).take (i * 3)) (by rfl) O1.out (.slice (some ⟨g, (i + 1) * 3, none⟩) (R.length - (i + 1)) (c - (i + 1))) (R.length - (i + 1)) ((cellsR R).drop ((i + 1) * 3)) (by rfl) (B2.out w1 U1.out _ (fun _ => rfl)) B3.out B4.out B5.out ?_; intro A' c2 w2 hown2 hupd2 hnew2; obtain ⟨kp2, kf2⟩ := K2.out w1 A c1 U1.out N1.out w2 hupd2; have O2 := Lib.hid hown2; have U2 := Lib.hid hupd2; have N2 := Lib.hid hnew2; clear hown2 hupd2 hnew2))
    all_goals
      go_wp2
      go_end0
      exact FIN.out w1 w2 A c1 A' c2 U1.out N1.out U2.out N2.out O2.out
end
end Go.Proofs.Ytmapijpphnlcmaa
