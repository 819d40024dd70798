/- Crash of package disk: what one file comes to. No condition. -/
import Derived.Test.YtmapijpphnlcmaaDiskB
import Derived.Test.YtmapijpphnlcmaaSpec2
import Derived.Lib.SliceRun
namespace Go.Proofs.Ytmapijpphnlcmaa
open Go.RowKit Go.Maps

section
variable {w : World} {d mb : Nat} {L : List FRec} {off armed : Bool} {left : Nat}

theorem DiskL.find (h : DiskL w d mb off armed left L) {r : FRec} (hr : r ∈ L) : L.find? (fun x => x.nm == r.nm) = some r := by
  cases hf : L.find? (fun x => x.nm == r.nm) with
  | none => exact absurd (List.find?_eq_none.1 hf r hr) (by simp)
  | some x => exact congrArg some (h.same_of_nm (List.mem_of_find?_eq_some hf) hr (by simpa using List.find?_some hf))

/-- A file has got the content c', all of it durable, in the memory that it has. -/
theorem crash_turn (h : DiskL w d mb off armed left L) {r : FRec} (hr : r ∈ L) {g cap : Nat} (hcv : r.cv = .slice (some ⟨g, 0, none⟩) r.c.length cap) {w' : World} {cur : Array Value} {c' : List UInt8}
    (hlen : c'.length ≤ r.c.length) (hu : Upd (fun k => k = r.fb ∨ k = g) w w') (hb : Blk w' r.fb 77 #[.slice (some ⟨g, 0, none⟩) c'.length c'.length, .int .i64 c'.length]) (hg : Blk w' g 5 cur)
    (hsz : c'.length ≤ cur.size) (hcur : cur.toList.take c'.length = c'.map byteV) :
    DiskL w' d mb off armed left (setR { r with cv := .slice (some ⟨g, 0, none⟩) c'.length c'.length, c := c', dur := c'.length } L) ∧
    ∀ k, foot d mb (setR { r with cv := .slice (some ⟨g, 0, none⟩) c'.length c'.length, c := c', dur := c'.length } L) k → foot d mb L k := by
  have hl := h.len r hr
  have hnew : ∀ k, OwnB (.slice (some ⟨g, 0, none⟩) c'.length c'.length) k → OwnB r.cv k := by
    intro k hk
    rw [hcv]
    simpa [OwnB, Value.ownBlock] using hk
  refine ⟨h.turn hr rfl rfl (Nat.le_refl _) (by simp only; omega) (hu.mono ?_) hb ⟨by simp, .inr ⟨g, _, cur, rfl, hg, Nat.le_refl _, by unfold maxLen; omega, by omega, by simpa using hcur⟩⟩ (fun k hk => .inl (hnew k hk)), ?_⟩
  · rintro k _ (rfl | rfl)
    · exact .inl rfl
    · exact .inr (by rw [hcv]; simp [OwnB, Value.ownBlock])
  · intro k hk
    rcases hk with rfl | rfl | ⟨x, hx, hk⟩
    · exact .inl rfl
    · exact .inr (.inl rfl)
    · rcases mem_setR hx with rfl | ⟨hx, _⟩
      · rcases hk with rfl | hk
        · exact .inr (.inr ⟨r, hr, .inl rfl⟩)
        · exact .inr (.inr ⟨r, hr, .inr (hnew k hk)⟩)
      · exact .inr (.inr ⟨x, hx, hk⟩)

theorem length_flipLast (c : List UInt8) : (flipLast c).length = c.length := by simp [flipLast]
theorem length_zeroLast (k : Nat) (c : List UInt8) (h : k ≤ c.length) : (zeroLast k c).length = c.length := by simp [zeroLast]; omega
theorem length_damaged (dm kept : Nat) (c : List UInt8) (h : kept ≤ c.length) : (damaged dm kept c).length = c.length := by
  unfold damaged
  split
  · exact length_flipLast c
  · split
    · exact length_zeroLast _ _ (by omega)
    · rfl

/-- Memory behind the three kinds of damage: the file's cut slice, the content's bytes, the durable part. -/
theorem crash_none (h : DiskL w d mb off armed left L) {r : FRec} (hr : r ∈ L) {g cap : Nat} (hcv : r.cv = .slice (some ⟨g, 0, none⟩) r.c.length cap) {e : Nat} (he : e ≤ r.c.length) :
    DiskL ((w.setCell ⟨r.fb, 0, none⟩ (.slice (some ⟨g, 0, none⟩) e e)).setCell ⟨r.fb, 1, none⟩ (.int .i64 e)) d mb off armed left (setR { r with cv := .slice (some ⟨g, 0, none⟩) e e, c := r.c.take e, dur := e } L) ∧
    Upd (fun k => k = r.fb ∨ k = g) w ((w.setCell ⟨r.fb, 0, none⟩ (.slice (some ⟨g, 0, none⟩) e e)).setCell ⟨r.fb, 1, none⟩ (.int .i64 e)) ∧
    ∀ k, foot d mb (setR { r with cv := .slice (some ⟨g, 0, none⟩) e e, c := r.c.take e, dur := e } L) k → foot d mb L k := by
  have hf := h.file r hr
  have hw := h.own r hr
  rw [hcv] at hw
  rcases hw.2 with ⟨hv, _⟩ | ⟨g', cap', cur, hv, hb, hn, hcm, hcs, hx⟩
  · cases hv
  · injection hv with e1 e2 e3
    injection e1 with e1
    injection e1 with e1 _
    subst e1 e3
    have hu : Upd (fun k => k = r.fb ∨ k = g) w ((w.setCell ⟨r.fb, 0, none⟩ (.slice (some ⟨g, 0, none⟩) e e)).setCell ⟨r.fb, 1, none⟩ (.int .i64 e)) :=
      ((Upd.refl (fun k => k = r.fb ∨ k = g) w).setCell (p := ⟨r.fb, 0, none⟩) (.inl (.inl rfl)) _).setCell (p := ⟨r.fb, 1, none⟩) (.inl (.inl rfl)) _
    have hlt : (r.c.take e).length = e := by simp; omega
    have hgf : g ≠ r.fb := hb.unlike hf (by decide)
    have := crash_turn h hr (by rw [hcv]) (c' := r.c.take e) (cur := cur) (by omega) hu (by rw [hlt]; exact (hf.put 0 _).put 1 _) ((hb.far (p := ⟨r.fb, 0, none⟩) hgf _).far (p := ⟨r.fb, 1, none⟩) hgf _) (by omega)
      (by rw [hlt, List.map_take, ← hx, List.take_take]; congr 1; omega)
    simp only [hlt] at this
    exact ⟨this.1, hu, this.2⟩

theorem crash_flip (h : DiskL w d mb off armed left L) {r : FRec} (hr : r ∈ L) {g cap : Nat} (hcv : r.cv = .slice (some ⟨g, 0, none⟩) r.c.length cap) {e : Nat} (he : e ≤ r.c.length) (h0 : 0 < e) {b : UInt8} (hb0 : r.c[e - 1]? = some b) :
    DiskL (((w.setCell ⟨r.fb, 0, none⟩ (.slice (some ⟨g, 0, none⟩) e e)).setCell ⟨g, e - 1, none⟩ (byteV (b ^^^ 255))).setCell ⟨r.fb, 1, none⟩ (.int .i64 e)) d mb off armed left (setR { r with cv := .slice (some ⟨g, 0, none⟩) e e, c := flipLast (r.c.take e), dur := e } L) ∧
    Upd (fun k => k = r.fb ∨ k = g) w (((w.setCell ⟨r.fb, 0, none⟩ (.slice (some ⟨g, 0, none⟩) e e)).setCell ⟨g, e - 1, none⟩ (byteV (b ^^^ 255))).setCell ⟨r.fb, 1, none⟩ (.int .i64 e)) ∧
    (∀ k, foot d mb (setR { r with cv := .slice (some ⟨g, 0, none⟩) e e, c := flipLast (r.c.take e), dur := e } L) k → foot d mb L k) ∧
    w.cell? ⟨g, e - 1, none⟩ = some (byteV b) ∧ w.frozen? ⟨g, e - 1, none⟩ = false ∧ g ≠ r.fb := by
  have hf := h.file r hr
  have hw := h.own r hr
  rw [hcv] at hw
  rcases hw.2 with ⟨hv, _⟩ | ⟨g', cap', cur, hv, hb, hn, hcm, hcs, hx⟩
  · cases hv
  · injection hv with e1 e2 e3
    injection e1 with e1
    injection e1 with e1 _
    subst e1 e3
    have hu : Upd (fun k => k = r.fb ∨ k = g) w (((w.setCell ⟨r.fb, 0, none⟩ (.slice (some ⟨g, 0, none⟩) e e)).setCell ⟨g, e - 1, none⟩ (byteV (b ^^^ 255))).setCell ⟨r.fb, 1, none⟩ (.int .i64 e)) :=
      (((Upd.refl (fun k => k = r.fb ∨ k = g) w).setCell (p := ⟨r.fb, 0, none⟩) (.inl (.inl rfl)) _).setCell (p := ⟨g, e - 1, none⟩) (.inl (.inr rfl)) _).setCell (p := ⟨r.fb, 1, none⟩) (.inl (.inl rfl)) _
    have hlt : (flipLast (r.c.take e)).length = e := by rw [length_flipLast]; simp; omega
    have hgf : g ≠ r.fb := hb.unlike hf (by decide)
    have hcell : w.cell? ⟨g, e - 1, none⟩ = some (byteV b) := by
      rw [hb.cell]
      have h1 : (cur.toList.take (r.c.length * 1))[e - 1]? = some (byteV b) := by rw [hx]; simp [hb0]
      rw [List.getElem?_take, if_pos (by omega)] at h1
      simpa using h1
    have := crash_turn h hr (by rw [hcv]) (c' := flipLast (r.c.take e)) (cur := cur.setIfInBounds (e - 1) (byteV (b ^^^ 255))) (by omega) hu (by rw [hlt]; exact ((hf.put 0 _).far (p := ⟨g, e - 1, none⟩) hgf.symm _).put 1 _)
      (((hb.far (p := ⟨r.fb, 0, none⟩) hgf _).put _ _).far (p := ⟨r.fb, 1, none⟩) hgf _) (by simp; omega) ?_
    · simp only [hlt] at this
      exact ⟨this.1, hu, this.2, hcell, hb.frozen _, hgf⟩
    · rw [hlt, Array.toList_setIfInBounds, List.take_set]
      have h2 : cur.toList.take e = (r.c.take e).map byteV := by rw [List.map_take, ← hx, List.take_take]; congr 1; omega
      rw [h2]
      unfold flipLast
      have hl2 : (r.c.take e).length = e := by simp; omega
      rw [hl2]
      have hb1 : (r.c.take e)[e - 1]? = some b := by rw [List.getElem?_take, if_pos (by omega)]; exact hb0
      apply List.ext_getElem?
      intro i
      rw [List.getElem?_set, List.getElem?_map, List.getElem?_map, List.getElem?_modify]
      by_cases hi : e - 1 = i
      · subst hi
        rw [if_pos rfl, hb1, if_pos (by simp; omega)]
        simp
      · rw [if_neg hi]
        simp [hi]

theorem crash_zero (h : DiskL w d mb off armed left L) {r : FRec} (hr : r ∈ L) {g cap : Nat} (hcv : r.cv = .slice (some ⟨g, 0, none⟩) r.c.length cap) {e m : Nat} (he : e ≤ r.c.length) (h0 : 0 < m) (hm : m ≤ e) : ∃ cs,
    (∀ ty c, (Builtin.clear_ #[27] ty #[.slice (some ⟨g, e - m, none⟩) m c]).run Try.prog (w.setCell ⟨r.fb, 0, none⟩ (.slice (some ⟨g, 0, none⟩) e e)) = .ok (.tuple #[]) ((w.setCell ⟨r.fb, 0, none⟩ (.slice (some ⟨g, 0, none⟩) e e)).setRow g cs)) ∧
    DiskL (((w.setCell ⟨r.fb, 0, none⟩ (.slice (some ⟨g, 0, none⟩) e e)).setRow g cs).setCell ⟨r.fb, 1, none⟩ (.int .i64 e)) d mb off armed left (setR { r with cv := .slice (some ⟨g, 0, none⟩) e e, c := zeroLast m (r.c.take e), dur := e } L) ∧
    Upd (fun k => k = r.fb ∨ k = g) w (((w.setCell ⟨r.fb, 0, none⟩ (.slice (some ⟨g, 0, none⟩) e e)).setRow g cs).setCell ⟨r.fb, 1, none⟩ (.int .i64 e)) ∧
    (∀ k, foot d mb (setR { r with cv := .slice (some ⟨g, 0, none⟩) e e, c := zeroLast m (r.c.take e), dur := e } L) k → foot d mb L k) ∧
    ((w.setCell ⟨r.fb, 0, none⟩ (.slice (some ⟨g, 0, none⟩) e e)).setRow g cs).cell? ⟨r.fb, 1, none⟩ = some (.int .i64 r.dur) ∧
    ((w.setCell ⟨r.fb, 0, none⟩ (.slice (some ⟨g, 0, none⟩) e e)).setRow g cs).frozen? ⟨r.fb, 1, none⟩ = false := by
  have hf := h.file r hr
  have hw := h.own r hr
  rw [hcv] at hw
  rcases hw.2 with ⟨hv, _⟩ | ⟨g', cap', cur, hv, hb, hn, hcm, hcs, hx⟩
  · cases hv
  · injection hv with e1 e2 e3
    injection e1 with e1
    injection e1 with e1 _
    subst e1 e3
    have hgf : g ≠ r.fb := hb.unlike hf (by decide)
    have hb1 := hb.far (p := ⟨r.fb, 0, none⟩) hgf (.slice (some ⟨g, 0, none⟩) e e)
    refine ⟨_, fun ty c => run_clear _ 27 5 ty (.int .u8 0) Try.underlying27 (fun w => by kernel_rfl) rfl rfl g (e - m) m c h0 cur hb1 (by omega), ?_⟩
    generalize hcsq : (cur.toList.take (e - m) ++ List.replicate m (Value.int .u8 0) ++ cur.toList.drop (e - m + m)).toArray = cs
    have hu : Upd (fun k => k = r.fb ∨ k = g) w (((w.setCell ⟨r.fb, 0, none⟩ (.slice (some ⟨g, 0, none⟩) e e)).setRow g cs).setCell ⟨r.fb, 1, none⟩ (.int .i64 e)) :=
      (((Upd.refl (fun k => k = r.fb ∨ k = g) w).setCell (p := ⟨r.fb, 0, none⟩) (.inl (.inl rfl)) _).setRow (g := g) (.inl (.inr rfl)) _).setCell (p := ⟨r.fb, 1, none⟩) (.inl (.inl rfl)) _
    have hlt : (zeroLast m (r.c.take e)).length = e := by rw [length_zeroLast _ _ (by simp; omega)]; simp; omega
    have hfr := (hf.put 0 (.slice (some ⟨g, 0, none⟩) e e)).rowFar hgf.symm cs
    have := crash_turn h hr (by rw [hcv]) (c' := zeroLast m (r.c.take e)) (cur := cs) (by omega) hu (by rw [hlt]; exact hfr.put 1 _) ((hb1.row cs).far (p := ⟨r.fb, 1, none⟩) hgf _) (by rw [← hcsq]; simp; omega) ?_
    · simp only [hlt] at this
      exact ⟨this.1, hu, this.2, hfr.cell 1, hfr.frozen 1⟩
    · have h2 : cur.toList.take e = (r.c.take e).map byteV := by rw [List.map_take, ← hx, List.take_take]; congr 1; omega
      have hl2 : (r.c.take e).length = e := by simp; omega
      rw [hlt, ← hcsq]
      simp only []
      rw [List.take_append_of_le_length (by simp; omega), List.take_of_length_le (by simp; omega)]
      unfold zeroLast
      rw [hl2, List.map_append, List.map_replicate, List.map_take, ← h2, List.take_take]
      congr 2
      · omega
end
end Go.Proofs.Ytmapijpphnlcmaa
