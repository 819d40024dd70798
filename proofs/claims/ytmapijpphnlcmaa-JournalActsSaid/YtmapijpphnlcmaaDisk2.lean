/- A disk of which one file is turned, made or removed. No condition. -/
import Derived.Test.YtmapijpphnlcmaaDiskW
import Derived.Test.YtmapijpphnlcmaaSpec
namespace Go.Proofs.Ytmapijpphnlcmaa
open Go.RowKit Go.Maps

def setR (r' : FRec) (L : List FRec) : List FRec := L.map (fun x => if x.fb = r'.fb then r' else x)

theorem pw_ne {α : Type} {R : α → α → Prop} {L : List α} (h : L.Pairwise R) (hs : ∀ a b, R a b → R b a) {x y : α} (hx : x ∈ L) (hy : y ∈ L) (hne : x ≠ y) : R x y := by
  induction L with
  | nil => cases hx
  | cons a l ih =>
    rw [List.pairwise_cons] at h
    rcases List.mem_cons.1 hx with rfl | hx'
    · rcases List.mem_cons.1 hy with rfl | hy'
      · exact absurd rfl hne
      · exact h.1 y hy'
    · rcases List.mem_cons.1 hy with rfl | hy'
      · exact hs _ _ (h.1 x hx')
      · exact ih h.2 hx' hy'

section
variable {w w' : World} {d mb : Nat} {off armed : Bool} {left : Nat} {L : List FRec}

theorem DiskL.same_of_fb (h : DiskL w d mb off armed left L) {x y : FRec} (hx : x ∈ L) (hy : y ∈ L) (he : x.fb = y.fb) : x = y :=
  Classical.byContradiction fun hne => pw_ne h.fbs (fun _ _ h e => h e.symm) hx hy hne he
theorem DiskL.same_of_nm (h : DiskL w d mb off armed left L) {x y : FRec} (hx : x ∈ L) (hy : y ∈ L) (he : x.nm = y.nm) : x = y := by
  refine Classical.byContradiction fun hne => ?_
  have := pw_ne (R := fun a b : FRec => a.nm ≠ b.nm) (h.sorted.imp (fun {a b} hb e => by rw [e, Go.WideAt.bytes_irrefl] at hb; cases hb)) (fun _ _ h e => h e.symm) hx hy hne
  exact this he

theorem mem_setR {r' x : FRec} (h : x ∈ setR r' L) : x = r' ∨ (x ∈ L ∧ x.fb ≠ r'.fb) := by
  obtain ⟨y, hy, rfl⟩ := List.mem_map.1 h
  by_cases he : y.fb = r'.fb
  · simp [he]
  · right
    simp only [if_neg he]
    exact ⟨hy, he⟩

/-- One file has turned. -/
theorem DiskL.turn (h : DiskL w d mb off armed left L) {r r' : FRec} (hr : r ∈ L) (hnm : r'.nm = r.nm) (hfb : r'.fb = r.fb) (hdur : r'.dur ≤ r'.c.length) (hlen : r'.c.length ≤ 1099511627776)
    (hu : Upd (fun k => k = r.fb ∨ OwnB r.cv k) w w') (hb : Blk w' r.fb 77 #[r'.cv, .int .i64 r'.dur]) (ho : Own w' 5 1 r'.cv r'.c.length (r'.c.map byteV))
    (hn : ∀ k, OwnB r'.cv k → OwnB r.cv k ∨ w.heap.size ≤ k) : DiskL w' d mb off armed left (setR r' L) := by
  have hf := h.file r hr
  have hw := h.own r hr
  have hd : d ≠ r.fb := h.head.unlike hf (by decide)
  have hapart : ∀ x ∈ L, x.fb ≠ r.fb → ∀ k, OwnB x.cv k → ¬ OwnB r.cv k := fun x hx hne k hk hk' => pw_ne (R := fun a b : FRec => ∀ k, OwnB a.cv k → ¬ OwnB b.cv k) h.gs (fun _ _ h k a b => h k b a) hx hr (fun e => hne (by rw [e])) k hk hk'
  refine { head := hu.blk h.head ?_, files := ?_, file := ?_, own := ?_, dur := ?_, nm := ?_, fbs := ?_, gs := ?_, lft := h.lft, len := ?_ }
  · rintro (e | e)
    · exact hd e
    · exact hw.blk_ne h.head (by decide) e
  · have e : mapD (setR r' L) = mapD L := by
      simp only [mapD, setR, List.map_map]
      congr 1
      refine List.map_congr_left (fun x hx => ?_)
      simp only [Function.comp]
      split
      · rename_i he
        have := h.same_of_fb hx hr (he.trans hfb)
        subst this
        simp [entD, hnm, hfb]
      · rfl
    rw [e, show (setR r' L).length = L.length by simp [setR]]
    refine ownsMap_upd h.files hu ?_
    rintro (e | e)
    · exact ownsMap_ne_blk h.files hf e
    · exact ownsMap_ne_own h.files hw e rfl
  · intro x hx
    rcases mem_setR hx with rfl | ⟨hx, hne⟩
    · rw [hfb]; exact hb
    · refine hu.blk (h.file x hx) ?_
      rintro (e | e)
      · exact hne (e.trans hfb.symm)
      · exact hw.blk_ne (h.file x hx) (by decide) e
  · intro x hx
    rcases mem_setR hx with rfl | ⟨hx, hne⟩
    · exact ho
    · refine (h.own x hx).upd hu (fun k hk => ?_)
      rintro (e | e)
      · exact (h.own x hx).ne_of hf (by decide) hk e
      · exact hapart x hx (fun e => hne (e.trans hfb.symm)) k hk e
  · intro x hx
    rcases mem_setR hx with rfl | ⟨hx, _⟩
    · exact hdur
    · exact h.dur x hx
  · intro x hx
    rcases mem_setR hx with rfl | ⟨hx, _⟩
    · rw [hnm]; exact h.nm r hr
    · exact h.nm x hx
  · simp only [setR]
    rw [List.pairwise_map]
    refine h.fbs.imp (fun {a b} hab => ?_)
    split <;> split
    · rename_i h1 h2; exact absurd (h1.trans h2.symm) hab
    · rename_i h1 h2; exact fun e => h2 e.symm
    · rename_i h1 h2; exact h1
    · exact hab
  · simp only [setR]
    rw [List.pairwise_map]
    refine List.Pairwise.imp_of_mem ?_ (h.fbs.and h.gs)
    rintro a b ha hb ⟨hab, hg⟩
    split <;> split
    · rename_i h1 h2; exact absurd (h1.trans h2.symm) hab
    · rename_i h1 h2
      intro k hk hk'
      rcases hn k hk with e | e
      · exact hapart b hb (fun e => h2 (e.trans hfb.symm)) k hk' e
      · have := (h.own b hb).lt hk'; omega
    · rename_i h1 h2
      intro k hk hk'
      rcases hn k hk' with e | e
      · exact hapart a ha (fun e => h1 (e.trans hfb.symm)) k hk e
      · have := (h.own a ha).lt hk; omega
    · exact hg
  · intro x hx
    rcases mem_setR hx with rfl | ⟨hx, _⟩
    · exact hlen
    · exact h.len x hx

theorem foot_setR {r r' : FRec} (hr : r ∈ L) (hfb : r'.fb = r.fb) (hn : ∀ k, OwnB r'.cv k → OwnB r.cv k ∨ w.heap.size ≤ k) {k : Nat} (hk : foot d mb (setR r' L) k) : foot d mb L k ∨ w.heap.size ≤ k := by
  rcases hk with rfl | rfl | ⟨x, hx, hk⟩
  · exact .inl (.inl rfl)
  · exact .inl (.inr (.inl rfl))
  · rcases mem_setR hx with rfl | ⟨hx, _⟩
    · rcases hk with rfl | hk
      · exact .inl (.inr (.inr ⟨r, hr, .inl hfb⟩))
      · rcases hn k hk with e | e
        · exact .inl (.inr (.inr ⟨r, hr, .inr e⟩))
        · exact .inr e
    · exact .inl (.inr (.inr ⟨x, hx, hk⟩))

/-- Only the disk's own block has turned. -/
theorem DiskL.top (h : DiskL w d mb off armed left L) {off' armed' : Bool} {left' : Nat} (hu : Upd (fun k => k = d) w w') (hb : Blk w' d 73 #[.map (some mb), .bool off', .bool armed', .int .i64 left']) (hl : left' ≤ 9223372036854775807) :
    DiskL w' d mb off' armed' left' L :=
  { head := hb, files := ownsMap_upd h.files hu (ownsMap_ne_blk h.files h.head), file := fun r hr => hu.blk (h.file r hr) ((h.file r hr).unlike h.head (by decide)),
    own := fun r hr => (h.own r hr).upd hu (fun _ hk => (h.own r hr).ne_of h.head (by decide) hk), dur := h.dur, nm := h.nm, fbs := h.fbs, gs := h.gs, lft := hl, len := h.len }

/-- write: what it says and what becomes of the disk. -/
theorem write_any (h : DiskL w d mb off armed left L) : Calls Try.prog 43 #[ptrV d] w fun e w' => e = .returned (.bool (wrB armed left)) ∧ DiskL w' d mb (off || !wrB armed left) armed (wrL armed left) L ∧ Upd (fun k => k = d) w w' := by
  cases armed with
  | false =>
    refine (write_on d _ off _ w h.head).mono ?_
    rintro e w' ⟨rfl, rfl⟩
    exact ⟨rfl, by simpa [wrB, wrL] using h, Upd.refl _ _⟩
  | true =>
    rcases Nat.eq_zero_or_pos left with rfl | hl
    · refine (write_out d _ off w h.head).mono ?_
      rintro e w' ⟨rfl, rfl⟩
      have hu : Upd (fun k => k = d) w (w.setCell ⟨d, 1, none⟩ (.bool true)) := (Upd.refl (fun k => k = d) w).setCell (p := ⟨d, 1, none⟩) (.inl rfl) _
      refine ⟨rfl, ?_, hu⟩
      have := h.top hu (off' := true) (armed' := true) (left' := 0) (h.head.put 1 (.bool true)) (Nat.zero_le _)
      simpa [wrB, wrL] using this
    · refine (write_down d _ off left w h.head hl h.lft).mono ?_
      rintro e w' ⟨rfl, rfl⟩
      have hu : Upd (fun k => k = d) w (w.setCell ⟨d, 3, none⟩ (.int .i64 ((left - 1 : Nat) : Int))) := (Upd.refl (fun k => k = d) w).setCell (p := ⟨d, 3, none⟩) (.inl rfl) _
      have hb : wrB true left = true := by simp [wrB]; omega
      refine ⟨by rw [hb], ?_, hu⟩
      have := h.top hu (off' := off) (armed' := true) (left' := left - 1) (h.head.put 3 _) (by have := h.lft; omega)
      simpa [hb, wrL] using this

/-- A file without bytes has come. -/
theorem DiskL.make (h : DiskL w d mb off armed left L) {r : FRec} (hm : r.nm.length ≤ maxLen) (hf : L.find? (fun x => x.nm == r.nm) = none) (hc : r.c = []) (hv : r.cv = .slice none 0 0) (hd : r.dur = 0)
    (hfb : w.heap.size ≤ r.fb) (hu : Upd (fun k => k = mb) w w') (hb : Blk w' r.fb 77 #[r.cv, .int .i64 r.dur]) (hmap : w'.ownsMap Try.prog 9 fileR mb (L.length + 1) (mapD (insR r L))) :
    DiskL w' d mb off armed left (insR r L) := by
  have hne : ∀ {x}, x ∈ L → x.fb ≠ mb := fun {x} hx e => ownsMap_ne_blk h.files (h.file x hx) e.symm
  have hown : Own w' 5 1 r.cv r.c.length (r.c.map byteV) := by rw [hv, hc]; exact Own.nil _ _ _
  have hno : ∀ k, ¬ OwnB r.cv k := by rw [hv]; intro k; simp [OwnB, Value.ownBlock]
  refine { head := hu.blk h.head (fun e => ownsMap_ne_blk h.files h.head e.symm), files := by rw [length_insR]; exact hmap, file := ?_, own := ?_, dur := ?_, nm := ?_, fbs := ?_, gs := ?_, lft := h.lft, len := ?_ }
  · intro x hx
    rcases mem_insR.1 hx with rfl | hx
    · exact hb
    · exact hu.blk (h.file x hx) (hne hx)
  · intro x hx
    rcases mem_insR.1 hx with rfl | hx
    · exact hown
    · exact (h.own x hx).upd hu (fun k hk e => ownsMap_ne_own h.files (h.own x hx) hk e.symm)
  · intro x hx
    rcases mem_insR.1 hx with rfl | hx
    · rw [hd]; exact Nat.zero_le _
    · exact h.dur x hx
  · intro x hx
    rcases mem_insR.1 hx with rfl | hx
    · exact hm
    · exact h.nm x hx
  · exact pairwise_insR (fun _ _ h e => h e.symm) h.fbs (fun x hx e => by have := (h.file x hx).lt; omega)
  · exact pairwise_insR (fun _ _ h k a b => h k b a) h.gs (fun x hx k hk => absurd hk (hno k))
  · intro x hx
    rcases mem_insR.1 hx with rfl | hx
    · rw [hc]; simp
    · exact h.len x hx
end
end Go.Proofs.Ytmapijpphnlcmaa
