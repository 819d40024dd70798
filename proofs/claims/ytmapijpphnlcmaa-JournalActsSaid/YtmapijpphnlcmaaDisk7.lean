/- Sync, Truncate, Remove, Rename of package disk. No condition. -/
import Derived.Test.YtmapijpphnlcmaaDisk6
import Derived.StillTailTactics
import Derived.Deep.QuietTactic
import Derived.BigQuiet
import Derived.RegionTactic
namespace Go.Proofs.Ytmapijpphnlcmaa
open Go.RowKit Go.Maps

/-- The file r has turned. -/
def TurnPost (w : World) (d mb : Nat) (off armed : Bool) (left : Nat) (L : List FRec) (r : FRec) (c' : List UInt8) (dur' : Nat) (w' : World) : Prop :=
  ∃ r' : FRec, r'.nm = r.nm ∧ r'.fb = r.fb ∧ r'.c = c' ∧ r'.dur = dur' ∧ DiskL w' d mb off armed left (setR r' L) ∧ Upd (foot d mb L) w w' ∧ ∀ k, foot d mb (setR r' L) k → foot d mb L k ∨ w.heap.size ≤ k

section
variable {w : World} {d mb : Nat} {off armed : Bool} {left : Nat} {L : List FRec}

theorem sync1 (fb : Nat) (A : Option Addr) (n c : Nat) (dur : Int) (w : World) (h : Blk w fb 77 #[.slice A n c, .int .i64 dur]) :
    Calls Try.prog 41 #[ptrV fb] w fun e w' => e = .returned (.tuple #[]) ∧ w.setCell ⟨fb, 1, none⟩ (.int .i64 n) = w' := by
  have c0 : w.cell? ⟨fb, 0, none⟩ = some (.slice A n c) := h.cell 0
  have c1 : w.cell? ⟨fb, 1, none⟩ = some (.int .i64 dur) := h.cell 1
  have f1 : w.frozen? ⟨fb, 1, none⟩ = false := h.frozen 1
  clear h
  go_enter Try.func41, Try.ntmps41
  go_wp2
  go_end0
  exact ⟨rfl, rfl⟩

theorem sync_turn (h : DiskL w d mb off armed left L) {r : FRec} (hr : r ∈ L) :
    Calls Try.prog 41 #[ptrV r.fb] w fun e w' => e = .returned (.tuple #[]) ∧ TurnPost w d mb off armed left L r r.c r.c.length w' := by
  obtain ⟨A, c, hcv⟩ := (h.own r hr).form
  have hf := h.file r hr
  have hf' : Blk w r.fb 77 #[.slice A r.c.length c, .int .i64 r.dur] := by rw [← hcv]; exact hf
  refine (sync1 r.fb A r.c.length c r.dur w hf').mono ?_
  rintro e w' ⟨rfl, rfl⟩
  have hu : Upd (fun k => k = r.fb ∨ OwnB r.cv k) w (w.setCell ⟨r.fb, 1, none⟩ (.int .i64 r.c.length)) := (Upd.refl (fun k => k = r.fb ∨ OwnB r.cv k) w).setCell (p := ⟨r.fb, 1, none⟩) (.inl (.inl rfl)) _
  refine ⟨rfl, { r with dur := r.c.length }, rfl, rfl, rfl, rfl, ?_, hu.mono ?_, fun k hk => foot_setR (r' := { r with dur := r.c.length }) hr rfl (fun k hk => .inl hk) hk⟩
  · refine h.turn hr rfl rfl (Nat.le_refl _) (h.len r hr) hu (hf.put 1 _) ?_ (fun k hk => .inl hk)
    exact (h.own r hr).upd ((Upd.refl (fun k => k = r.fb) w).setCell (p := ⟨r.fb, 1, none⟩) (.inl rfl) _) (fun k hk => (h.own r hr).ne_of hf (by decide) hk)
  · rintro k _ (rfl | hk)
    · exact .inr (.inr ⟨r, hr, .inl rfl⟩)
    · exact .inr (.inr ⟨r, hr, .inr hk⟩)

theorem TurnPost.after {w0 w w' : World} {r : FRec} {c' : List UInt8} {dur' : Nat} (h : TurnPost w d mb off armed left L r c' dur' w') (hu : Upd (fun k => k = d) w0 w) : TurnPost w0 d mb off armed left L r c' dur' w' := by
  obtain ⟨r', h1, h2, h3, h4, h5, h6, h7⟩ := h
  refine ⟨r', h1, h2, h3, h4, h5, (hu.mono (fun k _ e => .inl e)).trans h6 (fun _ _ h => h), fun k hk => ?_⟩
  rcases h7 k hk with e | e
  · exact .inl e
  · exact .inr (Nat.le_trans hu.size e)

set_option maxRecDepth 100000 in
theorem remove1 (fb : Value) (bd bn : Nat) (nm : List UInt8) (w : World) (h : DiskL w d mb off armed left L) (hd : Blk w bd 25 #[ptrV d]) (hn : Blk w bn 9 #[strV nm]) (hm : nm.length ≤ maxLen) :
    Calls Try.prog 47 #[fb, ptrV bd, ptrV bn] w fun e w' => e = .returned (.tuple #[]) ∧ w'.ownsMap Try.prog 9 fileR mb L.length (mapD (delR nm L)) ∧ Upd (fun k => k = mb) w w' := by
  have c0 : w.cell? ⟨bd, 0, none⟩ = some (ptrV d) := hd.cell 0
  have c1 : w.cell? ⟨bn, 0, none⟩ = some (strV nm) := hn.cell 0
  have c2 : w.cell? ⟨d, 0, none⟩ = some (.map (some mb)) := h.head.cell 0
  have hM := Lib.hid h.files
  have hkey := Lib.hid (keyOf_strV hm)
  clear h hd hn hm
  go_enter Try.func47, Try.ntmps47
  go_still_tail 5, (by kernel_rfl)
  change wpList _ _ _ _ _ w.drew
  refine wpList_delete_own _ rfl _ _ 71 9 rfl 75 keyed Try.underlying71 fileR mb L.length (mapD L) rfl hM.out.drew (strV nm) (.string nm) rfl hkey.out ?_
  intro w1 hm1 hg1
  have hm2 := Lib.hid hm1
  have hg2 := Lib.hid hg1
  clear hm1 hg1
  go_wp2
  go_end0
  refine ⟨rfl, by rw [← del_mapD]; exact hm2.out, ((Upd.refl (fun k => k = mb) w).drew).trans (Upd.of_grown (F := fun k => k = mb) hg2.out.grown (fun k e => .inl (by injection e with e; exact e.symm))) (fun _ _ h => h)⟩

/-- A file has gone. -/
theorem DiskL.drop (h : DiskL w d mb off armed left L) {w' : World} (nm : List UInt8) (hu : Upd (fun k => k = mb) w w') {n : Nat} (hmap : w'.ownsMap Try.prog 9 fileR mb n (mapD (delR nm L))) :
    DiskL w' d mb off armed left (delR nm L) := by
  have hs : ∀ {x}, x ∈ delR nm L → x ∈ L := fun {x} hx => (List.mem_filter.1 hx).1
  exact { head := hu.blk h.head (fun e => ownsMap_ne_blk h.files h.head e.symm), files := ownsMap_exact hmap, file := fun x hx => hu.blk (h.file x (hs hx)) (fun e => ownsMap_ne_blk h.files (h.file x (hs hx)) e.symm),
          own := fun x hx => (h.own x (hs hx)).upd hu (fun k hk e => ownsMap_ne_own h.files (h.own x (hs hx)) hk e.symm), dur := fun x hx => h.dur x (hs hx), nm := fun x hx => h.nm x (hs hx),
          fbs := h.fbs.filter _, gs := h.gs.filter _, lft := h.lft, len := fun x hx => h.len x (hs hx) }

theorem foot_delR (nm : List UInt8) {k : Nat} (hk : foot d mb (delR nm L) k) : foot d mb L k := by
  rcases hk with rfl | rfl | ⟨x, hx, hk⟩
  · exact .inl rfl
  · exact .inr (.inl rfl)
  · exact .inr (.inr ⟨x, (List.mem_filter.1 hx).1, hk⟩)

theorem mem_delR {nm : List UInt8} {x : FRec} (h : x ∈ delR nm L) : x ∈ L ∧ x.nm ≠ nm := by
  obtain ⟨h1, h2⟩ := List.mem_filter.1 h
  exact ⟨h1, by simpa using h2⟩

/-- A file has got another name. -/
theorem DiskL.move (h : DiskL w d mb off armed left L) {w' : World} {r : FRec} (hr : r ∈ L) (to : List UInt8) (hto : to.length ≤ maxLen) (hu : Upd (fun k => k = mb) w w') {n : Nat}
    (hmap : w'.ownsMap Try.prog 9 fileR mb n (mapD (insR { r with nm := to } (delR to (delR r.nm L))))) : DiskL w' d mb off armed left (insR { r with nm := to } (delR to (delR r.nm L))) := by
  have hs : ∀ {x}, x ∈ delR to (delR r.nm L) → x ∈ L ∧ x.nm ≠ r.nm := fun {x} hx => mem_delR (mem_delR hx).1
  have hne : ∀ {x}, x ∈ delR to (delR r.nm L) → x ≠ r := fun {x} hx e => (hs hx).2 (by rw [e])
  refine { head := hu.blk h.head (fun e => ownsMap_ne_blk h.files h.head e.symm), files := ownsMap_exact hmap, file := ?_, own := ?_, dur := ?_, nm := ?_, fbs := ?_, gs := ?_, lft := h.lft, len := ?_ }
  · intro x hx
    have hfile : ∀ y ∈ L, Blk w' y.fb 77 #[y.cv, .int .i64 y.dur] := fun y hy => hu.blk (h.file y hy) (fun e => ownsMap_ne_blk h.files (h.file y hy) e.symm)
    rcases mem_insR.1 hx with rfl | hx
    · exact hfile r hr
    · exact hfile x (hs hx).1
  · intro x hx
    have hown : ∀ y ∈ L, Own w' 5 1 y.cv y.c.length (y.c.map byteV) := fun y hy => (h.own y hy).upd hu (fun k hk e => ownsMap_ne_own h.files (h.own y hy) hk e.symm)
    rcases mem_insR.1 hx with rfl | hx
    · exact hown r hr
    · exact hown x (hs hx).1
  · intro x hx
    rcases mem_insR.1 hx with rfl | hx
    · exact h.dur r hr
    · exact h.dur x (hs hx).1
  · intro x hx
    rcases mem_insR.1 hx with rfl | hx
    · exact hto
    · exact h.nm x (hs hx).1
  · exact pairwise_insR (fun _ _ h e => h e.symm) ((h.fbs.filter _).filter _) (fun x hx e => hne hx (h.same_of_fb (hs hx).1 hr e.symm))
  · refine pairwise_insR (fun _ _ h k a b => h k b a) ((h.gs.filter _).filter _) (fun x hx k hk hk' => ?_)
    exact pw_ne (R := fun a b : FRec => ∀ k, OwnB a.cv k → ¬ OwnB b.cv k) h.gs (fun _ _ h k a b => h k b a) hr (hs hx).1 (fun e => hne hx e.symm) k hk hk'
  · intro x hx
    rcases mem_insR.1 hx with rfl | hx
    · exact h.len r hr
    · exact h.len x (hs hx).1

theorem foot_move {r : FRec} (hr : r ∈ L) (to : List UInt8) {k : Nat} (hk : foot d mb (insR { r with nm := to } (delR to (delR r.nm L))) k) : foot d mb L k := by
  rcases hk with rfl | rfl | ⟨x, hx, hk⟩
  · exact .inl rfl
  · exact .inr (.inl rfl)
  · rcases mem_insR.1 hx with rfl | hx
    · exact .inr (.inr ⟨r, hr, hk⟩)
    · exact .inr (.inr ⟨x, (mem_delR (mem_delR hx).1).1, hk⟩)

set_option maxRecDepth 100000 in
theorem rename1 (r : FRec) (bd bn bt : Nat) (nm to : List UInt8) (w : World) (h : DiskL w d mb off armed left L) (hd : Blk w bd 25 #[ptrV d]) (hn : Blk w bn 9 #[strV nm]) (ht : Blk w bt 9 #[strV to]) (hm : nm.length ≤ maxLen) (hto : to.length ≤ maxLen) (hL : L.length < maxLen) :
    Calls Try.prog 71 #[ptrV r.fb, ptrV bd, ptrV bn, ptrV bt] w fun e w' => e = .returned (.tuple #[]) ∧ w'.ownsMap Try.prog 9 fileR mb (L.length + 1) (mapD (insR { r with nm := to } (delR to (delR nm L)))) ∧ Upd (fun k => k = mb) w w' := by
  have c0 : w.cell? ⟨bd, 0, none⟩ = some (ptrV d) := hd.cell 0
  have c1 : w.cell? ⟨bn, 0, none⟩ = some (strV nm) := hn.cell 0
  have c2 : w.cell? ⟨d, 0, none⟩ = some (.map (some mb)) := h.head.cell 0
  have hM := Lib.hid h.files
  have hkey := Lib.hid (keyOf_strV hm)
  have hkey2 := Lib.hid (keyOf_strV hto)
  have hLm := Lib.hid hL
  have B0 := Lib.hid hd
  have B1 := Lib.hid ht
  have B2 := Lib.hid h.head
  clear h hd hn ht hm hto hL
  go_enter Try.func71, Try.ntmps71
  go_wp2
  go_still_tail 5, (by kernel_rfl)
  change wpList _ _ _ _ _ w.drew
  refine wpList_delete_own _ rfl _ _ 71 9 rfl 75 keyed Try.underlying71 fileR mb L.length (mapD L) rfl hM.out.drew (strV nm) (.string nm) rfl hkey.out ?_
  intro w1 hm1 hg1
  have hu : Upd (fun k => k = mb) w w1 := ((Upd.refl (fun k => k = mb) w).drew).trans (Upd.of_grown (F := fun k => k = mb) hg1.grown (fun k e => .inl (by injection e with e; exact e.symm))) (fun _ _ h => h)
  have d0 : w1.cell? ⟨bd, 0, none⟩ = some (ptrV d) := (hu.blk B0.out (fun e => ownsMap_ne_blk hM.out B0.out e.symm)).cell 0
  have d1 : w1.cell? ⟨bt, 0, none⟩ = some (strV to) := (hu.blk B1.out (fun e => ownsMap_ne_blk hM.out B1.out e.symm)).cell 0
  have d2 : w1.cell? ⟨d, 0, none⟩ = some (.map (some mb)) := (hu.blk B2.out (fun e => ownsMap_ne_blk hM.out B2.out e.symm)).cell 0
  have hm2 := Lib.hid hm1
  have hg2 := Lib.hid hu
  clear hm1 hg1 hu c0 c1 c2
  go_wp2
  go_still_tail 6, (by kernel_rfl)
  change wpList _ _ _ _ _ w1.drew
  refine wpList_mapUpdate_own _ rfl _ _ _ 71 rfl 9 75 keyed Try.underlying71 fileR mb L.length _ rfl hm2.out.drew hLm.out (strV to) (ptrV r.fb) (.string to) rfl rfl hkey2.out (.lit (.int .i64 r.fb)) [] rfl ?_
  intro w2 hm3 hg3
  have hm4 := Lib.hid hm3
  have hg4 := Lib.hid hg3
  clear hm3 hg3
  go_wp2
  go_end0
  refine ⟨rfl, ?_, (hg2.out.drew).trans (Upd.of_grown (F := fun k => k = mb) hg4.out (fun k e => .inl (by injection e with e; exact e.symm))) (fun _ _ h => h)⟩
  have := hm4.out
  rw [del_mapD] at this
  have e1 := put_mapD (delR nm L) { r with nm := to }
  simp only at e1
  rwa [e1] at this
end
end Go.Proofs.Ytmapijpphnlcmaa
