/- Append of package disk to a file that is not there yet. Condition: not more than 2^40 bytes. change of package disk, for whatever closure. No condition. Sync, Truncate, Remove, Rename of package disk. No condition. Truncate of package disk. No condition. The functions of package disk, each against its plain specification. Conditions: no name longer than memory, no file beyond 2^40 bytes. Sync, Truncate, Remove, Rename, Read, Arm, Off of package disk, each against its plain specification. Conditions: no name longer than memory. Files and the choices of package disk. Condition: fewer than 2^43 files. The crash, file by file. No condition. Crash of package disk: what one file comes to. No condition. Crash of package disk. Condition: fewer than 2^43 files. The sanity check of the statements on the disk returns true. No condition. The reference disk in memory: find, fails. No condition. The reference disk: drop, put. No condition. The hash functions of package hash and of the reference: Tagged. Conditions: sizes. -/
import Derived.Test.YtbgificdilpdcaaJn3
import Derived.StillTailTactics
import Derived.Deep.QuietTactic
import Derived.BigQuiet
import Derived.RegionTactic
import Derived.Lib.SliceRun
import Derived.Laws.BitsAllLaws
import Derived.Lib.SlBytesConst
import Derived.Laws.IdiomStrings
import Derived.Shelf.Bytes.SlSmallAll
namespace Go.Proofs.Ytbgificdilpdcaa
section
open Go.RowKit Go.Maps

theorem setR_insR {r r' : FRec} {L : List FRec} (hnm : r'.nm = r.nm) (hfb : r'.fb = r.fb) (hn : ∀ x ∈ L, x.fb ≠ r.fb) : setR r' (insR r L) = insR r' L := by
  have hs : ∀ l : List FRec, (∀ x ∈ l, x.fb ≠ r.fb) → l.map (fun x => if x.fb = r'.fb then r' else x) = l := by
    intro l hl
    induction l with
    | nil => rfl
    | cons y l ih =>
      simp only [List.map_cons]
      rw [ih (fun x hx => hl x (by simp [hx])), if_neg (by rw [hfb]; exact hl y (by simp))]
  induction L with
  | nil => simp [setR, insR, hfb]
  | cons y l ih =>
    simp only [insR, hnm]
    split
    · simp only [setR, List.map_cons]
      rw [hs l (fun x hx => hn x (by simp [hx]))]
      simp [hfb, hn y (by simp)]
    · have := ih (fun x hx => hn x (by simp [hx]))
      simp only [setR, List.map_cons] at this ⊢
      rw [this, if_neg (by rw [hfb]; exact hn y (by simp))]

section
variable {w : World} {d mb : Nat} {off armed : Bool} {left : Nat} {L : List FRec}

/-- The file nm has come, with its content. -/
def MakePost (w : World) (d mb : Nat) (armed : Bool) (left : Nat) (L : List FRec) (nm c' : List UInt8) (e : Ending) (w' : World) : Prop :=
  e = retE (codeW armed left) ∧ ∃ r' : FRec, r'.nm = nm ∧ r'.c = c' ∧ r'.dur = 0 ∧ DiskL w' d mb (!wrB armed left) armed (wrL armed left) (insR r' L) ∧ Upd (foot d mb L) w w' ∧
    ∀ k, foot d mb (insR r' L) k → foot d mb L k ∨ w.heap.size ≤ k

theorem make_turn (h : DiskL w d mb off armed left L) {nm : List UInt8} (hm : nm.length ≤ maxLen) (hf : L.find? (fun r => r.nm == nm) = none) {w1 : World}
    (hmap : w1.ownsMap Try.prog 9 fileR mb (L.length + 1) ((mapD L).put (.string nm) (.lit (.int .i64 (w.heap.size : Int)))))
    (hg : (w.alloc (.cells #[.slice none 0 0, .int .i64 0] 109)).grownBy w1 (some mb)) :
    DiskL w1 d mb off armed left (insR ⟨nm, w.heap.size, .slice none 0 0, [], 0⟩ L) ∧ Upd (fun k => k = mb) w w1 := by
  have hu : Upd (fun k => k = mb) w w1 := ((Upd.refl (fun k => k = mb) w).alloc _).trans (Upd.of_grown (F := fun k => k = mb) hg (fun k e => .inl (by injection e with e; exact e.symm))) (fun _ _ h => h)
  refine ⟨h.make (r := ⟨nm, w.heap.size, .slice none 0 0, [], 0⟩) hm hf rfl rfl rfl (Nat.le_refl _) hu ?_ ?_, hu⟩
  · refine (hg.block _ (by simp) ?_).trans (Blk.new w _ _)
    intro e
    injection e with e
    have := h.files.lt
    simp only at e
    omega
  · have e1 := put_mapD L ⟨nm, w.heap.size, .slice none 0 0, [], 0⟩
    simp only at e1
    rw [e1, delR_of_none hf] at hmap
    exact hmap

theorem app_turn0 (h : DiskL w d mb off armed left L) {nm : List UInt8} {fb : Nat} (hr : (⟨nm, fb, .slice none 0 0, [], 0⟩ : FRec) ∈ L) {b : List UInt8} (hl : b.length ≤ 1099511627776) {w1 : World} {A : Option Addr} {c : Nat}
    (ho : Own w1 5 1 (.slice A (0 + b.length) c) (0 + b.length) ([] ++ b.map byteV)) (hu : Upd (OwnB (.slice none 0 0)) w w1)
    (hn : ∀ k, OwnB (.slice A (0 + b.length) c) k → OwnB (.slice none 0 0) k ∨ w.heap.size ≤ k) :
    DiskL (w1.setCell ⟨fb, 0, none⟩ (.slice A b.length c)) d mb off armed left (setR ⟨nm, fb, .slice A b.length c, b, 0⟩ L) ∧
    Upd (fun k => k = fb ∨ OwnB (.slice none 0 0) k) w (w1.setCell ⟨fb, 0, none⟩ (.slice A b.length c)) ∧ (∀ k, OwnB (.slice A b.length c) k → OwnB (.slice none 0 0) k ∨ w.heap.size ≤ k) := by
  have := app_turn h hr (b := b) (by simpa using hl) ho hu hn
  simp only [List.length_nil, Nat.zero_add, List.nil_append] at this hn
  exact ⟨this.1, this.2, hn⟩

set_option maxRecDepth 100000 in
set_option maxHeartbeats 1000000 in
theorem append_new (h : DiskL w d mb false armed left L) (nm : List UInt8) (hn : nm.isEmpty = false) (hm : nm.length ≤ maxLen) (hf : L.find? (fun r => r.nm == nm) = none)
    (v : Value) (b : List UInt8) (hb : RdB (foot d mb L) w v b) (hl : b.length ≤ 1099511627776) (hL : L.length < maxLen) :
    Calls Try.prog 44 #[ptrV d, strV nm, v] w (MakePost w d mb armed left L nm b) := by
  have ho : Calls Try.prog 66 #[ptrV d, strV nm] w fun e w' => e = retPE (.pointer none) 0 ∧ w = w' := by
    have := open_on h nm hn hm
    unfold atV at this
    rwa [hf] at this
  have O := Lib.hid ho
  have H := Lib.hid h
  have hsz : d < w.heap.size := h.head.lt
  have c0 : w.cell? ⟨d, 0, none⟩ = some (.map (some mb)) := h.head.cell 0
  have hq := fun w : World => run_eql_map_nil (P := Try.prog) w 75 9 104 (some mb) Try.underlying75
  obtain ⟨i0, hi, hz0, hz1, hz2⟩ := info_parts byte_info
  have hM := Lib.hid (h.files.alloc (.cells #[.slice none 0 0, .int .i64 0] 109))
  have hrd := Lib.hid hb
  have hlen := Lib.hid hl
  have hmax := Lib.hid (show 0 + b.length ≤ maxLen by unfold maxLen; omega)
  have hmul := Lib.hid (show (0 + b.length) * 1 ≤ 140737488355328 by omega)
  have hLm := Lib.hid hL
  have hkey := Lib.hid (keyOf_strV hm)
  have T := Lib.hid (fun w1 a b => make_turn (w1 := w1) h hm hf a b)
  have fin : ∀ (e : Ending) (w' : World) (r' : FRec) (w1 w2 : World), r'.nm = nm → r'.fb = w.heap.size → r'.c = b → r'.dur = 0 → e = retE (codeW armed left) → Upd (fun k => k = mb) w w1 →
      Upd (fun k => k = w.heap.size ∨ OwnB (.slice none 0 0) k) w1 w2 → (∀ k, OwnB r'.cv k → OwnB (.slice none 0 0) k ∨ w1.heap.size ≤ k) →
      DiskL w' d mb (false || !wrB armed left) armed (wrL armed left) (setR r' (insR ⟨nm, w.heap.size, .slice none 0 0, [], 0⟩ L)) → Upd (fun k => k = d) w2 w' → MakePost w d mb armed left L nm b e w' := by
    intro e w' r' w1 w2 h1 h2 h3 h4 he hu1 hu2 hn2 hd2 hu3
    have e1 : setR r' (insR ⟨nm, w.heap.size, .slice none 0 0, [], 0⟩ L) = insR r' L := setR_insR (r := ⟨nm, w.heap.size, .slice none 0 0, [], 0⟩) h1 h2 (fun x hx => by have := (h.file x hx).lt; simp only; omega)
    rw [e1] at hd2
    refine ⟨he, r', h1, h3, h4, by simpa using hd2, ?_, ?_⟩
    · refine ((hu1.mono (fun k _ e => .inr (.inl e))).trans hu2 ?_).trans hu3 (fun k _ e => .inl e)
      rintro k hk (rfl | e)
      · omega
      · simp [OwnB, Value.ownBlock] at e
    · rintro k (rfl | rfl | ⟨x, hx, hk⟩)
      · exact .inl (.inl rfl)
      · exact .inl (.inr (.inl rfl))
      · rcases mem_insR.1 hx with rfl | hx
        · rcases hk with rfl | hk
          · exact .inr (by omega)
          · rcases hn2 k hk with e | e
            · simp [OwnB, Value.ownBlock] at e
            · have := hu1.size; exact .inr (by omega)
        · exact .inl (.inr (.inr ⟨x, hx, hk⟩))
  have FIN := Lib.hid fin
  have hr0 : (⟨nm, w.heap.size, .slice none 0 0, [], 0⟩ : FRec) ∈ insR ⟨nm, w.heap.size, .slice none 0 0, [], 0⟩ L := mem_insR.2 (.inl rfl)
  have R0 := Lib.hid hr0
  have hfoot := Lib.hid (fun w1 (hu : Upd (fun k => k = mb) w w1) => hb w1 (hu.mono (fun k _ e => .inr (.inl e))))
  clear h ho hf hb hm hl fin hL hr0
  cases hwb : wrB armed left
  all_goals
    go_enter Try.func44, Try.ntmps44
    go_wp2_with (first
      | (go_at_call 66; refine O.out.mono ?_; rintro e w' ⟨rfl, rfl⟩)
      | (at_mapUpdate; refine wpList_mapUpdate_own _ rfl _ _ _ 75 rfl 9 104 keyed Try.underlying75 fileR mb L.length (mapD L) rfl hM.out hLm.out (strV nm) (ptrV w.heap.size) (.string nm) rfl rfl hkey.out (.lit (.int .i64 w.heap.size)) [] rfl ?_; intro w1 hm1 hg1; have hD1 := Lib.hid (T.out w1 hm1 hg1); have hf1 := hD1.out.1.file _ R0.out; have hc0 := hf1.cell 0; have hff := Lib.hid hf1; clear hf1 hm1 hg1)
      | (at_builtin; refine wpList_append_to _ rfl _ _ 36 rfl 5 i0 (.int .u8 0) 1 1 Try.underlying36 hi hz0 hz1 hz2 rfl (.slice none 0 0) 0 [] rfl (Own.nil _ _ _) v b.length (b.map byteV) rfl (hfoot.out _ hD1.out.2) (bytes_oneCell b) hmax.out hmul.out ?_; intro A c w2 hown1 hupd hnew; have hD := Lib.hid (app_turn0 hD1.out.1 R0.out hlen.out hown1 hupd hnew); have hf2 := hupd.blk hff.out (by simp [OwnB, Value.ownBlock]); have hc1 := hf2.cell 0; have hz1 := hf2.frozen 0; clear hf2 hown1 hupd hnew)
      | (go_at_call 67; refine (write_any hD.out.1).mono ?_; rintro e w' ⟨rfl, hd2, hu2⟩; have hD2 := Lib.hid hd2; have hU2 := Lib.hid hu2; clear hd2 hu2))
    go_ret
    exact FIN.out _ _ ⟨nm, w.heap.size, .slice A b.length c, b, 0⟩ _ _ rfl rfl rfl rfl (by simp [codeW, hwb]) hD1.out.2 hD.out.2.1 hD.out.2.2 hD2.out hU2.out
end
end

section
open Go.RowKit Go.Maps

section
variable {w : World} {d mb : Nat} {off armed : Bool} {left : Nat} {L : List FRec}

theorem change_arg (d : Nat) (v : Value) (w : World) : Calls Try.prog 64 #[ptrV d, strV [], v] w fun e w' => e = retE 1 ∧ w = w' := by
  go_enter Try.func64, Try.ntmps64
  go_wp2_with (go_at_call 70; refine (existing_arg _ _).mono ?_; rintro e w' ⟨rfl, rfl⟩)
  go_ret
  exact ⟨rfl, rfl⟩
theorem change_off (h : DiskL w d mb true armed left L) (nm : List UInt8) (hn : nm.isEmpty = false) (v : Value) : Calls Try.prog 64 #[ptrV d, strV nm, v] w fun e w' => e = retE 103 ∧ w = w' := by
  have H := Lib.hid h
  clear h
  go_enter Try.func64, Try.ntmps64
  go_wp2_with (go_at_call 70; refine (existing_off H.out _ hn).mono ?_; rintro e w' ⟨rfl, rfl⟩)
  go_ret
  exact ⟨rfl, rfl⟩
theorem change_no (h : DiskL w d mb false armed left L) (nm : List UInt8) (hn : nm.isEmpty = false) (hm : nm.length ≤ maxLen) (hf : L.find? (fun r => r.nm == nm) = none) (v : Value) :
    Calls Try.prog 64 #[ptrV d, strV nm, v] w fun e w' => e = retE 6 ∧ w = w' := by
  have H := Lib.hid (existing_no h nm hn hm hf)
  clear h hf
  go_enter Try.func64, Try.ntmps64
  go_wp2_with (go_at_call 70; refine H.out.mono ?_; rintro e w' ⟨rfl, rfl⟩)
  go_ret
  exact ⟨rfl, rfl⟩
theorem change_out (h : DiskL w d mb false armed left L) (nm : List UInt8) (hn : nm.isEmpty = false) (hm : nm.length ≤ maxLen) (r : FRec) (hf : L.find? (fun r => r.nm == nm) = some r) (v : Value) (hwb : wrB armed left = false) :
    Calls Try.prog 64 #[ptrV d, strV nm, v] w fun e w' => e = retE 103 ∧ DiskL w' d mb true armed (wrL armed left) L ∧ Upd (fun k => k = d) w w' := by
  have H := Lib.hid (existing_yes h nm hn hm r hf)
  have D := Lib.hid h
  clear h hf
  go_enter Try.func64, Try.ntmps64
  go_wp2_with (first
    | (go_at_call 70; refine H.out.mono ?_; rintro e w' ⟨rfl, rfl⟩)
    | (go_at_call 67; refine (write_any D.out).mono ?_; rintro e w' ⟨rfl, hd2, hu2⟩; have hD2 := Lib.hid hd2; have hU2 := Lib.hid hu2; clear hd2 hu2))
  go_ret
  refine ⟨rfl, ?_, hU2.out⟩
  have := hD2.out
  rw [hwb] at this
  simpa using this

set_option maxRecDepth 100000 in
/-- The closure is called on the file. -/
theorem change_yes (h : DiskL w d mb false armed left L) (nm : List UInt8) (hn : nm.isEmpty = false) (hm : nm.length ≤ maxLen) (r : FRec) (hf : L.find? (fun r => r.nm == nm) = some r) (hwb : wrB armed left = true)
    (g : FuncId) (caps : Array Value) (Q : World → Prop) (hg : ∀ W : World, (callFunc g (#[ptrV r.fb] ++ caps)).run Try.prog W = .ok (.enter g (#[ptrV r.fb] ++ caps)) W)
    (hdo : ∀ w1, DiskL w1 d mb false armed (wrL armed left) L → Upd (fun k => k = d) w w1 → Calls Try.prog g (#[ptrV r.fb] ++ caps) w1 fun e w' => e = .returned (.tuple #[]) ∧ Q w') :
    Calls Try.prog 64 #[ptrV d, strV nm, .func (.func g) #[] caps] w fun e w' => e = retE 0 ∧ Q w' := by
  have H := Lib.hid (existing_yes h nm hn hm r hf)
  have D := Lib.hid h
  have DO := Lib.hid hdo
  clear h hf hdo
  go_enter Try.func64, Try.ntmps64
  go_wp2_with (first
    | (go_at_call 70; refine H.out.mono ?_; rintro e w' ⟨rfl, rfl⟩)
    | (go_at_call 67; refine (write_any D.out).mono ?_; rintro e w' ⟨rfl, hd2, hu2⟩; rw [hwb] at hd2; have hD2 := Lib.hid hd2; have hU2 := Lib.hid hu2; clear hd2 hu2))
  refine (DO.out _ (by simpa using hD2.out) hU2.out).mono ?_
  rintro e w2 ⟨rfl, hQ⟩
  go_wp2
  go_ret
  exact ⟨rfl, hQ⟩
end
end

section
open Go.RowKit Go.Maps

/-- The file r has turned. -/
def TurnPost (w : World) (d mb : Nat) (off armed : Bool) (left : Nat) (L : List FRec) (r : FRec) (c' : List UInt8) (dur' : Nat) (w' : World) : Prop :=
  ∃ r' : FRec, r'.nm = r.nm ∧ r'.fb = r.fb ∧ r'.c = c' ∧ r'.dur = dur' ∧ DiskL w' d mb off armed left (setR r' L) ∧ Upd (foot d mb L) w w' ∧ ∀ k, foot d mb (setR r' L) k → foot d mb L k ∨ w.heap.size ≤ k

section
variable {w : World} {d mb : Nat} {off armed : Bool} {left : Nat} {L : List FRec}

theorem sync1 (fb : Nat) (A : Option Addr) (n c : Nat) (dur : Int) (w : World) (h : Blk w fb 109 #[.slice A n c, .int .i64 dur]) :
    Calls Try.prog 68 #[ptrV fb] w fun e w' => e = .returned (.tuple #[]) ∧ w.setCell ⟨fb, 1, none⟩ (.int .i64 n) = w' := by
  have c0 : w.cell? ⟨fb, 0, none⟩ = some (.slice A n c) := h.cell 0
  have c1 : w.cell? ⟨fb, 1, none⟩ = some (.int .i64 dur) := h.cell 1
  have f1 : w.frozen? ⟨fb, 1, none⟩ = false := h.frozen 1
  clear h
  go_enter Try.func68, Try.ntmps68
  go_wp2
  go_end0
  exact ⟨rfl, rfl⟩

theorem sync_turn (h : DiskL w d mb off armed left L) {r : FRec} (hr : r ∈ L) :
    Calls Try.prog 68 #[ptrV r.fb] w fun e w' => e = .returned (.tuple #[]) ∧ TurnPost w d mb off armed left L r r.c r.c.length w' := by
  obtain ⟨A, c, hcv⟩ := (h.own r hr).form
  have hf := h.file r hr
  have hf' : Blk w r.fb 109 #[.slice A r.c.length c, .int .i64 r.dur] := by rw [← hcv]; exact hf
  refine (sync1 r.fb A r.c.length c r.dur w hf').mono ?_
  rintro e w' ⟨rfl, rfl⟩
  have hu : Upd (fun k => k = r.fb ∨ OwnB r.cv k) w (w.setCell ⟨r.fb, 1, none⟩ (.int .i64 r.c.length)) := (Upd.refl (fun k => k = r.fb ∨ OwnB r.cv k) w).setCell (p := ⟨r.fb, 1, none⟩) (.inl (.inl rfl)) _
  refine ⟨rfl, { r with dur := r.c.length }, rfl, rfl, rfl, rfl, ?_, hu.mono ?_, fun k hk => foot_setR (r' := { r with dur := r.c.length }) hr rfl (fun k hk => .inl hk) hk⟩
  · refine h.turn hr rfl rfl (Nat.le_refl _) (h.len r hr) hu (hf.put 1 _) ?_ (fun k hk => .inl hk)
    exact (h.own r hr).upd ((Upd.refl (fun k => k = r.fb) w).setCell (p := ⟨r.fb, 1, none⟩) (.inl rfl) _) (fun k hk => (h.own r hr).ne_of hf (by decide) hk)
  · rintro k _ (rfl | hk)
    · exact .inr (.inr ⟨r, hr, .inl rfl⟩)
    · exact .inr (.inr ⟨r, hr, .inr hk⟩)

theorem TurnPost.after {w0 w w' : World} {r : FRec} {c' : List UInt8} {dur' : Nat} (h : TurnPost w d mb off armed left L r c' dur' w') (hu : Upd (fun k => k = d) w0 w) : TurnPost w0 d mb off armed left L r c' dur' w' := by
  obtain ⟨r', h1, h2, h3, h4, h5, h6, h7⟩ := h
  refine ⟨r', h1, h2, h3, h4, h5, (hu.mono (fun k _ e => .inl e)).trans h6 (fun _ _ h => h), fun k hk => ?_⟩
  rcases h7 k hk with e | e
  · exact .inl e
  · exact .inr (Nat.le_trans hu.size e)

set_option maxRecDepth 100000 in
theorem remove1 (fb : Value) (bd bn : Nat) (nm : List UInt8) (w : World) (h : DiskL w d mb off armed left L) (hd : Blk w bd 44 #[ptrV d]) (hn : Blk w bn 9 #[strV nm]) (hm : nm.length ≤ maxLen) :
    Calls Try.prog 65 #[fb, ptrV bd, ptrV bn] w fun e w' => e = .returned (.tuple #[]) ∧ w'.ownsMap Try.prog 9 fileR mb L.length (mapD (delR nm L)) ∧ Upd (fun k => k = mb) w w' := by
  have c0 : w.cell? ⟨bd, 0, none⟩ = some (ptrV d) := hd.cell 0
  have c1 : w.cell? ⟨bn, 0, none⟩ = some (strV nm) := hn.cell 0
  have c2 : w.cell? ⟨d, 0, none⟩ = some (.map (some mb)) := h.head.cell 0
  have hM := Lib.hid h.files
  have hkey := Lib.hid (keyOf_strV hm)
  clear h hd hn hm
  go_enter Try.func65, Try.ntmps65
  go_still_tail 5, (by kernel_rfl)
  change wpList _ _ _ _ _ w.drew
  refine wpList_delete_own _ rfl _ _ 75 9 rfl 104 keyed Try.underlying75 fileR mb L.length (mapD L) rfl hM.out.drew (strV nm) (.string nm) rfl hkey.out ?_
  intro w1 hm1 hg1
  have hm2 := Lib.hid hm1
  have hg2 := Lib.hid hg1
  clear hm1 hg1
  go_wp2
  go_end0
  refine ⟨rfl, by rw [← del_mapD]; exact hm2.out, ((Upd.refl (fun k => k = mb) w).drew).trans (Upd.of_grown (F := fun k => k = mb) hg2.out.grown (fun k e => .inl (by injection e with e; exact e.symm))) (fun _ _ h => h)⟩

/-- A file has gone. -/
theorem DiskL.drop (h : DiskL w d mb off armed left L) {w' : World} (nm : List UInt8) (hu : Upd (fun k => k = mb) w w') {n : Nat} (hmap : w'.ownsMap Try.prog 9 fileR mb n (mapD (delR nm L))) :
    DiskL w' d mb off armed left (delR nm L) := by
  have hs : ∀ {x}, x ∈ delR nm L → x ∈ L := fun {x} hx => (List.mem_filter.1 hx).1
  exact { head := hu.blk h.head (fun e => ownsMap_ne_blk h.files h.head e.symm), files := ownsMap_exact hmap, file := fun x hx => hu.blk (h.file x (hs hx)) (fun e => ownsMap_ne_blk h.files (h.file x (hs hx)) e.symm),
          own := fun x hx => (h.own x (hs hx)).upd hu (fun k hk e => ownsMap_ne_own h.files (h.own x (hs hx)) hk e.symm), dur := fun x hx => h.dur x (hs hx), nm := fun x hx => h.nm x (hs hx),
          fbs := h.fbs.filter _, gs := h.gs.filter _, lft := h.lft, len := fun x hx => h.len x (hs hx) }

theorem foot_delR (nm : List UInt8) {k : Nat} (hk : foot d mb (delR nm L) k) : foot d mb L k := by
  rcases hk with rfl | rfl | ⟨x, hx, hk⟩
  · exact .inl rfl
  · exact .inr (.inl rfl)
  · exact .inr (.inr ⟨x, (List.mem_filter.1 hx).1, hk⟩)

theorem mem_delR {nm : List UInt8} {x : FRec} (h : x ∈ delR nm L) : x ∈ L ∧ x.nm ≠ nm := by
  obtain ⟨h1, h2⟩ := List.mem_filter.1 h
  exact ⟨h1, by simpa using h2⟩

/-- A file has got another name. -/
theorem DiskL.move (h : DiskL w d mb off armed left L) {w' : World} {r : FRec} (hr : r ∈ L) (to : List UInt8) (hto : to.length ≤ maxLen) (hu : Upd (fun k => k = mb) w w') {n : Nat}
    (hmap : w'.ownsMap Try.prog 9 fileR mb n (mapD (insR { r with nm := to } (delR to (delR r.nm L))))) : DiskL w' d mb off armed left (insR { r with nm := to } (delR to (delR r.nm L))) := by
  have hs : ∀ {x}, x ∈ delR to (delR r.nm L) → x ∈ L ∧ x.nm ≠ r.nm := fun {x} hx => mem_delR (mem_delR hx).1
  have hne : ∀ {x}, x ∈ delR to (delR r.nm L) → x ≠ r := fun {x} hx e => (hs hx).2 (by rw [e])
  refine { head := hu.blk h.head (fun e => ownsMap_ne_blk h.files h.head e.symm), files := ownsMap_exact hmap, file := ?_, own := ?_, dur := ?_, nm := ?_, fbs := ?_, gs := ?_, lft := h.lft, len := ?_ }
  · intro x hx
    have hfile : ∀ y ∈ L, Blk w' y.fb 109 #[y.cv, .int .i64 y.dur] := fun y hy => hu.blk (h.file y hy) (fun e => ownsMap_ne_blk h.files (h.file y hy) e.symm)
    rcases mem_insR.1 hx with rfl | hx
    · exact hfile r hr
    · exact hfile x (hs hx).1
  · intro x hx
    have hown : ∀ y ∈ L, Own w' 5 1 y.cv y.c.length (y.c.map byteV) := fun y hy => (h.own y hy).upd hu (fun k hk e => ownsMap_ne_own h.files (h.own y hy) hk e.symm)
    rcases mem_insR.1 hx with rfl | hx
    · exact hown r hr
    · exact hown x (hs hx).1
  · intro x hx
    rcases mem_insR.1 hx with rfl | hx
    · exact h.dur r hr
    · exact h.dur x (hs hx).1
  · intro x hx
    rcases mem_insR.1 hx with rfl | hx
    · exact hto
    · exact h.nm x (hs hx).1
  · exact pairwise_insR (fun _ _ h e => h e.symm) ((h.fbs.filter _).filter _) (fun x hx e => hne hx (h.same_of_fb (hs hx).1 hr e.symm))
  · refine pairwise_insR (fun _ _ h k a b => h k b a) ((h.gs.filter _).filter _) (fun x hx k hk hk' => ?_)
    exact pw_ne (R := fun a b : FRec => ∀ k, OwnB a.cv k → ¬ OwnB b.cv k) h.gs (fun _ _ h k a b => h k b a) hr (hs hx).1 (fun e => hne hx e.symm) k hk hk'
  · intro x hx
    rcases mem_insR.1 hx with rfl | hx
    · exact h.len r hr
    · exact h.len x (hs hx).1

theorem foot_move {r : FRec} (hr : r ∈ L) (to : List UInt8) {k : Nat} (hk : foot d mb (insR { r with nm := to } (delR to (delR r.nm L))) k) : foot d mb L k := by
  rcases hk with rfl | rfl | ⟨x, hx, hk⟩
  · exact .inl rfl
  · exact .inr (.inl rfl)
  · rcases mem_insR.1 hx with rfl | hx
    · exact .inr (.inr ⟨r, hr, hk⟩)
    · exact .inr (.inr ⟨x, (mem_delR (mem_delR hx).1).1, hk⟩)

set_option maxRecDepth 100000 in
theorem rename1 (r : FRec) (bd bn bt : Nat) (nm to : List UInt8) (w : World) (h : DiskL w d mb off armed left L) (hd : Blk w bd 44 #[ptrV d]) (hn : Blk w bn 9 #[strV nm]) (ht : Blk w bt 9 #[strV to]) (hm : nm.length ≤ maxLen) (hto : to.length ≤ maxLen) (hL : L.length < maxLen) :
    Calls Try.prog 69 #[ptrV r.fb, ptrV bd, ptrV bn, ptrV bt] w fun e w' => e = .returned (.tuple #[]) ∧ w'.ownsMap Try.prog 9 fileR mb (L.length + 1) (mapD (insR { r with nm := to } (delR to (delR nm L)))) ∧ Upd (fun k => k = mb) w w' := by
  have c0 : w.cell? ⟨bd, 0, none⟩ = some (ptrV d) := hd.cell 0
  have c1 : w.cell? ⟨bn, 0, none⟩ = some (strV nm) := hn.cell 0
  have c2 : w.cell? ⟨d, 0, none⟩ = some (.map (some mb)) := h.head.cell 0
  have hM := Lib.hid h.files
  have hkey := Lib.hid (keyOf_strV hm)
  have hkey2 := Lib.hid (keyOf_strV hto)
  have hLm := Lib.hid hL
  have B0 := Lib.hid hd
  have B1 := Lib.hid ht
  have B2 := Lib.hid h.head
  clear h hd hn ht hm hto hL
  go_enter Try.func69, Try.ntmps69
  go_wp2
  go_still_tail 5, (by kernel_rfl)
  change wpList _ _ _ _ _ w.drew
  refine wpList_delete_own _ rfl _ _ 75 9 rfl 104 keyed Try.underlying75 fileR mb L.length (mapD L) rfl hM.out.drew (strV nm) (.string nm) rfl hkey.out ?_
  intro w1 hm1 hg1
  have hu : Upd (fun k => k = mb) w w1 := ((Upd.refl (fun k => k = mb) w).drew).trans (Upd.of_grown (F := fun k => k = mb) hg1.grown (fun k e => .inl (by injection e with e; exact e.symm))) (fun _ _ h => h)
  have d0 : w1.cell? ⟨bd, 0, none⟩ = some (ptrV d) := (hu.blk B0.out (fun e => ownsMap_ne_blk hM.out B0.out e.symm)).cell 0
  have d1 : w1.cell? ⟨bt, 0, none⟩ = some (strV to) := (hu.blk B1.out (fun e => ownsMap_ne_blk hM.out B1.out e.symm)).cell 0
  have d2 : w1.cell? ⟨d, 0, none⟩ = some (.map (some mb)) := (hu.blk B2.out (fun e => ownsMap_ne_blk hM.out B2.out e.symm)).cell 0
  have hm2 := Lib.hid hm1
  have hg2 := Lib.hid hu
  clear hm1 hg1 hu c0 c1 c2
  go_wp2
  go_still_tail 6, (by kernel_rfl)
  change wpList _ _ _ _ _ w1.drew
  refine wpList_mapUpdate_own _ rfl _ _ _ 75 rfl 9 104 keyed Try.underlying75 fileR mb L.length _ rfl hm2.out.drew hLm.out (strV to) (ptrV r.fb) (.string to) rfl rfl hkey2.out (.lit (.int .i64 r.fb)) [] rfl ?_
  intro w2 hm3 hg3
  have hm4 := Lib.hid hm3
  have hg4 := Lib.hid hg3
  clear hm3 hg3
  go_wp2
  go_end0
  refine ⟨rfl, ?_, (hg2.out.drew).trans (Upd.of_grown (F := fun k => k = mb) hg4.out (fun k e => .inl (by injection e with e; exact e.symm))) (fun _ _ h => h)⟩
  have := hm4.out
  rw [del_mapD] at this
  have e1 := put_mapD (delR nm L) { r with nm := to }
  simp only at e1
  rwa [e1] at this
end
end

section
open Go.RowKit Go.Maps

section
variable {w : World} {d mb : Nat} {off armed : Bool} {left : Nat} {L : List FRec}

end
end

section
open Go.RowKit Go.Maps

def absR (r : FRec) : List UInt8 × FSt := (r.nm, ⟨r.c, r.dur⟩)
def absL (L : List FRec) : FS := L.map absR

/-- The disk at block d is in the state s; its blocks are those of F. -/
def DiskAt (w : World) (d : Nat) (s : DSt) (F : Nat → Prop) : Prop := ∃ mb L, DiskL w d mb s.off s.armed s.left L ∧ s.fs = absL L ∧ F = foot d mb L

/-- The disk has gone over to the state s; nothing else that was there has turned. -/
def DiskStep (w : World) (d : Nat) (s : DSt) (F : Nat → Prop) (w' : World) : Prop := ∃ F', DiskAt w' d s F' ∧ Upd F w w' ∧ ∀ k, F' k → F k ∨ w.heap.size ≤ k

theorem getF_absL (L : List FRec) (nm : List UInt8) : getF (absL L) nm = (L.find? (fun r => r.nm == nm)).map (fun r => ⟨r.c, r.dur⟩) := by
  unfold getF absL
  rw [List.find?_map]
  simp only [Function.comp_def, absR, Option.map_map]

theorem absL_insR (r : FRec) (L : List FRec) : absL (insR r L) = insF (absR r) (absL L) := by
  induction L with
  | nil => rfl
  | cons y l ih =>
    simp only [absL, List.map_cons, insR, insF] at ih ⊢
    show List.map absR (if bytesBefore r.nm y.nm = true then r :: y :: l else y :: insR r l) = if bytesBefore r.nm y.nm = true then _ else _
    split
    · rfl
    · simp [ih]
theorem absL_delR (nm : List UInt8) (L : List FRec) : absL (delR nm L) = delF nm (absL L) := by
  unfold absL delR delF
  rw [List.filter_map]
  rfl
theorem absL_setR {w : World} {d mb : Nat} {off armed : Bool} {left : Nat} {L : List FRec} (h : DiskL w d mb off armed left L) {r r' : FRec} (hr : r ∈ L) (hnm : r'.nm = r.nm) (hfb : r'.fb = r.fb) :
    absL (setR r' L) = setF r.nm ⟨r'.c, r'.dur⟩ (absL L) := by
  unfold absL setR setF
  rw [List.map_map, List.map_map]
  refine List.map_congr_left (fun x hx => ?_)
  simp only [Function.comp]
  by_cases he : x.fb = r'.fb
  · have := h.same_of_fb hx hr (he.trans hfb)
    subst this
    rw [if_pos he]
    simp [absR, hnm]
  · have hne : x.nm ≠ r.nm := fun e => he ((h.same_of_nm hx hr e) ▸ hfb.symm)
    rw [if_neg he]
    simp [absR, hne]

theorem setF_insF (nm : List UInt8) (f g : FSt) (fs : FS) (h : getF fs nm = none) : setF nm g (insF (nm, f) fs) = insF (nm, g) fs := by
  have hne : ∀ p ∈ fs, (p.1 == nm) = false := by
    intro p hp
    unfold getF at h
    rw [Option.map_eq_none_iff, List.find?_eq_none] at h
    simpa using h p hp
  clear h
  have hs : ∀ l : FS, (∀ p ∈ l, (p.1 == nm) = false) → setF nm g l = l := by
    intro l hl
    induction l with
    | nil => rfl
    | cons y l ih =>
      have := ih (fun p hp => hl p (by simp [hp]))
      simp only [setF, List.map_cons] at this ⊢
      rw [this, hl y (by simp)]
      rfl
  induction fs with
  | nil => simp [insF, setF]
  | cons y l ih =>
    simp only [insF]
    split
    · have := hs (y :: l) hne
      simp only [setF, List.map_cons] at this ⊢
      rw [this]
      simp
    · have := ih (fun p hp => hne p (by simp [hp]))
      simp only [setF, List.map_cons] at this ⊢
      rw [this, hne y (by simp)]
      rfl

section
variable {w : World} {d : Nat} {s : DSt} {F : Nat → Prop}

theorem DiskAt.upd (h : DiskAt w d s F) {G : Nat → Prop} {w' : World} (hu : Upd G w w') (hF : ∀ k, F k → ¬ G k) : DiskAt w' d s F := by
  obtain ⟨mb, L, h1, h2, rfl⟩ := h
  exact ⟨mb, L, h1.upd hu hF, h2, rfl⟩
theorem DiskAt.lt (h : DiskAt w d s F) {k : Nat} (hk : F k) : k < w.heap.size := by
  obtain ⟨mb, L, h1, h2, rfl⟩ := h
  exact h1.foot_lt hk
theorem DiskStep.refl (h : DiskAt w d s F) : DiskStep w d s F w := ⟨F, h, Upd.refl _ _, fun _ h => .inl h⟩
theorem DiskStep.trans {w1 w2 : World} {s1 s2 : DSt} (h : DiskStep w d s1 F w1) (h2 : ∀ F1, DiskAt w1 d s1 F1 → DiskStep w1 d s2 F1 w2) : DiskStep w d s2 F w2 := by
  obtain ⟨F1, a, b, c⟩ := h
  obtain ⟨F2, a2, b2, c2⟩ := h2 F1 a
  refine ⟨F2, a2, b.trans b2 (fun k hk f => (c k f).resolve_right (by omega)), fun k hk => ?_⟩
  rcases c2 k hk with e | e
  · exact c k e
  · exact .inr (Nat.le_trans b.size e)

/-- What a function of the disk returns, a number of an error, and what it leaves. -/
def ErrPost (w : World) (d : Nat) (F : Nat → Prop) (r : Int × DSt) (e : Ending) (w' : World) : Prop := e = retE r.1 ∧ DiskStep w d r.2 F w'

theorem append_spec (h : DiskAt w d s F) (nm : List UInt8) (hm : nm.length ≤ maxLen) (v : Value) (b : List UInt8) (hb : RdB F w v b) (hl : ((getF s.fs nm).getD ⟨[], 0⟩).c.length + b.length ≤ 1099511627776) (hL : s.fs.length < maxLen) :
    Calls Try.prog 44 #[ptrV d, strV nm, v] w (ErrPost w d F (sAppend s nm b)) := by
  obtain ⟨fs, off, armed, left⟩ := s
  obtain ⟨mb, L, h1, h2, rfl⟩ := h
  simp only at h1 h2 hl hL
  subst h2
  cases nm with
  | nil =>
    refine (append_arg d v w).mono ?_
    rintro e w' ⟨rfl, rfl⟩
    exact ⟨by simp [sAppend], DiskStep.refl ⟨mb, L, by simpa [sAppend] using h1, by simp [sAppend], rfl⟩⟩
  | cons c0 nm0 =>
    generalize hq : c0 :: nm0 = nm at *
    have hne : nm ≠ [] := by rw [← hq]; simp
    have hn : nm.isEmpty = false := by rw [← hq]; rfl
    clear hq
    cases off with
    | true =>
      refine (append_off h1 nm hn v).mono ?_
      rintro e w' ⟨rfl, rfl⟩
      exact ⟨by simp [sAppend, hne], DiskStep.refl ⟨mb, L, by simpa [sAppend, hne] using h1, by simp [sAppend, hne], rfl⟩⟩
    | false =>
      rw [getF_absL] at hl
      cases hf : L.find? (fun r => r.nm == nm) with
      | some r =>
        have hr : r ∈ L := List.mem_of_find?_eq_some hf
        have hrn : r.nm = nm := by have := List.find?_some hf; simpa using this
        rw [hf] at hl
        refine (append_yes h1 nm hn hm r hf v b hb.now (by simpa using hl)).mono ?_
        rintro e w' ⟨rfl, r', a1, a2, a3, a4, a5, a6, a7⟩
        have e1 : sAppend ⟨absL L, false, armed, left⟩ nm b = (codeW armed left, ⟨absL (setR r' L), !wrB armed left, armed, wrL armed left⟩) := by
          rw [absL_setR h1 hr a1 a2, hrn, a3, a4]
          simp [sAppend, hne, getF_absL, hf, withFile, wrS, codeW]
        rw [ErrPost, e1]
        exact ⟨rfl, _, ⟨mb, _, a5, rfl, rfl⟩, a6, a7⟩
      | none =>
        rw [hf] at hl
        refine (append_new h1 nm hn hm hf v b hb (by simpa using hl) (by simpa [absL] using hL)).mono ?_
        rintro e w' ⟨rfl, r', a1, a3, a4, a5, a6, a7⟩
        have e1 : sAppend ⟨absL L, false, armed, left⟩ nm b = (codeW armed left, ⟨absL (insR r' L), !wrB armed left, armed, wrL armed left⟩) := by
          have hg : getF (absL L) nm = none := by rw [getF_absL, hf]; rfl
          rw [absL_insR, absR, a1, a3, a4]
          simp [sAppend, hne, hg, withFile, wrS, codeW, setF_insF]
        rw [ErrPost, e1]
        exact ⟨rfl, _, ⟨mb, _, a5, rfl, rfl⟩, a6, a7⟩

/-- change: what goes wrong, and what is left to the closure. -/
theorem change_spec (h : DiskAt w d s F) (nm : List UInt8) (hm : nm.length ≤ maxLen) (g : FuncId) (caps : Array Value) (gs : FS → FSt → FS)
    (hg : ∀ (fb : Nat) (W : World), (callFunc g (#[ptrV fb] ++ caps)).run Try.prog W = .ok (.enter g (#[ptrV fb] ++ caps)) W)
    (hdo : ∀ mb L (r : FRec) w1, DiskL w1 d mb false s.armed (wrL s.armed s.left) L → F = foot d mb L → s.fs = absL L → r ∈ L → r.nm = nm → Upd (fun k => k = d) w w1 →
      Calls Try.prog g (#[ptrV r.fb] ++ caps) w1 fun e w' => e = .returned (.tuple #[]) ∧ DiskStep w d ⟨gs s.fs ⟨r.c, r.dur⟩, false, s.armed, wrL s.armed s.left⟩ F w') :
    Calls Try.prog 64 #[ptrV d, strV nm, .func (.func g) #[] caps] w (ErrPost w d F (sChange s nm gs)) := by
  obtain ⟨fs, off, armed, left⟩ := s
  obtain ⟨mb, L, h1, h2, rfl⟩ := h
  simp only at h1 h2 hdo
  subst h2
  cases nm with
  | nil =>
    refine (change_arg d _ w).mono ?_
    rintro e w' ⟨rfl, rfl⟩
    exact ⟨by simp [sChange], DiskStep.refl ⟨mb, L, by simpa [sChange] using h1, by simp [sChange], rfl⟩⟩
  | cons c0 nm0 =>
    generalize hq : c0 :: nm0 = nm at *
    have hne : nm ≠ [] := by rw [← hq]; simp
    have hn : nm.isEmpty = false := by rw [← hq]; rfl
    clear hq
    cases off with
    | true =>
      refine (change_off h1 nm hn _).mono ?_
      rintro e w' ⟨rfl, rfl⟩
      exact ⟨by simp [sChange, hne], DiskStep.refl ⟨mb, L, by simpa [sChange, hne] using h1, by simp [sChange, hne], rfl⟩⟩
    | false =>
      cases hf : L.find? (fun r => r.nm == nm) with
      | none =>
        have hg : getF (absL L) nm = none := by rw [getF_absL, hf]; rfl
        refine (change_no h1 nm hn hm hf _).mono ?_
        rintro e w' ⟨rfl, rfl⟩
        exact ⟨by simp [sChange, hne, hg], DiskStep.refl ⟨mb, L, by simpa [sChange, hne, hg] using h1, by simp [sChange, hne, hg], rfl⟩⟩
      | some r =>
        have hr : r ∈ L := List.mem_of_find?_eq_some hf
        have hrn : r.nm = nm := by have := List.find?_some hf; simpa using this
        have hgf : getF (absL L) nm = some ⟨r.c, r.dur⟩ := by rw [getF_absL, hf]; rfl
        cases hwb : wrB armed left with
        | false =>
          refine (change_out h1 nm hn hm r hf _ hwb).mono ?_
          rintro e w' ⟨rfl, a1, a2⟩
          have e1 : sChange ⟨absL L, false, armed, left⟩ nm gs = (103, ⟨absL L, true, armed, wrL armed left⟩) := by simp [sChange, hne, hgf, hwb, wrS]
          rw [ErrPost, e1]
          exact ⟨rfl, _, ⟨mb, L, a1, rfl, rfl⟩, a2.mono (fun k _ e => .inl e), fun k hk => .inl hk⟩
        | true =>
          have e1 : sChange ⟨absL L, false, armed, left⟩ nm gs = (0, ⟨gs (absL L) ⟨r.c, r.dur⟩, false, armed, wrL armed left⟩) := by simp [sChange, hne, hgf, hwb, wrS]
          refine (change_yes h1 nm hn hm r hf hwb g caps (DiskStep w d ⟨gs (absL L) ⟨r.c, r.dur⟩, false, armed, wrL armed left⟩ (foot d mb L)) (hg r.fb) (fun w1 hd hu => hdo mb L r w1 hd rfl rfl hr hrn hu)).mono ?_
          rintro e w' ⟨rfl, hQ⟩
          rw [ErrPost, e1]
          exact ⟨rfl, hQ⟩
end
end

section
open Go.RowKit Go.Maps

theorem call_sync1 (fb : Nat) (W : World) : (callFunc 68 (#[ptrV fb] ++ #[])).run Try.prog W = .ok (.enter 68 (#[ptrV fb] ++ #[])) W := by kernel_rfl
theorem call_remove1 (a b fb : Nat) (W : World) : (callFunc 65 (#[ptrV fb] ++ #[ptrV a, ptrV b])).run Try.prog W = .ok (.enter 65 (#[ptrV fb] ++ #[ptrV a, ptrV b])) W := by kernel_rfl
theorem call_rename1 (a b c fb : Nat) (W : World) : (callFunc 69 (#[ptrV fb] ++ #[ptrV a, ptrV b, ptrV c])).run Try.prog W = .ok (.enter 69 (#[ptrV fb] ++ #[ptrV a, ptrV b, ptrV c])) W := by kernel_rfl

section
variable {w : World} {d mb : Nat} {s : DSt} {F : Nat → Prop} {L : List FRec} {off armed : Bool} {left : Nat}

theorem TurnPost.step {w0 w w' : World} {r : FRec} {c' : List UInt8} {dur' : Nat} (h : DiskL w d mb off armed left L) (hr : r ∈ L) (ht : TurnPost w d mb off armed left L r c' dur' w') (hu : Upd (fun k => k = d) w0 w) :
    DiskStep w0 d ⟨setF r.nm ⟨c', dur'⟩ (absL L), off, armed, left⟩ (foot d mb L) w' := by
  obtain ⟨r', h1, h2, h3, h4, h5, h6, h7⟩ := ht.after hu
  refine ⟨_, ⟨mb, _, h5, ?_, rfl⟩, h6, h7⟩
  rw [absL_setR h hr h1 h2, h3, h4]

theorem sync_spec (h : DiskAt w d s F) (nm : List UInt8) (hm : nm.length ≤ maxLen) : Calls Try.prog 45 #[ptrV d, strV nm] w (ErrPost w d F (sSync s nm)) := by
  have C : Calls Try.prog 64 #[ptrV d, strV nm, .func (.func 68) #[] #[]] w (ErrPost w d F (sSync s nm)) := by
    refine change_spec h nm hm 68 #[] _ call_sync1 ?_
    rintro mb L r w1 hd rfl hs hr rfl hu
    refine (sync_turn hd hr).mono ?_
    rintro e w' ⟨rfl, ht⟩
    rw [hs]
    exact ⟨rfl, ht.step hd hr hu⟩
  have H := Lib.hid C
  clear C h hm
  go_enter Try.func45, Try.ntmps45
  go_wp2_with (go_at_call 64; refine H.out.mono ?_; rintro e w' ⟨rfl, hs⟩)
  go_ret
  exact ⟨rfl, hs⟩

/-- A step of the disk behind a few new blocks. -/
theorem DiskStep.after {w0 w1 w' : World} (hu : Upd NoF w0 w1) (h : DiskStep w1 d s F w') : DiskStep w0 d s F w' := by
  obtain ⟨F', a, b, c⟩ := h
  refine ⟨F', a, (hu.mono (fun k _ e => e.elim)).trans b (fun _ _ h => h), fun k hk => ?_⟩
  rcases c k hk with e | e
  · exact .inl e
  · exact .inr (Nat.le_trans hu.size e)

theorem DiskAt.alloc (h : DiskAt w d s F) (o : Obj) : DiskAt (w.alloc o) d s F := h.upd ((Upd.refl NoF w).alloc o) (fun _ _ h => h)


theorem remove_spec (h : DiskAt w d s F) (nm : List UInt8) (hm : nm.length ≤ maxLen) : Calls Try.prog 43 #[ptrV d, strV nm] w (ErrPost w d F (sRemove s nm)) := by
  have hlt : ∀ {k}, F k → k < w.heap.size := fun hk => h.lt hk
  have C : Calls Try.prog 64 #[ptrV d, strV nm, .func (.func 65) #[] #[ptrV w.heap.size, ptrV (w.heap.size + 1)]] ((w.alloc (.cells #[ptrV d] 44)).alloc (.cells #[strV nm] 9))
      (ErrPost ((w.alloc (.cells #[ptrV d] 44)).alloc (.cells #[strV nm] 9)) d F (sRemove s nm)) := by
    refine change_spec ((h.alloc _).alloc _) nm hm 65 _ _ (call_remove1 _ _) ?_
    rintro mb L r w1 hd rfl hs hr rfl hu
    have hdl := hlt (.inl rfl : foot d mb L d)
    have hb : Blk w1 w.heap.size 44 #[ptrV d] := hu.blk ((Blk.new w _ _).alloc _) (fun e => by omega)
    have hb2 : Blk w1 (w.heap.size + 1) 9 #[strV r.nm] := hu.blk (by simpa using Blk.new (w.alloc (.cells #[ptrV d] 44)) 9 #[strV r.nm]) (fun e => by omega)
    refine (remove1 (ptrV r.fb) _ _ r.nm w1 hd hb hb2 hm).mono ?_
    rintro e w' ⟨rfl, ht, hu2⟩
    rw [hs]
    refine ⟨rfl, _, ⟨mb, _, hd.drop r.nm hu2 ht, (absL_delR _ _).symm, rfl⟩, ?_, fun k hk => .inl (foot_delR r.nm hk)⟩
    exact (hu.mono (fun k _ e => .inl e)).trans hu2 (fun k _ e => .inr (.inl e))
  have H := Lib.hid C
  clear C h hm hlt
  go_enter Try.func43, Try.ntmps43
  go_wp2_with (go_at_call 64; refine H.out.mono ?_; rintro e w' ⟨rfl, hs⟩)
  go_ret
  exact ⟨rfl, hs.after (((Upd.refl NoF w).alloc _).alloc _)⟩

theorem rename_spec (h : DiskAt w d s F) (nm to : List UInt8) (hm : nm.length ≤ maxLen) (hto : to.length ≤ maxLen) (hL : s.fs.length < maxLen) : Calls Try.prog 46 #[ptrV d, strV nm, strV to] w (ErrPost w d F (sRename s nm to)) := by
  have hlt : ∀ {k}, F k → k < w.heap.size := fun hk => h.lt hk
  cases hne : to.isEmpty with
  | true =>
    have ht : to = [] := by simpa using hne
    subst ht
    have D := Lib.hid h
    clear h hlt
    go_enter Try.func46, Try.ntmps46
    go_wp2
    go_ret
    exact ⟨rfl, (DiskStep.refl (((D.out.alloc _).alloc _).alloc _)).after ((((Upd.refl NoF w).alloc _).alloc _).alloc _)⟩
  | false =>
    have hto' : to ≠ [] := by intro e; rw [e] at hne; cases hne
    have C : Calls Try.prog 64 #[ptrV d, strV nm, .func (.func 69) #[] #[ptrV w.heap.size, ptrV (w.heap.size + 1), ptrV (w.heap.size + 1 + 1)]] (((w.alloc (.cells #[ptrV d] 44)).alloc (.cells #[strV nm] 9)).alloc (.cells #[strV to] 9))
        (ErrPost (((w.alloc (.cells #[ptrV d] 44)).alloc (.cells #[strV nm] 9)).alloc (.cells #[strV to] 9)) d F (sRename s nm to)) := by
      unfold sRename
      rw [if_neg hto']
      refine change_spec (((h.alloc _).alloc _).alloc _) nm hm 69 _ _ (call_rename1 _ _ _) ?_
      rintro mb L r w1 hd rfl hs hr rfl hu
      have hdl := hlt (.inl rfl : foot d mb L d)
      have hb : Blk w1 w.heap.size 44 #[ptrV d] := hu.blk (((Blk.new w _ _).alloc _).alloc _) (fun e => by omega)
      have hb2 : Blk w1 (w.heap.size + 1) 9 #[strV r.nm] := hu.blk (Blk.alloc (by simpa using Blk.new (w.alloc (.cells #[ptrV d] 44)) 9 #[strV r.nm]) _) (fun e => by omega)
      have hb3 : Blk w1 (w.heap.size + 1 + 1) 9 #[strV to] := hu.blk (by simpa using Blk.new ((w.alloc (.cells #[ptrV d] 44)).alloc (.cells #[strV r.nm] 9)) 9 #[strV to]) (fun e => by omega)
      refine (rename1 r _ _ _ r.nm to w1 hd hb hb2 hb3 hm hto (by rw [hs] at hL; simpa [absL] using hL)).mono ?_
      rintro e w' ⟨rfl, ht, hu2⟩
      rw [hs]
      refine ⟨rfl, _, ⟨mb, _, hd.move hr to hto hu2 ht, ?_, rfl⟩, ?_, fun k hk => .inl (foot_move hr to hk)⟩
      · rw [absL_insR, absL_delR, absL_delR]; rfl
      · exact (hu.mono (fun k _ e => .inl e)).trans hu2 (fun k _ e => .inr (.inl e))
    have H := Lib.hid C
    clear C h hm hlt hto' hto hL
    go_enter Try.func46, Try.ntmps46
    go_wp2_with (go_at_call 64; refine H.out.mono ?_; rintro e w' ⟨rfl, hs⟩)
    go_ret
    exact ⟨rfl, hs.after ((((Upd.refl NoF w).alloc _).alloc _).alloc _)⟩

theorem new_spec (w : World) : Calls Try.prog 12 #[] w fun e w' => e = .returned (ptrV (w.heap.size + 1)) ∧ DiskStep w (w.heap.size + 1) sNew NoF w' := by
  refine (new_any w).mono ?_
  rintro e w' ⟨rfl, h1, h2⟩
  refine ⟨rfl, _, ⟨w.heap.size, [], h1, rfl, rfl⟩, h2, ?_⟩
  rintro k (rfl | rfl | ⟨r, hr, _⟩)
  · exact .inr (by omega)
  · exact .inr (Nat.le_refl _)
  · cases hr

/-- What Read returns: new memory. -/
def BytesErr (w : World) (r : List UInt8 × Int) (e : Ending) (w' : World) : Prop := ∃ A c, e = retPE (.slice A r.1.length c) r.2 ∧ NewB w r.1 (.slice A r.1.length c) w'

theorem NewB.nil (w : World) : NewB w [] (.slice none 0 0) w := ⟨Own.nil _ _ _, fun k hk => by simp [OwnB, Value.ownBlock] at hk, Upd.refl _ _⟩

theorem read_spec (h : DiskAt w d s F) (nm : List UInt8) (hm : nm.length ≤ maxLen) : Calls Try.prog 47 #[ptrV d, strV nm] w (BytesErr w (sRead s nm)) := by
  obtain ⟨fs, off, armed, left⟩ := s
  obtain ⟨mb, L, h1, h2, rfl⟩ := h
  simp only at h1 h2
  subst h2
  cases nm with
  | nil =>
    refine (read_arg d w).mono ?_
    rintro e w' ⟨rfl, rfl⟩
    exact ⟨none, 0, by simp [sRead], by simpa [sRead] using NewB.nil w⟩
  | cons c0 nm0 =>
    generalize hq : c0 :: nm0 = nm at *
    have hne : nm ≠ [] := by rw [← hq]; simp
    have hn : nm.isEmpty = false := by rw [← hq]; rfl
    clear hq
    cases off with
    | true =>
      refine (read_off h1 nm hn).mono ?_
      rintro e w' ⟨rfl, rfl⟩
      exact ⟨none, 0, by simp [sRead, hne], by simpa [sRead, hne] using NewB.nil w⟩
    | false =>
      cases hf : L.find? (fun r => r.nm == nm) with
      | none =>
        have hg : getF (absL L) nm = none := by rw [getF_absL, hf]; rfl
        refine (read_no h1 nm hn hm hf).mono ?_
        rintro e w' ⟨rfl, rfl⟩
        exact ⟨none, 0, by simp [sRead, hne, hg], by simpa [sRead, hne, hg] using NewB.nil w⟩
      | some r =>
        have hg : getF (absL L) nm = some ⟨r.c, r.dur⟩ := by rw [getF_absL, hf]; rfl
        refine (read_yes h1 nm hn hm r hf).mono ?_
        rintro e w' ⟨A, c, rfl, hnew⟩
        exact ⟨A, c, by simp [sRead, hne, hg], by simpa [sRead, hne, hg] using hnew⟩
end
end

section
open Go.RowKit Go.Maps

/-- A new slice of strings. -/
def NewS (w : World) (ss : List (List UInt8)) (v : Value) (w' : World) : Prop :=
  Own w' 9 1 v ss.length (ss.map strV) ∧ (∀ k, OwnB v k → w.heap.size ≤ k) ∧ Upd NoF w w'
def StrsPost (w : World) (ss : List (List UInt8)) (e : Ending) (w' : World) : Prop := ∃ A c, e = .returned (.slice A ss.length c) ∧ NewS w ss (.slice A ss.length c) w'

section
variable {w : World} {d mb : Nat} {s : DSt} {F : Nat → Prop} {L : List FRec} {off armed : Bool} {left : Nat}

end
end

section
open Go

def crashRun : List Int → FS → Nat → FS × List Int
  | ps, fs, 0 => (fs, ps)
  | ps, [], _ + 1 => ([], ps)
  | ps, (nm, f) :: l, i + 1 => ((nm, (crashF ps f).1) :: (crashRun (crashF ps f).2 l i).1, (crashRun (crashF ps f).2 l i).2)
end

section
open Go.RowKit Go.Maps

section
variable {w : World} {d mb : Nat} {L : List FRec} {off armed : Bool} {left : Nat}

theorem DiskL.find (h : DiskL w d mb off armed left L) {r : FRec} (hr : r ∈ L) : L.find? (fun x => x.nm == r.nm) = some r := by
  cases hf : L.find? (fun x => x.nm == r.nm) with
  | none => exact absurd (List.find?_eq_none.1 hf r hr) (by simp)
  | some x => exact congrArg some (h.same_of_nm (List.mem_of_find?_eq_some hf) hr (by simpa using List.find?_some hf))

end
end

section
open Go.RowKit Go.Maps

def CrashPost (w : World) (d mb : Nat) (L : List FRec) (picks : List Int) (e : Ending) (w' : World) : Prop :=
  e = .returned (.tuple #[]) ∧ ∃ L', DiskL w' d mb false false 0 L' ∧ absL L' = crashL picks (absL L) ∧ Upd (foot d mb L) w w' ∧ ∀ k, foot d mb L' k → foot d mb L k

section
variable {w0 wr : World} {d mb cb : Nat} {L L' : List FRec} {picks : List Int} {k : Nat}

end
end

section
open Go.RowKit Go.Maps

/-- 'string(b)'. -/
theorem run_str {w : World} {v : Value} {bs : List UInt8} (h : Rd w 1 v bs.length (bs.map byteV)) : (convert 36 9 v).run Try.prog w = .ok (strV bs) w := by
  obtain ⟨A, c, rfl, hn, hc, hl, hA⟩ := h
  cases bs with
  | nil =>
    have := run_convert_bytes_zero (P := Try.prog) w 36 5 Try.underlying36 Try.underlying5 A c 9 Try.underlying9
    rw [List.length_nil, this]
    rfl
  | cons b l =>
    obtain ⟨g, o, rfl, hcell⟩ := hA (by simp)
    refine run_convert_bytes_back (P := Try.prog) w 36 9 5 ⟨g, o, none⟩ c (b :: l) Try.underlying36 Try.underlying5 Try.underlying9 ?_
    intro j hj
    have hadd : (⟨g, o, none⟩ : Addr).add j = ⟨g, o + j, none⟩ := by unfold Addr.add; split <;> simp_all
    rw [hadd]
    exact hcell j _ (by simp only [List.getElem?_map]; rw [List.getElem?_eq_getElem hj]; rfl)

theorem DiskAt.fresh {w : World} {d : Nat} {s : DSt} {F : Nat → Prop} (h : DiskAt w d s F) : ¬ F w.heap.size := fun hk => by have := h.lt hk; omega

/-! ### a disk since the world w0, when its blocks were those of F0 -/
def Dk (w0 : World) (F0 : Nat → Prop) (d : Nat) (s : DSt) (w : World) : Prop := DiskStep w0 d s F0 w

section
variable {w0 w w' : World} {F0 : Nat → Prop} {d : Nat} {s : DSt}
theorem Dk.upd (h : Dk w0 F0 d s w) (hu : Upd NoF w w') : Dk w0 F0 d s w' := by
  obtain ⟨F, a, b, c⟩ := h
  exact ⟨F, a.upd hu (fun _ _ h => h), b.trans hu (fun _ _ h => h.elim), c⟩
theorem Dk.alloc (h : Dk w0 F0 d s w) (o : Obj) : Dk w0 F0 d s (w.alloc o) := h.upd ((Upd.refl NoF w).alloc o)
theorem Dk.drewN (h : Dk w0 F0 d s w) (n : Nat) : Dk w0 F0 d s (w.drewN n) := h.upd ((Upd.refl NoF w).drewN n)
theorem Dk.out (h : Dk w0 F0 d s w) : Upd F0 w0 w := by obtain ⟨F, a, b, c⟩ := h; exact b
theorem Dk.size (h : Dk w0 F0 d s w) : w0.heap.size ≤ w.heap.size := h.out.size
theorem Dk.lt (h : Dk w0 F0 d s w) : d < w.heap.size := by
  obtain ⟨F, ⟨mb, L, h1, h2, rfl⟩, b, c⟩ := h
  exact h1.head.lt
/-- The state as it is now, its blocks named. -/
theorem Dk.now (h : Dk w0 F0 d s w) : ∃ F, DiskAt w d s F ∧ (∀ k, F k → (F0 k ∨ w0.heap.size ≤ k) ∧ k < w.heap.size) := by
  obtain ⟨F, a, b, c⟩ := h
  exact ⟨F, a, fun k hk => ⟨c k hk, a.lt hk⟩⟩
theorem DiskAt.dk {F : Nat → Prop} (h : DiskAt w d s F) : Dk w F d s w := DiskStep.refl h
theorem Dk.upd' (h : Dk w0 F0 d s w) {G : Nat → Prop} (hu : Upd G w w') (hG : ∀ k, (F0 k ∨ w0.heap.size ≤ k) → k < w.heap.size → ¬ G k) (hG0 : ∀ k, k < w0.heap.size → G k → F0 k) : Dk w0 F0 d s w' := by
  obtain ⟨F, a, b, c⟩ := h
  exact ⟨F, a.upd hu (fun k hk => hG k (c k hk) (a.lt hk)), b.trans hu hG0, c⟩

def ErrDk (w0 : World) (F0 : Nat → Prop) (d : Nat) (r : Int × DSt) (e : Ending) (w' : World) : Prop := e = retE r.1 ∧ Dk w0 F0 d r.2 w'

theorem ErrPost.dk {F : Nat → Prop} {r : Int × DSt} {e : Ending} (hF : ∀ k, F k → F0 k ∨ w0.heap.size ≤ k) (hb : Upd F0 w0 w) (h : ErrPost w d F r e w') : ErrDk w0 F0 d r e w' := by
  obtain ⟨he, F2, a2, b2, c2⟩ := h
  refine ⟨he, F2, a2, hb.trans b2 (fun k hk f => (hF k f).resolve_right (by omega)), fun k hk => ?_⟩
  rcases c2 k hk with e | e
  · exact hF k e
  · exact .inr (Nat.le_trans hb.size e)

theorem append_dk (h : Dk w0 F0 d s w) {w1 : World} (hu : Upd NoF w w1) (nm : List UInt8) (hm : nm.length ≤ maxLen) (v : Value) (b : List UInt8) (hb : ∀ F : Nat → Prop, (∀ k, F k → (F0 k ∨ w0.heap.size ≤ k) ∧ k < w.heap.size) → RdB F w1 v b)
    (hl : ((getF s.fs nm).getD ⟨[], 0⟩).c.length + b.length ≤ 1099511627776) (hL : s.fs.length < maxLen) : Calls Try.prog 44 #[ptrV d, strV nm, v] w1 (ErrDk w0 F0 d (sAppend s nm b)) := by
  obtain ⟨F, a, b', c⟩ := h
  exact (append_spec (a.upd hu (fun _ _ h => h)) nm hm v b (hb F (fun k hk => ⟨c k hk, a.lt hk⟩)) hl hL).mono fun e w' he => he.dk c (b'.trans hu (fun _ _ h => h.elim))
theorem sync_dk (h : Dk w0 F0 d s w) (nm : List UInt8) (hm : nm.length ≤ maxLen) : Calls Try.prog 45 #[ptrV d, strV nm] w (ErrDk w0 F0 d (sSync s nm)) := by
  obtain ⟨F, a, b', c⟩ := h
  exact (sync_spec a nm hm).mono fun e w' he => he.dk c b'
theorem remove_dk (h : Dk w0 F0 d s w) (nm : List UInt8) (hm : nm.length ≤ maxLen) : Calls Try.prog 43 #[ptrV d, strV nm] w (ErrDk w0 F0 d (sRemove s nm)) := by
  obtain ⟨F, a, b', c⟩ := h
  exact (remove_spec a nm hm).mono fun e w' he => he.dk c b'
end
end

section
open Go.RowKit Go.Maps

/-- A file of the reference disk. -/
structure RRec where
  nm : List UInt8
  cv : Value
  c : List UInt8
  dur : Nat

def cellsR (R : List RRec) : List Value := R.flatMap (fun r => [strV r.nm, r.cv, .int .i64 r.dur])

theorem cellsR_at {R : List RRec} {i : Nat} {r : RRec} (h : R[i]? = some r) : (cellsR R)[i * 3]? = some (strV r.nm) ∧ (cellsR R)[i * 3 + 1]? = some r.cv ∧ (cellsR R)[i * 3 + 2]? = some (.int .i64 r.dur) := by
  induction R generalizing i with
  | nil => cases h
  | cons x R ih =>
    cases i with
    | zero =>
      simp at h
      subst h
      simp [cellsR]
    | succ i =>
      have := ih (i := i) (by simpa using h)
      simp only [cellsR, List.flatMap_cons] at this ⊢
      refine ⟨?_, ?_, ?_⟩
      · rw [show (i + 1) * 3 = 3 + i * 3 by omega, List.getElem?_append_right (by simp)]; simpa using this.1
      · rw [show (i + 1) * 3 + 1 = 3 + (i * 3 + 1) by omega, List.getElem?_append_right (by simp)]; simpa using this.2.1
      · rw [show (i + 1) * 3 + 2 = 3 + (i * 3 + 2) by omega, List.getElem?_append_right (by simp)]; simpa using this.2.2

def refFoot (m : Nat) (lv : Value) (R : List RRec) : Nat → Prop := fun k => k = m ∨ OwnB lv k ∨ ∃ r ∈ R, OwnB r.cv k

section
variable {w w' : World} {m : Nat} {off armed : Bool} {left : Nat} {lv : Value} {R : List RRec}

def idxR (R : List RRec) (nm : List UInt8) : Int := match R.findIdx? (fun r => r.nm == nm) with | some i => i | none => -1

end
end

section
open Go.RowKit Go.Maps

section
variable {w w' : World} {m : Nat} {off armed : Bool} {left : Nat} {lv : Value} {R : List RRec}

/-- The part of a slice before k, and the part from k on. -/
theorem Rd.upto {size n c k : Nat} {A : Option Addr} {xs : List Value} (h : Rd w size (.slice A n c) n xs) (hk : k ≤ n) : Rd w size (.slice A k c) k (xs.take (k * size)) := by
  obtain ⟨A', c', e, hn, hc, hl, hx⟩ := h
  injection e with e1 _ e3
  subst e1 e3
  refine ⟨A, c, rfl, by omega, hc, ?_, fun h0 => ?_⟩
  · rw [List.length_take, hl]; exact Nat.min_eq_left (Nat.mul_le_mul_right _ hk)
  · obtain ⟨g, o, rfl, hx'⟩ := hx (by omega)
    refine ⟨g, o, rfl, fun j u hu => hx' j u ?_⟩
    rw [List.getElem?_take] at hu
    split at hu
    · exact hu
    · cases hu
theorem Rd.from_ {size n c k g o : Nat} {xs : List Value} (h : Rd w size (.slice (some ⟨g, o, none⟩) n c) n xs) (hk : k ≤ n) (A' : Option Addr) (hA : k < n → A' = some ⟨g, o + k * size, none⟩) : Rd w size (.slice A' (n - k) (c - k)) (n - k) (xs.drop (k * size)) := by
  obtain ⟨A0, c', e, hn, hc, hl, hx⟩ := h
  injection e with e1 _ e3
  subst e1 e3
  refine ⟨A', c - k, rfl, by omega, by omega, ?_, fun h0 => ?_⟩
  · rw [List.length_drop, hl, Nat.sub_mul]
  · obtain ⟨g', o', e, hx'⟩ := hx (by omega)
    injection e with e
    injection e with e1 e2
    subst e1 e2
    refine ⟨g, o + k * size, hA (by omega), fun j u hu => ?_⟩
    rw [Nat.add_assoc]
    exact hx' _ u (by rw [← hu, List.getElem?_drop])

end
end

section
open Go.RowKit

theorem Rd.keep {w w' : World} {size n : Nat} {v : Value} {xs : List Value} (h : Rd w size v n xs) (hu : Upd NoF w w') : Rd w' size v n xs := by
  obtain ⟨A', c', e, h1, h2, h3, hx⟩ := h
  exact ⟨A', c', e, h1, h2, h3, fun h0 => by
    obtain ⟨g, o, e', hc⟩ := hx h0
    exact ⟨g, o, e', fun j u hu' => hu.cell (hc j u hu') (fun h => h)⟩⟩
end
end Go.Proofs.Ytbgificdilpdcaa
