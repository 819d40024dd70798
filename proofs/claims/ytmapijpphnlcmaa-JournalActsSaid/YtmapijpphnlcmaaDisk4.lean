/- Append of package disk. Condition: no file grows beyond 2^40 bytes. -/
import Derived.Test.YtmapijpphnlcmaaDisk3
namespace Go.Proofs.Ytmapijpphnlcmaa
open Go.RowKit Go.Maps

abbrev retE (e : Int) : Ending := .returned (.int .i64 e)
def codeW (armed : Bool) (left : Nat) : Int := if wrB armed left then 0 else 103

section
variable {w : World} {d mb : Nat} {off armed : Bool} {left : Nat} {L : List FRec}

theorem append_nil (s : ByteArray) (v : Value) (w : World) : Calls Try.prog 13 #[.pointer none, .string s, v] w fun e w' => e = retE 1 ∧ w = w' := by
  go_enter Try.func13, Try.ntmps13
  go_wp2_with (go_at_call 42; refine (open_nil _ _).mono ?_; rintro e w' ⟨rfl, rfl⟩)
  go_ret
  exact ⟨rfl, rfl⟩
theorem append_arg (d : Nat) (v : Value) (w : World) : Calls Try.prog 13 #[ptrV d, strV [], v] w fun e w' => e = retE 1 ∧ w = w' := by
  go_enter Try.func13, Try.ntmps13
  go_wp2_with (go_at_call 42; refine (open_arg _ _ (.inr ⟨d, rfl⟩)).mono ?_; rintro e w' ⟨rfl, rfl⟩)
  go_ret
  exact ⟨rfl, rfl⟩
theorem append_off (h : DiskL w d mb true armed left L) (nm : List UInt8) (hn : nm.isEmpty = false) (v : Value) : Calls Try.prog 13 #[ptrV d, strV nm, v] w fun e w' => e = retE 103 ∧ w = w' := by
  have H := Lib.hid h
  clear h
  go_enter Try.func13, Try.ntmps13
  go_wp2_with (go_at_call 42; refine (open_off H.out _ hn).mono ?_; rintro e w' ⟨rfl, rfl⟩)
  go_ret
  exact ⟨rfl, rfl⟩

/-- The file r has got new content. -/
def AppPost (w : World) (d mb : Nat) (armed : Bool) (left : Nat) (L : List FRec) (r : FRec) (c' : List UInt8) (e : Ending) (w' : World) : Prop :=
  e = retE (codeW armed left) ∧ ∃ r' : FRec, r'.nm = r.nm ∧ r'.fb = r.fb ∧ r'.c = c' ∧ r'.dur = r.dur ∧ DiskL w' d mb (!wrB armed left) armed (wrL armed left) (setR r' L) ∧ Upd (foot d mb L) w w' ∧
    ∀ k, foot d mb (setR r' L) k → foot d mb L k ∨ w.heap.size ≤ k

theorem app_turn (h : DiskL w d mb off armed left L) {r : FRec} (hr : r ∈ L) {b : List UInt8} (hl : r.c.length + b.length ≤ 1099511627776) {w1 : World} {A : Option Addr} {c : Nat}
    (ho : Own w1 5 1 (.slice A (r.c.length + b.length) c) (r.c.length + b.length) (r.c.map byteV ++ b.map byteV)) (hu : Upd (OwnB r.cv) w w1)
    (hn : ∀ k, OwnB (.slice A (r.c.length + b.length) c) k → OwnB r.cv k ∨ w.heap.size ≤ k) :
    DiskL (w1.setCell ⟨r.fb, 0, none⟩ (.slice A (r.c.length + b.length) c)) d mb off armed left (setR { r with cv := .slice A (r.c.length + b.length) c, c := r.c ++ b } L) ∧
    Upd (fun k => k = r.fb ∨ OwnB r.cv k) w (w1.setCell ⟨r.fb, 0, none⟩ (.slice A (r.c.length + b.length) c)) := by
  have hf := h.file r hr
  have hw := h.own r hr
  have hf1 : Blk w1 r.fb 77 #[r.cv, .int .i64 r.dur] := hu.blk hf (hw.blk_ne hf (by decide))
  have hu1 : Upd (fun k => k = r.fb ∨ OwnB r.cv k) w (w1.setCell ⟨r.fb, 0, none⟩ (.slice A (r.c.length + b.length) c)) := (hu.mono (fun _ _ h => .inr h)).setCell (p := ⟨r.fb, 0, none⟩) (.inl (.inl rfl)) _
  refine ⟨h.turn hr rfl rfl (by have := h.dur r hr; simp; omega) (by simpa using hl) hu1 (hf1.put 0 _) ?_ hn, hu1⟩
  have ho' : Own w1 5 1 (.slice A (r.c.length + b.length) c) (r.c ++ b).length ((r.c ++ b).map byteV) := by simpa using ho
  exact ho'.upd ((Upd.refl (fun k => k = r.fb) w1).setCell (p := ⟨r.fb, 0, none⟩) (.inl rfl) _) (fun k hk => ho'.ne_of hf1 (by decide) hk)

set_option maxRecDepth 100000 in
set_option maxHeartbeats 400000 in
theorem append_yes (h : DiskL w d mb false armed left L) (nm : List UInt8) (hn : nm.isEmpty = false) (hm : nm.length ≤ maxLen) (r : FRec) (hf : L.find? (fun r => r.nm == nm) = some r)
    (v : Value) (b : List UInt8) (hb : Rd w 1 v b.length (b.map byteV)) (hl : r.c.length + b.length ≤ 1099511627776) :
    Calls Try.prog 13 #[ptrV d, strV nm, v] w (AppPost w d mb armed left L r (r.c ++ b)) := by
  have hr : r ∈ L := List.mem_of_find?_eq_some hf
  have ho : Calls Try.prog 42 #[ptrV d, strV nm] w fun e w' => e = retPE (ptrV r.fb) 0 ∧ w = w' := by
    have := open_on h nm hn hm
    unfold atV at this
    rwa [hf] at this
  have O := Lib.hid ho
  have H := Lib.hid h
  have c0 : w.cell? ⟨r.fb, 0, none⟩ = some r.cv := (h.file r hr).cell 0
  have hfile := Lib.hid (h.file r hr)
  obtain ⟨i0, hi, hz0, hz1, hz2⟩ := info_parts byte_info
  have hown := Lib.hid (h.own r hr)
  have hrd := Lib.hid hb
  have hlen := Lib.hid hl
  have hmax := Lib.hid (show r.c.length + b.length ≤ maxLen by unfold maxLen; omega)
  have hmul := Lib.hid (show (r.c.length + b.length) * 1 ≤ 140737488355328 by omega)
  have fin : ∀ (e : Ending) (w' : World) (r' : FRec) (w2 : World), r'.nm = r.nm → r'.fb = r.fb → r'.c = r.c ++ b → r'.dur = r.dur → e = retE (codeW armed left) → Upd (fun k => k = r.fb ∨ OwnB r.cv k) w w2 → (∀ k, OwnB r'.cv k → OwnB r.cv k ∨ w.heap.size ≤ k) →
      DiskL w' d mb (false || !wrB armed left) armed (wrL armed left) (setR r' L) → Upd (fun k => k = d) w2 w' → AppPost w d mb armed left L r (r.c ++ b) e w' := by
    intro e w' r' w2 h1 h2 h3 h4 he hu2 hn2 hd2 hu3
    refine ⟨he, r', h1, h2, h3, h4, by simpa using hd2, ?_, fun k hk => foot_setR hr h2 hn2 hk⟩
    refine (hu2.mono ?_).trans hu3 ?_
    · rintro k _ (rfl | hk)
      · exact .inr (.inr ⟨r, hr, .inl rfl⟩)
      · exact .inr (.inr ⟨r, hr, .inr hk⟩)
    · rintro k _ rfl
      exact .inl rfl
  have FIN := Lib.hid fin
  clear h ho hf hb hm hl fin
  cases hwb : wrB armed left
  all_goals
    go_enter Try.func13, Try.ntmps13
    go_wp2_with (first
      | (go_at_call 42; refine O.out.mono ?_; rintro e w' ⟨rfl, rfl⟩)
      | (at_builtin; refine wpList_append_to _ rfl _ _ 27 rfl 5 i0 (.int .u8 0) 1 1 Try.underlying27 hi hz0 hz1 hz2 rfl r.cv r.c.length _ rfl hown.out v b.length (b.map byteV) rfl hrd.out (bytes_oneCell b) hmax.out hmul.out ?_; intro A c w1 hown1 hupd hnew; have hD := Lib.hid (app_turn H.out hr hlen.out hown1 hupd hnew); have hf1 := hupd.blk hfile.out (hown.out.blk_ne hfile.out (by decide)); have hc1 := hf1.cell 0; have hz1 := hf1.frozen 0; have hN := Lib.hid hnew; clear hf1 hown1 hupd hnew)
      | (go_at_call 43; refine (write_any hD.out.1).mono ?_; rintro e w' ⟨rfl, hd2, hu2⟩; have hD2 := Lib.hid hd2; have hU2 := Lib.hid hu2; clear hd2 hu2))
    go_ret
    exact FIN.out _ _ { r with cv := .slice A (r.c.length + b.length) c, c := r.c ++ b } _ rfl rfl rfl rfl (by simp [codeW, hwb]) hD.out.2 hN.out hD2.out hU2.out
end
end Go.Proofs.Ytmapijpphnlcmaa
