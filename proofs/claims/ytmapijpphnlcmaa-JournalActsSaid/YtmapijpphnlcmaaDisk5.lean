/- Append of package disk to a file that is not there yet. Condition: not more than 2^40 bytes. -/
import Derived.Test.YtmapijpphnlcmaaDisk4
namespace Go.Proofs.Ytmapijpphnlcmaa
open Go.RowKit Go.Maps

theorem setR_insR {r r' : FRec} {L : List FRec} (hnm : r'.nm = r.nm) (hfb : r'.fb = r.fb) (hn : ∀ x ∈ L, x.fb ≠ r.fb) : setR r' (insR r L) = insR r' L := by
  have hs : ∀ l : List FRec, (∀ x ∈ l, x.fb ≠ r.fb) → l.map (fun x => if x.fb = r'.fb then r' else x) = l := by
    intro l hl
    induction l with
    | nil => rfl
    | cons y l ih =>
      simp only [List.map_cons]
      rw [ih (fun x hx => hl x (by simp [hx])), if_neg (by rw [hfb]; exact hl y (by simp))]
  induction L with
  | nil => simp [setR, insR, hfb]
  | cons y l ih =>
    simp only [insR, hnm]
    split
    · simp only [setR, List.map_cons]
      rw [hs l (fun x hx => hn x (by simp [hx]))]
      simp [hfb, hn y (by simp)]
    · have := ih (fun x hx => hn x (by simp [hx]))
      simp only [setR, List.map_cons] at this ⊢
      rw [this, if_neg (by rw [hfb]; exact hn y (by simp))]

section
variable {w : World} {d mb : Nat} {off armed : Bool} {left : Nat} {L : List FRec}

/-- The file nm has come, with its content. -/
def MakePost (w : World) (d mb : Nat) (armed : Bool) (left : Nat) (L : List FRec) (nm c' : List UInt8) (e : Ending) (w' : World) : Prop :=
  e = retE (codeW armed left) ∧ ∃ r' : FRec, r'.nm = nm ∧ r'.c = c' ∧ r'.dur = 0 ∧ DiskL w' d mb (!wrB armed left) armed (wrL armed left) (insR r' L) ∧ Upd (foot d mb L) w w' ∧
    ∀ k, foot d mb (insR r' L) k → foot d mb L k ∨ w.heap.size ≤ k

theorem make_turn (h : DiskL w d mb off armed left L) {nm : List UInt8} (hm : nm.length ≤ maxLen) (hf : L.find? (fun r => r.nm == nm) = none) {w1 : World}
    (hmap : w1.ownsMap Try.prog 9 fileR mb (L.length + 1) ((mapD L).put (.string nm) (.lit (.int .i64 (w.heap.size : Int)))))
    (hg : (w.alloc (.cells #[.slice none 0 0, .int .i64 0] 77)).grownBy w1 (some mb)) :
    DiskL w1 d mb off armed left (insR ⟨nm, w.heap.size, .slice none 0 0, [], 0⟩ L) ∧ Upd (fun k => k = mb) w w1 := by
  have hu : Upd (fun k => k = mb) w w1 := ((Upd.refl (fun k => k = mb) w).alloc _).trans (Upd.of_grown (F := fun k => k = mb) hg (fun k e => .inl (by injection e with e; exact e.symm))) (fun _ _ h => h)
  refine ⟨h.make (r := ⟨nm, w.heap.size, .slice none 0 0, [], 0⟩) hm hf rfl rfl rfl (Nat.le_refl _) hu ?_ ?_, hu⟩
  · refine (hg.block _ (by simp) ?_).trans (Blk.new w _ _)
    intro e
    injection e with e
    have := h.files.lt
    simp only at e
    omega
  · have e1 := put_mapD L ⟨nm, w.heap.size, .slice none 0 0, [], 0⟩
    simp only at e1
    rw [e1, delR_of_none hf] at hmap
    exact hmap

theorem app_turn0 (h : DiskL w d mb off armed left L) {nm : List UInt8} {fb : Nat} (hr : (⟨nm, fb, .slice none 0 0, [], 0⟩ : FRec) ∈ L) {b : List UInt8} (hl : b.length ≤ 1099511627776) {w1 : World} {A : Option Addr} {c : Nat}
    (ho : Own w1 5 1 (.slice A (0 + b.length) c) (0 + b.length) ([] ++ b.map byteV)) (hu : Upd (OwnB (.slice none 0 0)) w w1)
    (hn : ∀ k, OwnB (.slice A (0 + b.length) c) k → OwnB (.slice none 0 0) k ∨ w.heap.size ≤ k) :
    DiskL (w1.setCell ⟨fb, 0, none⟩ (.slice A b.length c)) d mb off armed left (setR ⟨nm, fb, .slice A b.length c, b, 0⟩ L) ∧
    Upd (fun k => k = fb ∨ OwnB (.slice none 0 0) k) w (w1.setCell ⟨fb, 0, none⟩ (.slice A b.length c)) ∧ (∀ k, OwnB (.slice A b.length c) k → OwnB (.slice none 0 0) k ∨ w.heap.size ≤ k) := by
  have := app_turn h hr (b := b) (by simpa using hl) ho hu hn
  simp only [List.length_nil, Nat.zero_add, List.nil_append] at this hn
  exact ⟨this.1, this.2, hn⟩

set_option maxRecDepth 100000 in
set_option maxHeartbeats 1000000 in
theorem append_new (h : DiskL w d mb false armed left L) (nm : List UInt8) (hn : nm.isEmpty = false) (hm : nm.length ≤ maxLen) (hf : L.find? (fun r => r.nm == nm) = none)
    (v : Value) (b : List UInt8) (hb : RdB (foot d mb L) w v b) (hl : b.length ≤ 1099511627776) (hL : L.length < maxLen) :
    Calls Try.prog 13 #[ptrV d, strV nm, v] w (MakePost w d mb armed left L nm b) := by
  have ho : Calls Try.prog 42 #[ptrV d, strV nm] w fun e w' => e = retPE (.pointer none) 0 ∧ w = w' := by
    have := open_on h nm hn hm
    unfold atV at this
    rwa [hf] at this
  have O := Lib.hid ho
  have H := Lib.hid h
  have hsz : d < w.heap.size := h.head.lt
  have c0 : w.cell? ⟨d, 0, none⟩ = some (.map (some mb)) := h.head.cell 0
  have hq := fun w : World => run_eql_map_nil (P := Try.prog) w 71 9 75 (some mb) Try.underlying71
  obtain ⟨i0, hi, hz0, hz1, hz2⟩ := info_parts byte_info
  have hM := Lib.hid (h.files.alloc (.cells #[.slice none 0 0, .int .i64 0] 77))
  have hrd := Lib.hid hb
  have hlen := Lib.hid hl
  have hmax := Lib.hid (show 0 + b.length ≤ maxLen by unfold maxLen; omega)
  have hmul := Lib.hid (show (0 + b.length) * 1 ≤ 140737488355328 by omega)
  have hLm := Lib.hid hL
  have hkey := Lib.hid (keyOf_strV hm)
  have T := Lib.hid (fun w1 a b => make_turn (w1 := w1) h hm hf a b)
  have fin : ∀ (e : Ending) (w' : World) (r' : FRec) (w1 w2 : World), r'.nm = nm → r'.fb = w.heap.size → r'.c = b → r'.dur = 0 → e = retE (codeW armed left) → Upd (fun k => k = mb) w w1 →
      Upd (fun k => k = w.heap.size ∨ OwnB (.slice none 0 0) k) w1 w2 → (∀ k, OwnB r'.cv k → OwnB (.slice none 0 0) k ∨ w1.heap.size ≤ k) →
      DiskL w' d mb (false || !wrB armed left) armed (wrL armed left) (setR r' (insR ⟨nm, w.heap.size, .slice none 0 0, [], 0⟩ L)) → Upd (fun k => k = d) w2 w' → MakePost w d mb armed left L nm b e w' := by
    intro e w' r' w1 w2 h1 h2 h3 h4 he hu1 hu2 hn2 hd2 hu3
    have e1 : setR r' (insR ⟨nm, w.heap.size, .slice none 0 0, [], 0⟩ L) = insR r' L := setR_insR (r := ⟨nm, w.heap.size, .slice none 0 0, [], 0⟩) h1 h2 (fun x hx => by have := (h.file x hx).lt; simp only; omega)
    rw [e1] at hd2
    refine ⟨he, r', h1, h3, h4, by simpa using hd2, ?_, ?_⟩
    · refine ((hu1.mono (fun k _ e => .inr (.inl e))).trans hu2 ?_).trans hu3 (fun k _ e => .inl e)
      rintro k hk (rfl | e)
      · omega
      · simp [OwnB, Value.ownBlock] at e
    · rintro k (rfl | rfl | ⟨x, hx, hk⟩)
      · exact .inl (.inl rfl)
      · exact .inl (.inr (.inl rfl))
      · rcases mem_insR.1 hx with rfl | hx
        · rcases hk with rfl | hk
          · exact .inr (by omega)
          · rcases hn2 k hk with e | e
            · simp [OwnB, Value.ownBlock] at e
            · have := hu1.size; exact .inr (by omega)
        · exact .inl (.inr (.inr ⟨x, hx, hk⟩))
  have FIN := Lib.hid fin
  have hr0 : (⟨nm, w.heap.size, .slice none 0 0, [], 0⟩ : FRec) ∈ insR ⟨nm, w.heap.size, .slice none 0 0, [], 0⟩ L := mem_insR.2 (.inl rfl)
  have R0 := Lib.hid hr0
  have hfoot := Lib.hid (fun w1 (hu : Upd (fun k => k = mb) w w1) => hb w1 (hu.mono (fun k _ e => .inr (.inl e))))
  clear h ho hf hb hm hl fin hL hr0
  cases hwb : wrB armed left
  all_goals
    go_enter Try.func13, Try.ntmps13
    go_wp2_with (first
      | (go_at_call 42; refine O.out.mono ?_; rintro e w' ⟨rfl, rfl⟩)
      | (at_mapUpdate; refine wpList_mapUpdate_own _ rfl _ _ _ 71 rfl 9 75 keyed Try.underlying71 fileR mb L.length (mapD L) rfl hM.out hLm.out (strV nm) (ptrV w.heap.size) (.string nm) rfl rfl hkey.out (.lit (.int .i64 w.heap.size)) [] rfl ?_; intro w1 hm1 hg1; have hD1 := Lib.hid (T.out w1 hm1 hg1); have hf1 := hD1.out.1.file _ R0.out; have hc0 := hf1.cell 0; have hff := Lib.hid hf1; clear hf1 hm1 hg1)
      | (at_builtin; refine wpList_append_to _ rfl _ _ 27 rfl 5 i0 (.int .u8 0) 1 1 Try.underlying27 hi hz0 hz1 hz2 rfl (.slice none 0 0) 0 [] rfl (Own.nil _ _ _) v b.length (b.map byteV) rfl (hfoot.out _ hD1.out.2) (bytes_oneCell b) hmax.out hmul.out ?_; intro A c w2 hown1 hupd hnew; have hD := Lib.hid (app_turn0 hD1.out.1 R0.out hlen.out hown1 hupd hnew); have hf2 := hupd.blk hff.out (by simp [OwnB, Value.ownBlock]); have hc1 := hf2.cell 0; have hz1 := hf2.frozen 0; clear hf2 hown1 hupd hnew)
      | (go_at_call 43; refine (write_any hD.out.1).mono ?_; rintro e w' ⟨rfl, hd2, hu2⟩; have hD2 := Lib.hid hd2; have hU2 := Lib.hid hu2; clear hd2 hu2))
    go_ret
    exact FIN.out _ _ ⟨nm, w.heap.size, .slice A b.length c, b, 0⟩ _ _ rfl rfl rfl rfl (by simp [codeW, hwb]) hD1.out.2 hD.out.2.1 hD.out.2.2 hD2.out hU2.out
end
end Go.Proofs.Ytmapijpphnlcmaa
