/- The sanity check of the statements on the journal returns true. No condition. -/
import Derived.Test.YtmapijpphnlcmaaJrB
import Derived.Lib.SlBytesConst
namespace Go.Proofs.Ytmapijpphnlcmaa
open Go.RowKit

theorem lit_rd2 (w0 w : World) (cs : Array Value) (fr : Nat × Nat) (b : List UInt8) (n : Nat) (hn : b.length = n) (hcs : cs = (b.map byteV).toArray) (hm : n ≤ maxLen) :
    ∀ F : Nat → Prop, (∀ k, F k → w0.heap.size ≤ k ∧ k < w.heap.size) → RdB F (w.alloc (.cells cs 5 fr)) (.slice (some ⟨w.heap.size, 0, none⟩) n n) b := by
  intro F hF
  subst hn hcs
  exact RdF.of_new w _ _ fr (fun h => by have := (hF _ h).2; omega) (Nat.le_refl _) hm (by simp) (fun j u hu => by simpa using hu)

abbrev jS (c : List UInt8) (n : Nat) : DSt := ⟨[([106], ⟨c, n⟩)], false, false, 0⟩
theorem aw_open0 : sOpen sNew [106] = (0, sNew, []) := sOpen_none rfl
theorem aw_app (fr : List UInt8) : sAppend sNew [106] fr = (0, jS fr 0) := rfl
theorem aw_app2 (c fr : List UInt8) (n : Nat) : sAppend (jS c n) [106] fr = (0, jS (c ++ fr) n) := rfl
theorem aw_sync (c : List UInt8) (n : Nat) : sSync (jS c n) [106] = (0, jS c c.length) := rfl
theorem aw_read (c : List UInt8) (n : Nat) : sRead (jS c n) [106] = (c, 0) := rfl
theorem aw_crash (c x : List UInt8) (hx : ¬ x.length = 0) : sCrash (jS (c ++ x) c.length) [] = jS c c.length := by
  have h1 : ¬ (c ++ x).length - c.length = 0 := by simp; simpa using hx
  simp [sCrash, crashL, crashF, below, damaged, hx]
theorem aw_open1 (c : List UInt8) (l : List (List UInt8)) (hp : parseS c = (l, c.length)) : sOpen (jS c c.length) [106] = (0, jS c c.length, l) := by
  rw [sOpen_whole (aw_read c c.length) hp (by omega), aw_sync]
  rfl

set_option maxRecDepth 100000 in
set_option maxHeartbeats 8000000 in
theorem awake31 (w : World) : Calls Try.prog 24 #[] w fun e w' => e = .returned (.bool true) ∧ Upd NoF w w' := by
  have kc := fun (w : World) (C : Array Value) (n c : Nat) => Lib.run_convert_bytes_const (P := Try.prog) w 27 5 C n c Try.underlying27 Try.underlying5
  obtain ⟨f0, hf0⟩ : ∃ f0, frameS 0 [97] = f0 := ⟨_, rfl⟩
  have hf0l : f0.length = 13 := by rw [← hf0]; simp [frameS, beB_len, jsumS_len]
  obtain ⟨f1, hf1⟩ : ∃ f1, frameS 1 [98, 99] = f1 := ⟨_, rfl⟩
  have hf1l : f1.length = 14 := by rw [← hf1]; simp [frameS, beB_len, jsumS_len]
  have hb3 : f0[3]? = some 1 := by
    rw [← hf0]
    unfold frameS
    rw [List.append_assoc, List.getElem?_append_left (by simp [beB_len])]
    decide
  have hpar : parseS f0 = ([[97]], f0.length) := by rw [hf0l, ← hf0]; exact parse_one [97] (by decide)
  have P0 := Lib.hid hpar
  have HF0 := Lib.hid hf0
  have HF1 := Lib.hid hf1
  have L0 := Lib.hid hf0l
  have L1 := Lib.hid hf1l
  have HB3 := Lib.hid hb3
  clear hf0 hf1 hf0l hf1l hb3 hpar
  go_enter Try.func24, Try.ntmps24
  go_wp2_with fail
  refine (jFrame_any (bs := [97]) ((lit_rd2 w w _ _ [97] 1 rfl rfl (by decide) NoF (fun _ h => h.elim)).now) (by decide) 0 (by decide)).mono ?_
  rw [HF0.out]
  rintro e w1 ⟨A1, c1, rfl, hN1⟩
  rw [L0.out]
  have N1 := Lib.hid hN1
  have U1 := Lib.hid (show Upd NoF w w1 from ((Upd.refl NoF w).alloc _).trans hN1.2.2 (fun _ _ h => h))
  clear hN1
  go_wp2_with fail
  refine (new_dk w1).mono ?_
  rintro e w2 ⟨rfl, hd2⟩
  have D2 := Lib.hid (show DA w1 (w1.heap.size + 1) sNew w2 from by
    obtain ⟨F, a1, a2, a3⟩ := hd2
    exact ⟨F, a1, fun k hk => (a3 k hk).resolve_left (fun h => h), a2⟩)
  clear hd2
  generalize w1.heap.size + 1 = d at D2 ⊢
  go_wp2_with fail
  refine (D2.out.open [106] (by decide) (by decide)).mono ?_
  rw [aw_open0]
  rintro e w3 (⟨-, j, rfl, h3⟩ | ⟨h, _⟩)
  case inr => exact absurd rfl h
  have W3 := Lib.hid h3
  clear h3
  go_wp2_with fail
  refine (W3.out.append (b := [97]) (lit_rd2 w1 w3 _ _ [97] 1 rfl rfl (by decide)) ((Upd.refl NoF w3).alloc _) (by decide) (by decide) (by decide) (by decide)).mono ?_
  rw [show sJAppend sNew [106] [] false [97] = (0, jS f0 0, [[97]], false) by rw [← HF0.out]; rfl]
  rintro e w4 ⟨rfl, h4⟩
  have W4 := Lib.hid h4
  clear h4
  go_wp2_with fail
  refine (W4.out.sync (by decide)).mono ?_
  rw [show sJSync (jS f0 0) [106] [[97]] ([] : List (List UInt8)).length false = (0, jS f0 f0.length, 1, false) by rfl]
  rintro e w5 ⟨rfl, h5⟩
  have W5 := Lib.hid h5
  clear h5
  go_wp2_with fail
  refine (W5.out.append (b := [98, 99]) (lit_rd2 w1 w5 _ _ [98, 99] 2 rfl rfl (by decide)) ((Upd.refl NoF w5).alloc _) (by decide) (by have := L0.out; simp [getF]; omega) (by simp [maxLen]) (by decide)).mono ?_
  rw [show sJAppend (jS f0 f0.length) [106] [[97]] false [98, 99] = (0, jS (f0 ++ f1) f0.length, [[97], [98, 99]], false) by rw [← HF1.out]; rfl]
  rintro e w6 ⟨rfl, h6⟩
  have W6 := Lib.hid h6
  clear h6
  go_wp2_with fail
  refine (W6.out.disk (fun F hF _ => crash_spec hF (.slice none 0 0) [] (RdF.nil _ _ _) (by simp) (by simp))).mono ?_
  rw [aw_crash f0 f1 (by rw [L1.out]; decide)]
  rintro e w7 ⟨rfl, h7⟩
  have W7 := Lib.hid h7
  clear h7
  go_wp2_with fail
  refine (W7.out.open [106] (by decide) (by rw [aw_read, L0.out]; decide)).mono ?_
  rw [aw_open1 f0 [[97]] P0.out]
  rintro e w8 ⟨h8, (⟨-, j', rfl, h8'⟩ | ⟨h, _⟩)⟩
  case inr => exact absurd rfl h
  have W8 := Lib.hid h8
  have X8 := Lib.hid h8'
  clear h8 h8'
  go_wp2_with fail
  refine X8.out.records.mono ?_
  rintro e w9 ⟨v9, F9, rfl, h9, -, hu9⟩
  obtain ⟨A9, c9, rfl, -, -⟩ := h9.form
  obtain ⟨g9, Au, cu, rfl, q1, q2⟩ := h9.get (i := 0) (b := [97]) rfl
  have W9 := Lib.hid (W8.out.upd hu9)
  have X9 := Lib.hid (X8.out.upd hu9)
  have hstr : ∀ w', Upd NoF w9 w' → (convert 27 9 (.slice Au 1 cu)).run Try.prog w' = .ok (strV [97]) w' := fun w' hu => run_str (bs := [97]) (q2.rd.keep hu)
  have HST := Lib.hid hstr
  have HQ1 := Lib.hid q1
  obtain ⟨gA, oA, hA1, hcA⟩ := rd_cells (n := 13) (bs := f0) (by have := N1.out.1.rd; rw [L0.out] at this; exact this) (by omega)
  subst hA1
  have hc3 := hcA 3 1 HB3.out
  have C3 := Lib.hid hc3
  clear h9 q1 q2 hstr hc3 hcA
  have c3 : w9.cell? ⟨gA, oA + 3, none⟩ = some (byteV 1) := W9.out.out.cell C3.out (fun h => h)
  have z1 : (3 : Int) < 13 := by decide
  go_wp2_with fail
  refine W9.out.synced.mono ?_
  rintro e w' ⟨rfl, rfl⟩
  go_wp2_with fail
  refine W9.out.records.mono ?_
  rintro e w10 ⟨v10, F10, rfl, h10, -, hu10⟩
  obtain ⟨A10, c10, rfl, -, -⟩ := h10.form
  have q10 := hu10.cell HQ1.out (fun h => h)
  have s10 := HST.out w10 hu10
  have X10 := Lib.hid (X9.out.upd hu10)
  clear h10 hu10 c3
  go_wp2_with fail
  refine X10.out.synced.mono ?_
  rintro e w' ⟨rfl, rfl⟩
  go_wp2_with fail
  refine (jAppend_nil _).mono ?_
  rintro e w' ⟨rfl, rfl⟩
  go_wp2_with fail
  refine (jSync_nil _).mono ?_
  rintro e w' ⟨rfl, rfl⟩
  go_wp2_with fail
  refine (jRecords_nil _).mono ?_
  rintro e w' ⟨rfl, rfl⟩
  go_wp2_with fail
  refine (jSynced_nil _).mono ?_
  rintro e w' ⟨rfl, rfl⟩
  go_wp2
  go_ret
  exact ⟨rfl, U1.out.trans X10.out.out (fun _ _ h => h)⟩
end Go.Proofs.Ytmapijpphnlcmaa
