/- SnapshotDamaged returns true. No condition. -/
import Derived.Test.YtbgificdilpdcaaGreatJn26
namespace Go.Proofs.YtbgificdilpdcaaGreat
open Go.RowKit

theorem dam_read0 : sReadV sNew [115] = (none, 6) := by kernel_rfl
abbrev damS (bs : List UInt8) : DSt := ⟨[([115], ⟨bs, 0⟩)], false, false, 0⟩
theorem dam_app (bs : List UInt8) : sAppend sNew [115] bs = (0, damS bs) := rfl
theorem dam_rd (bs : List UInt8) : sRead (damS bs) [115] = (bs, 0) := rfl
theorem dam_none {bs : List UInt8} (h : decodeS bs = none) : sReadV (damS bs) [115] = (none, 104) := by
  rw [sReadV_eq, dam_rd]
  simp [h]
theorem dam_some {bs : List UInt8} {V : ViewS} (h : decodeS bs = some V) : sReadV (damS bs) [115] = (some V, 0) := by
  rw [sReadV_eq, dam_rd]
  simp [h]

set_option maxRecDepth 100000 in
set_option maxHeartbeats 8000000 in
theorem damaged_law {w : World} {v : Value} {bs : List UInt8} (hb : RdB (Ab w) w v bs) : Calls Tryz.prog 5 #[v] w fun e w' => e = .returned (.bool true) ∧ Upd NoF w w' := by
  have hr : Rd w 1 v bs.length (bs.map byteV) := hb.now
  obtain ⟨A, c, rfl, hlc, hcm⟩ := hr.slice
  have HR := Lib.hid hr
  have HBB := Lib.hid hb
  obtain ⟨L, hL⟩ : ∃ n, bs.length = n := ⟨_, rfl⟩
  have HL := Lib.hid hL
  have hcm' : c ≤ 9223372036854775807 := hcm
  by_cases hbig : 20000 < bs.length
  · rw [hL] at hbig hlc ⊢
    have t1 : decide ((20000 : Int) < (L : Int)) = true := by simp; omega
    have t1' : decide (20000 < L) = true := by simp; omega
    clear hr hL hb
    go_enter Tryz.func5, Tryz.ntmps5
    go_wp2_with fail
    refine (awake32 w).mono ?_
    rintro e w3 ⟨rfl, hu3⟩
    have U3 := Lib.hid hu3
    clear hu3
    go_wp2
    go_ret
    exact ⟨rfl, U3.out⟩
  have CV := Lib.hid (fun W (hu : Upd NoF w W) => DecodeView_any (HR.out.keep hu) (by omega))
  have HSM := Lib.hid (show bs.length ≤ 20000 by omega)
  rw [hL] at hbig hlc CV ⊢
  have t1 : decide ((20000 : Int) < (L : Int)) = false := by simp; omega
  have t1' : decide (20000 < L) = false := by simp; omega
  clear hr hL hb
  go_enter Tryz.func5, Tryz.ntmps5
  go_wp2_with fail
  refine (new_spec w).mono ?_
  rintro e w1 ⟨rfl, F1, hd1, hu1, hf1⟩
  have D1 := Lib.hid hd1
  have U1 := Lib.hid hu1
  have HF1 := Lib.hid (show ∀ k, F1 k → w.heap.size ≤ k from fun k hk => (hf1 k hk).resolve_left (fun f => f))
  generalize w.heap.size + 1 = d at D1 ⊢
  clear hd1 hu1 hf1
  have CR := Lib.hid (Read_any D1.out [115] (by decide) (by decide))
  rw [dam_read0] at CR
  go_wp2_with fail
  refine CR.out.mono ?_
  rintro e w2 ⟨rfl, hu2⟩
  have UA := hu2.alloc (.cells nil2 25)
  have D2 := Lib.hid (D1.out.upd UA (fun _ _ f => f))
  have U2 := Lib.hid (U1.out.trans UA (fun _ _ f => f))
  have CA := Lib.hid (append_spec D2.out [115] (by decide) (.slice A bs.length c) bs (HBB.out.upd' (U2.out.mono (fun _ _ f => f.elim)) (fun i hi f => by have := HF1.out i f; exact absurd hi (by omega))) (by have := HSM.out; show 0 + bs.length ≤ _; omega) (by decide))
  rw [dam_app, HL.out] at CA
  clear UA hu2 CR D1 U1
  go_wp2_with fail
  refine CA.out.mono ?_
  rintro e w3 ⟨rfl, F3, hd3, hu3, hf3⟩
  have D3 := Lib.hid hd3
  have U3 := Lib.hid (U2.out.trans hu3 (fun k hk f => by have := HF1.out k f; omega))
  have CR := Lib.hid (Read_any hd3 [115] (by decide) (by rw [dam_rd]; have := HSM.out; show bs.length ≤ _; omega))
  clear hd3 hu3 hf3 CA D2 U2
  unfold retE
  go_wp2_with fail
  refine CR.out.mono ?_
  cases hd : decodeS bs with
  | none =>
    rw [dam_none hd]
    rw [hd] at CV
    clear hd CR
    rintro e w4 ⟨rfl, hu4⟩
    have U4 := Lib.hid ((U3.out.trans hu4 (fun _ _ f => f)).alloc (.cells nil2 25))
    have B4 := Lib.hid (Blk.new w4 25 nil2)
    clear hu4
    go_wp2_with fail
    refine (CV.out _ U4.out).mono ?_
    rintro e w5 ⟨rfl, hu5⟩
    have U5 := Lib.hid ((U4.out.trans hu5 (fun _ _ f => f)).alloc (.cells nil2 25))
    have B5 := Lib.hid ((hu5.blk B4.out (fun f => f)).alloc (.cells nil2 25))
    have c0 : (w5.alloc (.cells nil2 25)).cell? ⟨w4.heap.size, 0, none⟩ = some (.slice none 0 0) := B5.out.cell 0
    have c1 : (w5.alloc (.cells nil2 25)).cell? ⟨w4.heap.size, 1, none⟩ = some (.slice none 0 0) := B5.out.cell 1
    clear hu5 CV
    go_wp2_with fail
    refine (awake32 _).mono ?_
    rintro e w7 ⟨rfl, hu7⟩
    have U7 := Lib.hid (U5.out.trans hu7 (fun _ _ f => f))
    clear hu7 c0 c1
    go_wp2
    go_ret
    exact ⟨rfl, U7.out⟩
  | some V =>
    have hsz := dec_size hd (by have := HSM.out; omega)
    have HSZ := Lib.hid hsz
    rw [dam_some hd]
    rw [hd] at CV
    clear hd CR hsz
    rintro e w4 ⟨a3, b3, rfl, hv3, hu3⟩
    obtain ⟨Ax, cx, rfl, -, -⟩ := (hv3 w4 (Upd.refl _ _)).1.form
    obtain ⟨Ay, cy, rfl, -, -⟩ := (hv3 w4 (Upd.refl _ _)).2.form
    obtain ⟨n, hn⟩ : ∃ n, V.votes.length = n := ⟨_, rfl⟩
    obtain ⟨m, hm⟩ : ∃ n, V.texts.length = n := ⟨_, rfl⟩
    have HN := Lib.hid hn
    have HM := Lib.hid hm
    rw [hn, hm] at hv3 ⊢
    have U4 := Lib.hid ((U3.out.trans hu3 (fun _ _ f => f)).alloc (.cells #[.slice Ax n cx, .slice Ay m cy] 25))
    have B4 := Lib.hid (Blk.new w4 25 #[.slice Ax n cx, .slice Ay m cy])
    have V4 := Lib.hid ((hv3 w4 (Upd.refl _ _)).keep ((Upd.refl NoF w4).alloc (.cells #[.slice Ax n cx, .slice Ay m cy] 25)))
    clear hu3 hv3 hn hm
    go_wp2_with fail
    refine (CV.out _ U4.out).mono ?_
    rintro e w5 ⟨a4, b4, rfl, hv4, hu4⟩
    obtain ⟨Bx, dx, rfl, -, -⟩ := (hv4 w5 (Upd.refl _ _)).1.form
    obtain ⟨By, dy, rfl, -, -⟩ := (hv4 w5 (Upd.refl _ _)).2.form
    rw [HN.out, HM.out] at hv4 ⊢
    have UA := (Upd.refl NoF w5).alloc (.cells #[.slice Bx n dx, .slice By m dy] 25)
    have U5 := Lib.hid ((U4.out.trans hu4 (fun _ _ f => f)).alloc (.cells #[.slice Bx n dx, .slice By m dy] 25))
    have B5 := Lib.hid ((hu4.blk B4.out (fun f => f)).alloc (.cells #[.slice Bx n dx, .slice By m dy] 25))
    have V5 := Lib.hid ((V4.out.keep hu4).keep UA)
    have X5 := Lib.hid ((hv4 w5 (Upd.refl _ _)).keep UA)
    have c0 : (w5.alloc (.cells #[.slice Bx n dx, .slice By m dy] 25)).cell? ⟨w4.heap.size, 0, none⟩ = some (.slice Ax n cx) := B5.out.cell 0
    have c1 : (w5.alloc (.cells #[.slice Bx n dx, .slice By m dy] 25)).cell? ⟨w4.heap.size, 1, none⟩ = some (.slice Ay m cy) := B5.out.cell 1
    clear hu4 hv4 CV UA
    go_wp2_with fail
    refine (SameView_any V5.out X5.out (by have := HSZ.out; omega) (by have := HSZ.out; omega) (by have := HSZ.out; omega) (by have := HSZ.out; omega)).mono ?_
    rintro e w6 ⟨rfl, hu6⟩
    rw [show decide (V = V) = true from by simp]
    have U6 := Lib.hid (U5.out.trans hu6 (fun _ _ f => f))
    clear hu6 c0 c1
    go_wp2_with fail
    refine (awake32 w6).mono ?_
    rintro e w7 ⟨rfl, hu7⟩
    have U7 := Lib.hid (U6.out.trans hu7 (fun _ _ f => f))
    clear hu7
    go_wp2
    go_ret
    exact ⟨rfl, U7.out⟩
end Go.Proofs.YtbgificdilpdcaaGreat
