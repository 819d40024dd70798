/- ValidBlock of the reference, at a valid block. No condition. EncodeBlock of the reference, at a valid block. No condition. -/
import Derived.Test.YtengcmfdfmnacaaGreatJn13
import Derived.Test.YtengcmfdfmnacaaGreatJn8
import Derived.Deep.QuietTactic
import Derived.BigQuiet
import Derived.Test.YtengcmfdfmnacaaGreatBk3
namespace Go.Proofs.YtengcmfdfmnacaaGreat
section
open Go.RowKit

set_option maxRecDepth 100000 in
set_option maxHeartbeats 8000000 in
theorem r20ValidBlock_ok {w : World} {p : List UInt8} {A : Option Addr} {c n : Nat} {l : List (Int × List UInt8)} (hn : l.length = n) (hp : p.length = 8) (h : ChR w (.slice A n c) l) (hg : GoodCh l) :
    Calls Tryz.prog 55 #[.agg (blkC p (.slice A n c)).toArray] w fun e w' => e = .returned (.bool true) ∧ Upd NoF w w' := by
  obtain ⟨h1, h7, hv⟩ := hg
  rw [hn] at h1 h7
  obtain ⟨xa, hxa⟩ : ∃ x, (blkC p (.slice A n c)).toArray = x := ⟨_, rfl⟩
  have BX := Lib.hid (show Blk (w.alloc (.cells xa 67)) w.heap.size 67 (p.map byteV ++ [Value.slice A n c]).toArray from by rw [← hxa]; exact Blk.new w _ _)
  have c8 : (w.alloc (.cells xa 67)).cell? ⟨w.heap.size, 8, none⟩ = some (.slice A n c) := by
    rw [BX.out.cell 8, List.getElem?_toArray, List.getElem?_append_right (by simp [hp])]
    simp [hp]
  have HU := Lib.hid ((Upd.refl NoF w).alloc (.cells xa 67))
  have HC := Lib.hid (h.keep HU.out)
  have HV := Lib.hid hv
  have HN := Lib.hid hn
  have C0 := Lib.hid (fun W => r20within_any (n : Int) 1 7 W)
  rw [show (decide ((1 : Int) ≤ (n : Int)) && decide ((n : Int) ≤ 7)) = true by simp; omega] at C0
  rw [hxa]
  have C8 := Lib.hid c8
  clear h hv hn hxa BX
  go_enter Tryz.func55, Tryz.ntmps55
  go_wp2_with (refine (C0.out _).mono ?_; rintro e w' ⟨rfl, rfl⟩)
  clear c8
  go_loopg [3] n (fun kx s3 wr => ∃ k : Nat, s3 = .int .i64 (k : Int) ∧ k ≤ n ∧ n - k ≤ kx ∧ Hid (Upd NoF (w.alloc (.cells xa 67)) wr))
  case atStart => exact ⟨0, rfl, by omega, by omega, Lib.hid (Upd.refl _ _)⟩
  case round =>
    obtain ⟨k, rfl, hkn, hkx, HW⟩ := hrel
    have c8 : wr.cell? ⟨w.heap.size, 8, none⟩ = some (.slice A n c) := HW.out.cell C8.out (fun f => f)
    have HC' := Lib.hid (HC.out.keep HW.out)
    by_cases hlt : k < n
    · have hltz : (k : Int) < (n : Int) := by omega
      obtain ⟨z, hz⟩ : ∃ z, l[k]? = some z := ⟨_, List.getElem?_eq_getElem (by have := HN.out; omega)⟩
      have h1 := HV.out k z hz
      obtain ⟨g, o, rfl, hr⟩ := HC'.out.at_ hz hlt
      have c1 : wr.cell? ⟨g, o + k * 9, none⟩ = some (.int .i64 z.1) := hr 0 _ rfl
      have e1 : ((k : Int)).toNat = k := by omega
      have CZ := Lib.hid (fun W => r20within_any z.1 0 9 W)
      rw [show (decide ((0 : Int) ≤ z.1) && decide (z.1 ≤ 9)) = true by simp; omega] at CZ
      rcases Nat.eq_zero_or_pos k with hk0 | hk0
      · subst hk0
        have t4 : decide ((0 : Int) < ((0 : Nat) : Int)) = false := by simp
        rw [Nat.zero_mul, Nat.add_zero] at c1
        clear hz h1 hr
        go_wp2
        go_quiet ((go_at_call 95; exact Calls.quiet_of_same (CZ.out _)))
        go_wp2
        go_roundg (n - 1)
        case measure => omega
        case rel => exact ⟨1, by first | rfl | go_num, by omega, by omega, Lib.hid (HW.out.drewN _)⟩
      · obtain ⟨y, hy⟩ : ∃ y, l[k - 1]? = some y := ⟨_, List.getElem?_eq_getElem (by have := HN.out; omega)⟩
        have h2 := h1.2.2 (k - 1) y hy (by omega)
        obtain ⟨g', o', e', hr'⟩ := HC'.out.at_ hy (by omega)
        obtain ⟨rfl, rfl⟩ : g = g' ∧ o = o' := by injection e' with e'; injection e' with e1 e2; exact ⟨e1, e2⟩
        have c2 : wr.cell? ⟨g, o + (k - 1) * 9, none⟩ = some (.int .i64 y.1) := hr' 0 _ rfl
        have t3 : decide (z.1 ≤ y.1) = false := by simp; omega
        have t4 : decide ((0 : Int) < (k : Int)) = true := by simp; omega
        have t4' : decide (0 < k) = true := by simp; omega
        have e2 : ((k : Int) - 1).toNat = k - 1 := by omega
        have b1 : (0 : Int) ≤ (k : Int) - 1 := by omega
        have b2 : (k : Int) - 1 < (n : Int) := by omega
        clear hz h1 hr hy h2 e' hr'
        go_wp2
        go_quiet ((go_at_call 95; exact Calls.quiet_of_same (CZ.out _)))
        go_wp2
        go_roundg (n - (k + 1))
        case measure => omega
        case rel => exact ⟨k + 1, by first | rfl | go_num, by omega, by omega, Lib.hid (HW.out.drewN _)⟩
    · have hltz : ¬ (k : Int) < (n : Int) := by omega
      go_wp2
      go_ret
      exact ⟨rfl, HU.out.trans HW.out (fun _ _ f => f)⟩
end

section
open Go.RowKit

/-- A slice of bytes, as it reads now. -/
def BtN (l : List UInt8) (v : Value) (w : World) : Prop := ∃ A c, v = .slice A l.length c ∧ Rd w 1 (.slice A l.length c) l.length (l.map byteV)
theorem stb_btn (l : List UInt8) : Stb (fun w w' => Upd NoF w w') (BtN l) := fun _ _ _ ⟨A, c, e, h⟩ hu => ⟨A, c, e, h.keep hu⟩
theorem BtN.three (w : World) : Rd (w.alloc (.cells #[byteV 3] 5)) 1 (.slice (some ⟨w.heap.size, 0, none⟩) 1 1) 1 [byteV 3] := rd_lit w 5 (byteV 3)
/-- The text of a block as far as its slot k. -/
def encBk (p : List UInt8) (l : List (Int × List UInt8)) (k : Nat) : List UInt8 := 3 :: p ++ beB l.length 1 ++ ((l.take k).map encCh).flatten
theorem encBk_0 (p : List UInt8) (l : List (Int × List UInt8)) : encBk p l 0 = 3 :: p ++ beB l.length 1 := by simp [encBk]
theorem encBk_next {p : List UInt8} {l : List (Int × List UInt8)} {k : Nat} {s : Int × List UInt8} (h : l[k]? = some s) : encBk p l (k + 1) = encBk p l k ++ beB s.1 1 ++ s.2 := by
  unfold encBk
  rw [take_map_snoc encCh h]
  simp [encCh, beB]
theorem encBk_all {p : List UInt8} {l : List (Int × List UInt8)} : encBk p l l.length = 3 :: blkT p l := by
  unfold encBk blkT
  rw [List.take_length]
  have : UInt8.ofNat ((l.length : Int) % 256).toNat = UInt8.ofNat l.length := by
    apply UInt8.toNat_inj.1
    simp; omega
  simp [beB, byteAt, this]
theorem encBk_len {p : List UInt8} {l : List (Int × List UInt8)} (hp : p.length = 8) (hl : ∀ s ∈ l, s.2.length = 8) (k : Nat) (hk : k ≤ l.length) : (encBk p l k).length = 10 + 9 * k := by
  induction k with
  | zero => simp [encBk_0, hp, beB_len]
  | succ k ih =>
    obtain ⟨s, hs⟩ : ∃ s, l[k]? = some s := ⟨_, List.getElem?_eq_getElem (by omega)⟩
    rw [encBk_next hs, List.length_append, List.length_append, ih (by omega), beB_len, hl s (List.mem_of_getElem? hs)]
    omega

set_option maxRecDepth 100000 in
set_option maxHeartbeats 16000000 in
theorem r20EncodeBlock_ok {w : World} {p : List UInt8} {A : Option Addr} {c n : Nat} {l : List (Int × List UInt8)} (hn : l.length = n) (hp : p.length = 8) (h : ChR w (.slice A n c) l) (hg : GoodCh l) :
    Calls Tryz.prog 26 #[.agg (blkC p (.slice A n c)).toArray] w fun e w' => ∃ B d, e = .returned (.tuple #[.slice B (3 :: blkT p l).length d, .int .i64 0]) ∧ Rd w' 1 (.slice B (3 :: blkT p l).length d) (3 :: blkT p l).length ((3 :: blkT p l).map byteV) ∧ Upd NoF w w' := by
  have CV := Lib.hid (fun W (hu : Upd NoF w W) => r20ValidBlock_ok (w := W) hn hp (h.keep hu) hg)
  obtain ⟨h1, h7, hv⟩ := hg
  rw [hn] at h1 h7
  obtain ⟨xa, hxa⟩ : ∃ x, (blkC p (.slice A n c)).toArray = x := ⟨_, rfl⟩
  rw [hxa] at CV
  have HXL := Lib.hid (show xa.size = 9 from by rw [← hxa]; exact blk_size hp _)
  have BX := Lib.hid (show Blk (w.alloc (.cells xa 67)) w.heap.size 67 xa from Blk.new w _ _)
  have c8 : (w.alloc (.cells xa 67)).cell? ⟨w.heap.size, 8, none⟩ = some (.slice A n c) := by
    rw [BX.out.cell 8, ← hxa]
    unfold blkC
    rw [List.getElem?_toArray, List.getElem?_append_right (by simp [hp])]
    simp [hp]
  have HU := Lib.hid ((Upd.refl NoF w).alloc (.cells xa 67))
  have HC := Lib.hid (h.keep HU.out)
  have HV := Lib.hid hv
  have HN := Lib.hid (show n ≤ 7 ∧ l.length = n from ⟨h7, hn⟩)
  have HP := Lib.hid hp
  have HL8 := Lib.hid h.1
  have C8 := Lib.hid c8
  obtain ⟨zp, hzp⟩ : ∃ x, (p.map byteV).toArray = x := ⟨_, rfl⟩
  have HZP := Lib.hid hzp
  have RP := Lib.hid (show (w.alloc (.cells xa 67)).rangeAt w.heap.size 0 (p.map byteV) from fun j v hj => by
    rw [BX.out.cell (0 + j), ← hxa, Nat.zero_add]
    unfold blkC
    rw [List.getElem?_toArray, List.getElem?_append_left (List.getElem?_eq_some_iff.1 hj).1]
    exact hj)
  rw [hxa]
  clear h hv hn hxa c8 hp hzp
  go_enter Tryz.func26, Tryz.ntmps26
  go_wp2_with (first
    | (refine wpList_load_row rfl 67 (.tmp 1) rfl w.heap.size 0 rfl xa.toList _ (range_blk (by rw [Array.toArray_toList]; exact BX.out)) Tryz.underlying67 rfl (by rw [block_size, Array.length_toList, HXL.out]) xa (by rw [Array.toArray_toList]) ?_)
    | (refine (CV.out _ HU.out).mono ?_; rintro e w1 ⟨rfl, hu1⟩; have V1 := Lib.hid hu1; clear hu1))
  obtain ⟨X, hX⟩ : ∃ x, w.heap.size = x := ⟨_, rfl⟩
  rw [hX] at C8 RP BX ⊢
  clear hX
  obtain ⟨W1, hW1⟩ : ∃ x, x = w1 := ⟨_, rfl⟩
  subst hW1
  have C8 := Lib.hid (show W1.drew.cell? ⟨X, 8, none⟩ = some (.slice A n c) from (V1.out.drew).cell C8.out (fun f => f))
  have RP := Lib.hid (fun w' (hu : Upd NoF W1.drew w') => show w'.rangeAt X 0 (p.map byteV) from fun j v hj => ((V1.out.drew).trans hu (fun _ _ f => f)).cell (RP.out j v hj) (fun f => f))
  refine wp_region_rgw (rgR [BtN ([3]), isV (.pointer (some ⟨X, 0, none⟩)), isV (.agg zp), BtN (3 :: p), isV (.pointer (some ⟨X, 8, none⟩)), isV (.slice A n c), isV (.int .i64 (n : Int)), BtN (3 :: p ++ beB (n : Int) 1), BtN (3 :: p ++ beB (n : Int) 1)]) (fun w w' => Upd NoF w w') (fun _ wq => Upd NoF W1.drew wq) (by kernel_rfl) (by kernel_rfl) (by kernel_rfl) (by rfl) (fun w => Upd.refl _ _) (rgR_keep (by
    intro p hp; simp only [List.mem_cons, List.not_mem_nil, or_false] at hp; rcases hp with rfl | rfl | rfl | rfl | rfl | rfl | rfl | rfl | rfl <;> first | exact stb_isV _ | exact stb_any | exact stb_btn _)) (Upd.refl _ _) ?_ ?_
  · refine ⟨?_, ?_, ?_, ?_, ?_, ?_, ?_, ?_, ?_, trivial⟩
    · refine fun ρ w' L hW hLi hcl hd hdep hext hc hg hf => ?_
      rw [if_pos (show wantedR _ _ _ = true from rfl)]
      clear hdep hext
      have HW := Lib.hid hW
      clear hW hcl hd hLi
      unfold OpDone
      go_simp
      exact ⟨⟨_, _, rfl, by exact BtN.three w'⟩, (Upd.refl NoF w').alloc _, HW.out.alloc _⟩
    · refine fun ρ w' L hW hLi hcl hd hdep hext hc hg hf => ?_
      rw [if_pos (show wantedR _ _ _ = true from rfl)]
      have e1 : ρ (.tmp 1) = .pointer (some ⟨X, 0, none⟩) := hext 1 (by kernel_rfl)
      clear hdep hext hcl
      have HW := Lib.hid hW
      clear hW
      unfold OpDone
      go_simp
      exact ⟨rfl, Upd.refl _ _, HW.out⟩
    · refine fun ρ w' L hW hLi hcl hd hdep hext hc hg hf => ?_
      rw [if_pos (show wantedR _ _ _ = true from rfl)]
      have e10 : ρ (.tmp 10) = .pointer (some ⟨X, 0, none⟩) := hdep 1 _ rfl (by kernel_rfl)
      clear hdep hext
      refine od_load_row 28 (.tmp 10) rfl X 0 e10 (p.map byteV) _ (RP.out w' hW) Tryz.underlying28 rfl (by rw [show (Tryz.prog.info? 28).map (·.size) = some 8 from by kernel_rfl]; simp [HP.out]) ?_
      rw [HZP.out]
      exact ⟨rfl, Upd.refl _ _, hW⟩
    · refine fun ρ w' L hW hLi hcl hd hdep hext hc hg hf => ?_
      rw [if_pos (show wantedR _ _ _ = true from rfl)]
      have e9 : (BtN ([3])) (ρ (.tmp 9)) w' := hdep 0 _ rfl (by kernel_rfl)
      have e11 : ρ (.tmp 11) = .agg zp := hdep 2 _ rfl (by kernel_rfl)
      clear hdep hext
      obtain ⟨a9, k9, e9, r9⟩ := e9
      have q1 : zp = zp := rfl
      have CL := Lib.hid (show Calls Tryz.prog 57 #[.slice a9 1 k9, .agg zp] w' (BytesPost w' (3 :: p)) from by rw [← HZP.out]; exact r20name_any (bs := [3]) r9 HP.out (by simp))
      have HW := Lib.hid hW
      clear hW hcl hd hLi
      unfold OpDone
      go_simp
      refine CL.out.mono ?_
      rintro e w2 ⟨A2, c2, rfl, hN⟩
      exact ⟨_, rfl, ⟨A2, c2, rfl, hN.1.rd⟩, hN.2.2, HW.out.trans hN.2.2 (fun _ _ f => f)⟩
    · refine fun ρ w' L hW hLi hcl hd hdep hext hc hg hf => ?_
      rw [if_pos (show wantedR _ _ _ = true from rfl)]
      have e1 : ρ (.tmp 1) = .pointer (some ⟨X, 0, none⟩) := hext 1 (by kernel_rfl)
      clear hdep hext hcl
      have HW := Lib.hid hW
      clear hW
      unfold OpDone
      go_simp
      exact ⟨rfl, Upd.refl _ _, HW.out⟩
    · refine fun ρ w' L hW hLi hcl hd hdep hext hc hg hf => ?_
      rw [if_pos (show wantedR _ _ _ = true from rfl)]
      have e13 : ρ (.tmp 13) = .pointer (some ⟨X, 8, none⟩) := hdep 4 _ rfl (by kernel_rfl)
      have q0 : w'.cell? ⟨X, 8, none⟩ = some (.slice A n c) := hW.cell C8.out (fun f => f)
      clear hdep hext hcl
      have HW := Lib.hid hW
      clear hW
      unfold OpDone
      go_simp
      exact ⟨rfl, Upd.refl _ _, HW.out⟩
    · refine fun ρ w' L hW hLi hcl hd hdep hext hc hg hf => ?_
      rw [if_pos (show wantedR _ _ _ = true from rfl)]
      have e14 : ρ (.tmp 14) = .slice A n c := hdep 5 _ rfl (by kernel_rfl)
      clear hdep hext hcl
      have HW := Lib.hid hW
      clear hW
      unfold OpDone
      go_simp
      exact ⟨rfl, Upd.refl _ _, HW.out⟩
    · refine fun ρ w' L hW hLi hcl hd hdep hext hc hg hf => ?_
      rw [if_pos (show wantedR _ _ _ = true from rfl)]
      have e12 : (BtN (3 :: p)) (ρ (.tmp 12)) w' := hdep 3 _ rfl (by kernel_rfl)
      have e15 : ρ (.tmp 15) = .int .i64 (n : Int) := hdep 6 _ rfl (by kernel_rfl)
      clear hdep hext
      obtain ⟨a12, k12, e12, r12⟩ := e12
      have CL := Lib.hid (show Calls Tryz.prog 56 #[.slice a12 (3 :: p).length k12, .int .i64 (n : Int), .int .i64 1] w' (BytesPost w' (3 :: p ++ beB (n : Int) 1)) from r20num_any (n := 1) r12 (n : Int) (by omega) (by have := HN.out; omega) (by omega) (by simp [HP.out]))
      have HW := Lib.hid hW
      clear hW hcl hd hLi
      unfold OpDone
      go_simp
      refine CL.out.mono ?_
      rintro e w2 ⟨A2, c2, rfl, hN⟩
      exact ⟨_, rfl, ⟨A2, c2, rfl, hN.1.rd⟩, hN.2.2, HW.out.trans hN.2.2 (fun _ _ f => f)⟩
    · refine fun ρ w' L hW hLi hcl hd hdep hext hc hg hf => ?_
      rw [if_pos (show wantedR _ _ _ = true from rfl)]
      have e16 : (BtN (3 :: p ++ beB (n : Int) 1)) (ρ (.tmp 16)) w' := hdep 7 _ rfl (by kernel_rfl)
      clear hdep hext
      obtain ⟨a16, k16, e16, r16⟩ := e16
      have HW := Lib.hid hW
      clear hW hcl hd hLi
      have R16 := Lib.hid r16
      clear r16
      generalize (3 :: p ++ beB (n : Int) 1) = LL at e16 R16 ⊢
      unfold OpDone
      go_simp
      exact ⟨⟨_, _, rfl, R16.out⟩, Upd.refl _ _, HW.out⟩
  intro vs W3 L3 hL3 hW3 hR
  have hr0 : (BtN ([3])) (vs 0) W3 := hR 0 _ rfl
  obtain ⟨a9, k9, hv0, -⟩ := hr0
  have hv1 : vs 1 = .pointer (some ⟨X, 0, none⟩) := hR 1 _ rfl
  have hv2 : vs 2 = .agg zp := hR 2 _ rfl
  have hr3 : (BtN (3 :: p)) (vs 3) W3 := hR 3 _ rfl
  obtain ⟨a12, k12, hv3, -⟩ := hr3
  have hv4 : vs 4 = .pointer (some ⟨X, 8, none⟩) := hR 4 _ rfl
  have hv5 : vs 5 = .slice A n c := hR 5 _ rfl
  have hv6 : vs 6 = .int .i64 (n : Int) := hR 6 _ rfl
  have hr7 : (BtN (3 :: p ++ beB (n : Int) 1)) (vs 7) W3 := hR 7 _ rfl
  obtain ⟨a16, k16, hv7, hq7⟩ := hr7
  have hr8 : (BtN (3 :: p ++ beB (n : Int) 1)) (vs 8) W3 := hR 8 _ rfl
  obtain ⟨a4, k4, hv8, hq8⟩ := hr8
  simp only [putAll, Act.put, List.setIfInBounds_toArray, List.set_cons_zero, List.set_cons_succ, hv0, hv1, hv2, hv3, hv4, hv5, hv6, hv7, hv8]
  clear hR hv0 hv1 hv2 hv3 hv4 hv5 hv6 hv7 hv8
  have HB0 := Lib.hid (show Rd W3 1 (.slice a4 (encBk p l 0).length k4) (encBk p l 0).length ((encBk p l 0).map byteV) from by rw [encBk_0, HN.out.2]; exact hq8)
  have E0 := Lib.hid (show (3 :: p ++ beB (n : Int) 1).length = (encBk p l 0).length from by rw [encBk_0, HN.out.2])
  have U3 := Lib.hid (show Upd NoF (w.alloc (.cells xa 67)) W3 from (V1.out.drew).trans hW3 (fun _ _ f => f))
  have C8' := Lib.hid (hW3.cell C8.out (fun f => f))
  rw [E0.out]
  clear hq7 hq8 hW3
  clear hL3
  have HLN := Lib.hid (fun k hk => encBk_len HP.out HL8.out k hk)
  have HC' := Lib.hid (HC.out.keep U3.out)
  have U3' := Lib.hid (HU.out.trans U3.out (fun _ _ f => f))
  go_wp2_with fail
  go_loopg [4, 5] n (fun kx s4 s5 wr => ∃ (k : Nat) (Ab : Option Addr) (cb : Nat), s5 = .int .i64 (k : Int) ∧ k ≤ n ∧ n - k ≤ kx ∧ s4 = .slice Ab (encBk p l k).length cb ∧ Hid (Rd wr 1 (.slice Ab (encBk p l k).length cb) (encBk p l k).length ((encBk p l k).map byteV)) ∧ Hid (Upd NoF W3 wr))
  case atStart => exact ⟨0, a4, k4, rfl, by omega, by omega, rfl, HB0, Lib.hid (Upd.refl _ _)⟩
  case round =>
    obtain ⟨k, Ab, cb, rfl, hkn, hkx, rfl, HB, HWR⟩ := hrel
    have c8 : wr.cell? ⟨X, 8, none⟩ = some (.slice A n c) := HWR.out.cell C8'.out (fun f => f)
    by_cases hlt : k < n
    · have hltz : (k : Int) < (n : Int) := by omega
      obtain ⟨s, hz⟩ : ∃ z, l[k]? = some z := ⟨_, List.getElem?_eq_getElem (by have := HN.out; omega)⟩
      have hv := HV.out k s hz
      obtain ⟨g, o, rfl, hr⟩ := (HC'.out.keep HWR.out).at_ hz hlt
      have Z0 := Lib.hid (show wr.drew.cell? ⟨g, o + k * 9, none⟩ = some (.int .i64 s.1) from hr 0 _ rfl)
      have C8 := Lib.hid (show wr.drew.cell? ⟨X, 8, none⟩ = some (.slice (some ⟨g, o, none⟩) n c) from c8)
      have HZ := Lib.hid (show 0 ≤ s.1 ∧ s.1 ≤ 9223372036854775807 from ⟨hv.1, by omega⟩)
      have HS := Lib.hid (HL8.out s (List.mem_of_getElem? hz))
      have HLE := Lib.hid (show (encBk p l k).length ≤ 1000 from by rw [HLN.out k (by have := HN.out; omega)]; have := HN.out; omega)
      have HLT := Lib.hid hltz
      obtain ⟨zs, hzs⟩ : ∃ x, (s.2.map byteV).toArray = x := ⟨_, rfl⟩
      have HZS := Lib.hid hzs
      have RS := Lib.hid (fun w' (hu : Upd NoF wr.drew w') => show w'.rangeAt g (o + k * 9 + 1) (s.2.map byteV) from fun j v hj => by
        have := hr (1 + j) v (by unfold choiceC; rw [Nat.add_comm, List.getElem?_cons_succ]; exact hj)
        rw [show o + k * 9 + 1 + j = o + k * 9 + (1 + j) by omega]
        exact hu.cell this (fun f => f))
      have HNX := Lib.hid (encBk_next (p := p) hz)
      clear hv hr hz hzs
      go_wp2_with fail
      refine wp_region_rgw (rgR [BtN (encBk p l k), isV (.pointer (some ⟨X, 8, none⟩)), isV (.slice (some ⟨g, o, none⟩) n c), isV (.int .i64 (k : Int)), isV (.pointer (some ⟨g, o + k * 9, none⟩)), isV (.pointer (some ⟨g, o + k * 9, none⟩)), isV (.int .i64 s.1), BtN (encBk p l k ++ beB s.1 1), isV (.pointer (some ⟨X, 8, none⟩)), isV (.slice (some ⟨g, o, none⟩) n c), isV (.int .i64 (k : Int)), isV (.pointer (some ⟨g, o + k * 9, none⟩)), isV (.pointer (some ⟨g, o + k * 9 + 1, none⟩)), isV (.agg zs), BtN (encBk p l k ++ beB s.1 1 ++ s.2), BtN (encBk p l k ++ beB s.1 1 ++ s.2)]) (fun w w' => Upd NoF w w') (fun _ wq => Upd NoF wr.drew wq) (by kernel_rfl) (by kernel_rfl) (by kernel_rfl) (by rfl) (fun w => Upd.refl _ _) (rgR_keep (by
        intro p hp; simp only [List.mem_cons, List.not_mem_nil, or_false] at hp; rcases hp with rfl | rfl | rfl | rfl | rfl | rfl | rfl | rfl | rfl | rfl | rfl | rfl | rfl | rfl | rfl | rfl <;> first | exact stb_isV _ | exact stb_any | exact stb_btn _)) (Upd.refl _ _) ?_ ?_
      · refine ⟨?_, ?_, ?_, ?_, ?_, ?_, ?_, ?_, ?_, ?_, ?_, ?_, ?_, ?_, ?_, ?_, trivial⟩
        · refine fun ρ w' L hW hLi hcl hd hdep hext hc hg hf => ?_
          rw [if_pos (show wantedR _ _ _ = true from rfl)]
          have e4 : ρ (.tmp 4) = .slice Ab (encBk p l k).length cb := hext 4 (by kernel_rfl)
          clear hdep hext
          have RZ := Lib.hid (show Rd w' 1 (.slice Ab (encBk p l k).length cb) (encBk p l k).length ((encBk p l k).map byteV) from HB.out.keep ((Upd.refl NoF wr).drew.trans hW (fun _ _ f => f)))
          have HW := Lib.hid hW
          clear hW hcl hd hLi
          unfold OpDone
          go_simp
          exact ⟨⟨_, _, rfl, RZ.out⟩, Upd.refl _ _, HW.out⟩
        · refine fun ρ w' L hW hLi hcl hd hdep hext hc hg hf => ?_
          rw [if_pos (show wantedR _ _ _ = true from rfl)]
          have e1 : ρ (.tmp 1) = .pointer (some ⟨X, 0, none⟩) := hext 1 (by kernel_rfl)
          clear hdep hext hcl
          have HW := Lib.hid hW
          clear hW
          unfold OpDone
          go_simp
          exact ⟨rfl, Upd.refl _ _, HW.out⟩
        · refine fun ρ w' L hW hLi hcl hd hdep hext hc hg hf => ?_
          rw [if_pos (show wantedR _ _ _ = true from rfl)]
          have e25 : ρ (.tmp 25) = .pointer (some ⟨X, 8, none⟩) := hdep 1 _ rfl (by kernel_rfl)
          have q0 : w'.cell? ⟨X, 8, none⟩ = some (.slice (some ⟨g, o, none⟩) n c) := hW.cell C8.out (fun f => f)
          clear hdep hext hcl
          have HW := Lib.hid hW
          clear hW
          unfold OpDone
          go_simp
          exact ⟨rfl, Upd.refl _ _, HW.out⟩
        · refine fun ρ w' L hW hLi hcl hd hdep hext hc hg hf => ?_
          rw [if_pos (show wantedR _ _ _ = true from rfl)]
          have e5 : ρ (.tmp 5) = .int .i64 (k : Int) := hext 5 (by kernel_rfl)
          clear hdep hext hcl
          have HW := Lib.hid hW
          clear hW
          unfold OpDone
          go_simp
          exact ⟨rfl, Upd.refl _ _, HW.out⟩
        · refine fun ρ w' L hW hLi hcl hd hdep hext hc hg hf => ?_
          rw [if_pos (show wantedR _ _ _ = true from rfl)]
          have e26 : ρ (.tmp 26) = .slice (some ⟨g, o, none⟩) n c := hdep 2 _ rfl (by kernel_rfl)
          have e27 : ρ (.tmp 27) = .int .i64 (k : Int) := hdep 3 _ rfl (by kernel_rfl)
          have q0 : (0 : Int) ≤ (k : Int) := by omega
          have q1 : (k : Int) < (n : Int) := HLT.out
          have q2 : k < n := by omega
          have q3 : ((k : Int)).toNat = k := by omega
          clear hdep hext hcl
          have HW := Lib.hid hW
          clear hW
          unfold OpDone
          go_simp
          exact ⟨rfl, Upd.refl _ _, HW.out⟩
        · refine fun ρ w' L hW hLi hcl hd hdep hext hc hg hf => ?_
          rw [if_pos (show wantedR _ _ _ = true from rfl)]
          have e28 : ρ (.tmp 28) = .pointer (some ⟨g, o + k * 9, none⟩) := hdep 4 _ rfl (by kernel_rfl)
          clear hdep hext hcl
          have HW := Lib.hid hW
          clear hW
          unfold OpDone
          go_simp
          exact ⟨rfl, Upd.refl _ _, HW.out⟩
        · refine fun ρ w' L hW hLi hcl hd hdep hext hc hg hf => ?_
          rw [if_pos (show wantedR _ _ _ = true from rfl)]
          have e29 : ρ (.tmp 29) = .pointer (some ⟨g, o + k * 9, none⟩) := hdep 5 _ rfl (by kernel_rfl)
          have q0 : w'.cell? ⟨g, o + k * 9, none⟩ = some (.int .i64 s.1) := hW.cell Z0.out (fun f => f)
          clear hdep hext hcl
          have HW := Lib.hid hW
          clear hW
          unfold OpDone
          go_simp
          exact ⟨rfl, Upd.refl _ _, HW.out⟩
        · refine fun ρ w' L hW hLi hcl hd hdep hext hc hg hf => ?_
          rw [if_pos (show wantedR _ _ _ = true from rfl)]
          have e24 : (BtN (encBk p l k)) (ρ (.tmp 24)) w' := hdep 0 _ rfl (by kernel_rfl)
          have e30 : ρ (.tmp 30) = .int .i64 s.1 := hdep 6 _ rfl (by kernel_rfl)
          clear hdep hext
          obtain ⟨a24, k24, e24, r24⟩ := e24
          have CL := Lib.hid (show Calls Tryz.prog 56 #[.slice a24 (encBk p l k).length k24, .int .i64 s.1, .int .i64 1] w' (BytesPost w' (encBk p l k ++ beB s.1 1)) from r20num_any (n := 1) r24 s.1 HZ.out.1 HZ.out.2 (by omega) (by have := HLE.out; omega))
          have HW := Lib.hid hW
          clear hW hcl hd hLi
          unfold OpDone
          go_simp
          refine CL.out.mono ?_
          rintro e w2 ⟨A2, c2, rfl, hN⟩
          exact ⟨_, rfl, ⟨A2, c2, rfl, hN.1.rd⟩, hN.2.2, HW.out.trans hN.2.2 (fun _ _ f => f)⟩
        · refine fun ρ w' L hW hLi hcl hd hdep hext hc hg hf => ?_
          rw [if_pos (show wantedR _ _ _ = true from rfl)]
          have e1 : ρ (.tmp 1) = .pointer (some ⟨X, 0, none⟩) := hext 1 (by kernel_rfl)
          clear hdep hext hcl
          have HW := Lib.hid hW
          clear hW
          unfold OpDone
          go_simp
          exact ⟨rfl, Upd.refl _ _, HW.out⟩
        · refine fun ρ w' L hW hLi hcl hd hdep hext hc hg hf => ?_
          rw [if_pos (show wantedR _ _ _ = true from rfl)]
          have e32 : ρ (.tmp 32) = .pointer (some ⟨X, 8, none⟩) := hdep 8 _ rfl (by kernel_rfl)
          have q0 : w'.cell? ⟨X, 8, none⟩ = some (.slice (some ⟨g, o, none⟩) n c) := hW.cell C8.out (fun f => f)
          clear hdep hext hcl
          have HW := Lib.hid hW
          clear hW
          unfold OpDone
          go_simp
          exact ⟨rfl, Upd.refl _ _, HW.out⟩
        · refine fun ρ w' L hW hLi hcl hd hdep hext hc hg hf => ?_
          rw [if_pos (show wantedR _ _ _ = true from rfl)]
          have e5 : ρ (.tmp 5) = .int .i64 (k : Int) := hext 5 (by kernel_rfl)
          clear hdep hext hcl
          have HW := Lib.hid hW
          clear hW
          unfold OpDone
          go_simp
          exact ⟨rfl, Upd.refl _ _, HW.out⟩
        · refine fun ρ w' L hW hLi hcl hd hdep hext hc hg hf => ?_
          rw [if_pos (show wantedR _ _ _ = true from rfl)]
          have e33 : ρ (.tmp 33) = .slice (some ⟨g, o, none⟩) n c := hdep 9 _ rfl (by kernel_rfl)
          have e34 : ρ (.tmp 34) = .int .i64 (k : Int) := hdep 10 _ rfl (by kernel_rfl)
          have q0 : (0 : Int) ≤ (k : Int) := by omega
          have q1 : (k : Int) < (n : Int) := HLT.out
          have q2 : k < n := by omega
          have q3 : ((k : Int)).toNat = k := by omega
          clear hdep hext hcl
          have HW := Lib.hid hW
          clear hW
          unfold OpDone
          go_simp
          exact ⟨rfl, Upd.refl _ _, HW.out⟩
        · refine fun ρ w' L hW hLi hcl hd hdep hext hc hg hf => ?_
          rw [if_pos (show wantedR _ _ _ = true from rfl)]
          have e35 : ρ (.tmp 35) = .pointer (some ⟨g, o + k * 9, none⟩) := hdep 11 _ rfl (by kernel_rfl)
          clear hdep hext hcl
          have HW := Lib.hid hW
          clear hW
          unfold OpDone
          go_simp
          exact ⟨rfl, Upd.refl _ _, HW.out⟩
        · refine fun ρ w' L hW hLi hcl hd hdep hext hc hg hf => ?_
          rw [if_pos (show wantedR _ _ _ = true from rfl)]
          have e36 : ρ (.tmp 36) = .pointer (some ⟨g, o + k * 9 + 1, none⟩) := hdep 12 _ rfl (by kernel_rfl)
          clear hdep hext
          refine od_load_row 28 (.tmp 36) rfl g (o + k * 9 + 1) e36 (s.2.map byteV) _ (RS.out w' hW) Tryz.underlying28 rfl (by rw [show (Tryz.prog.info? 28).map (·.size) = some 8 from by kernel_rfl]; simp [HS.out]) ?_
          rw [HZS.out]
          exact ⟨rfl, Upd.refl _ _, hW⟩
        · refine fun ρ w' L hW hLi hcl hd hdep hext hc hg hf => ?_
          rw [if_pos (show wantedR _ _ _ = true from rfl)]
          have e31 : (BtN (encBk p l k ++ beB s.1 1)) (ρ (.tmp 31)) w' := hdep 7 _ rfl (by kernel_rfl)
          have e37 : ρ (.tmp 37) = .agg zs := hdep 13 _ rfl (by kernel_rfl)
          clear hdep hext
          obtain ⟨a31, k31, e31, r31⟩ := e31
          have CL := Lib.hid (show Calls Tryz.prog 57 #[.slice a31 (encBk p l k ++ beB s.1 1).length k31, .agg zs] w' (BytesPost w' (encBk p l k ++ beB s.1 1 ++ s.2)) from by rw [← HZS.out]; exact r20name_any r31 HS.out (by have := HLE.out; rw [List.length_append, beB_len]; omega))
          have HW := Lib.hid hW
          clear hW hcl hd hLi
          generalize encBk p l k ++ beB s.1 1 = LL at e31 CL ⊢
          unfold OpDone
          go_simp
          refine CL.out.mono ?_
          rintro e w2 ⟨A2, c2, rfl, hN⟩
          exact ⟨_, rfl, ⟨A2, c2, rfl, hN.1.rd⟩, hN.2.2, HW.out.trans hN.2.2 (fun _ _ f => f)⟩
        · refine fun ρ w' L hW hLi hcl hd hdep hext hc hg hf => ?_
          rw [if_pos (show wantedR _ _ _ = true from rfl)]
          have e38 : (BtN (encBk p l k ++ beB s.1 1 ++ s.2)) (ρ (.tmp 38)) w' := hdep 14 _ rfl (by kernel_rfl)
          clear hdep hext
          obtain ⟨az, kz, e38, rz⟩ := e38
          have HW := Lib.hid hW
          clear hW hcl hd hLi
          have RZ := Lib.hid rz
          clear rz
          generalize (encBk p l k ++ beB s.1 1 ++ s.2) = LL at e38 RZ ⊢
          unfold OpDone
          go_simp
          exact ⟨⟨_, _, rfl, RZ.out⟩, Upd.refl _ _, HW.out⟩
      intro vs W7 L7 hL7 hW7 hR
      have hr0 : (BtN (encBk p l k)) (vs 0) W7 := hR 0 _ rfl
      obtain ⟨a24, k24, hv0, -⟩ := hr0
      have hv1 : vs 1 = .pointer (some ⟨X, 8, none⟩) := hR 1 _ rfl
      have hv2 : vs 2 = .slice (some ⟨g, o, none⟩) n c := hR 2 _ rfl
      have hv3 : vs 3 = .int .i64 (k : Int) := hR 3 _ rfl
      have hv4 : vs 4 = .pointer (some ⟨g, o + k * 9, none⟩) := hR 4 _ rfl
      have hv5 : vs 5 = .pointer (some ⟨g, o + k * 9, none⟩) := hR 5 _ rfl
      have hv6 : vs 6 = .int .i64 s.1 := hR 6 _ rfl
      have hr7 : (BtN (encBk p l k ++ beB s.1 1)) (vs 7) W7 := hR 7 _ rfl
      obtain ⟨a31, k31, hv7, -⟩ := hr7
      have hv8 : vs 8 = .pointer (some ⟨X, 8, none⟩) := hR 8 _ rfl
      have hv9 : vs 9 = .slice (some ⟨g, o, none⟩) n c := hR 9 _ rfl
      have hv10 : vs 10 = .int .i64 (k : Int) := hR 10 _ rfl
      have hv11 : vs 11 = .pointer (some ⟨g, o + k * 9, none⟩) := hR 11 _ rfl
      have hv12 : vs 12 = .pointer (some ⟨g, o + k * 9 + 1, none⟩) := hR 12 _ rfl
      have hv13 : vs 13 = .agg zs := hR 13 _ rfl
      have hr14 : (BtN (encBk p l k ++ beB s.1 1 ++ s.2)) (vs 14) W7 := hR 14 _ rfl
      obtain ⟨a38, k38, hv14, -⟩ := hr14
      have hr15 : (BtN (encBk p l k ++ beB s.1 1 ++ s.2)) (vs 15) W7 := hR 15 _ rfl
      obtain ⟨a4, k4, hv15, hq15⟩ := hr15
      simp only [putAll, Act.put, List.setIfInBounds_toArray, List.set_cons_zero, List.set_cons_succ, hv0, hv1, hv2, hv3, hv4, hv5, hv6, hv7, hv8, hv9, hv10, hv11, hv12, hv13, hv14, hv15]
      clear hR hv0 hv1 hv2 hv3 hv4 hv5 hv6 hv7 hv8 hv9 hv10 hv11 hv12 hv13 hv14 hv15
      have ST := Lib.hid (show Rd W7 1 (.slice a4 (encBk p l (k + 1)).length k4) (encBk p l (k + 1)).length ((encBk p l (k + 1)).map byteV) from by rw [HNX.out]; exact hq15)
      rw [← HNX.out]
      have HU7 := Lib.hid ((HWR.out.drew).trans hW7 (fun _ _ f => f))
      clear hq15 hW7 hL7
      go_wp2_with fail
      go_roundg (n - (k + 1))
      case measure => omega
      case rel => exact ⟨k + 1, a4, k4, by first | rfl | go_num, by omega, by omega, rfl, ST, HU7⟩
    · have hltz : ¬ (k : Int) < (n : Int) := by omega
      obtain rfl : k = n := by omega
      have E1 := Lib.hid (show encBk p l k = 3 :: blkT p l from by rw [← encBk_all]; rw [HN.out.2])
      rw [E1.out] at HB ⊢
      go_wp2_with fail
      go_ret2
      exact ⟨_, _, rfl, HB.out, U3'.out.trans HWR.out (fun _ _ f => f)⟩
end
end Go.Proofs.YtengcmfdfmnacaaGreat
