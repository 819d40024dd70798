/- EncodeBlock of the reference, at a valid block. No condition. items.(*Reader).Block of a block whose parent is not among the items. No condition. items.(*Reader).Block of a block whose parent is there, but which has no votes: not certified. No condition. items.Block of the text [3], and of a block without its parent; no facts. No condition. items.Block of a block without votes; no facts. No condition. -/
import Derived.Test.YtengcmfdfmnacaaGreatJn22
import Derived.Test.YtengcmfdfmnacaaGreatJn9
import Derived.Test.YtengcmfdfmnacaaGreatJn10
namespace Go.Proofs.YtengcmfdfmnacaaGreat
section
open Go.RowKit

/-- A slice of bytes, as it reads now. -/
def BtN (l : List UInt8) (v : Value) (w : World) : Prop := ∃ A c, v = .slice A l.length c ∧ Rd w 1 (.slice A l.length c) l.length (l.map byteV)
theorem stb_btn (l : List UInt8) : Stb (fun w w' => Upd NoF w w') (BtN l) := fun _ _ _ ⟨A, c, e, h⟩ hu => ⟨A, c, e, h.keep hu⟩
theorem BtN.three (w : World) : Rd (w.alloc (.cells #[byteV 3] 5)) 1 (.slice (some ⟨w.heap.size, 0, none⟩) 1 1) 1 [byteV 3] := rd_lit w 5 (byteV 3)
/-- The text of a block as far as its slot k. -/
def encBk (p : List UInt8) (l : List (Int × List UInt8)) (k : Nat) : List UInt8 := 3 :: p ++ beB l.length 1 ++ ((l.take k).map encCh).flatten
theorem encBk_0 (p : List UInt8) (l : List (Int × List UInt8)) : encBk p l 0 = 3 :: p ++ beB l.length 1 := by simp [encBk]
theorem encBk_next {p : List UInt8} {l : List (Int × List UInt8)} {k : Nat} {s : Int × List UInt8} (h : l[k]? = some s) : encBk p l (k + 1) = encBk p l k ++ beB s.1 1 ++ s.2 := by
  unfold encBk
  rw [take_map_snoc encCh h]
  simp [encCh, beB]
theorem encBk_all {p : List UInt8} {l : List (Int × List UInt8)} : encBk p l l.length = 3 :: blkT p l := by
  unfold encBk blkT
  rw [List.take_length]
  have : UInt8.ofNat ((l.length : Int) % 256).toNat = UInt8.ofNat l.length := by
    apply UInt8.toNat_inj.1
    simp; omega
  simp [beB, byteAt, this]
theorem encBk_len {p : List UInt8} {l : List (Int × List UInt8)} (hp : p.length = 8) (hl : ∀ s ∈ l, s.2.length = 8) (k : Nat) (hk : k ≤ l.length) : (encBk p l k).length = 10 + 9 * k := by
  induction k with
  | zero => simp [encBk_0, hp, beB_len]
  | succ k ih =>
    obtain ⟨s, hs⟩ : ∃ s, l[k]? = some s := ⟨_, List.getElem?_eq_getElem (by omega)⟩
    rw [encBk_next hs, List.length_append, List.length_append, ih (by omega), beB_len, hl s (List.mem_of_getElem? hs)]
    omega

set_option maxRecDepth 100000 in
set_option maxHeartbeats 16000000 in
theorem r20EncodeBlock_ok {w : World} {p : List UInt8} {A : Option Addr} {c n : Nat} {l : List (Int × List UInt8)} (hn : l.length = n) (hp : p.length = 8) (h : ChR w (.slice A n c) l) (hg : GoodCh l) :
    Calls Tryz.prog 26 #[.agg (blkC p (.slice A n c)).toArray] w fun e w' => ∃ B d, e = .returned (.tuple #[.slice B (3 :: blkT p l).length d, .int .i64 0]) ∧ Rd w' 1 (.slice B (3 :: blkT p l).length d) (3 :: blkT p l).length ((3 :: blkT p l).map byteV) ∧ Upd NoF w w' := by
  have CV := Lib.hid (fun W (hu : Upd NoF w W) => r20ValidBlock_ok (w := W) hn hp (h.keep hu) hg)
  obtain ⟨h1, h7, hv⟩ := hg
  rw [hn] at h1 h7
  obtain ⟨xa, hxa⟩ : ∃ x, (blkC p (.slice A n c)).toArray = x := ⟨_, rfl⟩
  rw [hxa] at CV
  have HXL := Lib.hid (show xa.size = 9 from by rw [← hxa]; exact blk_size hp _)
  have BX := Lib.hid (show Blk (w.alloc (.cells xa 67)) w.heap.size 67 xa from Blk.new w _ _)
  have c8 : (w.alloc (.cells xa 67)).cell? ⟨w.heap.size, 8, none⟩ = some (.slice A n c) := by
    rw [BX.out.cell 8, ← hxa]
    unfold blkC
    rw [List.getElem?_toArray, List.getElem?_append_right (by simp [hp])]
    simp [hp]
  have HU := Lib.hid ((Upd.refl NoF w).alloc (.cells xa 67))
  have HC := Lib.hid (h.keep HU.out)
  have HV := Lib.hid hv
  have HN := Lib.hid (show n ≤ 7 ∧ l.length = n from ⟨h7, hn⟩)
  have HP := Lib.hid hp
  have HL8 := Lib.hid h.1
  have C8 := Lib.hid c8
  obtain ⟨zp, hzp⟩ : ∃ x, (p.map byteV).toArray = x := ⟨_, rfl⟩
  have HZP := Lib.hid hzp
  have RP := Lib.hid (show (w.alloc (.cells xa 67)).rangeAt w.heap.size 0 (p.map byteV) from fun j v hj => by
    rw [BX.out.cell (0 + j), ← hxa, Nat.zero_add]
    unfold blkC
    rw [List.getElem?_toArray, List.getElem?_append_left (List.getElem?_eq_some_iff.1 hj).1]
    exact hj)
  rw [hxa]
  clear h hv hn hxa c8 hp hzp
  go_enter Tryz.func26, Tryz.ntmps26
  go_wp2_with (first
    | (refine wpList_load_row rfl 67 (.tmp 1) rfl w.heap.size 0 rfl xa.toList _ (range_blk (by rw [Array.toArray_toList]; exact BX.out)) Tryz.underlying67 rfl (by rw [block_size, Array.length_toList, HXL.out]) xa (by rw [Array.toArray_toList]) ?_)
    | (refine (CV.out _ HU.out).mono ?_; rintro e w1 ⟨rfl, hu1⟩; have V1 := Lib.hid hu1; clear hu1))
  obtain ⟨X, hX⟩ : ∃ x, w.heap.size = x := ⟨_, rfl⟩
  rw [hX] at C8 RP BX ⊢
  clear hX
  obtain ⟨W1, hW1⟩ : ∃ x, x = w1 := ⟨_, rfl⟩
  subst hW1
  have C8 := Lib.hid (show W1.drew.cell? ⟨X, 8, none⟩ = some (.slice A n c) from (V1.out.drew).cell C8.out (fun f => f))
  have RP := Lib.hid (fun w' (hu : Upd NoF W1.drew w') => show w'.rangeAt X 0 (p.map byteV) from fun j v hj => ((V1.out.drew).trans hu (fun _ _ f => f)).cell (RP.out j v hj) (fun f => f))
  refine wp_region_rgw (rgR [BtN ([3]), isV (.pointer (some ⟨X, 0, none⟩)), isV (.agg zp), BtN (3 :: p), isV (.pointer (some ⟨X, 8, none⟩)), isV (.slice A n c), isV (.int .i64 (n : Int)), BtN (3 :: p ++ beB (n : Int) 1), BtN (3 :: p ++ beB (n : Int) 1)]) (fun w w' => Upd NoF w w') (fun _ wq => Upd NoF W1.drew wq) (by kernel_rfl) (by kernel_rfl) (by kernel_rfl) (by rfl) (fun w => Upd.refl _ _) (rgR_keep (by
    intro p hp; simp only [List.mem_cons, List.not_mem_nil, or_false] at hp; rcases hp with rfl | rfl | rfl | rfl | rfl | rfl | rfl | rfl | rfl <;> first | exact stb_isV _ | exact stb_any | exact stb_btn _)) (Upd.refl _ _) ?_ ?_
  · refine ⟨?_, ?_, ?_, ?_, ?_, ?_, ?_, ?_, ?_, trivial⟩
    · refine fun ρ w' L hW hLi hcl hd hdep hext hc hg hf => ?_
      rw [if_pos (show wantedR _ _ _ = true from rfl)]
      clear hdep hext
      have HW := Lib.hid hW
      clear hW hcl hd hLi
      unfold OpDone
      go_simp
      exact ⟨⟨_, _, rfl, by exact BtN.three w'⟩, (Upd.refl NoF w').alloc _, HW.out.alloc _⟩
    · refine fun ρ w' L hW hLi hcl hd hdep hext hc hg hf => ?_
      rw [if_pos (show wantedR _ _ _ = true from rfl)]
      have e1 : ρ (.tmp 1) = .pointer (some ⟨X, 0, none⟩) := hext 1 (by kernel_rfl)
      clear hdep hext hcl
      have HW := Lib.hid hW
      clear hW
      unfold OpDone
      go_simp
      exact ⟨rfl, Upd.refl _ _, HW.out⟩
    · refine fun ρ w' L hW hLi hcl hd hdep hext hc hg hf => ?_
      rw [if_pos (show wantedR _ _ _ = true from rfl)]
      have e10 : ρ (.tmp 10) = .pointer (some ⟨X, 0, none⟩) := hdep 1 _ rfl (by kernel_rfl)
      clear hdep hext
      refine od_load_row 28 (.tmp 10) rfl X 0 e10 (p.map byteV) _ (RP.out w' hW) Tryz.underlying28 rfl (by rw [show (Tryz.prog.info? 28).map (·.size) = some 8 from by kernel_rfl]; simp [HP.out]) ?_
      rw [HZP.out]
      exact ⟨rfl, Upd.refl _ _, hW⟩
    · refine fun ρ w' L hW hLi hcl hd hdep hext hc hg hf => ?_
      rw [if_pos (show wantedR _ _ _ = true from rfl)]
      have e9 : (BtN ([3])) (ρ (.tmp 9)) w' := hdep 0 _ rfl (by kernel_rfl)
      have e11 : ρ (.tmp 11) = .agg zp := hdep 2 _ rfl (by kernel_rfl)
      clear hdep hext
      obtain ⟨a9, k9, e9, r9⟩ := e9
      have q1 : zp = zp := rfl
      have CL := Lib.hid (show Calls Tryz.prog 57 #[.slice a9 1 k9, .agg zp] w' (BytesPost w' (3 :: p)) from by rw [← HZP.out]; exact r20name_any (bs := [3]) r9 HP.out (by simp))
      have HW := Lib.hid hW
      clear hW hcl hd hLi
      unfold OpDone
      go_simp
      refine CL.out.mono ?_
      rintro e w2 ⟨A2, c2, rfl, hN⟩
      exact ⟨_, rfl, ⟨A2, c2, rfl, hN.1.rd⟩, hN.2.2, HW.out.trans hN.2.2 (fun _ _ f => f)⟩
    · refine fun ρ w' L hW hLi hcl hd hdep hext hc hg hf => ?_
      rw [if_pos (show wantedR _ _ _ = true from rfl)]
      have e1 : ρ (.tmp 1) = .pointer (some ⟨X, 0, none⟩) := hext 1 (by kernel_rfl)
      clear hdep hext hcl
      have HW := Lib.hid hW
      clear hW
      unfold OpDone
      go_simp
      exact ⟨rfl, Upd.refl _ _, HW.out⟩
    · refine fun ρ w' L hW hLi hcl hd hdep hext hc hg hf => ?_
      rw [if_pos (show wantedR _ _ _ = true from rfl)]
      have e13 : ρ (.tmp 13) = .pointer (some ⟨X, 8, none⟩) := hdep 4 _ rfl (by kernel_rfl)
      have q0 : w'.cell? ⟨X, 8, none⟩ = some (.slice A n c) := hW.cell C8.out (fun f => f)
      clear hdep hext hcl
      have HW := Lib.hid hW
      clear hW
      unfold OpDone
      go_simp
      exact ⟨rfl, Upd.refl _ _, HW.out⟩
    · refine fun ρ w' L hW hLi hcl hd hdep hext hc hg hf => ?_
      rw [if_pos (show wantedR _ _ _ = true from rfl)]
      have e14 : ρ (.tmp 14) = .slice A n c := hdep 5 _ rfl (by kernel_rfl)
      clear hdep hext hcl
      have HW := Lib.hid hW
      clear hW
      unfold OpDone
      go_simp
      exact ⟨rfl, Upd.refl _ _, HW.out⟩
    · refine fun ρ w' L hW hLi hcl hd hdep hext hc hg hf => ?_
      rw [if_pos (show wantedR _ _ _ = true from rfl)]
      have e12 : (BtN (3 :: p)) (ρ (.tmp 12)) w' := hdep 3 _ rfl (by kernel_rfl)
      have e15 : ρ (.tmp 15) = .int .i64 (n : Int) := hdep 6 _ rfl (by kernel_rfl)
      clear hdep hext
      obtain ⟨a12, k12, e12, r12⟩ := e12
      have CL := Lib.hid (show Calls Tryz.prog 56 #[.slice a12 (3 :: p).length k12, .int .i64 (n : Int), .int .i64 1] w' (BytesPost w' (3 :: p ++ beB (n : Int) 1)) from r20num_any (n := 1) r12 (n : Int) (by omega) (by have := HN.out; omega) (by omega) (by simp [HP.out]))
      have HW := Lib.hid hW
      clear hW hcl hd hLi
      unfold OpDone
      go_simp
      refine CL.out.mono ?_
      rintro e w2 ⟨A2, c2, rfl, hN⟩
      exact ⟨_, rfl, ⟨A2, c2, rfl, hN.1.rd⟩, hN.2.2, HW.out.trans hN.2.2 (fun _ _ f => f)⟩
    · refine fun ρ w' L hW hLi hcl hd hdep hext hc hg hf => ?_
      rw [if_pos (show wantedR _ _ _ = true from rfl)]
      have e16 : (BtN (3 :: p ++ beB (n : Int) 1)) (ρ (.tmp 16)) w' := hdep 7 _ rfl (by kernel_rfl)
      clear hdep hext
      obtain ⟨a16, k16, e16, r16⟩ := e16
      have HW := Lib.hid hW
      clear hW hcl hd hLi
      have R16 := Lib.hid r16
      clear r16
      generalize (3 :: p ++ beB (n : Int) 1) = LL at e16 R16 ⊢
      unfold OpDone
      go_simp
      exact ⟨⟨_, _, rfl, R16.out⟩, Upd.refl _ _, HW.out⟩
  intro vs W3 L3 hL3 hW3 hR
  have hr0 : (BtN ([3])) (vs 0) W3 := hR 0 _ rfl
  obtain ⟨a9, k9, hv0, -⟩ := hr0
  have hv1 : vs 1 = .pointer (some ⟨X, 0, none⟩) := hR 1 _ rfl
  have hv2 : vs 2 = .agg zp := hR 2 _ rfl
  have hr3 : (BtN (3 :: p)) (vs 3) W3 := hR 3 _ rfl
  obtain ⟨a12, k12, hv3, -⟩ := hr3
  have hv4 : vs 4 = .pointer (some ⟨X, 8, none⟩) := hR 4 _ rfl
  have hv5 : vs 5 = .slice A n c := hR 5 _ rfl
  have hv6 : vs 6 = .int .i64 (n : Int) := hR 6 _ rfl
  have hr7 : (BtN (3 :: p ++ beB (n : Int) 1)) (vs 7) W3 := hR 7 _ rfl
  obtain ⟨a16, k16, hv7, hq7⟩ := hr7
  have hr8 : (BtN (3 :: p ++ beB (n : Int) 1)) (vs 8) W3 := hR 8 _ rfl
  obtain ⟨a4, k4, hv8, hq8⟩ := hr8
  simp only [putAll, Act.put, List.setIfInBounds_toArray, List.set_cons_zero, List.set_cons_succ, hv0, hv1, hv2, hv3, hv4, hv5, hv6, hv7, hv8]
  clear hR hv0 hv1 hv2 hv3 hv4 hv5 hv6 hv7 hv8
  have HB0 := Lib.hid (show Rd W3 1 (.slice a4 (encBk p l 0).length k4) (encBk p l 0).length ((encBk p l 0).map byteV) from by rw [encBk_0, HN.out.2]; exact hq8)
  have E0 := Lib.hid (show (3 :: p ++ beB (n : Int) 1).length = (encBk p l 0).length from by rw [encBk_0, HN.out.2])
  have U3 := Lib.hid (show Upd NoF (w.alloc (.cells xa 67)) W3 from (V1.out.drew).trans hW3 (fun _ _ f => f))
  have C8' := Lib.hid (hW3.cell C8.out (fun f => f))
  rw [E0.out]
  clear hq7 hq8 hW3
  clear hL3
  have HLN := Lib.hid (fun k hk => encBk_len HP.out HL8.out k hk)
  have HC' := Lib.hid (HC.out.keep U3.out)
  have U3' := Lib.hid (HU.out.trans U3.out (fun _ _ f => f))
  go_wp2_with fail
  go_loopg [4, 5] n (fun kx s4 s5 wr => ∃ (k : Nat) (Ab : Option Addr) (cb : Nat), s5 = .int .i64 (k : Int) ∧ k ≤ n ∧ n - k ≤ kx ∧ s4 = .slice Ab (encBk p l k).length cb ∧ Hid (Rd wr 1 (.slice Ab (encBk p l k).length cb) (encBk p l k).length ((encBk p l k).map byteV)) ∧ Hid (Upd NoF W3 wr))
  case atStart => exact ⟨0, a4, k4, rfl, by omega, by omega, rfl, HB0, Lib.hid (Upd.refl _ _)⟩
  case round =>
    obtain ⟨k, Ab, cb, rfl, hkn, hkx, rfl, HB, HWR⟩ := hrel
    have c8 : wr.cell? ⟨X, 8, none⟩ = some (.slice A n c) := HWR.out.cell C8'.out (fun f => f)
    by_cases hlt : k < n
    · have hltz : (k : Int) < (n : Int) := by omega
      obtain ⟨s, hz⟩ : ∃ z, l[k]? = some z := ⟨_, List.getElem?_eq_getElem (by have := HN.out; omega)⟩
      have hv := HV.out k s hz
      obtain ⟨g, o, rfl, hr⟩ := (HC'.out.keep HWR.out).at_ hz hlt
      have Z0 := Lib.hid (show wr.drew.cell? ⟨g, o + k * 9, none⟩ = some (.int .i64 s.1) from hr 0 _ rfl)
      have C8 := Lib.hid (show wr.drew.cell? ⟨X, 8, none⟩ = some (.slice (some ⟨g, o, none⟩) n c) from c8)
      have HZ := Lib.hid (show 0 ≤ s.1 ∧ s.1 ≤ 9223372036854775807 from ⟨hv.1, by omega⟩)
      have HS := Lib.hid (HL8.out s (List.mem_of_getElem? hz))
      have HLE := Lib.hid (show (encBk p l k).length ≤ 1000 from by rw [HLN.out k (by have := HN.out; omega)]; have := HN.out; omega)
      have HLT := Lib.hid hltz
      obtain ⟨zs, hzs⟩ : ∃ x, (s.2.map byteV).toArray = x := ⟨_, rfl⟩
      have HZS := Lib.hid hzs
      have RS := Lib.hid (fun w' (hu : Upd NoF wr.drew w') => show w'.rangeAt g (o + k * 9 + 1) (s.2.map byteV) from fun j v hj => by
        have := hr (1 + j) v (by unfold choiceC; rw [Nat.add_comm, List.getElem?_cons_succ]; exact hj)
        rw [show o + k * 9 + 1 + j = o + k * 9 + (1 + j) by omega]
        exact hu.cell this (fun f => f))
      have HNX := Lib.hid (encBk_next (p := p) hz)
      clear hv hr hz hzs
      go_wp2_with fail
      refine wp_region_rgw (rgR [BtN (encBk p l k), isV (.pointer (some ⟨X, 8, none⟩)), isV (.slice (some ⟨g, o, none⟩) n c), isV (.int .i64 (k : Int)), isV (.pointer (some ⟨g, o + k * 9, none⟩)), isV (.pointer (some ⟨g, o + k * 9, none⟩)), isV (.int .i64 s.1), BtN (encBk p l k ++ beB s.1 1), isV (.pointer (some ⟨X, 8, none⟩)), isV (.slice (some ⟨g, o, none⟩) n c), isV (.int .i64 (k : Int)), isV (.pointer (some ⟨g, o + k * 9, none⟩)), isV (.pointer (some ⟨g, o + k * 9 + 1, none⟩)), isV (.agg zs), BtN (encBk p l k ++ beB s.1 1 ++ s.2), BtN (encBk p l k ++ beB s.1 1 ++ s.2)]) (fun w w' => Upd NoF w w') (fun _ wq => Upd NoF wr.drew wq) (by kernel_rfl) (by kernel_rfl) (by kernel_rfl) (by rfl) (fun w => Upd.refl _ _) (rgR_keep (by
        intro p hp; simp only [List.mem_cons, List.not_mem_nil, or_false] at hp; rcases hp with rfl | rfl | rfl | rfl | rfl | rfl | rfl | rfl | rfl | rfl | rfl | rfl | rfl | rfl | rfl | rfl <;> first | exact stb_isV _ | exact stb_any | exact stb_btn _)) (Upd.refl _ _) ?_ ?_
      · refine ⟨?_, ?_, ?_, ?_, ?_, ?_, ?_, ?_, ?_, ?_, ?_, ?_, ?_, ?_, ?_, ?_, trivial⟩
        · refine fun ρ w' L hW hLi hcl hd hdep hext hc hg hf => ?_
          rw [if_pos (show wantedR _ _ _ = true from rfl)]
          have e4 : ρ (.tmp 4) = .slice Ab (encBk p l k).length cb := hext 4 (by kernel_rfl)
          clear hdep hext
          have RZ := Lib.hid (show Rd w' 1 (.slice Ab (encBk p l k).length cb) (encBk p l k).length ((encBk p l k).map byteV) from HB.out.keep ((Upd.refl NoF wr).drew.trans hW (fun _ _ f => f)))
          have HW := Lib.hid hW
          clear hW hcl hd hLi
          unfold OpDone
          go_simp
          exact ⟨⟨_, _, rfl, RZ.out⟩, Upd.refl _ _, HW.out⟩
        · refine fun ρ w' L hW hLi hcl hd hdep hext hc hg hf => ?_
          rw [if_pos (show wantedR _ _ _ = true from rfl)]
          have e1 : ρ (.tmp 1) = .pointer (some ⟨X, 0, none⟩) := hext 1 (by kernel_rfl)
          clear hdep hext hcl
          have HW := Lib.hid hW
          clear hW
          unfold OpDone
          go_simp
          exact ⟨rfl, Upd.refl _ _, HW.out⟩
        · refine fun ρ w' L hW hLi hcl hd hdep hext hc hg hf => ?_
          rw [if_pos (show wantedR _ _ _ = true from rfl)]
          have e25 : ρ (.tmp 25) = .pointer (some ⟨X, 8, none⟩) := hdep 1 _ rfl (by kernel_rfl)
          have q0 : w'.cell? ⟨X, 8, none⟩ = some (.slice (some ⟨g, o, none⟩) n c) := hW.cell C8.out (fun f => f)
          clear hdep hext hcl
          have HW := Lib.hid hW
          clear hW
          unfold OpDone
          go_simp
          exact ⟨rfl, Upd.refl _ _, HW.out⟩
        · refine fun ρ w' L hW hLi hcl hd hdep hext hc hg hf => ?_
          rw [if_pos (show wantedR _ _ _ = true from rfl)]
          have e5 : ρ (.tmp 5) = .int .i64 (k : Int) := hext 5 (by kernel_rfl)
          clear hdep hext hcl
          have HW := Lib.hid hW
          clear hW
          unfold OpDone
          go_simp
          exact ⟨rfl, Upd.refl _ _, HW.out⟩
        · refine fun ρ w' L hW hLi hcl hd hdep hext hc hg hf => ?_
          rw [if_pos (show wantedR _ _ _ = true from rfl)]
          have e26 : ρ (.tmp 26) = .slice (some ⟨g, o, none⟩) n c := hdep 2 _ rfl (by kernel_rfl)
          have e27 : ρ (.tmp 27) = .int .i64 (k : Int) := hdep 3 _ rfl (by kernel_rfl)
          have q0 : (0 : Int) ≤ (k : Int) := by omega
          have q1 : (k : Int) < (n : Int) := HLT.out
          have q2 : k < n := by omega
          have q3 : ((k : Int)).toNat = k := by omega
          clear hdep hext hcl
          have HW := Lib.hid hW
          clear hW
          unfold OpDone
          go_simp
          exact ⟨rfl, Upd.refl _ _, HW.out⟩
        · refine fun ρ w' L hW hLi hcl hd hdep hext hc hg hf => ?_
          rw [if_pos (show wantedR _ _ _ = true from rfl)]
          have e28 : ρ (.tmp 28) = .pointer (some ⟨g, o + k * 9, none⟩) := hdep 4 _ rfl (by kernel_rfl)
          clear hdep hext hcl
          have HW := Lib.hid hW
          clear hW
          unfold OpDone
          go_simp
          exact ⟨rfl, Upd.refl _ _, HW.out⟩
        · refine fun ρ w' L hW hLi hcl hd hdep hext hc hg hf => ?_
          rw [if_pos (show wantedR _ _ _ = true from rfl)]
          have e29 : ρ (.tmp 29) = .pointer (some ⟨g, o + k * 9, none⟩) := hdep 5 _ rfl (by kernel_rfl)
          have q0 : w'.cell? ⟨g, o + k * 9, none⟩ = some (.int .i64 s.1) := hW.cell Z0.out (fun f => f)
          clear hdep hext hcl
          have HW := Lib.hid hW
          clear hW
          unfold OpDone
          go_simp
          exact ⟨rfl, Upd.refl _ _, HW.out⟩
        · refine fun ρ w' L hW hLi hcl hd hdep hext hc hg hf => ?_
          rw [if_pos (show wantedR _ _ _ = true from rfl)]
          have e24 : (BtN (encBk p l k)) (ρ (.tmp 24)) w' := hdep 0 _ rfl (by kernel_rfl)
          have e30 : ρ (.tmp 30) = .int .i64 s.1 := hdep 6 _ rfl (by kernel_rfl)
          clear hdep hext
          obtain ⟨a24, k24, e24, r24⟩ := e24
          have CL := Lib.hid (show Calls Tryz.prog 56 #[.slice a24 (encBk p l k).length k24, .int .i64 s.1, .int .i64 1] w' (BytesPost w' (encBk p l k ++ beB s.1 1)) from r20num_any (n := 1) r24 s.1 HZ.out.1 HZ.out.2 (by omega) (by have := HLE.out; omega))
          have HW := Lib.hid hW
          clear hW hcl hd hLi
          unfold OpDone
          go_simp
          refine CL.out.mono ?_
          rintro e w2 ⟨A2, c2, rfl, hN⟩
          exact ⟨_, rfl, ⟨A2, c2, rfl, hN.1.rd⟩, hN.2.2, HW.out.trans hN.2.2 (fun _ _ f => f)⟩
        · refine fun ρ w' L hW hLi hcl hd hdep hext hc hg hf => ?_
          rw [if_pos (show wantedR _ _ _ = true from rfl)]
          have e1 : ρ (.tmp 1) = .pointer (some ⟨X, 0, none⟩) := hext 1 (by kernel_rfl)
          clear hdep hext hcl
          have HW := Lib.hid hW
          clear hW
          unfold OpDone
          go_simp
          exact ⟨rfl, Upd.refl _ _, HW.out⟩
        · refine fun ρ w' L hW hLi hcl hd hdep hext hc hg hf => ?_
          rw [if_pos (show wantedR _ _ _ = true from rfl)]
          have e32 : ρ (.tmp 32) = .pointer (some ⟨X, 8, none⟩) := hdep 8 _ rfl (by kernel_rfl)
          have q0 : w'.cell? ⟨X, 8, none⟩ = some (.slice (some ⟨g, o, none⟩) n c) := hW.cell C8.out (fun f => f)
          clear hdep hext hcl
          have HW := Lib.hid hW
          clear hW
          unfold OpDone
          go_simp
          exact ⟨rfl, Upd.refl _ _, HW.out⟩
        · refine fun ρ w' L hW hLi hcl hd hdep hext hc hg hf => ?_
          rw [if_pos (show wantedR _ _ _ = true from rfl)]
          have e5 : ρ (.tmp 5) = .int .i64 (k : Int) := hext 5 (by kernel_rfl)
          clear hdep hext hcl
          have HW := Lib.hid hW
          clear hW
          unfold OpDone
          go_simp
          exact ⟨rfl, Upd.refl _ _, HW.out⟩
        · refine fun ρ w' L hW hLi hcl hd hdep hext hc hg hf => ?_
          rw [if_pos (show wantedR _ _ _ = true from rfl)]
          have e33 : ρ (.tmp 33) = .slice (some ⟨g, o, none⟩) n c := hdep 9 _ rfl (by kernel_rfl)
          have e34 : ρ (.tmp 34) = .int .i64 (k : Int) := hdep 10 _ rfl (by kernel_rfl)
          have q0 : (0 : Int) ≤ (k : Int) := by omega
          have q1 : (k : Int) < (n : Int) := HLT.out
          have q2 : k < n := by omega
          have q3 : ((k : Int)).toNat = k := by omega
          clear hdep hext hcl
          have HW := Lib.hid hW
          clear hW
          unfold OpDone
          go_simp
          exact ⟨rfl, Upd.refl _ _, HW.out⟩
        · refine fun ρ w' L hW hLi hcl hd hdep hext hc hg hf => ?_
          rw [if_pos (show wantedR _ _ _ = true from rfl)]
          have e35 : ρ (.tmp 35) = .pointer (some ⟨g, o + k * 9, none⟩) := hdep 11 _ rfl (by kernel_rfl)
          clear hdep hext hcl
          have HW := Lib.hid hW
          clear hW
          unfold OpDone
          go_simp
          exact ⟨rfl, Upd.refl _ _, HW.out⟩
        · refine fun ρ w' L hW hLi hcl hd hdep hext hc hg hf => ?_
          rw [if_pos (show wantedR _ _ _ = true from rfl)]
          have e36 : ρ (.tmp 36) = .pointer (some ⟨g, o + k * 9 + 1, none⟩) := hdep 12 _ rfl (by kernel_rfl)
          clear hdep hext
          refine od_load_row 28 (.tmp 36) rfl g (o + k * 9 + 1) e36 (s.2.map byteV) _ (RS.out w' hW) Tryz.underlying28 rfl (by rw [show (Tryz.prog.info? 28).map (·.size) = some 8 from by kernel_rfl]; simp [HS.out]) ?_
          rw [HZS.out]
          exact ⟨rfl, Upd.refl _ _, hW⟩
        · refine fun ρ w' L hW hLi hcl hd hdep hext hc hg hf => ?_
          rw [if_pos (show wantedR _ _ _ = true from rfl)]
          have e31 : (BtN (encBk p l k ++ beB s.1 1)) (ρ (.tmp 31)) w' := hdep 7 _ rfl (by kernel_rfl)
          have e37 : ρ (.tmp 37) = .agg zs := hdep 13 _ rfl (by kernel_rfl)
          clear hdep hext
          obtain ⟨a31, k31, e31, r31⟩ := e31
          have CL := Lib.hid (show Calls Tryz.prog 57 #[.slice a31 (encBk p l k ++ beB s.1 1).length k31, .agg zs] w' (BytesPost w' (encBk p l k ++ beB s.1 1 ++ s.2)) from by rw [← HZS.out]; exact r20name_any r31 HS.out (by have := HLE.out; rw [List.length_append, beB_len]; omega))
          have HW := Lib.hid hW
          clear hW hcl hd hLi
          generalize encBk p l k ++ beB s.1 1 = LL at e31 CL ⊢
          unfold OpDone
          go_simp
          refine CL.out.mono ?_
          rintro e w2 ⟨A2, c2, rfl, hN⟩
          exact ⟨_, rfl, ⟨A2, c2, rfl, hN.1.rd⟩, hN.2.2, HW.out.trans hN.2.2 (fun _ _ f => f)⟩
        · refine fun ρ w' L hW hLi hcl hd hdep hext hc hg hf => ?_
          rw [if_pos (show wantedR _ _ _ = true from rfl)]
          have e38 : (BtN (encBk p l k ++ beB s.1 1 ++ s.2)) (ρ (.tmp 38)) w' := hdep 14 _ rfl (by kernel_rfl)
          clear hdep hext
          obtain ⟨az, kz, e38, rz⟩ := e38
          have HW := Lib.hid hW
          clear hW hcl hd hLi
          have RZ := Lib.hid rz
          clear rz
          generalize (encBk p l k ++ beB s.1 1 ++ s.2) = LL at e38 RZ ⊢
          unfold OpDone
          go_simp
          exact ⟨⟨_, _, rfl, RZ.out⟩, Upd.refl _ _, HW.out⟩
      intro vs W7 L7 hL7 hW7 hR
      have hr0 : (BtN (encBk p l k)) (vs 0) W7 := hR 0 _ rfl
      obtain ⟨a24, k24, hv0, -⟩ := hr0
      have hv1 : vs 1 = .pointer (some ⟨X, 8, none⟩) := hR 1 _ rfl
      have hv2 : vs 2 = .slice (some ⟨g, o, none⟩) n c := hR 2 _ rfl
      have hv3 : vs 3 = .int .i64 (k : Int) := hR 3 _ rfl
      have hv4 : vs 4 = .pointer (some ⟨g, o + k * 9, none⟩) := hR 4 _ rfl
      have hv5 : vs 5 = .pointer (some ⟨g, o + k * 9, none⟩) := hR 5 _ rfl
      have hv6 : vs 6 = .int .i64 s.1 := hR 6 _ rfl
      have hr7 : (BtN (encBk p l k ++ beB s.1 1)) (vs 7) W7 := hR 7 _ rfl
      obtain ⟨a31, k31, hv7, -⟩ := hr7
      have hv8 : vs 8 = .pointer (some ⟨X, 8, none⟩) := hR 8 _ rfl
      have hv9 : vs 9 = .slice (some ⟨g, o, none⟩) n c := hR 9 _ rfl
      have hv10 : vs 10 = .int .i64 (k : Int) := hR 10 _ rfl
      have hv11 : vs 11 = .pointer (some ⟨g, o + k * 9, none⟩) := hR 11 _ rfl
      have hv12 : vs 12 = .pointer (some ⟨g, o + k * 9 + 1, none⟩) := hR 12 _ rfl
      have hv13 : vs 13 = .agg zs := hR 13 _ rfl
      have hr14 : (BtN (encBk p l k ++ beB s.1 1 ++ s.2)) (vs 14) W7 := hR 14 _ rfl
      obtain ⟨a38, k38, hv14, -⟩ := hr14
      have hr15 : (BtN (encBk p l k ++ beB s.1 1 ++ s.2)) (vs 15) W7 := hR 15 _ rfl
      obtain ⟨a4, k4, hv15, hq15⟩ := hr15
      simp only [putAll, Act.put, List.setIfInBounds_toArray, List.set_cons_zero, List.set_cons_succ, hv0, hv1, hv2, hv3, hv4, hv5, hv6, hv7, hv8, hv9, hv10, hv11, hv12, hv13, hv14, hv15]
      clear hR hv0 hv1 hv2 hv3 hv4 hv5 hv6 hv7 hv8 hv9 hv10 hv11 hv12 hv13 hv14 hv15
      have ST := Lib.hid (show Rd W7 1 (.slice a4 (encBk p l (k + 1)).length k4) (encBk p l (k + 1)).length ((encBk p l (k + 1)).map byteV) from by rw [HNX.out]; exact hq15)
      rw [← HNX.out]
      have HU7 := Lib.hid ((HWR.out.drew).trans hW7 (fun _ _ f => f))
      clear hq15 hW7 hL7
      go_wp2_with fail
      go_roundg (n - (k + 1))
      case measure => omega
      case rel => exact ⟨k + 1, a4, k4, by first | rfl | go_num, by omega, by omega, rfl, ST, HU7⟩
    · have hltz : ¬ (k : Int) < (n : Int) := by omega
      obtain rfl : k = n := by omega
      have E1 := Lib.hid (show encBk p l k = 3 :: blkT p l from by rw [← encBk_all]; rw [HN.out.2])
      rw [E1.out] at HB ⊢
      go_wp2_with fail
      go_ret2
      exact ⟨_, _, rfl, HB.out, U3'.out.trans HWR.out (fun _ _ f => f)⟩
end

section
open Go.RowKit Go.Shelf Go.Lib Go.Sort

theorem range_parent {w : World} {b : Nat} {p : List UInt8} {u : Value} (hb : Blk w b 67 (blkC p u).toArray) : w.rangeAt b 0 (p.map byteV) := fun j v hv => by
  rw [hb.cell, Nat.zero_add]
  have hj := (List.getElem?_eq_some_iff.1 hv).1
  rw [blkC, List.getElem?_toArray, List.getElem?_append_left hj]
  exact hv
set_option maxRecDepth 100000 in
set_option maxHeartbeats 4000000 in
theorem ReaderBlock_none {w : World} {v L : Value} (R : Value) {p : List UInt8} {l : List (Int × List UInt8)} {its : List (List UInt8 × List Value)} (h : Rd w 1 v (3 :: blkT p l).length ((3 :: blkT p l).map byteV)) (hp : p.length = 8) (hl : ∀ s ∈ l, s.2.length = 8 ∧ 0 ≤ s.1 ∧ s.1 < 256) (hg : GoodCh l) (hi : ItR w L its) (hf : findS (its.map (·.1)) p = -1) :
    Calls Tryz.prog 54 #[R, L, v] w fun e w' => e = .returned (.tuple #[.agg itZ, .int .i64 6]) ∧ Upd NoF w w' := by
  have CD := Lib.hid (fun W (hu : Upd NoF w W) => DecodeBlock_ok (w := W) (v := v) (p := p) (l := l) (h.keep hu) hp hl hg)
  have CF := Lib.hid (fun W (hu : Upd NoF w W) => by have := Find_any (w := W) (hi.keep hu) p hp; rw [hf] at this; exact this)
  have HZS := Lib.hid (fun A c => show ((blkC p (.slice A l.length c)).toArray.size = 9 ∧ (Tryz.prog.info? 67).map (·.size) = some (blkC p (.slice A l.length c)).toArray.size ∧ (blkC p (.slice A l.length c)).toArray.all (·.oneCell') = true) from by
    have hs : (blkC p (.slice A l.length c)).toArray.size = 9 := by simp [blkC, hp]
    exact ⟨hs, by rw [hs]; kernel_rfl, blk_one _ A _ c⟩)
  obtain ⟨nb, hnb⟩ : ∃ x, (p.map byteV).toArray = x := ⟨_, rfl⟩
  have HNB := Lib.hid hnb
  have HP := Lib.hid hp
  rw [show nameV p = .agg nb from by rw [← hnb]] at CF
  have IA := Lib.hid item_alloc
  have IO := Lib.hid itZ_one
  have IS := Lib.hid (show (Tryz.prog.info? 38).map (·.size) = some itZ.size from by rw [itZ_size, item_size])
  obtain ⟨iz, hiz⟩ : ∃ x, itZ = x := ⟨_, rfl⟩
  rw [hiz] at IA IO IS ⊢
  have HIZ := Lib.hid hiz
  clear h hiz hnb hp hl hg hi hf
  go_enter Tryz.func54, Tryz.ntmps54
  go_wp2_with (first
    | (refine wpList_alloc_row rfl 38 rfl iz IA.out ?_; intro w1 hb1 hu1 hs1; have B1 := Lib.hid hb1; have V1 := Lib.hid hu1; have S1 := Lib.hid hs1; clear hb1 hu1 hs1)
    | (refine (CD.out _ V1.out).mono ?_; rintro e w2 ⟨A, c, he, hch, hu2⟩; have HS2 := HZS.out A c; obtain ⟨zb, hzb⟩ : ∃ x, (blkC p (.slice A l.length c)).toArray = x := ⟨_, rfl⟩; have HZB := Lib.hid hzb; rw [hzb] at he HS2; subst he; have HZ := Lib.hid HS2; have B2 := Lib.hid (hu2.blk B1.out (fun f => f)); have V2 := Lib.hid (V1.out.trans hu2 (fun _ _ f => f)); clear hu2 hch HS2 hzb)
    | (refine wpList_alloc_row rfl 67 rfl (blkC (List.replicate 8 0) (.slice none 0 0)).toArray alloc_block ?_; intro w4 hb4 hu4 hs4; have B4 := Lib.hid hb4; have V4 := Lib.hid hu4; have S4 := Lib.hid hs4; clear hb4 hu4 hs4)
    | (refine wpList_store_row rfl 67 (.tmp 8) (.tmp 25) rfl w2.heap.size rfl zb rfl 67 _ B4.out (by rw [HZ.out.1]; rfl) HZ.out.2.1 HZ.out.2.2 ?_; intro w5 hb5 hu5 hs5; have V5 := Lib.hid (V4.out.trans hu5 (F := NoF) (fun k hk e => by have e : k = w2.heap.size := e; omega)); have B5 := Lib.hid (V5.out.blk B2.out (fun f => f)); have Z5 := Lib.hid hb5; have U5 := Lib.hid (V2.out.trans V5.out (fun _ _ f => f)); clear hb5 hu5 hs5)
    | (refine wpList_load_row rfl 28 (.tmp 31) rfl w2.heap.size 0 rfl (p.map byteV) _ (range_parent (by rw [HZB.out]; exact Z5.out)) Tryz.underlying28 rfl (by rw [name_size]; simp [HP.out]) nb HNB.out ?_)
    | (refine (CF.out _ U5.out).mono ?_; rintro e w6 ⟨rfl, hu6⟩; have B6 := Lib.hid (hu6.blk B5.out (fun f => f)); have U6 := Lib.hid (U5.out.trans hu6 (fun _ _ f => f)); clear hu6)
    | (refine wpList_store_row rfl 38 (.tmp 6) (.tmp 36) rfl w.heap.size rfl iz (by rw [← HIZ.out]; kernel_rfl) 38 _ B6.out rfl IS.out IO.out ?_; intro w9 hb9 hu9 hs9))
  refine bodyPost_ret (results_cell_tmp Tryz.results54 _ _ w.heap.size iz.toList _ rfl (range_blk (by rw [Array.toArray_toList]; exact hb9)) Tryz.underlying38 rfl (by rw [Array.length_toList]; exact IS.out)) rfl ?_
  exact ⟨by simp, U6.out.trans hu9 (fun j hj f => by have f : j = w.heap.size := f; omega)⟩
end

section
open Go.RowKit Go.Shelf Go.Lib Go.Sort

set_option maxRecDepth 100000 in
set_option maxHeartbeats 4000000 in
theorem ReaderBlock_cert {w : World} {v : Value} {A0 : Option Addr} {c0 N k : Nat} {rb tm om : Nat} {g0 g1 g2 g3 g4 : Value} {p nm : List UInt8} {rest : List Value} {m : Int} {l : List (Int × List UInt8)} {its : List (List UInt8 × List Value)} (h : Rd w 1 v (3 :: blkT p l).length ((3 :: blkT p l).map byteV)) (hp : p.length = 8) (hl : ∀ s ∈ l, s.2.length = 8 ∧ 0 ≤ s.1 ∧ s.1 < 256) (hg : GoodCh l) (hN : its.length = N) (hi : ItR w (.slice A0 N c0) its) (hk : its[k]? = some (nm, rest)) (hf : findS (its.map (·.1)) p = (k : Int)) (hone : ∀ u ∈ rest, u.oneCell' = true) (hm : rest[12]? = some (.int .i64 m)) (hm0 : -9223372036854775808 ≤ m) (hm1 : m ≤ 9223372036854775807)
    (hids : idsV (idsF m) = l.map fun x => .int .i64 x.1) (hr : Blk w rb 148 #[g0, g1, g2, g3, g4, .slice none 0 0, .map (some tm), .map (some om)]) (hom : w.heap[om]? = some (.map #[] 0)) :
    Calls Tryz.prog 54 #[.pointer (some ⟨rb, 0, none⟩), .slice A0 N c0, v] w fun e w' => e = .returned (.tuple #[.agg itZ, .int .i64 105]) ∧ Upd (fun i => i = om) w w' := by
  have CD := Lib.hid (fun W (hu : Upd NoF w W) => DecodeBlock_ok (w := W) (v := v) (p := p) (l := l) (h.keep hu) hp hl hg)
  have CF := Lib.hid (fun W (hu : Upd NoF w W) => by have := Find_any (w := W) (hi.keep hu) p hp; rw [hf] at this; exact this)
  obtain ⟨n, hn⟩ : ∃ n, l.length = n := ⟨_, rfl⟩
  have HLN := Lib.hid hn
  have hn0 : ¬ ((n : Int) = 0) := by have := hg.1; omega
  have hn1 : decide ((n : Int) = 0) = false := by simp; have := hg.1; omega
  have CI := Lib.hid (fun W => IDs_any m hm0 hm1 W)
  have HIDS := Lib.hid hids
  have HLEN := Lib.hid (show (idsF m).length = n from by have := congrArg List.length hids; rw [← hn]; simpa [idsV] using this)
  have HZS := Lib.hid (fun A c => show ((blkC p (.slice A n c)).toArray.size = 9 ∧ (Tryz.prog.info? 67).map (·.size) = some (blkC p (.slice A n c)).toArray.size ∧ (blkC p (.slice A n c)).toArray.all (·.oneCell') = true ∧ (blkC p (.slice A n c)).toArray[8]? = some (.slice A n c)) from by
    have hs : (blkC p (.slice A n c)).toArray.size = 9 := by simp [blkC, hp]
    exact ⟨hs, by rw [hs]; kernel_rfl, blk_one _ A _ c, by rw [blkC, List.getElem?_toArray, List.getElem?_append_right (by simp [hp])]; simp [hp]⟩)
  have HNM := hi.nm _ (List.mem_of_getElem? hk)
  have hkN : k < N := by rw [← hN]; exact (List.getElem?_eq_some_iff.1 hk).1
  have hRow : ∀ r ∈ its.map (fun x => itemC x.1 x.2), r.length = 28 := fun r hr => by
    obtain ⟨x, hx, rfl⟩ := List.mem_map.1 hr
    have := hi.nm x hx
    simp [itemC, this.1, this.2]
  have hrd := hi.rd
  rw [hN] at hrd
  have hNm : N ≤ maxLen := hrd.le
  unfold maxLen at hNm
  obtain ⟨gi, oi, rfl, hrg⟩ := rows_at hRow hrd (i := k) (r := itemC nm rest) (by rw [List.getElem?_map, hk]; rfl) hkN
  obtain ⟨kk, hkk⟩ : ∃ k, k = 28 := ⟨_, rfl⟩
  have HK := Lib.hid hkk
  rw [← hkk] at hrg
  have HRG := Lib.hid hrg
  have aE : ∀ w, (isAgg 38).run Tryz.prog w = .ok true w := fun w => by kernel_rfl
  have zE : ∀ w, (Go.sizeOf 38).run Tryz.prog w = .ok 28 w := fun w => by kernel_rfl
  rw [← hkk] at zE
  obtain ⟨ra, hra⟩ : ∃ x, (itemC nm rest).toArray = x := ⟨_, rfl⟩
  have HRA := Lib.hid hra
  have HRS := Lib.hid (show (itemC nm rest).length = 28 from by simp [itemC, HNM.1, HNM.2])
  have HRM := Lib.hid (show ra[20]? = some (.int .i64 m) from by rw [← hra, itemC, List.getElem?_toArray, List.getElem?_append_right (by simp [HNM.1])]; simpa [HNM.1] using hm)
  have HRO := Lib.hid (show ra.all (·.oneCell') = true from by
    rw [← hra, List.all_toArray, List.all_eq_true]
    intro u hu
    rcases (show (∃ a, a ∈ nm ∧ byteV a = u) ∨ u ∈ rest from by simpa [itemC] using hu) with ⟨b, -, rfl⟩ | h1
    · rfl
    · exact hone u h1)
  have HR8 := Lib.hid (show ra.size = 28 from by rw [← hra]; simpa using HRS.out)
  have hk0 : decide ((k : Int) < 0) = false := by simp
  obtain ⟨nb, hnb⟩ : ∃ x, (p.map byteV).toArray = x := ⟨_, rfl⟩
  have HNB := Lib.hid hnb
  have HP := Lib.hid hp
  rw [show nameV p = .agg nb from by rw [← hnb]] at CF
  have IA := Lib.hid item_alloc
  have IO := Lib.hid itZ_one
  have IS := Lib.hid (show (Tryz.prog.info? 38).map (·.size) = some itZ.size from by rw [itZ_size, item_size])
  obtain ⟨iz, hiz⟩ : ∃ x, itZ = x := ⟨_, rfl⟩
  rw [hiz] at IA IO IS ⊢
  have HIZ := Lib.hid hiz
  have HI8 := Lib.hid (show iz.size = 28 from by rw [← hiz]; exact itZ_size)
  have HR := Lib.hid hr
  have HOM := Lib.hid hom
  have HG := Lib.hid hg
  have hkz : ((k : Nat) : Int).toNat = k := by omega
  clear hn h hiz hnb hp hl hg hi hf hra hrg hkk hRow hrd HNM hk hN hm hm0 hm1 hids hr hom
  go_enter Tryz.func54, Tryz.ntmps54
  go_wp2_with (first
    | (refine wpList_alloc_row rfl 38 rfl iz IA.out ?_; intro w1 hb1 hu1 hs1; have B1 := Lib.hid hb1; have V1 := Lib.hid hu1; have S1 := Lib.hid hs1; clear hb1 hu1 hs1)
    | (refine (CD.out _ V1.out).mono ?_; rintro e w2 ⟨A, c, he, hch, hu2⟩; rw [HLN.out] at he hch; have HS2 := HZS.out A c; obtain ⟨zb, hzb⟩ : ∃ x, (blkC p (.slice A n c)).toArray = x := ⟨_, rfl⟩; have HZB := Lib.hid hzb; rw [hzb] at he HS2; subst he; have HZ := Lib.hid HS2; have HCH := Lib.hid hch; have B2 := Lib.hid (hu2.blk B1.out (fun f => f)); have V2 := Lib.hid (V1.out.trans hu2 (fun _ _ f => f)); clear hu2 hch HS2 hzb)
    | (refine wpList_alloc_row rfl 67 rfl (blkC (List.replicate 8 0) (.slice none 0 0)).toArray alloc_block ?_; intro w4 hb4 hu4 hs4; have B4 := Lib.hid hb4; have V4 := Lib.hid hu4; have S4 := Lib.hid hs4; clear hb4 hu4 hs4)
    | (refine wpList_store_row rfl 67 (.tmp 8) (.tmp 25) rfl w2.heap.size rfl zb rfl 67 _ B4.out (by rw [HZ.out.1]; rfl) HZ.out.2.1 HZ.out.2.2.1 ?_; intro w5 hb5 hu5 hs5; have V5 := Lib.hid (V4.out.trans hu5 (F := NoF) (fun k hk e => by have e : k = w2.heap.size := e; omega)); have B5 := Lib.hid (V5.out.blk B2.out (fun f => f)); have Z5 := Lib.hid hb5; have U5 := Lib.hid (V2.out.trans V5.out (fun _ _ f => f)); have C5 := Lib.hid (HCH.out.keep V5.out); clear hb5 hu5 hs5)
    | (refine wpList_load_row rfl 28 (.tmp 31) rfl w2.heap.size 0 rfl (p.map byteV) _ (range_parent (by rw [HZB.out]; exact Z5.out)) Tryz.underlying28 rfl (by rw [name_size]; simp [HP.out]) nb HNB.out ?_)
    | (refine (CF.out _ U5.out).mono ?_; rintro e w6 ⟨rfl, hu6⟩; have B6 := Lib.hid (hu6.blk B5.out (fun f => f)); have Z6 := Lib.hid (hu6.blk Z5.out (fun f => f)); have C6 := Lib.hid (C5.out.keep hu6); have U6 := Lib.hid (U5.out.trans hu6 (fun _ _ f => f)); clear hu6)
    | (refine wpList_load_row rfl 38 (.tmp 39) rfl gi (oi + k * kk) rfl (itemC nm rest) _ (fun j u hj => U6.out.cell (HRG.out j u hj) (fun f => f)) Tryz.underlying38 rfl (by rw [item_size, HRS.out]) ra HRA.out ?_)
    | (refine wpList_store_row rfl 38 (.tmp 11) (.tmp 40) rfl w6.heap.size rfl ra rfl 38 _ B1.out (by rw [HI8.out, HR8.out]) (by rw [item_size, HR8.out]) HRO.out ?_; intro w7 hb7 hu7 hs7; have V7 := Lib.hid (V1.out.trans hu7 (F := NoF) (fun i hi e => by have e : i = w6.heap.size := e; omega)); have I7 := Lib.hid hb7; have U7 := Lib.hid (U6.out.trans V7.out (fun _ _ f => f)); have B7 := Lib.hid (V7.out.blk B6.out (fun f => f)); have Z7 := Lib.hid (V7.out.blk Z6.out (fun f => f)); have C7 := Lib.hid (C6.out.keep V7.out); have cM := (Blk.cell hb7 20).trans HRM.out; clear hb7 hu7 hs7)
    | (refine (CI.out _).mono ?_; rintro e w8 ⟨u8, rfl, ho8, -, hu8⟩; have O8 := Lib.hid ho8; have I8 := Lib.hid (hu8.blk I7.out (fun f => f)); have U8 := Lib.hid (U7.out.trans hu8 (fun _ _ f => f)); have B8 := Lib.hid (hu8.blk B7.out (fun f => f)); have Z8 := Lib.hid (hu8.blk Z7.out (fun f => f)); have C8 := Lib.hid (C7.out.keep hu8); have hrd8 := ho8.rd; rw [HLEN.out, HIDS.out] at hrd8; obtain ⟨A8, c8, rfl, h81, h82, h83⟩ := id hrd8; have R8 := Lib.hid hrd8; have cS := (Z8.out.cell 8).trans HZ.out.2.2.2; have cM8 := (I8.out.cell 20).trans HRM.out; clear hu8 ho8 hrd8 h83)
    | (refine (EqualInts_true HLN.out C8.out R8.out).mono ?_; rintro e w10 ⟨rfl, hu10⟩; have I10 := Lib.hid (hu10.blk I8.out (fun f => f)); have U10 := Lib.hid (U8.out.trans hu10 (fun _ _ f => f)); have B10 := Lib.hid (hu10.blk B8.out (fun f => f)); have Z10 := Lib.hid (hu10.blk Z8.out (fun f => f)); have C10 := Lib.hid (C8.out.keep hu10); have cS10 := (Z10.out.cell 8).trans HZ.out.2.2.2; have cM10 := (I10.out.cell 20).trans HRM.out; clear hu10))
  have H0n : 0 < n := by have := HG.out.1; have := HLN.out; omega
  obtain ⟨x0, hx⟩ : ∃ x, l[0]? = some x := ⟨_, List.getElem?_eq_getElem (by have := HG.out.1; omega)⟩
  obtain ⟨z0, n0⟩ := x0
  obtain ⟨hc8, hcr⟩ := C10.out
  have H08 := Lib.hid (hc8 _ (List.mem_of_getElem? hx))
  rw [HLN.out] at hcr
  obtain ⟨gc, oc, rfl, hrc⟩ := rows_at (K := 9) (rows := l.map choiceC) (fun r h => by
    obtain ⟨x, hx, rfl⟩ := List.mem_map.1 h
    simp [choiceC, hc8 x hx]) hcr (i := 0) (r := choiceC (z0, n0)) (by rw [List.getElem?_map, hx]; rfl) H0n
  rw [show oc + 0 * 9 = oc from by omega] at hrc
  have HRC := Lib.hid hrc
  obtain ⟨ca, hca⟩ : ∃ x, (choiceC (z0, n0)).toArray = x := ⟨_, rfl⟩
  have HCA := Lib.hid hca
  have HCS := Lib.hid (show (choiceC (z0, n0)).length = 9 from by simp [choiceC, H08.out])
  have HCZ := Lib.hid (show ca.size = 9 from by rw [← hca]; simpa using HCS.out)
  have HCO := Lib.hid (show ca.all (·.oneCell') = true from by rw [← hca, Array.all_eq_true_iff_forall_mem]; exact fun u hu => choice_one z0 n0 u (by simpa using hu))
  have HSZ := Lib.hid (show (Tryz.prog.info? 64).map (·.size) = some 9 from by kernel_rfl)
  have R10 := Lib.hid (U10.out.blk HR.out (fun f => f))
  have OM10 := Lib.hid ((U10.out.block om (Array.getElem?_eq_some_iff.1 HOM.out).1 (fun f => f)).trans HOM.out)
  have OML := Lib.hid (Array.getElem?_eq_some_iff.1 HOM.out).1
  have DN := Lib.hid (fun W (hu : Upd NoF w10 W) => by
    have := Decided_nil (hu.blk R10.out (fun f => f)) (by rfl) (by rfl) ((hu.block om (Array.getElem?_eq_some_iff.1 OM10.out).1 (fun f => f)).trans OM10.out) m HP.out z0 H08.out
    rw [show nameV p = .agg nb from by rw [← HNB.out]] at this
    rw [HCA.out] at this
    exact this)
  have hln : (0 : Int) < (n : Int) := by omega
  clear hx hc8 hcr hrc hca cS10 cM10 cM8 cS cM
  go_loopg [57] 0 (fun kx s57 wr => s57 = .int .i64 0 ∧ Hid (wr = w10))
  case atStart => exact ⟨rfl, Lib.hid rfl⟩
  case round =>
    obtain ⟨rfl, HW⟩ := hrel
    obtain rfl := HW.out
    go_wp2_with (first
      | (refine wpList_load_row rfl 64 (.tmp 59) rfl gc oc (by first | rfl | simp) (choiceC (z0, n0)) _ HRC.out Tryz.underlying64 rfl (by rw [HSZ.out, HCS.out]) ca HCA.out ?_)
      | (refine wpList_alloc_row rfl 64 rfl chZ choice_alloc ?_; intro W2 hb2 hu2 hs2; have HB2 := Lib.hid hb2; have HU2 := Lib.hid hu2; clear hb2 hu2 hs2)
      | (refine wpList_store_row rfl 64 (.tmp 14) (.tmp 60) rfl _ rfl ca rfl _ _ HB2.out (by rw [HCZ.out]; rfl) (by rw [HSZ.out, HCZ.out]) HCO.out ?_; intro W3 hb3 hu3 hs3; have HB3 := Lib.hid hb3; have HU3 := Lib.hid (HU2.out.trans hu3 (F := NoF) (fun i hi h => by omega)); have cM3 := ((HU3.out.blk I10.out (fun f => f)).cell 20).trans HRM.out; clear hb3 hu3 hs3)
      | (refine wpList_load_row rfl 28 (.tmp 64) rfl w2.heap.size 0 rfl (p.map byteV) _ (range_parent (by rw [HZB.out]; exact HU3.out.blk Z10.out (fun f => f))) Tryz.underlying28 rfl (by rw [name_size]; simp [HP.out]) nb HNB.out ?_)
      | (refine wpList_load_row rfl 64 (.tmp 14) rfl _ 0 rfl ca.toList _ (range_blk (by rw [Array.toArray_toList]; exact HB3.out)) Tryz.underlying64 rfl (by rw [HSZ.out]; simp [HCZ.out]) ca (by simp) ?_)
      | (refine (DN.out _ HU3.out).mono ?_; rintro e w12 ⟨rfl, hu12⟩; have B12 := Lib.hid (hu12.blk (HU3.out.blk B10.out (fun f => f)) (fun f => by have := OML.out; have f : w.heap.size = om := f; omega)); have U12 := Lib.hid (((U10.out.trans HU3.out (fun _ _ f => f)).mono (G := fun i => i = om) (fun _ _ f => f.elim)).trans hu12 (fun _ _ f => f)); clear hu12)
      | (refine wpList_store_row rfl 38 (.tmp 6) (.tmp 69) rfl w.heap.size rfl iz (by rw [← HIZ.out]; kernel_rfl) 38 _ B12.out rfl IS.out IO.out ?_; intro w14 hb14 hu14 hs14))
    refine bodyPost_ret (results_cell_tmp Tryz.results54 _ _ w.heap.size iz.toList _ rfl (range_blk (by rw [Array.toArray_toList]; exact hb14)) Tryz.underlying38 rfl (by rw [Array.length_toList]; exact IS.out)) rfl ?_
    exact ⟨by simp, U12.out.trans hu14 (fun j hj f => by have f : j = w.heap.size := f; exfalso; omega)⟩
end

section
open Go.RowKit Go.Shelf Go.Lib Go.Sort

set_option maxRecDepth 100000 in
set_option maxHeartbeats 2000000 in
theorem ItemsBlock_bad {w : World} {v : Value} (g0 g1 g2 g3 g4 L : Value) (h : Rd w 1 v ([3] : List UInt8).length (([3] : List UInt8).map byteV)) : Calls Tryz.prog 25 #[.agg #[g0, g1, g2, g3, g4], .agg #[.slice none 0 0, .int .i64 0, .slice none 0 0], L, v] w fun e w' => e = .returned (.tuple #[.agg itZ, .int .i64 4]) ∧ Upd NoF w w' := by
  have CB := Lib.hid (fun W R (hu : Upd NoF w W) => ReaderBlock_bad (w := W) R L (h.keep hu))
  have CN := Lib.hid (fun W => NewReader_nil g0 g1 g2 g3 g4 W)
  have IA := Lib.hid item_alloc
  have IO := Lib.hid itZ_one
  have IS := Lib.hid (show (Tryz.prog.info? 38).map (·.size) = some itZ.size from by rw [itZ_size, item_size])
  obtain ⟨iz, hiz⟩ : ∃ x, itZ = x := ⟨_, rfl⟩
  rw [hiz] at IA IO IS CB ⊢
  have U0 := Lib.hid (((Upd.refl NoF w).alloc (.cells #[g0, g1, g2, g3, g4] 25)).alloc (.cells #[.slice none 0 0, .int .i64 0, .slice none 0 0] 60))
  have BG0 := Lib.hid ((Blk.new w 25 #[g0, g1, g2, g3, g4]).alloc (.cells #[.slice none 0 0, .int .i64 0, .slice none 0 0] 60))
  have BF0 := Lib.hid (show Blk ((w.alloc (.cells #[g0, g1, g2, g3, g4] 25)).alloc (.cells #[.slice none 0 0, .int .i64 0, .slice none 0 0] 60)) (w.heap.size + 1) 60 #[.slice none 0 0, .int .i64 0, .slice none 0 0] from by
    have := Blk.new (w.alloc (.cells #[g0, g1, g2, g3, g4] 25)) 60 #[.slice none 0 0, .int .i64 0, .slice none 0 0]
    rw [World.size_alloc] at this; exact this)
  clear h hiz
  go_enter Tryz.func25, Tryz.ntmps25
  go_wp2_with (first
    | (refine wpList_alloc_row rfl 38 rfl iz IA.out ?_; intro w1 hb1 hu1 hs1; have B1 := Lib.hid hb1; have BG := Lib.hid (hu1.blk BG0.out (fun f => f)); have BF := Lib.hid (hu1.blk BF0.out (fun f => f)); have V1 := Lib.hid (U0.out.trans hu1 (fun _ _ f => f)); clear hb1 hu1 hs1)
    | (refine wpList_load_row rfl 25 (.tmp 4) rfl w.heap.size 0 rfl [g0, g1, g2, g3, g4] _ (range_blk BG.out) Tryz.underlying25 rfl (by kernel_rfl) _ rfl ?_)
    | (refine wpList_load_row rfl 60 (.tmp 5) rfl (w.heap.size + 1) 0 rfl [.slice none 0 0, .int .i64 0, .slice none 0 0] _ (range_blk BF.out) Tryz.underlying60 rfl (by kernel_rfl) _ rfl ?_)
    | (refine (CN.out _).mono ?_; rintro e w2 ⟨rb, tm, om, rfl, hu2, -⟩; have V2 := Lib.hid (V1.out.trans hu2 (fun _ _ f => f)); have B2 := Lib.hid (hu2.blk B1.out (fun f => f)); clear hu2)
    | (refine (CB.out _ _ V2.out).mono ?_; rintro e w3 ⟨rfl, hu3⟩; have V3 := Lib.hid (V2.out.trans hu3 (fun _ _ f => f)); have B3 := Lib.hid (hu3.blk B2.out (fun f => f)); clear hu3)
    | (refine wpList_store_row rfl 38 (.tmp 8) (.tmp 16) rfl _ rfl iz rfl 38 _ (by first | exact B3.out | simpa only [World.size_alloc] using B3.out) rfl IS.out IO.out ?_; intro w9 hb9 hu9 hs9))
  refine bodyPost_ret (results_cell_tmp Tryz.results25 _ _ _ iz.toList _ rfl (range_blk (by rw [Array.toArray_toList]; exact hb9)) Tryz.underlying38 rfl (by rw [Array.length_toList]; exact IS.out)) rfl ?_
  exact ⟨by simp, V3.out.trans hu9 (fun j hj f => by have f : j = _ := f; exfalso; first | omega | (simp at f; omega))⟩

set_option maxRecDepth 100000 in
set_option maxHeartbeats 2000000 in
theorem ItemsBlock_none {w : World} {v L : Value} (g0 g1 g2 g3 g4 : Value) {p : List UInt8} {l : List (Int × List UInt8)} {its : List (List UInt8 × List Value)} (h : Rd w 1 v (3 :: blkT p l).length ((3 :: blkT p l).map byteV)) (hp : p.length = 8) (hl : ∀ s ∈ l, s.2.length = 8 ∧ 0 ≤ s.1 ∧ s.1 < 256) (hg : GoodCh l) (hi : ItR w L its) (hf : findS (its.map (·.1)) p = -1) : Calls Tryz.prog 25 #[.agg #[g0, g1, g2, g3, g4], .agg #[.slice none 0 0, .int .i64 0, .slice none 0 0], L, v] w fun e w' => e = .returned (.tuple #[.agg itZ, .int .i64 6]) ∧ Upd NoF w w' := by
  have CB := Lib.hid (fun W R (hu : Upd NoF w W) => ReaderBlock_none (w := W) R (h.keep hu) hp hl hg (hi.keep hu) hf)
  have CN := Lib.hid (fun W => NewReader_nil g0 g1 g2 g3 g4 W)
  have IA := Lib.hid item_alloc
  have IO := Lib.hid itZ_one
  have IS := Lib.hid (show (Tryz.prog.info? 38).map (·.size) = some itZ.size from by rw [itZ_size, item_size])
  obtain ⟨iz, hiz⟩ : ∃ x, itZ = x := ⟨_, rfl⟩
  rw [hiz] at IA IO IS CB ⊢
  have U0 := Lib.hid (((Upd.refl NoF w).alloc (.cells #[g0, g1, g2, g3, g4] 25)).alloc (.cells #[.slice none 0 0, .int .i64 0, .slice none 0 0] 60))
  have BG0 := Lib.hid ((Blk.new w 25 #[g0, g1, g2, g3, g4]).alloc (.cells #[.slice none 0 0, .int .i64 0, .slice none 0 0] 60))
  have BF0 := Lib.hid (show Blk ((w.alloc (.cells #[g0, g1, g2, g3, g4] 25)).alloc (.cells #[.slice none 0 0, .int .i64 0, .slice none 0 0] 60)) (w.heap.size + 1) 60 #[.slice none 0 0, .int .i64 0, .slice none 0 0] from by
    have := Blk.new (w.alloc (.cells #[g0, g1, g2, g3, g4] 25)) 60 #[.slice none 0 0, .int .i64 0, .slice none 0 0]
    rw [World.size_alloc] at this; exact this)
  clear h hiz hp hl hg hi hf
  go_enter Tryz.func25, Tryz.ntmps25
  go_wp2_with (first
    | (refine wpList_alloc_row rfl 38 rfl iz IA.out ?_; intro w1 hb1 hu1 hs1; have B1 := Lib.hid hb1; have BG := Lib.hid (hu1.blk BG0.out (fun f => f)); have BF := Lib.hid (hu1.blk BF0.out (fun f => f)); have V1 := Lib.hid (U0.out.trans hu1 (fun _ _ f => f)); clear hb1 hu1 hs1)
    | (refine wpList_load_row rfl 25 (.tmp 4) rfl w.heap.size 0 rfl [g0, g1, g2, g3, g4] _ (range_blk BG.out) Tryz.underlying25 rfl (by kernel_rfl) _ rfl ?_)
    | (refine wpList_load_row rfl 60 (.tmp 5) rfl (w.heap.size + 1) 0 rfl [.slice none 0 0, .int .i64 0, .slice none 0 0] _ (range_blk BF.out) Tryz.underlying60 rfl (by kernel_rfl) _ rfl ?_)
    | (refine (CN.out _).mono ?_; rintro e w2 ⟨rb, tm, om, rfl, hu2, -⟩; have V2 := Lib.hid (V1.out.trans hu2 (fun _ _ f => f)); have B2 := Lib.hid (hu2.blk B1.out (fun f => f)); clear hu2)
    | (refine (CB.out _ _ V2.out).mono ?_; rintro e w3 ⟨rfl, hu3⟩; have V3 := Lib.hid (V2.out.trans hu3 (fun _ _ f => f)); have B3 := Lib.hid (hu3.blk B2.out (fun f => f)); clear hu3)
    | (refine wpList_store_row rfl 38 (.tmp 8) (.tmp 16) rfl _ rfl iz rfl 38 _ (by first | exact B3.out | simpa only [World.size_alloc] using B3.out) rfl IS.out IO.out ?_; intro w9 hb9 hu9 hs9))
  refine bodyPost_ret (results_cell_tmp Tryz.results25 _ _ _ iz.toList _ rfl (range_blk (by rw [Array.toArray_toList]; exact hb9)) Tryz.underlying38 rfl (by rw [Array.length_toList]; exact IS.out)) rfl ?_
  exact ⟨by simp, V3.out.trans hu9 (fun j hj f => by have f : j = _ := f; exfalso; first | omega | (simp at f; omega))⟩
end

section
open Go.RowKit Go.Shelf Go.Lib Go.Sort

set_option maxRecDepth 100000 in
set_option maxHeartbeats 2000000 in
theorem ItemsBlock_cert {w : World} {v : Value} {A0 : Option Addr} {c0 N k : Nat} (g0 g1 g2 g3 g4 : Value) {p nm : List UInt8} {rest : List Value} {m : Int} {l : List (Int × List UInt8)} {its : List (List UInt8 × List Value)} (h : Rd w 1 v (3 :: blkT p l).length ((3 :: blkT p l).map byteV)) (hp : p.length = 8) (hl : ∀ s ∈ l, s.2.length = 8 ∧ 0 ≤ s.1 ∧ s.1 < 256) (hg : GoodCh l) (hN : its.length = N) (hi : ItR w (.slice A0 N c0) its) (hk : its[k]? = some (nm, rest)) (hf : findS (its.map (·.1)) p = (k : Int)) (hone : ∀ u ∈ rest, u.oneCell' = true) (hm : rest[12]? = some (.int .i64 m)) (hm0 : -9223372036854775808 ≤ m) (hm1 : m ≤ 9223372036854775807)
    (hids : idsV (idsF m) = l.map fun x => .int .i64 x.1) :
    Calls Tryz.prog 25 #[.agg #[g0, g1, g2, g3, g4], .agg #[.slice none 0 0, .int .i64 0, .slice none 0 0], .slice A0 N c0, v] w fun e w' => e = .returned (.tuple #[.agg itZ, .int .i64 105]) ∧ Upd NoF w w' := by
  have CB := Lib.hid (fun W rb tm om (hu : Upd NoF w W) hr hom => ReaderBlock_cert (w := W) (rb := rb) (tm := tm) (om := om) (g0 := g0) (g1 := g1) (g2 := g2) (g3 := g3) (g4 := g4) (h.keep hu) hp hl hg hN (hi.keep hu) hk hf hone hm hm0 hm1 hids hr hom)
  have CN := Lib.hid (fun W => NewReader_nil g0 g1 g2 g3 g4 W)
  have IA := Lib.hid item_alloc
  have IO := Lib.hid itZ_one
  have IS := Lib.hid (show (Tryz.prog.info? 38).map (·.size) = some itZ.size from by rw [itZ_size, item_size])
  obtain ⟨iz, hiz⟩ : ∃ x, itZ = x := ⟨_, rfl⟩
  rw [hiz] at IA IO IS CB ⊢
  have U0 := Lib.hid (((Upd.refl NoF w).alloc (.cells #[g0, g1, g2, g3, g4] 25)).alloc (.cells #[.slice none 0 0, .int .i64 0, .slice none 0 0] 60))
  have BG0 := Lib.hid ((Blk.new w 25 #[g0, g1, g2, g3, g4]).alloc (.cells #[.slice none 0 0, .int .i64 0, .slice none 0 0] 60))
  have BF0 := Lib.hid (show Blk ((w.alloc (.cells #[g0, g1, g2, g3, g4] 25)).alloc (.cells #[.slice none 0 0, .int .i64 0, .slice none 0 0] 60)) (w.heap.size + 1) 60 #[.slice none 0 0, .int .i64 0, .slice none 0 0] from by
    have := Blk.new (w.alloc (.cells #[g0, g1, g2, g3, g4] 25)) 60 #[.slice none 0 0, .int .i64 0, .slice none 0 0]
    rw [World.size_alloc] at this; exact this)
  clear h hiz hp hl hg hN hi hk hf hone hm hm0 hm1 hids
  go_enter Tryz.func25, Tryz.ntmps25
  go_wp2_with (first
    | (refine wpList_alloc_row rfl 38 rfl iz IA.out ?_; intro w1 hb1 hu1 hs1; have B1 := Lib.hid hb1; have BG := Lib.hid (hu1.blk BG0.out (fun f => f)); have BF := Lib.hid (hu1.blk BF0.out (fun f => f)); have V1 := Lib.hid (U0.out.trans hu1 (fun _ _ f => f)); clear hb1 hu1 hs1)
    | (refine wpList_load_row rfl 25 (.tmp 4) rfl w.heap.size 0 rfl [g0, g1, g2, g3, g4] _ (range_blk BG.out) Tryz.underlying25 rfl (by kernel_rfl) _ rfl ?_)
    | (refine wpList_load_row rfl 60 (.tmp 5) rfl (w.heap.size + 1) 0 rfl [.slice none 0 0, .int .i64 0, .slice none 0 0] _ (range_blk BF.out) Tryz.underlying60 rfl (by kernel_rfl) _ rfl ?_)
    | (refine (CN.out _).mono ?_; rintro e w2 ⟨rb, tm, om, rfl, hu2, hom, hrb, hbr, hmo⟩; have HBR := Lib.hid hbr; have HMO := Lib.hid hmo; have LB := Lib.hid B1.out.lt; have SV := Lib.hid V1.out.size; have HOM := Lib.hid hom; clear hom hrb hbr hmo; have V2 := Lib.hid (V1.out.trans hu2 (fun _ _ f => f)); have B2 := Lib.hid (hu2.blk B1.out (fun f => f)); clear hu2)
    | (refine (CB.out _ _ _ _ V2.out HBR.out HMO.out).mono ?_; rintro e w3 ⟨rfl, hu3⟩; have V3 := Lib.hid (V2.out.trans hu3 (F := NoF) (fun i hi f => by have f : i = _ := f; have := HOM.out; have := SV.out; omega)); have B3 := Lib.hid (hu3.blk B2.out (fun f => by have f : _ = _ := f; have := LB.out; have := HOM.out; omega)); clear hu3)
    | (refine wpList_store_row rfl 38 (.tmp 8) (.tmp 16) rfl _ rfl iz rfl 38 _ (by first | exact B3.out | simpa only [World.size_alloc] using B3.out) rfl IS.out IO.out ?_; intro w9 hb9 hu9 hs9))
  refine bodyPost_ret (results_cell_tmp Tryz.results25 _ _ _ iz.toList _ rfl (range_blk (by rw [Array.toArray_toList]; exact hb9)) Tryz.underlying38 rfl (by rw [Array.length_toList]; exact IS.out)) rfl ?_
  exact ⟨by simp, V3.out.trans hu9 (fun j hj f => by have f : j = _ := f; exfalso; first | omega | (simp at f; omega))⟩
end
end Go.Proofs.YtengcmfdfmnacaaGreat
