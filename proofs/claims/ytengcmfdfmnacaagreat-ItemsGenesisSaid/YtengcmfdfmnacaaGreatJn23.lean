/- The reference's EncodeGenesis. No condition. The reference's Has, IDs, Size, Bit, Select. Conditions: a mask's width. -/
import Derived.Test.YtengcmfdfmnacaaGreatJn21
import Derived.Test.YtengcmfdfmnacaaGreatJn22
import Derived.Test.YtengcmfdfmnacaaGreatJn14
import Derived.Test.YtengcmfdfmnacaaGreatJn6
import Derived.Test.YtengcmfdfmnacaaGreatJn7
import Derived.Test.YtengcmfdfmnacaaGreatJn11
import Derived.WalkSpells
namespace Go.Proofs.YtengcmfdfmnacaaGreat
section
open Go.RowKit Go.Lib

theorem beB_one (n : Int) : beB n 1 = [byteAt n 0] := by simp [beB]
set_option maxRecDepth 100000 in
set_option maxHeartbeats 4000000 in
theorem r20EncG_bad {w : World} {A B C : Option Addr} {a b c : Nat} {g : GenS} (h : GenR w A B C a b c g) (hv : validG g = false) : Calls Tryz.prog 31 #[genV A B C a b c g] w fun e w' => e = .returned (.tuple #[.slice none 0 0, .int .i64 1]) ∧ Upd NoF w w' := by
  have CV := Lib.hid (fun W (hu : Upd NoF w W) => show Calls Tryz.prog 63 #[genV A B C a b c g] W (fun e w' => e = .returned (.bool false) ∧ Upd NoF W w') from by have := r20ValidGenesis_any (w := W) (h.keep hu); rw [hv] at this; exact this)
  unfold genV at CV ⊢
  obtain ⟨ga, hga⟩ : ∃ x, (#[.int .i64 g.n, .int .i64 g.stake, .slice A g.vals.length a, .slice B g.accs.length b, .slice C g.bals.length c] : Array Value) = x := ⟨_, rfl⟩
  rw [hga] at CV ⊢
  have HGA := Lib.hid (show ga.size = 5 from by rw [← hga]; rfl)
  clear h hv hga
  go_enter Tryz.func31, Tryz.ntmps31
  go_wp2_with (first
    | (refine wl_box rfl 25 (.tmp 0) rfl ga (by rfl) ?_; intro v0 hb0 hu0 hs0; have BX := Lib.hid hb0; have V0 := Lib.hid hu0; clear hb0 hu0 hs0)
    | (refine wl_load rfl 25 (.tmp 1) rfl w.heap.size 0 (by rfl) ga.toList _ (range_blk (by rw [Array.toArray_toList]; exact BX.out)) Tryz.underlying25 rfl (by rw [Array.length_toList, HGA.out]; exact gen_size) ga (by simp) ?_)
    | (refine (CV.out _ V0.out).mono ?_; rintro e w1 ⟨rfl, hu1⟩; have U1 := Lib.hid (V0.out.trans hu1 (fun _ _ f => f)); clear hu1))
  go_ret2
  exact ⟨rfl, U1.out⟩
set_option maxRecDepth 100000 in
set_option maxHeartbeats 16000000 in
theorem r20EncG_ok {w : World} {A B C : Option Addr} {a b c : Nat} {g : GenS} (h : GenR w A B C a b c g) (hv : validG g = true) : Calls Tryz.prog 31 #[genV A B C a b c g] w fun e w' => ∃ D cd, e = .returned (.tuple #[.slice D (encG g).length cd, .int .i64 0]) ∧ Rd w' 1 (.slice D (encG g).length cd) (encG g).length ((encG g).map byteV) ∧ Upd NoF w w' := by
  obtain ⟨p1, p2, p3, p4, p5, p6, p7, p8, p9, p10⟩ := valid_parts hv
  have CV := Lib.hid (fun W (hu : Upd NoF w W) => show Calls Tryz.prog 63 #[genV A B C a b c g] W (fun e w' => e = .returned (.bool true) ∧ Upd NoF W w') from by have := r20ValidGenesis_any (w := W) (h.keep hu); rw [hv] at this; exact this)
  have HG := Lib.hid h
  have HAV := Lib.hid h.vals.1
  have HAA := Lib.hid h.accs.1
  have HS0 := Lib.hid (show 0 ≤ g.stake ∧ g.stake ≤ 1099511627776 from by simpa [amtB] using p9)
  have HB0 := Lib.hid (show ∀ z ∈ g.bals, 0 ≤ z ∧ z ≤ 1099511627776 from fun z hz => by have := List.all_eq_true.1 p10 z hz; simpa [amtB] using this)
  obtain ⟨EG, hEG⟩ : ∃ x, encG g = x := ⟨_, rfl⟩
  have HEG := Lib.hid (show egA g g.accs.length = EG from by rw [← hEG]; exact egA_all p8)
  rw [hEG]
  have HEV0 := Lib.hid (show egV g 0 = [1] ++ beB g.n 1 ++ beB g.stake 6 ++ beB (g.vals.length : Int) 1 from by unfold egV; rw [beB_one, beB_one]; simp)
  have HEA0 := Lib.hid (show egA g 0 = egV g g.vals.length ++ beB (g.accs.length : Int) 1 from by unfold egA; rw [beB_one]; simp [encAccs])
  have HVL := Lib.hid (fun k (hk : k ≤ g.vals.length) => show (egV g k).length ≤ 100 from egV_len h.vals.1 k (by omega))
  have HAL := Lib.hid (fun k (hk : k ≤ g.accs.length) => show (egA g k).length ≤ 400 from egA_len h.vals.1 h.accs.1 p4 k (by omega))
  unfold genV at CV ⊢
  obtain ⟨v, hvl⟩ : ∃ n, g.vals.length = n := ⟨_, rfl⟩
  obtain ⟨m, hml⟩ : ∃ n, g.accs.length = n := ⟨_, rfl⟩
  have hql : g.bals.length = m := by rw [p8, hml]
  have HRV := Lib.hid (show NmR w (.slice A v a) g.vals from by rw [← hvl]; exact h.vals)
  have HRA := Lib.hid (show NmR w (.slice B m b) g.accs from by rw [← hml]; exact h.accs)
  have HRB := Lib.hid (show InR w (.slice C m c) g.bals from by rw [← hql]; exact h.bals)
  rw [hvl, hml, hql] at CV
  rw [hvl, hml, hql]
  rw [hml] at HEG HEA0 HAL
  rw [hvl] at HEV0 HEA0 HVL
  have HV := Lib.hid hvl
  have HM := Lib.hid hml
  have HQ := Lib.hid hql
  obtain ⟨gn, hgn⟩ : ∃ x, g.n = x := ⟨_, rfl⟩
  obtain ⟨gs, hgs⟩ : ∃ x, g.stake = x := ⟨_, rfl⟩
  rw [hgn, hgs] at CV
  rw [hgn, hgs]
  rw [hgn, hgs] at HEV0
  rw [hgs] at HS0
  rw [hgn] at p1 p2
  obtain ⟨L1, hL1⟩ : ∃ x, [1] ++ beB gn 1 = x := ⟨_, rfl⟩
  have H1L := Lib.hid (show L1.length = 2 from by rw [← hL1, List.length_append, beB_len]; rfl)
  have CN1 := Lib.hid (show ∀ W D d, Rd W 1 (.slice D (([1] : List UInt8)).length d) (([1] : List UInt8)).length ((([1] : List UInt8)).map byteV) → Calls Tryz.prog 56 #[.slice D (([1] : List UInt8)).length d, .int .i64 gn, .int .i64 1] W (BytesPost W L1) from fun W D d hr => by rw [← hL1]; exact r20num_any (n := 1) hr gn (by omega) (by omega) (by omega) (by simp))
  obtain ⟨L2, hL2⟩ : ∃ x, L1 ++ beB gs 6 = x := ⟨_, rfl⟩
  have H2L := Lib.hid (show L2.length = 8 from by rw [← hL2, List.length_append, beB_len, H1L.out])
  have CN2 := Lib.hid (show ∀ W D d, Rd W 1 (.slice D (L1).length d) (L1).length ((L1).map byteV) → Calls Tryz.prog 56 #[.slice D (L1).length d, .int .i64 gs, .int .i64 6] W (BytesPost W L2) from fun W D d hr => by rw [← hL2]; exact r20num_any (n := 6) hr gs HS0.out.1 (by have := HS0.out.2; omega) (by omega) (by rw [H1L.out]; omega))
  obtain ⟨L3, hL3⟩ : ∃ x, L2 ++ beB (v : Int) 1 = x := ⟨_, rfl⟩
  have CN3 := Lib.hid (show ∀ W D d, Rd W 1 (.slice D (L2).length d) (L2).length ((L2).map byteV) → Calls Tryz.prog 56 #[.slice D (L2).length d, .int .i64 (v : Int), .int .i64 1] W (BytesPost W L3) from fun W D d hr => by rw [← hL3]; exact r20num_any (n := 1) hr (v : Int) (by omega) (by omega) (by omega) (by rw [H2L.out]; omega))
  have E3 := Lib.hid (show L3 = egV g 0 from by rw [HEV0.out, ← hL3, ← hL2, ← hL1])
  have hv10 : v ≤ 10 := by omega
  have hm16 : m ≤ 16 := by omega
  clear h hv p1 p2 p3 p4 p5 p6 p7 p8 p9 p10 hEG hvl hml hql hgn hgs hL1 hL2 hL3 HEV0
  go_enter Tryz.func31, Tryz.ntmps31
  go_wp2_with (first
    | (refine wl_box rfl 25 (.tmp 0) rfl #[.int .i64 gn, .int .i64 gs, .slice A v a, .slice B m b, .slice C m c] (by rfl) ?_; intro v0 hb0 hu0 hs0; have BX := Lib.hid hb0; have V0 := Lib.hid hu0; clear hb0 hu0 hs0)
    | (refine wl_load rfl 25 (.tmp 1) rfl w.heap.size 0 (by rfl) (#[.int .i64 gn, .int .i64 gs, .slice A v a, .slice B m b, .slice C m c] : Array Value).toList _ (range_blk BX.out) Tryz.underlying25 rfl gen_size _ rfl ?_)
    | (refine (CV.out _ V0.out).mono ?_; rintro e w1 ⟨rfl, hu1⟩; have U1 := Lib.hid (V0.out.trans hu1 (fun _ _ f => f)); have BX1 := Lib.hid (hu1.blk BX.out (fun f => f)); clear hu1))
  obtain ⟨X, hX⟩ : ∃ x, w.heap.size = x := ⟨_, rfl⟩
  rw [hX] at BX1 ⊢
  obtain ⟨W1, hW1⟩ : ∃ x, x = w1 := ⟨_, rfl⟩
  rw [← hW1] at BX1 U1 ⊢
  have C0 := Lib.hid (show W1.drew.cell? ⟨X, 0, none⟩ = some (.int .i64 gn) from BX1.out.drew.cell 0)
  have C1 := Lib.hid (show W1.drew.cell? ⟨X, 1, none⟩ = some (.int .i64 gs) from BX1.out.drew.cell 1)
  have C2 := Lib.hid (show W1.drew.cell? ⟨X, 2, none⟩ = some (.slice A v a) from BX1.out.drew.cell 2)
  clear hX hW1 BX V0
  refine wp_region_rgw (rgR [BtN ([1]), isV (.pointer (some ⟨X, 0, none⟩)), isV (.int .i64 gn), BtN (L1), isV (.pointer (some ⟨X, 1, none⟩)), isV (.int .i64 gs), BtN (L2), isV (.pointer (some ⟨X, 2, none⟩)), isV (.slice A v a), isV (.int .i64 (v : Int)), BtN (L3), BtN (L3)]) (fun w w' => Upd NoF w w') (fun _ wq => Upd NoF W1.drew wq) (by kernel_rfl) (by kernel_rfl) (by kernel_rfl) (by rfl) (fun w => Upd.refl _ _) (rgR_keep (by
    intro p hp; simp only [List.mem_cons, List.not_mem_nil, or_false] at hp; rcases hp with rfl | rfl | rfl | rfl | rfl | rfl | rfl | rfl | rfl | rfl | rfl | rfl <;> first | exact stb_isV _ | exact stb_any | exact stb_btn _)) (Upd.refl _ _) ?_ ?_
  · refine ⟨?_, ?_, ?_, ?_, ?_, ?_, ?_, ?_, ?_, ?_, ?_, ?_, trivial⟩
    · refine fun ρ w' L hW hLi hcl hd hdep hext hc hg hf => ?_
      rw [if_pos (show wantedR _ _ _ = true from rfl)]
      clear hdep hext
      have HW := Lib.hid hW
      clear hW hcl hd hLi
      unfold OpDone
      go_simp
      exact ⟨⟨_, _, rfl, by exact rd_lit w' 5 (byteV 1)⟩, (Upd.refl NoF w').alloc _, HW.out.alloc _⟩
    · refine fun ρ w' L hW hLi hcl hd hdep hext hc hg hf => ?_
      rw [if_pos (show wantedR _ _ _ = true from rfl)]
      have e1 : ρ (.tmp 1) = .pointer (some ⟨X, 0, none⟩) := hext 1 (by kernel_rfl)
      clear hdep hext hcl
      have HW := Lib.hid hW
      clear hW
      unfold OpDone
      go_simp
      exact ⟨rfl, Upd.refl _ _, HW.out⟩
    · refine fun ρ w' L hW hLi hcl hd hdep hext hc hg hf => ?_
      rw [if_pos (show wantedR _ _ _ = true from rfl)]
      have e11 : ρ (.tmp 11) = .pointer (some ⟨X, 0, none⟩) := hdep 1 _ rfl (by kernel_rfl)
      have q0 : w'.cell? ⟨X, 0, none⟩ = some (.int .i64 gn) := hW.cell C0.out (fun f => f)
      clear hdep hext hcl
      have HW := Lib.hid hW
      clear hW
      unfold OpDone
      go_simp
      exact ⟨rfl, Upd.refl _ _, HW.out⟩
    · refine fun ρ w' L hW hLi hcl hd hdep hext hc hg hf => ?_
      rw [if_pos (show wantedR _ _ _ = true from rfl)]
      have e10 : (BtN ([1])) (ρ (.tmp 10)) w' := hdep 0 _ rfl (by kernel_rfl)
      have e12 : ρ (.tmp 12) = .int .i64 gn := hdep 2 _ rfl (by kernel_rfl)
      clear hdep hext
      obtain ⟨az, kz, e10, rz⟩ := e10
      have CL := Lib.hid (CN1.out w' _ _ rz)
      have HW := Lib.hid hW
      clear rz hW hcl hd hLi
      unfold OpDone
      go_simp
      refine CL.out.mono ?_
      rintro e w2 ⟨A2, c2, rfl, hN⟩
      exact ⟨_, rfl, ⟨A2, c2, rfl, hN.1.rd⟩, hN.2.2, HW.out.trans hN.2.2 (fun _ _ f => f)⟩
    · refine fun ρ w' L hW hLi hcl hd hdep hext hc hg hf => ?_
      rw [if_pos (show wantedR _ _ _ = true from rfl)]
      have e1 : ρ (.tmp 1) = .pointer (some ⟨X, 0, none⟩) := hext 1 (by kernel_rfl)
      clear hdep hext hcl
      have HW := Lib.hid hW
      clear hW
      unfold OpDone
      go_simp
      exact ⟨rfl, Upd.refl _ _, HW.out⟩
    · refine fun ρ w' L hW hLi hcl hd hdep hext hc hg hf => ?_
      rw [if_pos (show wantedR _ _ _ = true from rfl)]
      have e14 : ρ (.tmp 14) = .pointer (some ⟨X, 1, none⟩) := hdep 4 _ rfl (by kernel_rfl)
      have q0 : w'.cell? ⟨X, 1, none⟩ = some (.int .i64 gs) := hW.cell C1.out (fun f => f)
      clear hdep hext hcl
      have HW := Lib.hid hW
      clear hW
      unfold OpDone
      go_simp
      exact ⟨rfl, Upd.refl _ _, HW.out⟩
    · refine fun ρ w' L hW hLi hcl hd hdep hext hc hg hf => ?_
      rw [if_pos (show wantedR _ _ _ = true from rfl)]
      have e13 : (BtN (L1)) (ρ (.tmp 13)) w' := hdep 3 _ rfl (by kernel_rfl)
      have e15 : ρ (.tmp 15) = .int .i64 gs := hdep 5 _ rfl (by kernel_rfl)
      clear hdep hext
      obtain ⟨az, kz, e13, rz⟩ := e13
      have CL := Lib.hid (CN2.out w' _ _ rz)
      have HW := Lib.hid hW
      clear rz hW hcl hd hLi
      unfold OpDone
      go_simp
      refine CL.out.mono ?_
      rintro e w2 ⟨A2, c2, rfl, hN⟩
      exact ⟨_, rfl, ⟨A2, c2, rfl, hN.1.rd⟩, hN.2.2, HW.out.trans hN.2.2 (fun _ _ f => f)⟩
    · refine fun ρ w' L hW hLi hcl hd hdep hext hc hg hf => ?_
      rw [if_pos (show wantedR _ _ _ = true from rfl)]
      have e1 : ρ (.tmp 1) = .pointer (some ⟨X, 0, none⟩) := hext 1 (by kernel_rfl)
      clear hdep hext hcl
      have HW := Lib.hid hW
      clear hW
      unfold OpDone
      go_simp
      exact ⟨rfl, Upd.refl _ _, HW.out⟩
    · refine fun ρ w' L hW hLi hcl hd hdep hext hc hg hf => ?_
      rw [if_pos (show wantedR _ _ _ = true from rfl)]
      have e17 : ρ (.tmp 17) = .pointer (some ⟨X, 2, none⟩) := hdep 7 _ rfl (by kernel_rfl)
      have q0 : w'.cell? ⟨X, 2, none⟩ = some (.slice A v a) := hW.cell C2.out (fun f => f)
      clear hdep hext hcl
      have HW := Lib.hid hW
      clear hW
      unfold OpDone
      go_simp
      exact ⟨rfl, Upd.refl _ _, HW.out⟩
    · refine fun ρ w' L hW hLi hcl hd hdep hext hc hg hf => ?_
      rw [if_pos (show wantedR _ _ _ = true from rfl)]
      have e18 : ρ (.tmp 18) = .slice A v a := hdep 8 _ rfl (by kernel_rfl)
      clear hdep hext hcl
      have HW := Lib.hid hW
      clear hW
      unfold OpDone
      go_simp
      exact ⟨rfl, Upd.refl _ _, HW.out⟩
    · refine fun ρ w' L hW hLi hcl hd hdep hext hc hg hf => ?_
      rw [if_pos (show wantedR _ _ _ = true from rfl)]
      have e16 : (BtN (L2)) (ρ (.tmp 16)) w' := hdep 6 _ rfl (by kernel_rfl)
      have e19 : ρ (.tmp 19) = .int .i64 (v : Int) := hdep 9 _ rfl (by kernel_rfl)
      clear hdep hext
      obtain ⟨az, kz, e16, rz⟩ := e16
      have CL := Lib.hid (CN3.out w' _ _ rz)
      have HW := Lib.hid hW
      clear rz hW hcl hd hLi
      unfold OpDone
      go_simp
      refine CL.out.mono ?_
      rintro e w2 ⟨A2, c2, rfl, hN⟩
      exact ⟨_, rfl, ⟨A2, c2, rfl, hN.1.rd⟩, hN.2.2, HW.out.trans hN.2.2 (fun _ _ f => f)⟩
    · refine fun ρ w' L hW hLi hcl hd hdep hext hc hg hf => ?_
      rw [if_pos (show wantedR _ _ _ = true from rfl)]
      have e20 : (BtN (L3)) (ρ (.tmp 20)) w' := hdep 10 _ rfl (by kernel_rfl)
      clear hdep hext
      obtain ⟨az, kz, e20, rz⟩ := e20
      have RZ := Lib.hid rz
      have HW := Lib.hid hW
      clear rz hW hcl hd hLi
      unfold OpDone
      go_simp
      exact ⟨⟨_, _, rfl, RZ.out⟩, Upd.refl _ _, HW.out⟩
  intro vs W3 L9 hL9 hW3 hR
  have hr0 : (BtN ([1])) (vs 0) W3 := hR 0 _ rfl
  obtain ⟨a0, k0, hv0, hq0⟩ := hr0
  have hv1 : vs 1 = .pointer (some ⟨X, 0, none⟩) := hR 1 _ rfl
  have hv2 : vs 2 = .int .i64 gn := hR 2 _ rfl
  have hr3 : (BtN (L1)) (vs 3) W3 := hR 3 _ rfl
  obtain ⟨a3, k3, hv3, hq3⟩ := hr3
  have hv4 : vs 4 = .pointer (some ⟨X, 1, none⟩) := hR 4 _ rfl
  have hv5 : vs 5 = .int .i64 gs := hR 5 _ rfl
  have hr6 : (BtN (L2)) (vs 6) W3 := hR 6 _ rfl
  obtain ⟨a6, k6, hv6, hq6⟩ := hr6
  have hv7 : vs 7 = .pointer (some ⟨X, 2, none⟩) := hR 7 _ rfl
  have hv8 : vs 8 = .slice A v a := hR 8 _ rfl
  have hv9 : vs 9 = .int .i64 (v : Int) := hR 9 _ rfl
  have hr10 : (BtN (L3)) (vs 10) W3 := hR 10 _ rfl
  obtain ⟨a10, k10, hv10, hq10⟩ := hr10
  have hr11 : (BtN (L3)) (vs 11) W3 := hR 11 _ rfl
  obtain ⟨a11, k11, hv11, hq11⟩ := hr11
  simp only [putAll, Act.put, List.setIfInBounds_toArray, List.set_cons_zero, List.set_cons_succ, hv0, hv1, hv2, hv3, hv4, hv5, hv6, hv7, hv8, hv9, hv10, hv11]
  clear hR hv0 hv1 hv2 hv3 hv4 hv5 hv6 hv7 hv8 hv9 hv10 hv11
  have HB3 := Lib.hid (show Rd W3 1 (.slice a11 (egV g 0).length k11) (egV g 0).length ((egV g 0).map byteV) from by rw [← E3.out]; exact hq11)
  rw [E3.out]
  have U3 := Lib.hid (U1.out.drew.trans hW3 (fun _ _ f => f))
  have BX3 := Lib.hid (hW3.blk (BX1.out.drew) (fun f => f))
  clear hq0 hq3 hq6 hq10 hq11 hW3 hL9 C0 C1 C2
  go_wp2_with fail
  go_loopg [4, 5] v (fun kx s4 s5 wr => ∃ (k : Nat) (Ab : Option Addr) (cb : Nat), s5 = .int .i64 (k : Int) ∧ k ≤ v ∧ v - k ≤ kx ∧ s4 = .slice Ab (egV g k).length cb ∧ Hid (Rd wr 1 (.slice Ab (egV g k).length cb) (egV g k).length ((egV g k).map byteV)) ∧ Hid (Upd NoF W3 wr))
  case atStart => exact ⟨0, a11, k11, rfl, by omega, by omega, rfl, HB3, Lib.hid (Upd.refl _ _)⟩
  case round =>
    obtain ⟨k, Ab, cb, rfl, hkn, hkx, rfl, HB, HWR⟩ := hrel
    have BX4 := Lib.hid (HWR.out.blk BX3.out (fun f => f))
    by_cases hlt : k < v
    · have t1 : decide ((k : Int) < (v : Int)) = true := by simp; omega
      obtain ⟨x, hx⟩ : ∃ z, g.vals[k]? = some z := ⟨_, List.getElem?_eq_getElem (by have := HV.out; omega)⟩
      obtain ⟨g1, o1, rfl, hr⟩ := (HRV.out.keep (U3.out.trans HWR.out (fun _ _ f => f))).at_ hx
      have c2 := BX4.out.cell 2
      have HRX := Lib.hid hr
      have H8X := Lib.hid (HAV.out x (List.mem_of_getElem? hx))
      obtain ⟨zx, hzx⟩ : ∃ y, (x.map byteV).toArray = y := ⟨_, rfl⟩
      have HZX := Lib.hid hzx
      obtain ⟨P1, hP1⟩ : ∃ y, egV g k ++ x = y := ⟨_, rfl⟩
      have HP1 := Lib.hid (show egV g (k + 1) = P1 from by rw [← hP1]; exact egV_next hx)
      obtain ⟨P0, hP0⟩ : ∃ y, egV g k = y := ⟨_, rfl⟩
      have HP0L := Lib.hid (show P0.length ≤ 100 from by rw [← hP0]; exact HVL.out k (by omega))
      rw [hP0] at HB hP1 ⊢
      have CM := Lib.hid (show ∀ W D d, Rd W 1 (.slice D P0.length d) P0.length (P0.map byteV) → Calls Tryz.prog 57 #[.slice D P0.length d, .agg zx] W (BytesPost W P1) from fun W D d hr => by
        have q := r20name_any hr H8X.out (by have := HP0L.out; omega)
        rw [show nameV x = .agg zx from congrArg Value.agg HZX.out, hP1] at q
        exact q)
      have q0 : (0 : Int) ≤ (k : Int) := by omega
      have q1 : (k : Int) < (v : Int) := by omega
      have q2 : k < v := hlt
      have q3 : ((k : Int)).toNat = k := by omega
      clear hx hr hzx hP1 hP0
      go_wp2_with (first
        | (refine wl_load rfl 28 (.tmp 32) rfl g1 (o1 + k * 8) (by first | rfl | simp) (x.map byteV) _ HRX.out Tryz.underlying28 rfl (by rw [name_size]; simp [H8X.out]) zx HZX.out ?_))
      refine (CM.out _ _ _ HB.out).mono ?_
      rintro e w2 ⟨A2, c2, rfl, hN⟩
      have N2 := Lib.hid hN
      clear hN
      go_wp2
      go_roundg (v - (k + 1))
      case measure => omega
      case rel => exact ⟨k + 1, A2, c2, by first | rfl | go_num, by omega, by omega, by rw [HP1.out], Lib.hid (by rw [HP1.out]; exact N2.out.1.rd), Lib.hid (HWR.out.trans N2.out.2.2 (fun _ _ f => f))⟩
    · obtain rfl : k = v := by omega
      have t1 : decide ((k : Int) < (k : Int)) = false := by simp
      have U4 := Lib.hid (U3.out.trans HWR.out (fun _ _ f => f))
      have c3 := BX4.out.cell 3
      have c2 := BX4.out.cell 2
      obtain ⟨P0, hP0⟩ : ∃ y, egV g k = y := ⟨_, rfl⟩
      have HP0L := Lib.hid (show P0.length ≤ 100 from by rw [← hP0]; exact HVL.out k (by omega))
      obtain ⟨P1, hP1⟩ : ∃ y, P0 ++ beB (m : Int) 1 = y := ⟨_, rfl⟩
      have HP1 := Lib.hid (show egA g 0 = P1 from by rw [HEA0.out, hP0, hP1])
      rw [hP0] at HB ⊢
      have CM := Lib.hid (show ∀ W D d, Rd W 1 (.slice D (P0).length d) (P0).length ((P0).map byteV) → Calls Tryz.prog 56 #[.slice D (P0).length d, .int .i64 (m : Int), .int .i64 1] W (BytesPost W P1) from fun W D d hr => by rw [← hP1]; exact r20num_any (n := 1) hr (m : Int) (by omega) (by omega) (by omega) (by have := HP0L.out; omega))
      clear hP1 hP0
      go_wp2_with fail
      refine (CM.out _ _ _ HB.out).mono ?_
      rintro e w4 ⟨A4, c4, rfl, hN⟩
      have N4 := Lib.hid hN
      clear hN
      go_wp2
      have HB4 := Lib.hid (show Rd w4 1 (.slice A4 (egA g 0).length c4) (egA g 0).length ((egA g 0).map byteV) from by rw [HP1.out]; exact N4.out.1.rd)
      have U5 := Lib.hid (U4.out.trans N4.out.2.2 (fun _ _ f => f))
      have BX5 := Lib.hid (N4.out.2.2.blk BX4.out (fun f => f))
      rw [← HP1.out]
      clear c3 c2 N4 HB BX4
      go_loopg [4, 6] m (fun kx s4 s6 wr => ∃ (k : Nat) (Ab : Option Addr) (cb : Nat), s6 = .int .i64 (k : Int) ∧ k ≤ m ∧ m - k ≤ kx ∧ s4 = .slice Ab (egA g k).length cb ∧ Hid (Rd wr 1 (.slice Ab (egA g k).length cb) (egA g k).length ((egA g k).map byteV)) ∧ Hid (Upd NoF w4 wr))
      case atStart => exact ⟨0, A4, c4, rfl, by omega, by omega, rfl, HB4, Lib.hid (Upd.refl _ _)⟩
      case round =>
        obtain ⟨k, Ab, cb, rfl, hkn, hkx, rfl, HB, HWR⟩ := hrel
        have BX6 := Lib.hid (HWR.out.blk BX5.out (fun f => f))
        by_cases hlt : k < m
        · have t1 : decide ((k : Int) < (m : Int)) = true := by simp; omega
          have HLT := Lib.hid (show (k : Int) < (m : Int) from by omega)
          obtain ⟨x, hx⟩ : ∃ z, g.accs[k]? = some z := ⟨_, List.getElem?_eq_getElem (by have := HM.out; omega)⟩
          obtain ⟨z, hz⟩ : ∃ z, g.bals[k]? = some z := ⟨_, List.getElem?_eq_getElem (by have := HQ.out; omega)⟩
          have UWR := U5.out.trans HWR.out (fun _ _ f => f)
          obtain ⟨g1, o1, rfl, hr⟩ := (HRA.out.keep UWR).at_ hx
          obtain ⟨g2, o2, rfl, hc⟩ := (HRB.out.keep UWR).at_ hz
          have c3 := BX6.out.cell 3
          have C3 := Lib.hid (show wr.drew.cell? ⟨X, 3, none⟩ = some (.slice (some ⟨g1, o1, none⟩) m b) from BX6.out.drew.cell 3)
          have C4 := Lib.hid (show wr.drew.cell? ⟨X, 4, none⟩ = some (.slice (some ⟨g2, o2, none⟩) m c) from BX6.out.drew.cell 4)
          have Z0 := Lib.hid (show wr.drew.cell? ⟨g2, o2 + k, none⟩ = some (.int .i64 z) from hc)
          have RX := Lib.hid (fun w' (hu : Upd NoF wr.drew w') => show w'.rangeAt g1 (o1 + k * 8) (x.map byteV) from fun j u hj => hu.cell (hr j u hj) (fun f => f))
          have H8X := Lib.hid (HAA.out x (List.mem_of_getElem? hx))
          have HZ := HB0.out z (List.mem_of_getElem? hz)
          obtain ⟨zx, hzx⟩ : ∃ y, (x.map byteV).toArray = y := ⟨_, rfl⟩
          have HZX := Lib.hid hzx
          obtain ⟨P2, hP2⟩ : ∃ y, egA g k ++ x ++ beB z 6 = y := ⟨_, rfl⟩
          have HP2 := Lib.hid (show egA g (k + 1) = P2 from by rw [← hP2]; exact egA_next hx hz)
          obtain ⟨P1, hP1⟩ : ∃ y, egA g k ++ x = y := ⟨_, rfl⟩
          rw [hP1] at hP2
          obtain ⟨P0, hP0⟩ : ∃ y, egA g k = y := ⟨_, rfl⟩
          have HP0L := Lib.hid (show P0.length ≤ 400 from by rw [← hP0]; exact HAL.out k (by omega))
          rw [hP0] at HB hP1 ⊢
          have HP1L := Lib.hid (show P1.length ≤ 408 from by rw [← hP1, List.length_append, H8X.out]; have := HP0L.out; omega)
          have CM1 := Lib.hid (show ∀ W D d, Rd W 1 (.slice D P0.length d) P0.length (P0.map byteV) → Calls Tryz.prog 57 #[.slice D P0.length d, .agg zx] W (BytesPost W P1) from fun W D d hr => by
            have q := r20name_any hr H8X.out (by have := HP0L.out; omega)
            rw [show nameV x = .agg zx from congrArg Value.agg HZX.out, hP1] at q
            exact q)
          have CM2 := Lib.hid (show ∀ W D d, Rd W 1 (.slice D (P1).length d) (P1).length ((P1).map byteV) → Calls Tryz.prog 56 #[.slice D (P1).length d, .int .i64 z, .int .i64 6] W (BytesPost W P2) from fun W D d hr => by rw [← hP2]; exact r20num_any (n := 6) hr z HZ.1 (by have := HZ.2; omega) (by omega) (by have := HP1L.out; omega))
          clear hx hz hr hc hzx hP1 hP0 hP2 HZ UWR
          go_wp2_with fail
          refine wp_region_rgw (rgR [BtN (P0), isV (.pointer (some ⟨X, 3, none⟩)), isV (.slice (some ⟨g1, o1, none⟩) m b), isV (.int .i64 (k : Int)), isV (.pointer (some ⟨g1, o1 + k * 8, none⟩)), isV (.agg zx), BtN (P1), isV (.pointer (some ⟨X, 4, none⟩)), isV (.slice (some ⟨g2, o2, none⟩) m c), isV (.int .i64 (k : Int)), isV (.pointer (some ⟨g2, o2 + k, none⟩)), isV (.int .i64 z), BtN (P2), BtN (P2)]) (fun w w' => Upd NoF w w') (fun _ wq => Upd NoF wr.drew wq) (by kernel_rfl) (by kernel_rfl) (by kernel_rfl) (by rfl) (fun w => Upd.refl _ _) (rgR_keep (by
            intro p hp; simp only [List.mem_cons, List.not_mem_nil, or_false] at hp; rcases hp with rfl | rfl | rfl | rfl | rfl | rfl | rfl | rfl | rfl | rfl | rfl | rfl | rfl | rfl <;> first | exact stb_isV _ | exact stb_any | exact stb_btn _)) (Upd.refl _ _) ?_ ?_
          · refine ⟨?_, ?_, ?_, ?_, ?_, ?_, ?_, ?_, ?_, ?_, ?_, ?_, ?_, ?_, trivial⟩
            · refine fun ρ w' L hW hLi hcl hd hdep hext hc hg hf => ?_
              rw [if_pos (show wantedR _ _ _ = true from rfl)]
              have e4 : ρ (.tmp 4) = .slice Ab P0.length cb := hext 4 (by kernel_rfl)
              clear hdep hext
              have RZ := Lib.hid (show Rd w' 1 (.slice Ab P0.length cb) P0.length (P0.map byteV) from HB.out.keep ((Upd.refl NoF wr).drew.trans hW (fun _ _ f => f)))
              have HW := Lib.hid hW
              clear hW hcl hd hLi
              unfold OpDone
              go_simp
              exact ⟨⟨_, _, rfl, RZ.out⟩, Upd.refl _ _, HW.out⟩
            · refine fun ρ w' L hW hLi hcl hd hdep hext hc hg hf => ?_
              rw [if_pos (show wantedR _ _ _ = true from rfl)]
              have e1 : ρ (.tmp 1) = .pointer (some ⟨X, 0, none⟩) := hext 1 (by kernel_rfl)
              clear hdep hext hcl
              have HW := Lib.hid hW
              clear hW
              unfold OpDone
              go_simp
              exact ⟨rfl, Upd.refl _ _, HW.out⟩
            · refine fun ρ w' L hW hLi hcl hd hdep hext hc hg hf => ?_
              rw [if_pos (show wantedR _ _ _ = true from rfl)]
              have e48 : ρ (.tmp 48) = .pointer (some ⟨X, 3, none⟩) := hdep 1 _ rfl (by kernel_rfl)
              have q0 : w'.cell? ⟨X, 3, none⟩ = some (.slice (some ⟨g1, o1, none⟩) m b) := hW.cell C3.out (fun f => f)
              clear hdep hext hcl
              have HW := Lib.hid hW
              clear hW
              unfold OpDone
              go_simp
              exact ⟨rfl, Upd.refl _ _, HW.out⟩
            · refine fun ρ w' L hW hLi hcl hd hdep hext hc hg hf => ?_
              rw [if_pos (show wantedR _ _ _ = true from rfl)]
              have e6 : ρ (.tmp 6) = .int .i64 (k : Int) := hext 6 (by kernel_rfl)
              clear hdep hext hcl
              have HW := Lib.hid hW
              clear hW
              unfold OpDone
              go_simp
              exact ⟨rfl, Upd.refl _ _, HW.out⟩
            · refine fun ρ w' L hW hLi hcl hd hdep hext hc hg hf => ?_
              rw [if_pos (show wantedR _ _ _ = true from rfl)]
              have e49 : ρ (.tmp 49) = .slice (some ⟨g1, o1, none⟩) m b := hdep 2 _ rfl (by kernel_rfl)
              have e50 : ρ (.tmp 50) = .int .i64 (k : Int) := hdep 3 _ rfl (by kernel_rfl)
              have q0 : (0 : Int) ≤ (k : Int) := by omega
              have q1 : (k : Int) < (m : Int) := HLT.out
              have q2 : k < m := by omega
              have q3 : ((k : Int)).toNat = k := by omega
              clear hdep hext hcl
              have HW := Lib.hid hW
              clear hW
              unfold OpDone
              go_simp
              exact ⟨rfl, Upd.refl _ _, HW.out⟩
            · refine fun ρ w' L hW hLi hcl hd hdep hext hc hg hf => ?_
              rw [if_pos (show wantedR _ _ _ = true from rfl)]
              have e51 : ρ (.tmp 51) = .pointer (some ⟨g1, o1 + k * 8, none⟩) := hdep 4 _ rfl (by kernel_rfl)
              clear hdep hext
              refine od_load_row 28 (.tmp 51) rfl g1 (o1 + k * 8) e51 (x.map byteV) _ (RX.out w' hW) Tryz.underlying28 rfl (by rw [name_size]; simp [H8X.out]) ?_
              rw [HZX.out]
              exact ⟨rfl, Upd.refl _ _, hW⟩
            · refine fun ρ w' L hW hLi hcl hd hdep hext hc hg hf => ?_
              rw [if_pos (show wantedR _ _ _ = true from rfl)]
              have e47 : (BtN (P0)) (ρ (.tmp 47)) w' := hdep 0 _ rfl (by kernel_rfl)
              have e52 : ρ (.tmp 52) = .agg zx := hdep 5 _ rfl (by kernel_rfl)
              clear hdep hext
              obtain ⟨az, kz, e47, rz⟩ := e47
              have CL := Lib.hid (CM1.out w' _ _ rz)
              have HW := Lib.hid hW
              clear rz hW hcl hd hLi
              unfold OpDone
              go_simp
              refine CL.out.mono ?_
              rintro e w2 ⟨A2, c2, rfl, hN⟩
              exact ⟨_, rfl, ⟨A2, c2, rfl, hN.1.rd⟩, hN.2.2, HW.out.trans hN.2.2 (fun _ _ f => f)⟩
            · refine fun ρ w' L hW hLi hcl hd hdep hext hc hg hf => ?_
              rw [if_pos (show wantedR _ _ _ = true from rfl)]
              have e1 : ρ (.tmp 1) = .pointer (some ⟨X, 0, none⟩) := hext 1 (by kernel_rfl)
              clear hdep hext hcl
              have HW := Lib.hid hW
              clear hW
              unfold OpDone
              go_simp
              exact ⟨rfl, Upd.refl _ _, HW.out⟩
            · refine fun ρ w' L hW hLi hcl hd hdep hext hc hg hf => ?_
              rw [if_pos (show wantedR _ _ _ = true from rfl)]
              have e54 : ρ (.tmp 54) = .pointer (some ⟨X, 4, none⟩) := hdep 7 _ rfl (by kernel_rfl)
              have q0 : w'.cell? ⟨X, 4, none⟩ = some (.slice (some ⟨g2, o2, none⟩) m c) := hW.cell C4.out (fun f => f)
              clear hdep hext hcl
              have HW := Lib.hid hW
              clear hW
              unfold OpDone
              go_simp
              exact ⟨rfl, Upd.refl _ _, HW.out⟩
            · refine fun ρ w' L hW hLi hcl hd hdep hext hc hg hf => ?_
              rw [if_pos (show wantedR _ _ _ = true from rfl)]
              have e6 : ρ (.tmp 6) = .int .i64 (k : Int) := hext 6 (by kernel_rfl)
              clear hdep hext hcl
              have HW := Lib.hid hW
              clear hW
              unfold OpDone
              go_simp
              exact ⟨rfl, Upd.refl _ _, HW.out⟩
            · refine fun ρ w' L hW hLi hcl hd hdep hext hc hg hf => ?_
              rw [if_pos (show wantedR _ _ _ = true from rfl)]
              have e55 : ρ (.tmp 55) = .slice (some ⟨g2, o2, none⟩) m c := hdep 8 _ rfl (by kernel_rfl)
              have e56 : ρ (.tmp 56) = .int .i64 (k : Int) := hdep 9 _ rfl (by kernel_rfl)
              have q0 : (0 : Int) ≤ (k : Int) := by omega
              have q1 : (k : Int) < (m : Int) := HLT.out
              have q2 : k < m := by omega
              have q3 : ((k : Int)).toNat = k := by omega
              clear hdep hext hcl
              have HW := Lib.hid hW
              clear hW
              unfold OpDone
              go_simp
              exact ⟨rfl, Upd.refl _ _, HW.out⟩
            · refine fun ρ w' L hW hLi hcl hd hdep hext hc hg hf => ?_
              rw [if_pos (show wantedR _ _ _ = true from rfl)]
              have e57 : ρ (.tmp 57) = .pointer (some ⟨g2, o2 + k, none⟩) := hdep 10 _ rfl (by kernel_rfl)
              have q0 : w'.cell? ⟨g2, o2 + k, none⟩ = some (.int .i64 z) := hW.cell Z0.out (fun f => f)
              clear hdep hext hcl
              have HW := Lib.hid hW
              clear hW
              unfold OpDone
              go_simp
              exact ⟨rfl, Upd.refl _ _, HW.out⟩
            · refine fun ρ w' L hW hLi hcl hd hdep hext hc hg hf => ?_
              rw [if_pos (show wantedR _ _ _ = true from rfl)]
              have e53 : (BtN (P1)) (ρ (.tmp 53)) w' := hdep 6 _ rfl (by kernel_rfl)
              have e58 : ρ (.tmp 58) = .int .i64 z := hdep 11 _ rfl (by kernel_rfl)
              clear hdep hext
              obtain ⟨az, kz, e53, rz⟩ := e53
              have CL := Lib.hid (CM2.out w' _ _ rz)
              have HW := Lib.hid hW
              clear rz hW hcl hd hLi
              unfold OpDone
              go_simp
              refine CL.out.mono ?_
              rintro e w2 ⟨A2, c2, rfl, hN⟩
              exact ⟨_, rfl, ⟨A2, c2, rfl, hN.1.rd⟩, hN.2.2, HW.out.trans hN.2.2 (fun _ _ f => f)⟩
            · refine fun ρ w' L hW hLi hcl hd hdep hext hc hg hf => ?_
              rw [if_pos (show wantedR _ _ _ = true from rfl)]
              have e59 : (BtN (P2)) (ρ (.tmp 59)) w' := hdep 12 _ rfl (by kernel_rfl)
              clear hdep hext
              obtain ⟨az, kz, e59, rz⟩ := e59
              have RZ := Lib.hid rz
              have HW := Lib.hid hW
              clear rz hW hcl hd hLi
              unfold OpDone
              go_simp
              exact ⟨⟨_, _, rfl, RZ.out⟩, Upd.refl _ _, HW.out⟩
          intro vs W7 L7 hL7 hW7 hR
          have hr0 : (BtN (P0)) (vs 0) W7 := hR 0 _ rfl
          obtain ⟨a0, k0, hv0, hq0⟩ := hr0
          have hv1 : vs 1 = .pointer (some ⟨X, 3, none⟩) := hR 1 _ rfl
          have hv2 : vs 2 = .slice (some ⟨g1, o1, none⟩) m b := hR 2 _ rfl
          have hv3 : vs 3 = .int .i64 (k : Int) := hR 3 _ rfl
          have hv4 : vs 4 = .pointer (some ⟨g1, o1 + k * 8, none⟩) := hR 4 _ rfl
          have hv5 : vs 5 = .agg zx := hR 5 _ rfl
          have hr6 : (BtN (P1)) (vs 6) W7 := hR 6 _ rfl
          obtain ⟨a6, k6, hv6, hq6⟩ := hr6
          have hv7 : vs 7 = .pointer (some ⟨X, 4, none⟩) := hR 7 _ rfl
          have hv8 : vs 8 = .slice (some ⟨g2, o2, none⟩) m c := hR 8 _ rfl
          have hv9 : vs 9 = .int .i64 (k : Int) := hR 9 _ rfl
          have hv10 : vs 10 = .pointer (some ⟨g2, o2 + k, none⟩) := hR 10 _ rfl
          have hv11 : vs 11 = .int .i64 z := hR 11 _ rfl
          have hr12 : (BtN (P2)) (vs 12) W7 := hR 12 _ rfl
          obtain ⟨a12, k12, hv12, hq12⟩ := hr12
          have hr13 : (BtN (P2)) (vs 13) W7 := hR 13 _ rfl
          obtain ⟨a13, k13, hv13, hq13⟩ := hr13
          simp only [putAll, Act.put, List.setIfInBounds_toArray, List.set_cons_zero, List.set_cons_succ, hv0, hv1, hv2, hv3, hv4, hv5, hv6, hv7, hv8, hv9, hv10, hv11, hv12, hv13]
          clear hR hv0 hv1 hv2 hv3 hv4 hv5 hv6 hv7 hv8 hv9 hv10 hv11 hv12 hv13
          have HU7 := Lib.hid ((HWR.out.drew).trans hW7 (fun _ _ f => f))
          have HB7 := Lib.hid hq13
          clear hq0 hq6 hq12 hq13 hW7 hL7
          go_wp2_with fail
          go_roundg (m - (k + 1))
          case measure => omega
          case rel => exact ⟨k + 1, a13, k13, by first | rfl | go_num, by omega, by omega, by rw [HP2.out], Lib.hid (by rw [HP2.out]; exact HB7.out), HU7⟩
        · obtain rfl : k = m := by omega
          have t1 : decide ((k : Int) < (k : Int)) = false := by simp
          have c3 := BX6.out.cell 3
          rw [HEG.out] at HB ⊢
          go_wp2
          go_ret2
          exact ⟨_, _, rfl, HB.out, U5.out.trans HWR.out (fun _ _ f => f)⟩
end

section
open Go.RowKit Go.Shelf Go.Lib

set_option maxRecDepth 100000 in
set_option maxHeartbeats 2000000 in
theorem r6Has_any (m : Int) (k : Nat) (hk : k < 10) (w : World) : Calls Tryz.prog 67 #[.int .i64 m, .int .i64 (k : Int)] w fun e w' => e = .returned (.bool (hasB m k)) ∧ w' = w := by
  have t1 : (k : Int) < 10 := by omega
  have ww : IntKind.u64.wrap (k : Int) = (k : Int) := by unfold IntKind.wrap; simp [IntKind.bits, IntKind.signed]; omega
  go_enter Tryz.func67, Tryz.ntmps67
  go_wp2
  go_ret
  exact ⟨rfl, rfl⟩
set_option maxRecDepth 100000 in
set_option maxHeartbeats 4000000 in
theorem r6Size_any (m : Int) (w : World) : Calls Tryz.prog 68 #[.int .i64 m] w fun e w' => e = .returned (.int .i64 ((idsF m).length : Int)) ∧ Upd NoF w w' := by
  have CI : Calls Tryz.prog 113 #[.int .i64 m] w fun e w' => ∃ A c, e = .returned (.slice A (idsF m).length c) ∧ Upd NoF w w' := by
    obtain ⟨i0, hi0, hz0, hz1, hz2⟩ := info_parts int_info
    go_enter Tryz.func113, Tryz.ntmps113
    go_wp2
    go_loopg [3, 4] 10 (fun kx s3 s4 wr => ∃ (k : Nat) (A : Option Addr) (n c : Nat), s4 = .int .i64 (k : Int) ∧ k ≤ 10 ∧ 10 - k ≤ kx ∧ s3 = .slice A n c ∧ Hid ((idsTo m k).length = n) ∧ Hid (NwA w.heap.size 3 1 n (idsV (idsTo m k)) A c wr) ∧ Hid (Upd NoF w wr))
    case atStart => exact ⟨0, none, 0, 0, rfl, by omega, by omega, rfl, Lib.hid rfl, Lib.hid (NwA.nil _ _ _ _), Lib.hid (Upd.refl _ _)⟩
    case round =>
      obtain ⟨k, A, n, c, rfl, hk, hkx, rfl, HL, HN, HU⟩ := hrel
      by_cases hlt : k < 10
      · have t1 : decide ((k : Int) < 10) = true := by simp; omega
        have t1' : decide (k < 10) = true := by simp; omega
        have CH := Lib.hid (fun W => r6Has_any m k hlt W)
        have HSU := Lib.hid (idsTo_succ m k hlt)
        have HB := Lib.hid (show n + 1 ≤ maxLen ∧ (n + 1) * 8 ≤ 140737488355328 from by have := HL.out; have := idsTo_len m k; unfold maxLen; omega)
        cases hb : hasB m k with
        | false =>
          rw [hb] at CH HSU
          go_wp2_with (first
            | (refine (CH.out wr).mono ?_; rintro e w1 ⟨rfl, rfl⟩))
          go_roundg (10 - (k + 1))
          case measure => omega
          case rel =>
            have e : idsTo m (k + 1) = idsTo m k := by rw [HSU.out]; simp
            exact ⟨k + 1, A, n, c, by go_num, by omega, by omega, rfl, Lib.hid (by rw [e]; exact HL.out), Lib.hid (by rw [e]; exact HN.out), HU⟩
        | true =>
          rw [hb] at CH HSU
          go_wp2_with (first
            | (refine (CH.out wr).mono ?_; rintro e w1 ⟨rfl, rfl⟩)
            | (at_builtin; refine wpList_append_to _ rfl (.tmp 12) (.tmp 14) 23 rfl 3 i0 _ 1 8 Tryz.underlying23 hi0 hz0 hz1 hz2 rfl (.slice A n c) n (idsV (idsTo m k)) (by rfl) (HN.out.keep ((Upd.refl NoF _).alloc _)).1 (.slice (some ⟨w1.heap.size, 0, none⟩) 1 1) 1 [.int .i64 (k : Int)] (by rfl) (rd_lit _ _ _) (fun u hu => by rw [List.mem_singleton.1 hu]; rfl) HB.out.1 HB.out.2 ?_; intro A5 c5 w5 hown hupd hnew; have N5 := Lib.hid (NwA.app HN.out ((Upd.refl NoF _).alloc _) (by have := HU.out.size; omega) hown hupd hnew); clear hown hupd hnew))
          go_roundg (10 - (k + 1))
          case measure => omega
          case rel =>
            have e : idsTo m (k + 1) = idsTo m k ++ [⟨k, hlt⟩] := by rw [HSU.out]; simp
            exact ⟨k + 1, A5, n + 1, c5, by go_num, by omega, by omega, rfl, Lib.hid (by rw [e, List.length_append, HL.out]; rfl), Lib.hid (by rw [e]; have := N5.out.1; simpa [idsV] using this), Lib.hid (N5.out.2 (w := w) (Nat.le_refl _) HU.out)⟩
      · have t1 : decide ((k : Int) < 10) = false := by simp; omega
        have t1' : decide (k < 10) = false := by simp; omega
        obtain rfl : k = 10 := by omega
        go_wp2
        go_ret
        exact ⟨A, c, by have := HL.out; unfold idsF; rw [this]; rfl, HU.out⟩
  have CI := Lib.hid CI
  obtain ⟨n, hn⟩ : ∃ n, (idsF m).length = n := ⟨_, rfl⟩
  rw [hn] at CI ⊢
  clear hn
  go_enter Tryz.func68, Tryz.ntmps68
  go_wp2_with (first
    | (refine CI.out.mono ?_; rintro e w1 ⟨A, c, rfl, hu⟩; have U := Lib.hid hu; clear hu))
  go_ret
  exact ⟨rfl, U.out⟩
set_option maxRecDepth 100000 in
set_option maxHeartbeats 2000000 in
theorem r6Bit_any (k : Nat) (hk : k < 10) (w : World) : Calls Tryz.prog 69 #[.int .i64 (k : Int)] w fun e w' => e = .returned (.int .i64 (2 ^ k)) ∧ w' = w := by
  have t1 : (k : Int) < 10 := by omega
  have t2 : ¬ (k : Int) < 0 := by omega
  have t3 : ¬ (10 : Int) ≤ (k : Int) := by omega
  have ww : IntKind.u64.wrap (k : Int) = (k : Int) := by unfold IntKind.wrap; simp [IntKind.bits, IntKind.signed]; omega
  have w1 := wrap_two ⟨k, hk⟩
  have w2 := wrap_two' ⟨k, hk⟩
  go_enter Tryz.func69, Tryz.ntmps69
  go_wp2
  go_ret
  exact ⟨rfl, rfl⟩
/-- What the reference selects out of the first v. -/
def selR (n : Int) : Nat → Int
  | 0 => 0
  | i + 1 => if (!hasB 0 i && decide (((idsF (selR n i)).length : Int) < n)) = true then bits .or .i64 (selR n i) (2 ^ i) else selR n i
theorem selR_fin : ∀ (v : Fin 11) (n : Fin 8), selR ((n.1 : Nat) : Int) v.1 = selS v.1 ((n.1 : Nat) : Int) 0 := by decide +kernel
theorem selR_eq {v : Nat} {n : Int} (hv : v ≤ 10) (h0 : 0 ≤ n) (h1 : n ≤ 7) : selR n v = selS v n 0 := by
  have := selR_fin ⟨v, by omega⟩ ⟨n.toNat, by omega⟩
  simpa [Int.toNat_of_nonneg h0] using this
theorem has0 : ∀ i : Fin 10, hasB 0 i.1 = false := by decide +kernel
set_option maxRecDepth 100000 in
set_option maxHeartbeats 4000000 in
theorem r6Select_any (v : Nat) (n : Int) (hv : v ≤ 10) (w : World) : Calls Tryz.prog 33 #[.int .i64 (v : Int), .int .i64 n, .int .i64 0] w fun e w' => e = .returned (.int .i64 (selR n v)) ∧ Upd NoF w w' := by
  go_enter Tryz.func33, Tryz.ntmps33
  go_wp2
  go_loopg [7, 8] v (fun kx s7 s8 wr => ∃ (k : Nat) (m : Int), s8 = .int .i64 (k : Int) ∧ k ≤ v ∧ v - k ≤ kx ∧ s7 = .int .i64 m ∧ Hid (selR n k = m) ∧ Hid (Upd NoF w wr))
  case atStart => exact ⟨0, 0, rfl, by omega, by omega, rfl, Lib.hid rfl, Lib.hid (Upd.refl _ _)⟩
  case round =>
    obtain ⟨k, m, rfl, hk, hkx, rfl, HL, HU⟩ := hrel
    by_cases hlt : k < v
    · have t1 : decide ((k : Int) < (v : Int)) = true := by simp; omega
      have t2 : decide ((k : Int) < 10) = true := by simp; omega
      have t2' : decide (k < 10) = true := by simp; omega
      have hk10 : k < 10 := by omega
      have CH := Lib.hid (fun W => show Calls Tryz.prog 67 #[.int .i64 0, .int .i64 (k : Int)] W (fun e w' => e = .returned (.bool false) ∧ w' = W) from by have q := r6Has_any 0 k hk10 W; rw [has0 ⟨k, hk10⟩] at q; exact q)
      have CS := Lib.hid (fun W => r6Size_any m W)
      have CB := Lib.hid (fun W => r6Bit_any k hk10 W)
      obtain ⟨sz, hsz⟩ : ∃ z, (idsF m).length = z := ⟨_, rfl⟩
      rw [hsz] at CS
      by_cases hc : (sz : Int) < n
      · have t3 : decide ((sz : Int) < n) = true := decide_eq_true hc
        have HN := Lib.hid (show selR n (k + 1) = bits .or .i64 m (2 ^ k) from by unfold selR; rw [HL.out, has0 ⟨k, hk10⟩, hsz, if_pos (by simp [hc])])
        clear hsz
        go_wp2_with (first
          | (refine (CH.out wr).mono ?_; rintro e w1 ⟨rfl, rfl⟩)
          | (refine (CS.out w1).mono ?_; rintro e w2 ⟨rfl, hu2⟩; have U2 := Lib.hid (HU.out.trans hu2 (fun _ _ f => f)); clear hu2)
          | (refine (CB.out w2).mono ?_; rintro e w3 ⟨rfl, rfl⟩))
        go_roundg (v - (k + 1))
        case measure => omega
        case rel => exact ⟨k + 1, _, by go_num, by omega, by omega, rfl, HN, U2⟩
      · have t3 : decide ((sz : Int) < n) = false := decide_eq_false hc
        have HN := Lib.hid (show selR n (k + 1) = m from by unfold selR; rw [HL.out, has0 ⟨k, hk10⟩, hsz, if_neg (by simp [hc])])
        clear hsz
        go_wp2_with (first
          | (refine (CH.out wr).mono ?_; rintro e w1 ⟨rfl, rfl⟩)
          | (refine (CS.out w1).mono ?_; rintro e w2 ⟨rfl, hu2⟩; have U2 := Lib.hid (HU.out.trans hu2 (fun _ _ f => f)); clear hu2))
        go_roundg (v - (k + 1))
        case measure => omega
        case rel => exact ⟨k + 1, _, by go_num, by omega, by omega, rfl, HN, U2⟩
    · obtain rfl : k = v := by omega
      have t1 : decide ((k : Int) < (k : Int)) = false := by simp
      go_wp2
      go_ret
      exact ⟨by rw [HL.out]; rfl, HU.out⟩
end
end Go.Proofs.YtengcmfdfmnacaaGreat
