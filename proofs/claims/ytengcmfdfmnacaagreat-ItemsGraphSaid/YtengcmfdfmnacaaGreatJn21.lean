/- items.Ancestors, items.IsAncestor, items.Path. Conditions: sizes. The reference's Reach. Conditions: sizes. -/
import Derived.Test.YtengcmfdfmnacaaGreatJn20
import Derived.Test.YtengcmfdfmnacaaGreatJn19
namespace Go.Proofs.YtengcmfdfmnacaaGreat
section
open Go.RowKit Go.Shelf Go.Lib

theorem Clo.len {l : List ItP} {todo seen fin : List (List UInt8)} (h : Clo l todo seen fin) : fin.length + unseen l fin ≤ seen.length + unseen l seen := by
  induction h with
  | done => exact Nat.le_refl _
  | skip _ _ ih => exact ih
  | take h1 h2 _ ih =>
    have := unseen_take h1 h2
    simp at ih
    omega
theorem ancP_len {l : List ItP} {n : List UInt8} {res : List (List UInt8)} (h : AncP l n res) : res.length ≤ l.length := by
  rcases h with ⟨-, rfl⟩ | ⟨x, seen, -, h, rfl⟩
  · simp
  · have h1 := h.len
    have h2 := unseen_le l []
    have h3 := List.length_filter_le (fun m => decide (m ≠ n)) seen
    simp at h1
    omega
theorem SetV.all8 {w : World} {v : Value} {l : List (List UInt8)} (h : SetV w v l) : All8 l := by
  rcases h with ⟨-, rfl⟩ | ⟨r, -, h⟩
  · intro n hn; cases hn
  · intro n hn; exact h.k8 (n, .bool true) (List.mem_map.2 ⟨n, hn, rfl⟩)
theorem Sorted_any {w : World} {v : Value} {l : List (List UInt8)} (h : SetV w v l) {k : Nat} (hl : l.length ≤ k) (hk : k ≤ 1000000 := by omega) : Calls Tryz.prog 44 #[v] w (AscPost w (ascSet l)) := by
  rcases h with ⟨rfl, rfl⟩ | ⟨r, rfl, h⟩
  · exact Sorted_nil w
  · have := Sorted_map h (by rw [List.length_map]; omega)
    rw [show (l.map fun n => (n, Value.bool true)).map (·.1) = l from setE_keys l] at this
    exact this
/-- A graph of these names. -/
def GrV (A : Option Addr) (n c : Nat) (names : List (List UInt8)) (v : Value) (w : World) : Prop := ∃ r, v = .agg #[.slice A n c, .map (some r)] ∧ NmI w r names
theorem stb_grv (A : Option Addr) (n c : Nat) (names : List (List UInt8)) : Stb (fun w w' => Upd NoF w w') (GrV A n c names) := fun _ _ _ ⟨r, e, h⟩ hu => ⟨r, e, h.keep hu⟩
def AncV (l : List ItP) (n : List UInt8) (v : Value) (w : World) : Prop := ∃ res, SetV w v res ∧ AncP l n res
theorem stb_ancv (l : List ItP) (n : List UInt8) : Stb (fun w w' => Upd NoF w w') (AncV l n) := fun _ _ _ ⟨r, h, h2⟩ hu => ⟨r, h.keep hu, h2⟩
def SoV (l : List ItP) (n : List UInt8) (v : Value) (w : World) : Prop := ∃ res A c, v = .slice A (ascSet res).length c ∧ AncP l n res ∧ NmR w (.slice A (ascSet res).length c) (ascSet res)
theorem stb_sov (l : List ItP) (n : List UInt8) : Stb (fun w w' => Upd NoF w w') (SoV l n) := fun _ _ _ ⟨r, A, c, e, h, h2⟩ hu => ⟨r, A, c, e, h, h2.keep hu⟩
def PaV (l : List ItP) (n : List UInt8) (v : Value) (w : World) : Prop := ∃ seen A c, v = .slice A seen.length c ∧ Dwn l n [] seen ∧ NmR w (.slice A seen.length c) seen.reverse
theorem stb_pav (l : List ItP) (n : List UInt8) : Stb (fun w w' => Upd NoF w w') (PaV l n) := fun _ _ _ ⟨r, A, c, e, h, h2⟩ hu => ⟨r, A, c, e, h, h2.keep hu⟩
def IaV (l : List ItP) (n a : List UInt8) (v : Value) (_ : World) : Prop := ∃ res, v = .bool (decide (a ∈ res)) ∧ AncP l n res
theorem stb_iav (l : List ItP) (n a : List UInt8) : Stb (fun w w' => Upd NoF w w') (IaV l n a) := fun _ _ _ h _ => h
set_option maxRecDepth 100000 in
set_option maxHeartbeats 8000000 in
theorem itemsAncestors_any {w : World} {A : Option Addr} {n c : Nat} {its : List (ItP × List Value)} {nm : List UInt8} (hn : its.length = n) (h : GrR w (.slice A n c) its) (hfew : Few its) (h8nm : nm.length = 8) :
    Calls Tryz.prog 16 #[.slice A n c, nameV nm] w fun e w' => ∃ res A' c', AncP (its.map (·.1)) nm res ∧ e = .returned (.slice A' (ascSet res).length c') ∧ NmR w' (.slice A' (ascSet res).length c') (ascSet res) ∧ Upd NoF w w' := by
  obtain ⟨znm, hznm⟩ : ∃ y, (nm.map byteV).toArray = y := ⟨_, rfl⟩
  have Hnm := Lib.hid hznm
  have H8nm := Lib.hid h8nm
  rw [show nameV nm = .agg znm from congrArg Value.agg hznm]
  have CN0 := Lib.hid (fun W (hu : Upd NoF w W) => NewGraph_any (w := W) hn (h.keep hu) (by have := hfew.1; omega))
  have CA0 := Lib.hid (fun W r (hu : Upd NoF w W) (hr : NmI W r (its.map (·.1.name))) => by have := grAncestors_any (w := W) hn (h.keep hu) hr hfew h8nm; rw [show nameV nm = .agg znm from congrArg Value.agg hznm] at this; exact this)
  have HLI := Lib.hid (show (its.map (·.1)).length ≤ 1000000 from by rw [List.length_map]; have := hfew.1; omega)
  clear hn h hfew h8nm hznm
  go_enter Tryz.func16, Tryz.ntmps16
  go_wp2_with (first
    | (refine wl_box rfl 28 (.tmp 1) rfl znm (by rfl) ?_; intro w1 hb hu hs; have Bnm := Lib.hid hb; have S1 := Lib.hid hs;  have V1 := Lib.hid (hu); clear hb hu hs))
  obtain ⟨Xnm, hXnm⟩ : ∃ x, w.heap.size = x := ⟨_, rfl⟩
  rw [hXnm] at Bnm ⊢
  obtain ⟨W1, hW1⟩ : ∃ x, x = w1 := ⟨_, rfl⟩
  rw [← hW1] at Bnm V1 ⊢
  have RNnm := Lib.hid (fun w' (hu : Upd NoF W1.drew w') => show w'.rangeAt Xnm 0 (nm.map byteV) from name_cells Hnm.out (((Upd.refl NoF W1).drew.trans hu (fun _ _ f => f)).blk Bnm.out (fun f => f)))
  have UW := Lib.hid V1.out
  have CN := Lib.hid (fun W (hu : Upd NoF W1.drew W) => CN0.out W (UW.out.drew.trans hu (fun _ _ f => f)))
  have CA := Lib.hid (fun W r (hu : Upd NoF W1.drew W) (hr : NmI W r (its.map (·.1.name))) => CA0.out W r (UW.out.drew.trans hu (fun _ _ f => f)) hr)
  clear hW1 hXnm CN0 CA0 Bnm S1 V1
  refine wp_region_rgw (rgR [isV (.slice A n c), GrV A n c (its.map (·.1.name)), isV (.agg znm), AncV (its.map (·.1)) nm, SoV (its.map (·.1)) nm, SoV (its.map (·.1)) nm]) (fun w w' => Upd NoF w w') (fun _ wq => Upd NoF W1.drew wq) (by kernel_rfl) (by kernel_rfl) (by kernel_rfl) (by rfl) (fun w => Upd.refl _ _) (rgR_keep (by
    intro p hp; simp only [List.mem_cons, List.not_mem_nil, or_false] at hp; rcases hp with rfl | rfl | rfl | rfl | rfl | rfl <;> first | exact stb_isV _ | exact stb_any | exact stb_grv _ _ _ _ | exact stb_ancv _ _ | exact stb_sov _ _ | exact stb_pav _ _)) (Upd.refl _ _) ?_ ?_
  · refine ⟨?_, ?_, ?_, ?_, ?_, ?_, trivial⟩
    · refine fun ρ w' L hW hLi hcl hd hdep hext hc hg hf => ?_
      rw [if_pos (show wantedR _ _ _ = true from rfl)]
      have e0 : ρ (.tmp 0) = .slice A n c := hext 0 (by kernel_rfl)
      clear hdep hext hcl
      have HW := Lib.hid hW
      clear hW
      unfold OpDone
      go_simp
      exact ⟨rfl, Upd.refl _ _, HW.out⟩
    · refine fun ρ w' L hW hLi hcl hd hdep hext hc hg hf => ?_
      rw [if_pos (show wantedR _ _ _ = true from rfl)]
      have e5 : ρ (.tmp 5) = .slice A n c := hdep 0 _ rfl (by kernel_rfl)
      clear hdep hext
      have CL := Lib.hid (show Calls Tryz.prog 45 #[.slice A n c] w' _ from CN.out w' hW)
      have HW := Lib.hid hW
      clear hW hcl hd hLi
      unfold OpDone
      go_simp
      refine CL.out.mono ?_
      rintro e w2 ⟨r, rfl, hr, hu⟩
      exact ⟨_, rfl, ⟨r, rfl, hr⟩, hu, HW.out.trans hu (fun _ _ f => f)⟩
    · refine fun ρ w' L hW hLi hcl hd hdep hext hc hg hf => ?_
      rw [if_pos (show wantedR _ _ _ = true from rfl)]
      have e3 : ρ (.tmp 3) = .pointer (some ⟨Xnm, 0, none⟩) := hext 3 (by kernel_rfl)
      clear hdep hext
      refine od_load_row 28 (.tmp 3) rfl (Xnm) 0 e3 (nm.map byteV) _ (RNnm.out w' hW) Tryz.underlying28 rfl (by rw [name_size]; simp [H8nm.out]) ?_
      rw [Hnm.out]
      exact ⟨rfl, Upd.refl _ _, hW⟩
    · refine fun ρ w' L hW hLi hcl hd hdep hext hc hg hf => ?_
      rw [if_pos (show wantedR _ _ _ = true from rfl)]
      have e6 : (GrV A n c (its.map (·.1.name))) (ρ (.tmp 6)) w' := hdep 1 _ rfl (by kernel_rfl)
      have e7 : ρ (.tmp 7) = .agg znm := hdep 2 _ rfl (by kernel_rfl)
      clear hdep hext
      obtain ⟨r9, e6, q9⟩ := e6
      have CL := Lib.hid (CA.out w' r9 hW q9)
      have HW := Lib.hid hW
      clear hW hcl hd hLi
      unfold OpDone
      go_simp
      refine CL.out.mono ?_
      rintro e w2 ⟨v, res, rfl, hs, ha, hu⟩
      exact ⟨_, rfl, ⟨res, hs, ha⟩, hu, HW.out.trans hu (fun _ _ f => f)⟩
    · refine fun ρ w' L hW hLi hcl hd hdep hext hc hg hf => ?_
      rw [if_pos (show wantedR _ _ _ = true from rfl)]
      have e8 : (AncV (its.map (·.1)) nm) (ρ (.tmp 8)) w' := hdep 3 _ rfl (by kernel_rfl)
      clear hdep hext
      obtain ⟨res9, q9, a9⟩ := e8
      have CL := Lib.hid (Sorted_any q9 (ancP_len a9) HLI.out)
      have A9 := Lib.hid a9
      have K9 := Lib.hid q9.all8
      clear q9 a9
      have HW := Lib.hid hW
      clear hW hcl hd hLi
      obtain ⟨vz, hvz⟩ : ∃ v, ρ (.tmp 8) = v := ⟨_, rfl⟩
      rw [hvz] at CL
      unfold OpDone
      go_simp
      refine CL.out.mono ?_
      rintro e w2 ⟨A2, c2, rfl, hN, hu⟩
      exact ⟨_, rfl, ⟨res9, A2, c2, rfl, A9.out, ⟨ascSet_all8 K9.out, hN.1.rd⟩⟩, hu, HW.out.trans hu (fun _ _ f => f)⟩
    · refine fun ρ w' L hW hLi hcl hd hdep hext hc hg hf => ?_
      rw [if_pos (show wantedR _ _ _ = true from rfl)]
      have e9 : (SoV (its.map (·.1)) nm) (ρ (.tmp 9)) w' := hdep 4 _ rfl (by kernel_rfl)
      clear hdep hext
      obtain ⟨res9, A9, c9, e9, q9⟩ := e9
      have Q9 := Lib.hid q9
      clear q9
      have HW := Lib.hid hW
      clear hW hcl hd hLi
      unfold OpDone
      go_simp
      exact ⟨⟨res9, A9, c9, rfl, Q9.out⟩, Upd.refl _ _, HW.out⟩
  intro vs W3 L3 hL3 hW3 hR
  have hv0 : vs 0 = .slice A n c := hR 0 _ rfl
  have hr1 : (GrV A n c (its.map (·.1.name))) (vs 1) W3 := hR 1 _ rfl
  obtain ⟨r1, hv1, -⟩ := hr1
  have hv2 : vs 2 = .agg znm := hR 2 _ rfl
  have hr3 : (AncV (its.map (·.1)) nm) (vs 3) W3 := hR 3 _ rfl
  obtain ⟨v3, hv3⟩ : ∃ v, vs 3 = v := ⟨_, rfl⟩
  obtain ⟨res3, hq3⟩ := hr3
  have hr4 : (SoV (its.map (·.1)) nm) (vs 4) W3 := hR 4 _ rfl
  obtain ⟨res4, A4, c4, hv4, hq4⟩ := hr4
  have hr5 : (SoV (its.map (·.1)) nm) (vs 5) W3 := hR 5 _ rfl
  obtain ⟨res5, A5, c5, hv5, hq5⟩ := hr5
  simp only [putAll, Act.put, List.setIfInBounds_toArray, List.set_cons_zero, List.set_cons_succ, hv0, hv1, hv2, hv3, hv4, hv5]
  clear hR hv0 hv1 hv2 hv3 hv4 hv5
  obtain ⟨q1, q2⟩ := hq5
  have Q1 := Lib.hid q1
  have Q2 := Lib.hid q2
  have HW3 := Lib.hid hW3
  clear q1 q2 hW3 hq4 hq3
  go_wp2
  go_ret
  exact ⟨res5, A5, c5, Q1.out, rfl, Q2.out, UW.out.drew.trans HW3.out (fun _ _ f => f)⟩
set_option maxRecDepth 100000 in
set_option maxHeartbeats 8000000 in
theorem itemsPath_any {w : World} {A : Option Addr} {n c : Nat} {its : List (ItP × List Value)} {nm : List UInt8} (hn : its.length = n) (h : GrR w (.slice A n c) its) (hfew : Few its) (h8nm : nm.length = 8) :
    Calls Tryz.prog 20 #[.slice A n c, nameV nm] w fun e w' => ∃ seen A' c', Dwn (its.map (·.1)) nm [] seen ∧ e = .returned (.slice A' seen.length c') ∧ NmR w' (.slice A' seen.length c') seen.reverse ∧ Upd NoF w w' := by
  obtain ⟨znm, hznm⟩ : ∃ y, (nm.map byteV).toArray = y := ⟨_, rfl⟩
  have Hnm := Lib.hid hznm
  have H8nm := Lib.hid h8nm
  rw [show nameV nm = .agg znm from congrArg Value.agg hznm]
  have CN0 := Lib.hid (fun W (hu : Upd NoF w W) => NewGraph_any (w := W) hn (h.keep hu) (by have := hfew.1; omega))
  have CA0 := Lib.hid (fun W r (hu : Upd NoF w W) (hr : NmI W r (its.map (·.1.name))) => by have := grPath_any (w := W) hn (h.keep hu) hr hfew.1 h8nm; rw [show nameV nm = .agg znm from congrArg Value.agg hznm] at this; exact this)
  clear hn h hfew h8nm hznm
  go_enter Tryz.func20, Tryz.ntmps20
  go_wp2_with (first
    | (refine wl_box rfl 28 (.tmp 1) rfl znm (by rfl) ?_; intro w1 hb hu hs; have Bnm := Lib.hid hb; have S1 := Lib.hid hs;  have V1 := Lib.hid (hu); clear hb hu hs))
  obtain ⟨Xnm, hXnm⟩ : ∃ x, w.heap.size = x := ⟨_, rfl⟩
  rw [hXnm] at Bnm ⊢
  obtain ⟨W1, hW1⟩ : ∃ x, x = w1 := ⟨_, rfl⟩
  rw [← hW1] at Bnm V1 ⊢
  have RNnm := Lib.hid (fun w' (hu : Upd NoF W1.drew w') => show w'.rangeAt Xnm 0 (nm.map byteV) from name_cells Hnm.out (((Upd.refl NoF W1).drew.trans hu (fun _ _ f => f)).blk Bnm.out (fun f => f)))
  have UW := Lib.hid V1.out
  have CN := Lib.hid (fun W (hu : Upd NoF W1.drew W) => CN0.out W (UW.out.drew.trans hu (fun _ _ f => f)))
  have CA := Lib.hid (fun W r (hu : Upd NoF W1.drew W) (hr : NmI W r (its.map (·.1.name))) => CA0.out W r (UW.out.drew.trans hu (fun _ _ f => f)) hr)
  clear hW1 hXnm CN0 CA0 Bnm S1 V1
  refine wp_region_rgw (rgR [isV (.slice A n c), GrV A n c (its.map (·.1.name)), isV (.agg znm), PaV (its.map (·.1)) nm, PaV (its.map (·.1)) nm]) (fun w w' => Upd NoF w w') (fun _ wq => Upd NoF W1.drew wq) (by kernel_rfl) (by kernel_rfl) (by kernel_rfl) (by rfl) (fun w => Upd.refl _ _) (rgR_keep (by
    intro p hp; simp only [List.mem_cons, List.not_mem_nil, or_false] at hp; rcases hp with rfl | rfl | rfl | rfl | rfl <;> first | exact stb_isV _ | exact stb_any | exact stb_grv _ _ _ _ | exact stb_ancv _ _ | exact stb_sov _ _ | exact stb_pav _ _)) (Upd.refl _ _) ?_ ?_
  · refine ⟨?_, ?_, ?_, ?_, ?_, trivial⟩
    · refine fun ρ w' L hW hLi hcl hd hdep hext hc hg hf => ?_
      rw [if_pos (show wantedR _ _ _ = true from rfl)]
      have e0 : ρ (.tmp 0) = .slice A n c := hext 0 (by kernel_rfl)
      clear hdep hext hcl
      have HW := Lib.hid hW
      clear hW
      unfold OpDone
      go_simp
      exact ⟨rfl, Upd.refl _ _, HW.out⟩
    · refine fun ρ w' L hW hLi hcl hd hdep hext hc hg hf => ?_
      rw [if_pos (show wantedR _ _ _ = true from rfl)]
      have e5 : ρ (.tmp 5) = .slice A n c := hdep 0 _ rfl (by kernel_rfl)
      clear hdep hext
      have CL := Lib.hid (show Calls Tryz.prog 45 #[.slice A n c] w' _ from CN.out w' hW)
      have HW := Lib.hid hW
      clear hW hcl hd hLi
      unfold OpDone
      go_simp
      refine CL.out.mono ?_
      rintro e w2 ⟨r, rfl, hr, hu⟩
      exact ⟨_, rfl, ⟨r, rfl, hr⟩, hu, HW.out.trans hu (fun _ _ f => f)⟩
    · refine fun ρ w' L hW hLi hcl hd hdep hext hc hg hf => ?_
      rw [if_pos (show wantedR _ _ _ = true from rfl)]
      have e3 : ρ (.tmp 3) = .pointer (some ⟨Xnm, 0, none⟩) := hext 3 (by kernel_rfl)
      clear hdep hext
      refine od_load_row 28 (.tmp 3) rfl (Xnm) 0 e3 (nm.map byteV) _ (RNnm.out w' hW) Tryz.underlying28 rfl (by rw [name_size]; simp [H8nm.out]) ?_
      rw [Hnm.out]
      exact ⟨rfl, Upd.refl _ _, hW⟩
    · refine fun ρ w' L hW hLi hcl hd hdep hext hc hg hf => ?_
      rw [if_pos (show wantedR _ _ _ = true from rfl)]
      have e6 : (GrV A n c (its.map (·.1.name))) (ρ (.tmp 6)) w' := hdep 1 _ rfl (by kernel_rfl)
      have e7 : ρ (.tmp 7) = .agg znm := hdep 2 _ rfl (by kernel_rfl)
      clear hdep hext
      obtain ⟨r9, e6, q9⟩ := e6
      have CL := Lib.hid (CA.out w' r9 hW q9)
      have HW := Lib.hid hW
      clear hW hcl hd hLi
      unfold OpDone
      go_simp
      refine CL.out.mono ?_
      rintro e w2 ⟨seen, A2, c2, hd2, rfl, hN, hu, h8, -⟩
      exact ⟨_, rfl, ⟨seen, A2, c2, rfl, hd2, ⟨fun y hy => h8 y (List.mem_reverse.1 hy), by rw [List.length_reverse]; exact hN.1.rd⟩⟩, hu, HW.out.trans hu (fun _ _ f => f)⟩
    · refine fun ρ w' L hW hLi hcl hd hdep hext hc hg hf => ?_
      rw [if_pos (show wantedR _ _ _ = true from rfl)]
      have e8 : (PaV (its.map (·.1)) nm) (ρ (.tmp 8)) w' := hdep 3 _ rfl (by kernel_rfl)
      clear hdep hext
      obtain ⟨seen9, A9, c9, e8, q9⟩ := e8
      have Q9 := Lib.hid q9
      clear q9
      have HW := Lib.hid hW
      clear hW hcl hd hLi
      unfold OpDone
      go_simp
      exact ⟨⟨seen9, A9, c9, rfl, Q9.out⟩, Upd.refl _ _, HW.out⟩
  intro vs W3 L3 hL3 hW3 hR
  have hv0 : vs 0 = .slice A n c := hR 0 _ rfl
  have hr1 : (GrV A n c (its.map (·.1.name))) (vs 1) W3 := hR 1 _ rfl
  obtain ⟨r1, hv1, -⟩ := hr1
  have hv2 : vs 2 = .agg znm := hR 2 _ rfl
  have hr3 : (PaV (its.map (·.1)) nm) (vs 3) W3 := hR 3 _ rfl
  obtain ⟨seen3, A3, c3, hv3, hq3⟩ := hr3
  have hr4 : (PaV (its.map (·.1)) nm) (vs 4) W3 := hR 4 _ rfl
  obtain ⟨seen4, A4, c4, hv4, hq4⟩ := hr4
  simp only [putAll, Act.put, List.setIfInBounds_toArray, List.set_cons_zero, List.set_cons_succ, hv0, hv1, hv2, hv3, hv4]
  clear hR hv0 hv1 hv2 hv3 hv4
  obtain ⟨q1, q2⟩ := hq4
  have Q1 := Lib.hid q1
  have Q2 := Lib.hid q2
  have HW3 := Lib.hid hW3
  clear q1 q2 hW3 hq3
  go_wp2
  go_ret
  exact ⟨seen4, A4, c4, Q1.out, rfl, Q2.out, UW.out.drew.trans HW3.out (fun _ _ f => f)⟩
set_option maxRecDepth 100000 in
set_option maxHeartbeats 8000000 in
theorem itIsAncestor_any {w : World} {A : Option Addr} {n c : Nat} {its : List (ItP × List Value)} {an nm : List UInt8} (hn : its.length = n) (h : GrR w (.slice A n c) its) (hfew : Few its) (h8an : an.length = 8) (h8nm : nm.length = 8) :
    Calls Tryz.prog 18 #[.slice A n c, nameV an, nameV nm] w fun e w' => ∃ res, AncP (its.map (·.1)) nm res ∧ e = .returned (.bool (decide (an ∈ res))) ∧ Upd NoF w w' := by
  obtain ⟨zan, hzan⟩ : ∃ y, (an.map byteV).toArray = y := ⟨_, rfl⟩
  have Han := Lib.hid hzan
  have H8an := Lib.hid h8an
  rw [show nameV an = .agg zan from congrArg Value.agg hzan]
  obtain ⟨znm, hznm⟩ : ∃ y, (nm.map byteV).toArray = y := ⟨_, rfl⟩
  have Hnm := Lib.hid hznm
  have H8nm := Lib.hid h8nm
  rw [show nameV nm = .agg znm from congrArg Value.agg hznm]
  have CN0 := Lib.hid (fun W (hu : Upd NoF w W) => NewGraph_any (w := W) hn (h.keep hu) (by have := hfew.1; omega))
  have CA0 := Lib.hid (fun W r (hu : Upd NoF w W) (hr : NmI W r (its.map (·.1.name))) => by have := grAncestors_any (w := W) hn (h.keep hu) hr hfew h8nm; rw [show nameV nm = .agg znm from congrArg Value.agg hznm] at this; exact this)
  clear hn h hfew h8an hzan h8nm hznm
  go_enter Tryz.func18, Tryz.ntmps18
  go_wp2_with (first
    | (refine wl_box rfl 28 (.tmp 1) rfl zan (by rfl) ?_; intro w1 hb hu hs; have Ban := Lib.hid hb; have S1 := Lib.hid hs;  have V1 := Lib.hid (hu); clear hb hu hs)
    | (refine wl_box rfl 28 (.tmp 2) rfl znm (by rfl) ?_; intro w2 hb hu hs; have Bnm := Lib.hid hb; have S2 := Lib.hid hs; replace Ban := Lib.hid (hu.blk Ban.out (fun f => f)); have V2 := Lib.hid (V1.out.trans hu (fun _ _ f => f)); clear hb hu hs))
  obtain ⟨Xan, hXan⟩ : ∃ x, w.heap.size = x := ⟨_, rfl⟩
  rw [hXan] at Ban ⊢
  obtain ⟨Xnm, hXnm⟩ : ∃ x, w1.heap.size = x := ⟨_, rfl⟩
  rw [hXnm] at Bnm ⊢
  obtain ⟨W1, hW1⟩ : ∃ x, x = w2 := ⟨_, rfl⟩
  rw [← hW1] at Ban Bnm V2 ⊢
  have RNan := Lib.hid (fun w' (hu : Upd NoF W1.drew w') => show w'.rangeAt Xan 0 (an.map byteV) from name_cells Han.out (((Upd.refl NoF W1).drew.trans hu (fun _ _ f => f)).blk Ban.out (fun f => f)))
  have RNnm := Lib.hid (fun w' (hu : Upd NoF W1.drew w') => show w'.rangeAt Xnm 0 (nm.map byteV) from name_cells Hnm.out (((Upd.refl NoF W1).drew.trans hu (fun _ _ f => f)).blk Bnm.out (fun f => f)))
  have UW := Lib.hid V2.out
  have CN := Lib.hid (fun W (hu : Upd NoF W1.drew W) => CN0.out W (UW.out.drew.trans hu (fun _ _ f => f)))
  have CA := Lib.hid (fun W r (hu : Upd NoF W1.drew W) (hr : NmI W r (its.map (·.1.name))) => CA0.out W r (UW.out.drew.trans hu (fun _ _ f => f)) hr)
  clear hW1 hXan hXnm CN0 CA0 Ban Bnm S1 V1 S2 V2
  refine wp_region_rgw (rgR [isV (.slice A n c), GrV A n c (its.map (·.1.name)), isV (.agg znm), AncV (its.map (·.1)) nm, isV (.agg zan), IaV (its.map (·.1)) nm an, IaV (its.map (·.1)) nm an]) (fun w w' => Upd NoF w w') (fun _ wq => Upd NoF W1.drew wq) (by kernel_rfl) (by kernel_rfl) (by kernel_rfl) (by rfl) (fun w => Upd.refl _ _) (rgR_keep (by
    intro p hp; simp only [List.mem_cons, List.not_mem_nil, or_false] at hp; rcases hp with rfl | rfl | rfl | rfl | rfl | rfl | rfl <;> first | exact stb_isV _ | exact stb_any | exact stb_grv _ _ _ _ | exact stb_ancv _ _ | exact stb_sov _ _ | exact stb_pav _ _ | exact stb_iav _ _ _)) (Upd.refl _ _) ?_ ?_
  · refine ⟨?_, ?_, ?_, ?_, ?_, ?_, ?_, trivial⟩
    · refine fun ρ w' L hW hLi hcl hd hdep hext hc hg hf => ?_
      rw [if_pos (show wantedR _ _ _ = true from rfl)]
      have e0 : ρ (.tmp 0) = .slice A n c := hext 0 (by kernel_rfl)
      clear hdep hext hcl
      have HW := Lib.hid hW
      clear hW
      unfold OpDone
      go_simp
      exact ⟨rfl, Upd.refl _ _, HW.out⟩
    · refine fun ρ w' L hW hLi hcl hd hdep hext hc hg hf => ?_
      rw [if_pos (show wantedR _ _ _ = true from rfl)]
      have e7 : ρ (.tmp 7) = .slice A n c := hdep 0 _ rfl (by kernel_rfl)
      clear hdep hext
      have CL := Lib.hid (show Calls Tryz.prog 45 #[.slice A n c] w' _ from CN.out w' hW)
      have HW := Lib.hid hW
      clear hW hcl hd hLi
      unfold OpDone
      go_simp
      refine CL.out.mono ?_
      rintro e w2 ⟨r, rfl, hr, hu⟩
      exact ⟨_, rfl, ⟨r, rfl, hr⟩, hu, HW.out.trans hu (fun _ _ f => f)⟩
    · refine fun ρ w' L hW hLi hcl hd hdep hext hc hg hf => ?_
      rw [if_pos (show wantedR _ _ _ = true from rfl)]
      have e5 : ρ (.tmp 5) = .pointer (some ⟨Xnm, 0, none⟩) := hext 5 (by kernel_rfl)
      clear hdep hext
      refine od_load_row 28 (.tmp 5) rfl (Xnm) 0 e5 (nm.map byteV) _ (RNnm.out w' hW) Tryz.underlying28 rfl (by rw [name_size]; simp [H8nm.out]) ?_
      rw [Hnm.out]
      exact ⟨rfl, Upd.refl _ _, hW⟩
    · refine fun ρ w' L hW hLi hcl hd hdep hext hc hg hf => ?_
      rw [if_pos (show wantedR _ _ _ = true from rfl)]
      have e8 : (GrV A n c (its.map (·.1.name))) (ρ (.tmp 8)) w' := hdep 1 _ rfl (by kernel_rfl)
      have e9 : ρ (.tmp 9) = .agg znm := hdep 2 _ rfl (by kernel_rfl)
      clear hdep hext
      obtain ⟨r9, e8, q9⟩ := e8
      have CL := Lib.hid (CA.out w' r9 hW q9)
      have HW := Lib.hid hW
      clear hW hcl hd hLi
      unfold OpDone
      go_simp
      refine CL.out.mono ?_
      rintro e w2 ⟨v, res, rfl, hs, ha, hu⟩
      exact ⟨_, rfl, ⟨res, hs, ha⟩, hu, HW.out.trans hu (fun _ _ f => f)⟩
    · refine fun ρ w' L hW hLi hcl hd hdep hext hc hg hf => ?_
      rw [if_pos (show wantedR _ _ _ = true from rfl)]
      have e4 : ρ (.tmp 4) = .pointer (some ⟨Xan, 0, none⟩) := hext 4 (by kernel_rfl)
      clear hdep hext
      refine od_load_row 28 (.tmp 4) rfl (Xan) 0 e4 (an.map byteV) _ (RNan.out w' hW) Tryz.underlying28 rfl (by rw [name_size]; simp [H8an.out]) ?_
      rw [Han.out]
      exact ⟨rfl, Upd.refl _ _, hW⟩
    · refine fun ρ w' L hW hLi hcl hd hdep hext hc hg hf => ?_
      rw [if_pos (show wantedR _ _ _ = true from rfl)]
      have e10 : (AncV (its.map (·.1)) nm) (ρ (.tmp 10)) w' := hdep 3 _ rfl (by kernel_rfl)
      have e11 : ρ (.tmp 11) = .agg zan := hdep 4 _ rfl (by kernel_rfl)
      clear hdep hext
      obtain ⟨res9, q9, a9⟩ := e10
      have hrun : (Instr.lookup 86 (ρ (.tmp 10)) (.agg zan) false).run Tryz.prog w' = .ok (.bool (decide (an ∈ res9))) w' := by
        rw [← Han.out]
        rcases q9 with ⟨ev, rfl⟩ | ⟨R9, ev, hm⟩
        · rw [ev]
          exact (lookup_nilN Tryz.underlying86 H8an.out (z := .bool false) (by kernel_rfl) false).trans (by simp)
        · rw [ev]
          refine (hm.lookup Tryz.underlying86 H8an.out (z := .bool false) (by kernel_rfl) false).trans ?_
          have e : (getT (res9.map fun n => (n, Value.bool true)) an).getD (.bool false) = .bool (decide (an ∈ res9)) := by
            by_cases hi : an ∈ res9
            · rw [show getT (res9.map fun n => (n, Value.bool true)) an = some (.bool true) from setE_in hi]; simp [hi]
            · rw [show getT (res9.map fun n => (n, Value.bool true)) an = none from setE_out hi]; simp [hi]
          rw [e]
          rfl
      refine od_of_run (v := .bool (decide (an ∈ res9))) (w' := w') ?_ ⟨⟨res9, rfl, a9⟩, Upd.refl _ _, hW⟩
      show (execOp ρ (Oper.mk _ (.lookup 86 (.tmp 10) (.tmp 11) false) _ _ _ _)).run Tryz.prog w' = _
      unfold execOp
      simp only [e11, Sem.run_bind, Sem.run_pure, hrun, Result.andThen_ok]
    · refine fun ρ w' L hW hLi hcl hd hdep hext hc hg hf => ?_
      rw [if_pos (show wantedR _ _ _ = true from rfl)]
      have e12 : (IaV (its.map (·.1)) nm an) (ρ (.tmp 12)) w' := hdep 5 _ rfl (by kernel_rfl)
      clear hdep hext
      obtain ⟨res9, e12, q9⟩ := e12
      have Q9 := Lib.hid q9
      clear q9
      have HW := Lib.hid hW
      clear hW hcl hd hLi
      unfold OpDone
      go_simp
      exact ⟨⟨res9, rfl, Q9.out⟩, Upd.refl _ _, HW.out⟩
  intro vs W3 L3 hL3 hW3 hR
  have hv0 : vs 0 = .slice A n c := hR 0 _ rfl
  have hr1 : (GrV A n c (its.map (·.1.name))) (vs 1) W3 := hR 1 _ rfl
  obtain ⟨r1, hv1, -⟩ := hr1
  have hv2 : vs 2 = .agg znm := hR 2 _ rfl
  have hr3 : (AncV (its.map (·.1)) nm) (vs 3) W3 := hR 3 _ rfl
  obtain ⟨v3, hv3⟩ : ∃ v, vs 3 = v := ⟨_, rfl⟩
  obtain ⟨res3, hq3⟩ := hr3
  have hv4 : vs 4 = .agg zan := hR 4 _ rfl
  have hr5 : (IaV (its.map (·.1)) nm an) (vs 5) W3 := hR 5 _ rfl
  obtain ⟨res5, hv5, hq5⟩ := hr5
  have hr6 : (IaV (its.map (·.1)) nm an) (vs 6) W3 := hR 6 _ rfl
  obtain ⟨res6, hv6, hq6⟩ := hr6
  simp only [putAll, Act.put, List.setIfInBounds_toArray, List.set_cons_zero, List.set_cons_succ, hv0, hv1, hv2, hv3, hv4, hv5, hv6]
  clear hR hv0 hv1 hv2 hv3 hv4 hv5 hv6
  have HW3 := Lib.hid hW3
  have Q6 := Lib.hid hq6
  clear hW3 hq3 hq5 hq6
  obtain ⟨bz, hbz⟩ : ∃ b, decide (an ∈ res6) = b := ⟨_, rfl⟩
  have HBZ := Lib.hid hbz
  rw [hbz]
  clear hbz
  go_wp2
  go_ret
  exact ⟨res6, Q6.out, by rw [HBZ.out]; rfl, UW.out.drew.trans HW3.out (fun _ _ f => f)⟩
end

section
open Go.RowKit Go.Shelf Go.Lib

theorem insRd {W : World} {A : Option Addr} {n c : Nat} {raw : List (List UInt8)} {nm : List UInt8} {zn : Array Value} {F : Nat → Prop} (hF : ∀ k, F k → k < W.heap.size) (hz : (nm.map byteV).toArray = zn) (hr : raw.length ≤ 1000000) (h8r : All8 raw) (hl : (ascSet raw).length = n) (h : RdF F W 8 (.slice A n c) n (rowsN (ascSet raw))) (h8 : nm.length = 8) :
    Calls Tryz.prog 41 #[.slice A n c, .agg zn] W fun e w' => ∃ A' m c', e = .returned (.slice A' m c') ∧ (ascSet (raw ++ [nm])).length = m ∧ RdF F w' 8 (.slice A' m c') m (rowsN (ascSet (raw ++ [nm]))) ∧ Upd NoF W w' := by
  have q := r25insert_F (w := W) hF hl (ascSet_all8 h8r) h h8 (by have := ascSet_len raw; omega)
  rw [show nameV nm = .agg zn from congrArg Value.agg hz, ← ascSet_snoc] at q
  exact q.mono (fun e w' ⟨A', c', h1, h2, h3⟩ => ⟨A', _, c', h1, rfl, h2, h3⟩)
theorem itN_map {its : List (ItP × List Value)} : (its.map fun x => (x.1.name, x.2)).map (·.1) = its.map (·.1.name) := by rw [List.map_map]; rfl
theorem rFind_hit {w : World} {A : Option Addr} {n c k : Nat} {its : List (ItP × List Value)} {nm : List UInt8} {nb : Array Value} (hn : its.length = n) (h : GrR w (.slice A n c) its) (hf : (its.map (·.1.name)).findIdx? (fun y => y = nm) = some k) (h8 : nm.length = 8) (hz : (nm.map byteV).toArray = nb) : Calls Tryz.prog 15 #[.slice A n c, .agg nb] w fun e w' => e = .returned (.int .i64 (k : Int)) ∧ Upd NoF w w' := by
  have q := r25Find_any (w := w) (by rw [List.length_map]; exact hn) h.row h8
  obtain ⟨h1, h2, h3⟩ := List.findIdx?_eq_some_iff_getElem.1 hf
  rw [show nameV nm = .agg nb from congrArg Value.agg hz, itN_map, findS_hit (k := k) (by rw [List.getElem?_eq_getElem h1]; simpa using h2) (fun j x hj hx => by
    have hj' : j < (its.map (·.1.name)).length := by omega
    have := h3 j hj
    rw [List.getElem?_eq_getElem hj'] at hx
    injection hx with hx
    rw [← hx]
    simpa using this)] at q
  exact q
theorem rFind_miss {w : World} {A : Option Addr} {n c : Nat} {its : List (ItP × List Value)} {nm : List UInt8} {nb : Array Value} (hn : its.length = n) (h : GrR w (.slice A n c) its) (hf : (its.map (·.1.name)).findIdx? (fun y => y = nm) = none) (h8 : nm.length = 8) (hz : (nm.map byteV).toArray = nb) : Calls Tryz.prog 15 #[.slice A n c, .agg nb] w fun e w' => e = .returned (.int .i64 (-1)) ∧ Upd NoF w w' := by
  have q := r25Find_any (w := w) (by rw [List.length_map]; exact hn) h.row h8
  rw [List.findIdx?_eq_none_iff] at hf
  rw [show nameV nm = .agg nb from congrArg Value.agg hz, itN_map, findS_no (fun j x hx => by simpa using hf x (List.mem_of_getElem? hx))] at q
  exact q
/-- has, with the name's row as it stands. -/
theorem rHas_row {w : World} {A : Option Addr} {c n : Nat} {nm : List UInt8} {nb : Array Value} {l : List (List UInt8)} {b : Bool} (hl : l.length = n) (h : NmR w (.slice A n c) l) (h8 : nm.length = 8) (hz : (nm.map byteV).toArray = nb) (hb : decide (nm ∈ l) = b) : Calls Tryz.prog 48 #[.slice A n c, .agg nb] w fun e w' => e = .returned (.bool b) ∧ Upd NoF w w' := by
  have q := r25has_any (w := w) hl h h8
  rw [show nameV nm = .agg nb from congrArg Value.agg hz, hb] at q
  exact q
set_option maxRecDepth 100000 in
set_option maxHeartbeats 8000000 in
theorem rReach_any {w : World} {A A1 : Option Addr} {n c m0 c1 : Nat} {its : List (ItP × List Value)} {fr : List (List UInt8)} (hn : its.length = n) (h : GrR w (.slice A n c) its) (hfew : Few its) (hm0 : fr.length = m0) (hf : NmR w (.slice A1 m0 c1) fr) (hs : m0 ≤ 10000) :
    Calls Tryz.prog 47 #[.slice A n c, .slice A1 m0 c1] w fun e w' => ∃ seen, Clo (its.map (·.1)) fr [] seen ∧ All8 seen ∧ NmPost w (ascSet seen) e w' := by
  obtain ⟨i0, hi0, hz0, hz1, hz2⟩ := info_parts name_info
  have HNI := Lib.hid hn
  have HG := Lib.hid h
  have HFEW := Lib.hid hfew
  have HFR8 := Lib.hid (show All8 fr from hf.1)
  have HFR := Lib.hid (show Rd w 8 (.slice A1 m0 c1) m0 (rowsN fr) from by have := hf.2; rw [hm0] at this; exact this)
  have HM0 := Lib.hid hm0
  have HS := Lib.hid hs
  have HBM := Lib.hid (show 0 + m0 ≤ maxLen ∧ (0 + m0) * 8 ≤ 140737488355328 from by unfold maxLen; omega)
  clear hn h hfew hf hm0
  go_enter Tryz.func47, Tryz.ntmps47
  go_wp2_with (first
    | (refine wl_names0 rfl rfl ?_; intro w2 ho2 hu2 hs2; have O2 := Lib.hid ho2; have V2 := Lib.hid hu2; clear ho2 hu2 hs2)
    | (at_builtin; refine wpList_append_to _ rfl (.tmp 9) (.tmp 10) 22 rfl 28 i0 _ 8 8 Tryz.underlying22 hi0 hz0 hz1 hz2 (by kernel_rfl) (.slice (some ⟨w.heap.size, 0, none⟩) 0 0) 0 [] (by rfl) O2.out (.slice A1 m0 c1) m0 (rowsN fr) (by rfl) (HFR.out.keep V2.out) (rowsN_one _) HBM.out.1 HBM.out.2 ?_; intro A3 c3 w3 hown hupd hnew; have O3 := Lib.hid (show Own w3 28 8 (.slice A3 m0 c3) m0 (rowsN fr) from by simpa using hown); have D3 := Lib.hid hupd; have N3 := Lib.hid hnew; clear hown hupd hnew))
  obtain ⟨X, hX⟩ : ∃ x, w.heap.size = x := ⟨_, rfl⟩
  have HX := Lib.hid hX
  have hD : ∀ j, OwnB (.slice (some ⟨w.heap.size, 0, none⟩) 0 0) j → X ≤ j := fun j hj => by have : w.heap.size = j := (by simpa [OwnB, Value.ownBlock] using hj); omega
  have U3 := Lib.hid (show Upd NoF w w3 from V2.out.trans D3.out (fun j hj f => by have := hD j f; have := HX.out; omega))
  have N4 := Lib.hid (show NwA X 28 8 m0 (rowsN fr) A3 c3 w3 from ⟨O3.out, fun j hj => by
    rcases N3.out j (by simpa using hj) with f | f
    · exact hD j f
    · have := V2.out.size; have := HX.out; omega⟩)
  clear hX hD D3 N3 O3 V2 O2
  go_loopg [5, 6] (m0 + 2001 * its.length) (fun kx s5 s6 wr => ∃ (todo seen : List (List UInt8)) (Ao : Option Addr) (mo co : Nat) (A' : Option Addr) (m cc : Nat), s5 = .slice Ao mo co ∧ s6 = .slice A' m cc ∧ m + 2001 * unseen (its.map (·.1)) seen ≤ kx ∧ Hid (kx ≤ m0 + 2001 * its.length) ∧ Hid (todo.length = m) ∧ Hid (NwA X 28 8 m (rowsN todo) A' cc wr) ∧ Hid ((ascSet seen).length = mo) ∧ Hid (RdF (OwnB (.slice A' m cc)) wr 8 (.slice Ao mo co) mo (rowsN (ascSet seen))) ∧ Hid (Upd NoF w wr) ∧ Hid (All8 todo) ∧ Hid (All8 seen) ∧ Hid (seen.length + unseen (its.map (·.1)) seen ≤ its.length) ∧ Hid (∀ fin, Clo (its.map (·.1)) todo seen fin → Clo (its.map (·.1)) fr [] fin))
  case atStart => exact ⟨fr, [], none, 0, 0, A3, m0, c3, rfl, rfl, by have := unseen_le (its.map (·.1)) []; rw [List.length_map] at this; omega, Lib.hid (Nat.le_refl _), HM0, N4, Lib.hid rfl, Lib.hid (RdF.nil _ _ _), U3, HFR8, Lib.hid (fun n hn => by cases hn), Lib.hid (by have := unseen_le (its.map (·.1)) []; rw [List.length_map] at this; simpa using this), Lib.hid (fun _ h => h)⟩
  case round =>
    clear N4 U3
    obtain ⟨todo0, seen, Ao, mo, co, A', m, cc, rfl, rfl, hkx, HKX, HTL, HN, HOL, HOR, HU, HT8, HS8, HSU, HCL⟩ := hrel
    have hnn := HNI.out
    rcases Nat.eq_zero_or_pos m with h0 | h0
    · subst h0
      have t1 : ¬ (0 : Int) < ((0 : Nat) : Int) := by omega
      have htd : todo0 = [] := List.eq_nil_of_length_eq_zero HTL.out
      subst htd
      go_wp2
      go_ret
      refine ⟨seen, HCL.out _ (Clo.done _), HS8.out, Ao, mo, co, rfl, HOL.out, ⟨ascSet_all8 HS8.out, ?_⟩, HU.out⟩
      rw [HOL.out]
      exact HOR.out.now
    · obtain ⟨k, rfl⟩ : ∃ k, m = k + 1 := ⟨m - 1, by omega⟩
      have t1 : (0 : Int) < (k : Int) + 1 := by omega
      have t1' : decide (0 < k + 1) = true := by simp
      have hk8 : k ≤ 3000000 := by have := HKX.out; have := HFEW.out.1; have := HS.out; omega
      have ww : IntKind.i64.wrap (k : Int) = k := IntWalk.i64_in _ (by omega)
      have q0 : (0 : Int) ≤ (k : Int) := by omega
      have q1 : (k : Int) < (k : Int) + 1 := by omega
      have q3 : ((k : Int)).toNat = k := by omega
      obtain ⟨nm, todo, htd⟩ : ∃ nm todo, todo0 = todo ++ [nm] := by
        rcases List.eq_nil_or_concat todo0 with h | ⟨t, x, h⟩
        · have := HTL.out; rw [h] at this; simp at this
        · exact ⟨x, t, by rw [h]; simp⟩
      subst htd
      have HTK := Lib.hid (show todo.length = k from by have := HTL.out; simpa using this)
      rcases HN.out.1.2 with ⟨_, hz⟩ | ⟨g, cap, cur, hv, hb, hle, hcm, hcs, hx⟩
      · omega
      injection hv with hA _ hc
      subst hA
      subst hc
      have H8N := Lib.hid (HT8.out nm (by simp))
      have HRN := Lib.hid (show wr.rangeAt g (k * 8) (nm.map byteV) from (rows_own (w := wr) (g := g) (c := cc) (e := 28) HT8.out hx (i := k) (by rw [List.getElem?_append_right (by have := HTK.out; omega)]; have := HTK.out; simp [this])).range hb)
      have HTD := Lib.hid (show True ∧ (rowsN (todo ++ [nm])).take (k * 8) = rowsN todo from ⟨trivial, by
        rw [rowsN_snoc, List.take_append_of_le_length (Nat.le_of_eq ?_)]
        · refine List.take_of_length_le (Nat.le_of_eq ?_)
          exact rowsN_len (fun y hy => HT8.out y (by simp [hy])) HTK.out
        · exact (rowsN_len (fun y hy => HT8.out y (by simp [hy])) HTK.out).symm⟩)
      obtain ⟨nb, hnb⟩ : ∃ y, (nm.map byteV).toArray = y := ⟨_, rfl⟩
      have HNB := Lib.hid hnb
      have HT8' := Lib.hid (show All8 todo from fun y hy => HT8.out y (by simp [hy]))
      clear hb hx hcs
      cases hfi : (its.map (·.1.name)).findIdx? (fun y => y = nm) with
      | none =>
        have HIO := Lib.hid (itemOf_miss hfi)
        have CF := Lib.hid (show ∀ W, Upd NoF wr W → Calls Tryz.prog 15 #[.slice A n c, .agg nb] W (fun e w' => e = .returned (.int .i64 (-1)) ∧ Upd NoF W w') from fun W hu => rFind_miss HNI.out (HG.out.keep (HU.out.trans hu (fun _ _ f => f))) hfi H8N.out HNB.out)
        clear hfi hnb
        go_wp2_with (first
        | (refine wl_load rfl 28 (.tmp 19) rfl g (k * 8) (by first | rfl | simp) (nm.map byteV) _ HRN.out Tryz.underlying28 rfl (by rw [name_size]; simp [H8N.out]) nb HNB.out ?_)
        | (refine wpList_alloc_row rfl 28 rfl zN name_alloc ?_; intro w3 hb3 hu3 hs3; have B3 := Lib.hid hb3; have U3 := Lib.hid hu3; clear hb3 hu3 hs3)
        | (refine wpList_store_row rfl 28 (.tmp 7) (.tmp 20) rfl wr.heap.size (by rfl) nb (by rfl) 28 _ B3.out (by rw [(name_arr H8N.out HNB.out).1]; exact zN_size) (by rw [name_size, (name_arr H8N.out HNB.out).1]) (name_arr H8N.out HNB.out).2 ?_; intro w4 hb4 hu4 hs4; have B4 := Lib.hid hb4; have U4 := Lib.hid (U3.out.trans hu4 (F := NoF) (fun j hj e => by have e : j = wr.heap.size := e; omega)); have O4 := Lib.hid (HN.out.1.upd U4.out (fun _ _ f => f)); clear hb4 hu4 hs4)
        | (refine wl_cutOwn rfl 22 28 (k := k) (.tmp 21) (.tmp 24) rfl (by rfl) (by rfl) O4.out Tryz.underlying22 (fun w => by kernel_rfl) (Nat.le_succ k) ?_; intro hcut; have OC := Lib.hid (show Own w4 28 8 (.slice (some ⟨g, 0, none⟩) k cc) k (rowsN todo) from by rw [HTD.out.2] at hcut; exact hcut); clear hcut)
        | (refine wl_load rfl 28 (.tmp 7) rfl wr.heap.size 0 (by rfl) (nm.map byteV) _ (name_cells HNB.out B4.out) Tryz.underlying28 rfl (by rw [name_size]; simp [H8N.out]) nb HNB.out ?_)
        | (refine (CF.out w4 U4.out).mono ?_; rintro e w5 ⟨rfl, hu5⟩; have U5 := Lib.hid (U4.out.trans hu5 (fun _ _ f => f)); have B5 := Lib.hid (hu5.blk B4.out (fun f => f)); have O5 := Lib.hid (OC.out.upd hu5 (fun _ _ f => f)); clear hu5))
        go_roundg (k + 2001 * unseen (its.map (·.1)) seen)
        case measure => omega
        case rel => exact ⟨todo, seen, Ao, mo, co, _, k, cc, rfl, by first | rfl | (congr 1; done), Nat.le_refl _, Lib.hid (by have := HKX.out; omega), HTK, Lib.hid ⟨O5.out, fun j hj => HN.out.2 j (by rw [ownB_len (m := k) (d := cc)]; exact hj)⟩, HOL, Lib.hid (by rw [ownB_len (m := k + 1) (d := cc)]; exact HOR.out.upd (U5.out.mono (fun _ _ f => f.elim))), Lib.hid (HU.out.trans U5.out (fun _ _ f => f)), HT8', HS8, HSU, Lib.hid (fun fin hc => HCL.out fin (Clo.skip (.inl HIO.out) hc))⟩
      | some ki =>
        obtain ⟨x, hxk, hxn, hio⟩ := itemOf_hit hfi
        have HIO := Lib.hid hio
        have HXM := Lib.hid (List.mem_of_getElem? hxk)
        have HOK := Lib.hid (HG.out.ok x HXM.out)
        have hki : ki < n := by rw [← hnn]; exact (List.getElem?_eq_some_iff.1 hxk).1
        have t5 : decide ((ki : Int) < 0) = false := decide_eq_false (by omega)
        have t5' : ¬ (ki : Int) < 0 := by omega
        have CF := Lib.hid (show ∀ W, Upd NoF wr W → Calls Tryz.prog 15 #[.slice A n c, .agg nb] W (fun e w' => e = .returned (.int .i64 (ki : Int)) ∧ Upd NoF W w') from fun W hu => rFind_hit HNI.out (HG.out.keep (HU.out.trans hu (fun _ _ f => f))) hfi H8N.out HNB.out)
        have HNO := Lib.hid (show NmR wr (.slice Ao mo co) (ascSet seen) from ⟨ascSet_all8 HS8.out, by rw [HOL.out]; exact HOR.out.now⟩)
        by_cases hse : nm ∈ seen
        · have HSE := Lib.hid hse
          have CH := Lib.hid (show ∀ W, Upd NoF wr W → Calls Tryz.prog 48 #[.slice Ao mo co, .agg nb] W (fun e w' => e = .returned (.bool true) ∧ Upd NoF W w') from fun W hu => rHas_row HOL.out (HNO.out.keep hu) H8N.out HNB.out (decide_eq_true ((mem_ascSet HS8.out nm).2 HSE.out)))
          clear hse hfi hnb hxk hio
          go_wp2_with (first
        | (refine wl_load rfl 28 (.tmp 19) rfl g (k * 8) (by first | rfl | simp) (nm.map byteV) _ HRN.out Tryz.underlying28 rfl (by rw [name_size]; simp [H8N.out]) nb HNB.out ?_)
        | (refine wpList_alloc_row rfl 28 rfl zN name_alloc ?_; intro w3 hb3 hu3 hs3; have B3 := Lib.hid hb3; have U3 := Lib.hid hu3; clear hb3 hu3 hs3)
        | (refine wpList_store_row rfl 28 (.tmp 7) (.tmp 20) rfl wr.heap.size (by rfl) nb (by rfl) 28 _ B3.out (by rw [(name_arr H8N.out HNB.out).1]; exact zN_size) (by rw [name_size, (name_arr H8N.out HNB.out).1]) (name_arr H8N.out HNB.out).2 ?_; intro w4 hb4 hu4 hs4; have B4 := Lib.hid hb4; have U4 := Lib.hid (U3.out.trans hu4 (F := NoF) (fun j hj e => by have e : j = wr.heap.size := e; omega)); have O4 := Lib.hid (HN.out.1.upd U4.out (fun _ _ f => f)); clear hb4 hu4 hs4)
        | (refine wl_cutOwn rfl 22 28 (k := k) (.tmp 21) (.tmp 24) rfl (by rfl) (by rfl) O4.out Tryz.underlying22 (fun w => by kernel_rfl) (Nat.le_succ k) ?_; intro hcut; have OC := Lib.hid (show Own w4 28 8 (.slice (some ⟨g, 0, none⟩) k cc) k (rowsN todo) from by rw [HTD.out.2] at hcut; exact hcut); clear hcut)
        | (refine wl_load rfl 28 (.tmp 7) rfl wr.heap.size 0 (by rfl) (nm.map byteV) _ (name_cells HNB.out B4.out) Tryz.underlying28 rfl (by rw [name_size]; simp [H8N.out]) nb HNB.out ?_)
        | (refine (CF.out w4 U4.out).mono ?_; rintro e w5 ⟨rfl, hu5⟩; have U5 := Lib.hid (U4.out.trans hu5 (fun _ _ f => f)); have B5 := Lib.hid (hu5.blk B4.out (fun f => f)); have O5 := Lib.hid (OC.out.upd hu5 (fun _ _ f => f)); clear hu5)
        | (refine wl_load rfl 28 (.tmp 7) rfl wr.heap.size 0 (by rfl) (nm.map byteV) _ (name_cells HNB.out B5.out) Tryz.underlying28 rfl (by rw [name_size]; simp [H8N.out]) nb HNB.out ?_)
        | (refine (CH.out w5 U5.out).mono ?_; rintro e w6 ⟨rfl, hu6⟩; have U6 := Lib.hid (U5.out.trans hu6 (fun _ _ f => f)); have B6 := Lib.hid (hu6.blk B5.out (fun f => f)); have O6 := Lib.hid (O5.out.upd hu6 (fun _ _ f => f)); clear hu6))
          go_roundg (k + 2001 * unseen (its.map (·.1)) seen)
          case measure => omega
          case rel => exact ⟨todo, seen, Ao, mo, co, _, k, cc, rfl, by first | rfl | (congr 1; done), Nat.le_refl _, Lib.hid (by have := HKX.out; omega), HTK, Lib.hid ⟨O6.out, fun j hj => HN.out.2 j (by rw [ownB_len (m := k) (d := cc)]; exact hj)⟩, HOL, Lib.hid (by rw [ownB_len (m := k + 1) (d := cc)]; exact HOR.out.upd (U6.out.mono (fun _ _ f => f.elim))), Lib.hid (HU.out.trans U6.out (fun _ _ f => f)), HT8', HS8, HSU, Lib.hid (fun fin hc => HCL.out fin (Clo.skip (.inr HSE.out) hc))⟩
        · have HSE := Lib.hid hse
          have CH := Lib.hid (show ∀ W, Upd NoF wr W → Calls Tryz.prog 48 #[.slice Ao mo co, .agg nb] W (fun e w' => e = .returned (.bool false) ∧ Upd NoF W w') from fun W hu => rHas_row HOL.out (HNO.out.keep hu) H8N.out HNB.out (decide_eq_false (fun hm => HSE.out ((mem_ascSet HS8.out nm).1 hm))))
          obtain ⟨gI, oI, rfl, hri⟩ := HG.out.at_ HNI.out hxk
          have HRI := Lib.hid (show ∀ W, Upd NoF wr W → W.rangeAt gI (oI + ki * 28) (itemC x.1.name x.2) from fun W hu j v hj => (HU.out.trans hu (fun _ _ f => f)).cell (hri j v hj) (fun f => f))
          have HIL := Lib.hid (itemC_len HOK.out)
          obtain ⟨ra, hra⟩ : ∃ y, (itemC x.1.name x.2).toArray = y := ⟨_, rfl⟩
          have HRA := Lib.hid hra
          obtain ⟨PL, hPL⟩ : ∃ y, parents x.1 = y := ⟨_, rfl⟩
          have HPL := Lib.hid hPL
          have HPB := Lib.hid (show PL.length ≤ 2001 from by have := parents_len x.1; have := HFEW.out.2 x HXM.out; rw [← hPL]; omega)
          have HP8 := Lib.hid (show All8 PL from by rw [← hPL]; exact ascSet_all8 (rawPar_all8 HOK.out.fit))
          have HUS := Lib.hid (unseen_take HIO.out hse)
          have CP := Lib.hid (fun W (hu : Upd NoF wr W) => show Calls Tryz.prog 13 #[.agg ra] W (NmPost W PL) from by rw [← HRA.out, ← HPL.out]; exact rParents_any (HOK.out.keep (HU.out.trans hu (fun _ _ f => f))) (HFEW.out.2 x HXM.out).1 (HFEW.out.2 x HXM.out).2)
          have CI := Lib.hid (fun W (hu : Upd NoF wr W) (ho : Own W 28 8 (.slice (some ⟨g, 0, none⟩) k cc) k (rowsN todo)) => insRd (W := W) (F := OwnB (.slice (some ⟨g, 0, none⟩) k cc)) (zn := nb) (fun j hj => ho.lt hj) HNB.out (show seen.length ≤ 1000000 from by have := HSU.out; have := HFEW.out.1; omega) HS8.out HOL.out (by rw [ownB_len (m := k + 1) (d := cc)]; exact HOR.out.upd (hu.mono (fun _ _ f => f.elim))) H8N.out)
          have qi0 : (0 : Int) ≤ (ki : Int) := by omega
          have qi1 : (ki : Int) < (n : Int) := by omega
          have qi3 : ((ki : Int)).toNat = ki := by omega
          clear hse hPL hfi hnb hxk hio hri hra
          go_wp2_with (first
        | (refine wl_load rfl 28 (.tmp 19) rfl g (k * 8) (by first | rfl | simp) (nm.map byteV) _ HRN.out Tryz.underlying28 rfl (by rw [name_size]; simp [H8N.out]) nb HNB.out ?_)
        | (refine wpList_alloc_row rfl 28 rfl zN name_alloc ?_; intro w3 hb3 hu3 hs3; have B3 := Lib.hid hb3; have U3 := Lib.hid hu3; clear hb3 hu3 hs3)
        | (refine wpList_store_row rfl 28 (.tmp 7) (.tmp 20) rfl wr.heap.size (by rfl) nb (by rfl) 28 _ B3.out (by rw [(name_arr H8N.out HNB.out).1]; exact zN_size) (by rw [name_size, (name_arr H8N.out HNB.out).1]) (name_arr H8N.out HNB.out).2 ?_; intro w4 hb4 hu4 hs4; have B4 := Lib.hid hb4; have U4 := Lib.hid (U3.out.trans hu4 (F := NoF) (fun j hj e => by have e : j = wr.heap.size := e; omega)); have O4 := Lib.hid (HN.out.1.upd U4.out (fun _ _ f => f)); clear hb4 hu4 hs4)
        | (refine wl_cutOwn rfl 22 28 (k := k) (.tmp 21) (.tmp 24) rfl (by rfl) (by rfl) O4.out Tryz.underlying22 (fun w => by kernel_rfl) (Nat.le_succ k) ?_; intro hcut; have OC := Lib.hid (show Own w4 28 8 (.slice (some ⟨g, 0, none⟩) k cc) k (rowsN todo) from by rw [HTD.out.2] at hcut; exact hcut); clear hcut)
        | (refine wl_load rfl 28 (.tmp 7) rfl wr.heap.size 0 (by rfl) (nm.map byteV) _ (name_cells HNB.out B4.out) Tryz.underlying28 rfl (by rw [name_size]; simp [H8N.out]) nb HNB.out ?_)
        | (refine (CF.out w4 U4.out).mono ?_; rintro e w5 ⟨rfl, hu5⟩; have U5 := Lib.hid (U4.out.trans hu5 (fun _ _ f => f)); have B5 := Lib.hid (hu5.blk B4.out (fun f => f)); have O5 := Lib.hid (OC.out.upd hu5 (fun _ _ f => f)); clear hu5)
        | (refine wl_load rfl 28 (.tmp 7) rfl wr.heap.size 0 (by rfl) (nm.map byteV) _ (name_cells HNB.out B5.out) Tryz.underlying28 rfl (by rw [name_size]; simp [H8N.out]) nb HNB.out ?_)
        | (refine (CH.out w5 U5.out).mono ?_; rintro e w6 ⟨rfl, hu6⟩; have U6 := Lib.hid (U5.out.trans hu6 (fun _ _ f => f)); have B6 := Lib.hid (hu6.blk B5.out (fun f => f)); have O6 := Lib.hid (O5.out.upd hu6 (fun _ _ f => f)); clear hu6)
        | (refine wl_load rfl 28 (.tmp 7) rfl wr.heap.size 0 (by rfl) (nm.map byteV) _ (name_cells HNB.out B6.out) Tryz.underlying28 rfl (by rw [name_size]; simp [H8N.out]) nb HNB.out ?_)
        | (refine (CI.out w6 U6.out O6.out).mono ?_; rintro e w7 ⟨A7, m7, c7, rfl, hl7, hr7, hu7⟩; have L7 := Lib.hid hl7; have R7 := Lib.hid hr7; have U7 := Lib.hid (U6.out.trans hu7 (fun _ _ f => f)); have O7 := Lib.hid (O6.out.upd hu7 (fun _ _ f => f)); clear hl7 hr7 hu7)
        | (refine wl_load rfl 38 (.tmp 42) rfl gI (oI + ki * 28) (by first | rfl | simp) (itemC x.1.name x.2) _ (HRI.out w7 U7.out) Tryz.underlying38 rfl (by rw [HIL.out]; exact item_size) ra HRA.out ?_)
        | (refine (CP.out w7 U7.out).mono ?_; rintro e w8 ⟨A8, m8, c8, rfl, hl8, hn8, hu8⟩; have L8 := Lib.hid hl8; have N8 := Lib.hid hn8; have U8 := Lib.hid (U7.out.trans hu8 (fun _ _ f => f)); have O8 := Lib.hid (O7.out.upd hu8 (fun _ _ f => f)); have R8 := Lib.hid (R7.out.upd (hu8.mono (fun _ _ f => f.elim))); have HB1 := Lib.hid (show k + m8 ≤ maxLen ∧ (k + m8) * 8 ≤ 140737488355328 from by have := HPB.out; have := L8.out; unfold maxLen; omega); clear hl8 hn8 hu8)
        | (at_builtin; refine wpList_append_to _ rfl (.tmp 39) (.tmp 44) 22 rfl 28 i0 _ 8 8 Tryz.underlying22 hi0 hz0 hz1 hz2 (by kernel_rfl) (.slice (some ⟨g, 0, none⟩) k cc) k (rowsN todo) (by rfl) O8.out (.slice A8 m8 c8) m8 (rowsN PL) (by rfl) (by have q := N8.out.2; rw [L8.out] at q; exact q) (rowsN_one _) HB1.out.1 HB1.out.2 ?_; intro A10 c10 w10 hown hupd hnew; have O10 := Lib.hid hown; have D10 := Lib.hid hupd; have N10 := Lib.hid hnew; clear hown hupd hnew))
          go_roundg (k + m8 + 2001 * unseen (its.map (·.1)) (seen ++ [nm]))
          case measure => have := HUS.out; have := HPB.out; have := L8.out; omega
          case rel =>
            have hg : ∀ j, OwnB (.slice (some ⟨g, 0, none⟩) k cc) j → X ≤ j := fun j hj => HN.out.2 j (by rw [ownB_len (m := k) (d := cc)]; exact hj)
            have h9 := U8.out.size
            have h10 := HU.out.size
            have h11 := HX.out
            refine ⟨todo ++ PL, seen ++ [nm], A7, m7, c7, A10, k + m8, c10, rfl, rfl, Nat.le_refl _, Lib.hid (by have := HKX.out; have := HUS.out; have := HPB.out; have := L8.out; omega), Lib.hid (by rw [List.length_append, HTK.out, L8.out]), Lib.hid ⟨by rw [rowsN_append]; exact O10.out, fun j hj => ?_⟩, L7, Lib.hid (R8.out.upd' D10.out (fun j hj hjj => (N10.out j hjj).elim id (fun f => by omega))), Lib.hid ((HU.out.trans U8.out (fun _ _ f => f)).trans D10.out (fun j hj f => by have := hg j f; omega)), Lib.hid (fun y hy => by rcases List.mem_append.1 hy with hy | hy; (· exact HT8'.out y hy); exact HP8.out y hy), Lib.hid (fun y hy => by rcases List.mem_append.1 hy with hy | hy; (· exact HS8.out y hy); rw [List.mem_singleton.1 hy]; exact H8N.out), Lib.hid (by have := HSU.out; have := HUS.out; rw [List.length_append]; simp; omega), Lib.hid (fun fin hc => HCL.out fin (Clo.take HIO.out HSE.out (by rw [HPL.out]; exact hc)))⟩
            rcases N10.out j hj with f | f
            · exact hg j f
            · omega
end
end Go.Proofs.YtengcmfdfmnacaaGreat
