/- The reference's GenesisItem. No condition. items.Graph.Ancestors. Conditions: sizes. slices.Reverse of names. Conditions: sizes. -/
import Derived.Test.YtengcmfdfmnacaaGreatJn19
import Derived.Test.YtengcmfdfmnacaaGreatJn21
import Derived.Test.YtengcmfdfmnacaaGreatJn23
import Derived.Test.YtengcmfdfmnacaaGreatJn18
import Derived.Test.YtengcmfdfmnacaaGreatJn13
import Derived.Test.YtengcmfdfmnacaaGreatJn14
import Derived.Test.YtengcmfdfmnacaaGreatLay6
namespace Go.Proofs.YtengcmfdfmnacaaGreat
section
open Go.RowKit Go.Lib

def ItN (S0 : Nat) (n : List UInt8) (mk : Int) (m : Nat) (l : List DelS) (ri : Array Value) (w : World) : Prop := ∃ sb, StN S0 m l sb w ∧ (itRow n 1 mk sb).toArray = ri
def ItNv (S0 : Nat) (n : List UInt8) (mk : Int) (m : Nat) (l : List DelS) (v : Value) (w : World) : Prop := ∃ ri, v = .agg ri ∧ ItN S0 n mk m l ri w
section
variable {S0 X i m : Nat} {n : List UInt8} {mk : Int} {l : List DelS} {ri : Array Value} {w w' : World}
theorem ItN.keepX (h : ItN S0 n mk m l ri w) (hX : X < S0) (hu : Upd (fun k => k = X) w w') : ItN S0 n mk m l ri w' := by
  obtain ⟨sb, h1, h2⟩ := h
  exact ⟨sb, h1.keepX hX hu, h2⟩
theorem ItN.size (h : ItN S0 n mk m l ri w) (hn : n.length = 8) : ri.size = 28 := by
  obtain ⟨sb, h1, rfl⟩ := h
  simp [itRow, hn, h1.size, nm0]
theorem ItN.one (h : ItN S0 n mk m l ri w) : ri.all (·.oneCell') = true := by
  obtain ⟨sb, ⟨A1, c1, A2, c2, A3, c3, A4, c4, rfl, -⟩, rfl⟩ := h
  rw [List.all_toArray, List.all_eq_true]
  intro u hu
  rcases List.mem_append.1 hu with h1 | h1
  · obtain ⟨b, -, rfl⟩ := List.mem_map.1 h1
    rfl
  · simp only [nm0, List.replicate, List.map_cons, List.map_nil, List.cons_append, List.nil_append, List.mem_cons, List.not_mem_nil, or_false] at h1
    rcases h1 with rfl | rfl | rfl | rfl | rfl | rfl | rfl | rfl | rfl | rfl | rfl | rfl | rfl | rfl | rfl | rfl | rfl | rfl | rfl | rfl <;> rfl
theorem stbL_itn (hX : X < S0) : StbL (StX X) i (ItNv S0 n mk m l) := fun _ _ _ _ _ ⟨ri, e, h⟩ hs => ⟨ri, e, h.keepX hX hs⟩
end
theorem build_it {n : List UInt8} (hn : n.length = 8) {zn : Array Value} (hz : (n.map byteV).toArray = zn) (mk : Int) (sb : Array Value) (hs : sb.size = 5) (w : World) : (Instr.build 38 #[(0, .agg zn), (1, .int .i64 1), (7, .agg sb), (6, .int .i64 mk)]).run Tryz.prog w = .ok (.agg (itRow n 1 mk sb).toArray) w := by
  obtain ⟨l⟩ := sb
  match l, hs with
  | [x0, x1, x2, x3, x4], _ =>
    rw [← hz]
    exact build_gen hn x0 x1 x2 x3 x4 mk w
set_option maxRecDepth 100000 in
set_option maxHeartbeats 4000000 in
theorem r25GenesisItem_bad {w : World} {A B C : Option Addr} {a b c : Nat} {g : GenS} (h : GenR w A B C a b c g) (hv : validG g = false) : Calls Tryz.prog 8 #[genV A B C a b c g] w fun e w' => e = .returned (.tuple #[.agg itZ, .int .i64 1]) ∧ Upd NoF w w' := by
  have CE := Lib.hid (fun W (hu : Upd NoF w W) => r20EncG_bad (w := W) (h.keep hu) hv)
  unfold genV at CE ⊢
  obtain ⟨ga, hga⟩ : ∃ x, (#[.int .i64 g.n, .int .i64 g.stake, .slice A g.vals.length a, .slice B g.accs.length b, .slice C g.bals.length c] : Array Value) = x := ⟨_, rfl⟩
  rw [hga] at CE ⊢
  have HGA := Lib.hid (show ga.size = 5 from by rw [← hga]; rfl)
  have IA := Lib.hid item_alloc
  have IO := Lib.hid itZ_one
  have IS := Lib.hid (show (Tryz.prog.info? 38).map (·.size) = some itZ.size from by rw [itZ_size, item_size])
  obtain ⟨iz, hiz⟩ : ∃ x, itZ = x := ⟨_, rfl⟩
  rw [hiz] at IA IO IS ⊢
  have HIZ := Lib.hid hiz
  clear h hv hga hiz
  go_enter Tryz.func8, Tryz.ntmps8
  go_wp2_with (first
    | (refine wl_box rfl 25 (.tmp 0) rfl ga (by rfl) ?_; intro v0 hb0 hu0 hs0; have BX0 := Lib.hid hb0; have V0 := Lib.hid hu0; have S0 := Lib.hid hs0; clear hb0 hu0 hs0)
    | (refine wpList_alloc_row rfl 38 rfl iz IA.out ?_; intro w1 hb1 hu1 hs1; have BY := Lib.hid hb1; have BX := Lib.hid (hu1.blk BX0.out (fun f => f)); have V1 := Lib.hid (V0.out.trans hu1 (fun _ _ f => f)); clear hb1 hu1 hs1)
    | (refine wl_load rfl 25 (.tmp 1) rfl w.heap.size 0 (by rfl) ga.toList _ (range_blk (by rw [Array.toArray_toList]; exact BX.out)) Tryz.underlying25 rfl (by rw [Array.length_toList, HGA.out]; exact gen_size) ga (by simp) ?_)
    | (with_reducible show Calls _ 31 _ _ _; refine (CE.out _ V1.out).mono ?_; rintro e w2 ⟨rfl, hu2⟩; have V2 := Lib.hid (V1.out.trans hu2 (fun _ _ f => f)); have BY2 := Lib.hid (hu2.blk BY.out (fun f => f)); clear hu2)
    | (refine wpList_store_row rfl 38 (.tmp 2) (.tmp 13) rfl v0.heap.size (by rfl) iz (by rw [← HIZ.out]; kernel_rfl) 38 _ BY2.out rfl IS.out IO.out ?_; intro w3 hb3 hu3 hs3; have B3 := Lib.hid hb3; have V3 := Lib.hid (V2.out.trans hu3 (F := NoF) (fun j hj e => by have e : j = v0.heap.size := e; have := S0.out; omega)); clear hb3 hu3 hs3))
  refine bodyPost_ret (results_cell_tmp Tryz.results8 _ _ v0.heap.size iz.toList _ rfl (range_blk (by rw [Array.toArray_toList]; exact B3.out)) Tryz.underlying38 rfl (by rw [Array.length_toList]; exact IS.out)) rfl ?_
  exact ⟨by simp, V3.out⟩
set_option maxRecDepth 100000 in
set_option maxHeartbeats 16000000 in
theorem r25GenesisItem_ok {w : World} {A B C : Option Addr} {a b c : Nat} {g : GenS} (h : GenR w A B C a b c g) (hv : validG g = true) : Calls Tryz.prog 8 #[genV A B C a b c g] w fun e w' => ∃ ri, e = .returned (.tuple #[.agg ri, .int .i64 0]) ∧ ItN w.heap.size (hsum (encG g)) (selS g.vals.length g.n 0) g.accs.length (genCells g) ri w' ∧ Upd NoF w w' := by
  obtain ⟨p1, p2, p3, p4, p5, p6, p7, p8, p9, p10⟩ := valid_parts hv
  have CE := Lib.hid (fun W (hu : Upd NoF w W) => r20EncG_ok (w := W) (h.keep hu) hv)
  have CGS := Lib.hid (fun W (hu : Upd NoF w W) => r20GenesisState_ok (w := W) (h.keep hu) hv)
  have CSE := Lib.hid (fun W => show Calls Tryz.prog 33 #[.int .i64 (g.vals.length : Int), .int .i64 g.n, .int .i64 0] W (fun e w' => e = .returned (.int .i64 (selS g.vals.length g.n 0)) ∧ Upd NoF W w') from by rw [← selR_eq (v := g.vals.length) (n := g.n) p4 (by omega) p2]; exact r6Select_any g.vals.length g.n p4 W)
  have HEL := Lib.hid (encG_len h.vals.1 h.accs.1 p4 p7 p8)
  unfold genV at CE CGS ⊢
  obtain ⟨EG, hEG⟩ : ∃ x, encG g = x := ⟨_, rfl⟩
  rw [hEG] at CE HEL ⊢
  obtain ⟨LF, hLF⟩ : ∃ x, genCells g = x := ⟨_, rfl⟩
  rw [hLF] at CGS ⊢
  obtain ⟨v, hvl⟩ : ∃ n, g.vals.length = n := ⟨_, rfl⟩
  obtain ⟨m, hml⟩ : ∃ n, g.accs.length = n := ⟨_, rfl⟩
  obtain ⟨q, hql⟩ : ∃ n, g.bals.length = n := ⟨_, rfl⟩
  rw [hvl, hml, hql] at CE CGS
  rw [hvl] at CSE
  rw [hvl, hml, hql]
  obtain ⟨gn, hgn⟩ : ∃ x, g.n = x := ⟨_, rfl⟩
  obtain ⟨gs, hgs⟩ : ∃ x, g.stake = x := ⟨_, rfl⟩
  rw [hgn, hgs] at CE CGS
  rw [hgn] at CSE
  rw [hgn, hgs]
  obtain ⟨mk, hmk⟩ : ∃ z, selS v gn 0 = z := ⟨_, rfl⟩
  rw [hmk] at CSE ⊢
  obtain ⟨ga, hga⟩ : ∃ x, (#[.int .i64 gn, .int .i64 gs, .slice A v a, .slice B m b, .slice C q c] : Array Value) = x := ⟨_, rfl⟩
  rw [hga] at CE CGS ⊢
  have HGAE := Lib.hid hga
  have HGA5 := Lib.hid (show ga.size = 5 from by rw [← hga]; rfl)
  have H8N := Lib.hid (hsum_len EG)
  obtain ⟨HS, hHS⟩ : ∃ x, hsum EG = x := ⟨_, rfl⟩
  rw [hHS] at H8N ⊢
  obtain ⟨zn, hzn⟩ : ∃ y, (HS.map byteV).toArray = y := ⟨_, rfl⟩
  have CNM := Lib.hid (fun W {D : Option Addr} {cd : Nat} (hr : Rd W 1 (.slice D EG.length cd) EG.length (EG.map byteV)) => show Calls Tryz.prog 22 #[.slice D EG.length cd] W (fun e w' => e = .returned (.agg zn) ∧ Upd NoF W w') from by
    have q := r20TextName_any hr (by have := HEL.out; omega)
    rw [hHS, show nameV HS = .agg zn from congrArg Value.agg hzn] at q
    exact q)
  have HBLD := Lib.hid (fun sb (hs : sb.size = 5) W => build_it H8N.out hzn mk sb hs W)
  have IA := Lib.hid item_alloc
  obtain ⟨iz, hiz⟩ : ∃ x, itZ = x := ⟨_, rfl⟩
  rw [hiz] at IA
  have HI8 := Lib.hid (show iz.size = 28 from by rw [← hiz]; exact itZ_size)
  clear h hv p1 p2 p3 p4 p5 p6 p7 p8 p9 p10 hEG hLF hvl hml hql hgn hgs hmk hga hHS hzn hiz
  go_enter Tryz.func8, Tryz.ntmps8
  go_wp2_with (first
    | (refine wl_box rfl 25 (.tmp 0) rfl ga (by rfl) ?_; intro v0 hb0 hu0 hs0; have BX0 := Lib.hid hb0; have V0 := Lib.hid hu0; have S0 := Lib.hid hs0; clear hb0 hu0 hs0)
    | (refine wpList_alloc_row rfl 38 rfl iz IA.out ?_; intro w1 hb1 hu1 hs1; have BY1 := Lib.hid hb1; have BX1 := Lib.hid (hu1.blk BX0.out (fun f => f)); have V1 := Lib.hid (V0.out.trans hu1 (fun _ _ f => f)); clear hb1 hu1 hs1)
    | (refine wl_load rfl 25 (.tmp 1) rfl w.heap.size 0 (by rfl) ga.toList _ (range_blk (by rw [Array.toArray_toList]; exact BX1.out)) Tryz.underlying25 rfl (by rw [Array.length_toList, HGA5.out]; exact gen_size) ga (by simp) ?_)
    | (with_reducible show Calls _ 31 _ _ _; refine (CE.out _ V1.out).mono ?_; rintro e w2 ⟨D, cd, rfl, hr2, hu2⟩; have HT2 := Lib.hid hr2; have V2 := Lib.hid (V1.out.trans hu2 (fun _ _ f => f)); have BY2 := Lib.hid (hu2.blk BY1.out (fun f => f)); have BX2 := Lib.hid (hu2.blk BX1.out (fun f => f)); clear hr2 hu2))
  obtain ⟨X, hX⟩ : ∃ x, w.heap.size = x := ⟨_, rfl⟩
  obtain ⟨Y, hY⟩ : ∃ x, v0.heap.size = x := ⟨_, rfl⟩
  have HX := Lib.hid hX
  have HXY := Lib.hid (show Y = X + 1 from by have := S0.out; omega)
  rw [hX] at BX2 ⊢
  rw [hY] at BY2 ⊢
  obtain ⟨W1, hW1⟩ : ∃ x, x = w2 := ⟨_, rfl⟩
  rw [← hW1] at BX2 BY2 V2 HT2 ⊢
  obtain ⟨S0, hS0⟩ : ∃ x, W1.drew.heap.size = x := ⟨_, rfl⟩
  have HSU := Lib.hid (fun w' (hu : Upd NoF W1.drew w') => show S0 ≤ w'.heap.size from by have := hu.size; rw [hS0] at this; exact this)
  have HYS := Lib.hid (show Y < S0 from by have := BY2.out.lt; have e : W1.heap.size = S0 := hS0; omega)
  have BX := Lib.hid (show Blk W1.drew X 25 ga from BX2.out.drew)
  have BY := Lib.hid (show Blk W1.drew Y 38 iz from BY2.out.drew)
  have HTX := Lib.hid (show Rd W1.drew 1 (.slice D EG.length cd) EG.length (EG.map byteV) from HT2.out.keep (Upd.refl NoF W1).drew)
  have C0 := Lib.hid (show W1.drew.cell? ⟨X, 0, none⟩ = some (.int .i64 gn) from (BX.out.cell 0).trans (by rw [← HGAE.out]; rfl))
  have C2 := Lib.hid (show W1.drew.cell? ⟨X, 2, none⟩ = some (.slice A v a) from (BX.out.cell 2).trans (by rw [← HGAE.out]; rfl))
  replace CGS := Lib.hid (fun W (hu : Upd NoF W1.drew W) => CGS.out W (V2.out.drew.trans hu (fun _ _ f => f)))
  clear hX hY hW1 hS0 BX0 V0 BY1 BX1 V1 BX2 BY2 HT2
  refine wp_region_rgl (rgR [isV (.slice D EG.length cd), isV (.agg zn), isV (.agg ga), StNv S0 m LF, isV (.pointer (some ⟨X, 2, none⟩)), isV (.slice A v a), isV (.int .i64 (v : Int)), isV (.pointer (some ⟨X, 0, none⟩)), isV (.int .i64 gn), isV (.int .i64 mk), ItNv S0 HS mk m LF, anyV, isV (.int .i64 0)]) (StX Y) (LastSt W1.drew 11 (fun w => ∃ ri, Blk w Y 38 ri ∧ ItN S0 HS mk m LF ri w ∧ Upd (fun k => k = Y) W1.drew w)) (by kernel_rfl) (by kernel_rfl) (by kernel_rfl) (by rfl) (fun L w => StX.same) (rgR_keepL ⟨stbL_isV _, stbL_isV _, stbL_isV _, stbL_stn HYS.out, stbL_isV _, stbL_isV _, stbL_isV _, stbL_isV _, stbL_isV _, stbL_isV _, stbL_itn HYS.out, stbL_any, stbL_isV _, trivial⟩) (LastSt.start) ?_ ?_
  · refine ⟨?_, ?_, ?_, ?_, ?_, ?_, ?_, ?_, ?_, ?_, ?_, ?_, ?_, trivial⟩
    · refine fun ρ w' L hW hLi hcl hd hdep hext hc hg hf => ?_
      rw [if_pos (show wantedR _ _ _ = true from rfl)]
      have e4 : ρ (.tmp 4) = .slice D EG.length cd := hext 4 (by kernel_rfl)
      clear hdep hext
      have hL9 : L 11 = false := by
        cases h : L 11 with
        | false => rfl
        | true => exact absurd (hcl 1 0 (hcl 10 1 (hcl 11 10 h (by kernel_rfl)) (by kernel_rfl)) (by kernel_rfl)) (by rw [hLi]; decide)
      
      have HW := Lib.hid hW
      clear hW hcl hd hLi
      unfold OpDone
      go_simp
      exact ⟨rfl, StX.same, HW.out.same (by decide)⟩
    · refine fun ρ w' L hW hLi hcl hd hdep hext hc hg hf => ?_
      rw [if_pos (show wantedR _ _ _ = true from rfl)]
      have e14 : ρ (.tmp 14) = .slice D EG.length cd := hdep 0 _ rfl (by kernel_rfl)
      clear hdep hext
      have hL9 : L 11 = false := by
        cases h : L 11 with
        | false => rfl
        | true => exact absurd (hcl 10 1 (hcl 11 10 h (by kernel_rfl)) (by kernel_rfl)) (by rw [hLi]; decide)
      have CL := Lib.hid (CNM.out w' (HTX.out.keep (hW.u hL9)))
      have HU := Lib.hid (hW.u hL9)
      have HW := Lib.hid hW
      have H9 := Lib.hid hL9
      clear hW hcl hd hLi hL9
      unfold OpDone
      go_simp
      refine CL.out.mono ?_
      rintro e w2 ⟨rfl, hu⟩
      exact ⟨_, rfl, rfl, StX.none hu, HW.out.step H9.out (by decide) hu⟩
    · refine fun ρ w' L hW hLi hcl hd hdep hext hc hg hf => ?_
      rw [if_pos (show wantedR _ _ _ = true from rfl)]
      have e1 : ρ (.tmp 1) = .pointer (some ⟨X, 0, none⟩) := hext 1 (by kernel_rfl)
      clear hdep hext
      have hL9 : L 11 = false := by
        cases h : L 11 with
        | false => rfl
        | true => exact absurd (hcl 3 2 (hcl 10 3 (hcl 11 10 h (by kernel_rfl)) (by kernel_rfl)) (by kernel_rfl)) (by rw [hLi]; decide)
      refine od_load_row 25 (.tmp 1) rfl X 0 e1 ga.toList _ (range_blk (by rw [Array.toArray_toList]; exact (hW.u hL9).blk BX.out (fun f => f))) Tryz.underlying25 rfl (by rw [Array.length_toList, HGA5.out]; exact gen_size) ?_
      rw [show ga.toList.toArray = ga from by simp]
      exact ⟨rfl, StX.same, hW.same (by decide)⟩
    · refine fun ρ w' L hW hLi hcl hd hdep hext hc hg hf => ?_
      rw [if_pos (show wantedR _ _ _ = true from rfl)]
      have e16 : ρ (.tmp 16) = .agg ga := hdep 2 _ rfl (by kernel_rfl)
      clear hdep hext
      have hL9 : L 11 = false := by
        cases h : L 11 with
        | false => rfl
        | true => exact absurd (hcl 10 3 (hcl 11 10 h (by kernel_rfl)) (by kernel_rfl)) (by rw [hLi]; decide)
      have CL := Lib.hid (CGS.out w' (hW.u hL9))
      have HU := Lib.hid (hW.u hL9)
      have HW := Lib.hid hW
      have H9 := Lib.hid hL9
      clear hW hcl hd hLi hL9
      unfold OpDone
      go_simp
      refine CL.out.mono ?_
      rintro e w2 ⟨sb, rfl, hst, hu⟩
      exact ⟨_, rfl, ⟨sb, rfl, hst.low (HSU.out _ HU.out)⟩, StX.none hu, HW.out.step H9.out (by decide) hu⟩
    · refine fun ρ w' L hW hLi hcl hd hdep hext hc hg hf => ?_
      rw [if_pos (show wantedR _ _ _ = true from rfl)]
      have e1 : ρ (.tmp 1) = .pointer (some ⟨X, 0, none⟩) := hext 1 (by kernel_rfl)
      clear hdep hext
      have hL9 : L 11 = false := by
        cases h : L 11 with
        | false => rfl
        | true => exact absurd (hcl 5 4 (hcl 6 5 (hcl 9 6 (hcl 10 9 (hcl 11 10 h (by kernel_rfl)) (by kernel_rfl)) (by kernel_rfl)) (by kernel_rfl)) (by kernel_rfl)) (by rw [hLi]; decide)
      
      have HW := Lib.hid hW
      clear hW hcl hd hLi
      unfold OpDone
      go_simp
      exact ⟨rfl, StX.same, HW.out.same (by decide)⟩
    · refine fun ρ w' L hW hLi hcl hd hdep hext hc hg hf => ?_
      rw [if_pos (show wantedR _ _ _ = true from rfl)]
      have e18 : ρ (.tmp 18) = .pointer (some ⟨X, 2, none⟩) := hdep 4 _ rfl (by kernel_rfl)
      clear hdep hext
      have hL9 : L 11 = false := by
        cases h : L 11 with
        | false => rfl
        | true => exact absurd (hcl 6 5 (hcl 9 6 (hcl 10 9 (hcl 11 10 h (by kernel_rfl)) (by kernel_rfl)) (by kernel_rfl)) (by kernel_rfl)) (by rw [hLi]; decide)
      have q0 : w'.cell? ⟨X, 2, none⟩ = some (.slice A v a) := (hW.u hL9).cell C2.out (fun f => f)
      have HW := Lib.hid hW
      clear hW hcl hd hLi
      unfold OpDone
      go_simp
      exact ⟨rfl, StX.same, HW.out.same (by decide)⟩
    · refine fun ρ w' L hW hLi hcl hd hdep hext hc hg hf => ?_
      rw [if_pos (show wantedR _ _ _ = true from rfl)]
      have e19 : ρ (.tmp 19) = .slice A v a := hdep 5 _ rfl (by kernel_rfl)
      clear hdep hext
      have hL9 : L 11 = false := by
        cases h : L 11 with
        | false => rfl
        | true => exact absurd (hcl 9 6 (hcl 10 9 (hcl 11 10 h (by kernel_rfl)) (by kernel_rfl)) (by kernel_rfl)) (by rw [hLi]; decide)
      
      have HW := Lib.hid hW
      clear hW hcl hd hLi
      unfold OpDone
      go_simp
      exact ⟨rfl, StX.same, HW.out.same (by decide)⟩
    · refine fun ρ w' L hW hLi hcl hd hdep hext hc hg hf => ?_
      rw [if_pos (show wantedR _ _ _ = true from rfl)]
      have e1 : ρ (.tmp 1) = .pointer (some ⟨X, 0, none⟩) := hext 1 (by kernel_rfl)
      clear hdep hext
      have hL9 : L 11 = false := by
        cases h : L 11 with
        | false => rfl
        | true => exact absurd (hcl 8 7 (hcl 9 8 (hcl 10 9 (hcl 11 10 h (by kernel_rfl)) (by kernel_rfl)) (by kernel_rfl)) (by kernel_rfl)) (by rw [hLi]; decide)
      
      have HW := Lib.hid hW
      clear hW hcl hd hLi
      unfold OpDone
      go_simp
      exact ⟨rfl, StX.same, HW.out.same (by decide)⟩
    · refine fun ρ w' L hW hLi hcl hd hdep hext hc hg hf => ?_
      rw [if_pos (show wantedR _ _ _ = true from rfl)]
      have e21 : ρ (.tmp 21) = .pointer (some ⟨X, 0, none⟩) := hdep 7 _ rfl (by kernel_rfl)
      clear hdep hext
      have hL9 : L 11 = false := by
        cases h : L 11 with
        | false => rfl
        | true => exact absurd (hcl 9 8 (hcl 10 9 (hcl 11 10 h (by kernel_rfl)) (by kernel_rfl)) (by kernel_rfl)) (by rw [hLi]; decide)
      have q0 : w'.cell? ⟨X, 0, none⟩ = some (.int .i64 gn) := (hW.u hL9).cell C0.out (fun f => f)
      have HW := Lib.hid hW
      clear hW hcl hd hLi
      unfold OpDone
      go_simp
      exact ⟨rfl, StX.same, HW.out.same (by decide)⟩
    · refine fun ρ w' L hW hLi hcl hd hdep hext hc hg hf => ?_
      rw [if_pos (show wantedR _ _ _ = true from rfl)]
      have e20 : ρ (.tmp 20) = .int .i64 (v : Int) := hdep 6 _ rfl (by kernel_rfl)
      have e22 : ρ (.tmp 22) = .int .i64 gn := hdep 8 _ rfl (by kernel_rfl)
      clear hdep hext
      have hL9 : L 11 = false := by
        cases h : L 11 with
        | false => rfl
        | true => exact absurd (hcl 10 9 (hcl 11 10 h (by kernel_rfl)) (by kernel_rfl)) (by rw [hLi]; decide)
      have CL := Lib.hid (CSE.out w')
      have HU := Lib.hid (hW.u hL9)
      have HW := Lib.hid hW
      have H9 := Lib.hid hL9
      clear hW hcl hd hLi hL9
      unfold OpDone
      go_simp
      refine CL.out.mono ?_
      rintro e w2 ⟨rfl, hu⟩
      exact ⟨_, rfl, rfl, StX.none hu, HW.out.step H9.out (by decide) hu⟩
    · refine fun ρ w' L hW hLi hcl hd hdep hext hc hg hf => ?_
      rw [if_pos (show wantedR _ _ _ = true from rfl)]
      have e15 : ρ (.tmp 15) = .agg zn := hdep 1 _ rfl (by kernel_rfl)
      have e17 : (StNv S0 m LF) (ρ (.tmp 17)) w' := hdep 3 _ rfl (by kernel_rfl)
      have e23 : ρ (.tmp 23) = .int .i64 mk := hdep 9 _ rfl (by kernel_rfl)
      clear hdep hext
      have hL9 : L 11 = false := by
        cases h : L 11 with
        | false => rfl
        | true => exact absurd (hcl 11 10 h (by kernel_rfl)) (by rw [hLi]; decide)
      obtain ⟨sb, e17, hst⟩ := e17
      refine od_build 38 #[(0, .tmp 15), (1, .const (.int .i64 1)), (7, .tmp 17), (6, .tmp 23)] rfl #[(0, .agg zn), (1, .int .i64 1), (7, .agg sb), (6, .int .i64 mk)] (by simp [e15, e17, e23, hc]) (HBLD.out sb hst.size w') ?_
      exact ⟨⟨_, rfl, sb, hst, rfl⟩, StX.same, hW.same (by decide)⟩
    · refine fun ρ w' L hW hLi hcl hd hdep hext hc hg hf => ?_
      rw [if_pos (show wantedR _ _ _ = true from rfl)]
      have e2 : ρ (.tmp 2) = .pointer (some ⟨Y, 0, none⟩) := hext 2 (by kernel_rfl)
      have e24 : (ItNv S0 HS mk m LF) (ρ (.tmp 24)) w' := hdep 10 _ rfl (by kernel_rfl)
      clear hdep hext
      have hL9 : L 11 = false := hLi
      obtain ⟨ri, e24, hst⟩ := e24
      refine od_store_row 38 (.tmp 2) (.tmp 24) rfl Y e2 ri e24 38 iz ((hW.u hL9).blk BY.out (fun f => f)) (by rw [HI8.out, hst.size H8N.out]) (by rw [hst.size H8N.out]; exact item_size) (hst.one) ?_
      intro w9 hb9 hu9 hs9
      exact ⟨trivial, hu9, LastSt.last ⟨ri, hb9, hst.keepX HYS.out hu9, (hW.u hL9).mono (fun _ _ f => f.elim) |>.trans hu9 (fun _ _ f => f)⟩⟩
    · refine fun ρ w' L hW hLi hcl hd hdep hext hc hg hf => ?_
      rw [if_pos (show wantedR _ _ _ = true from rfl)]
      clear hdep hext
      have HW := Lib.hid hW
      clear hW hcl hd hLi
      unfold OpDone
      go_simp
      exact ⟨rfl, StX.same, HW.out.same (by decide)⟩
  intro vs W3 L3 hL3 hW3 hR
  have hv0 : vs 0 = .slice D EG.length cd := hR 0 _ rfl
  have hv1 : vs 1 = .agg zn := hR 1 _ rfl
  have hv2 : vs 2 = .agg ga := hR 2 _ rfl
  have hr3 : (StNv S0 m LF) (vs 3) W3 := hR 3 _ rfl
  obtain ⟨s3, hv3, -⟩ := hr3
  have hv4 : vs 4 = .pointer (some ⟨X, 2, none⟩) := hR 4 _ rfl
  have hv5 : vs 5 = .slice A v a := hR 5 _ rfl
  have hv6 : vs 6 = .int .i64 (v : Int) := hR 6 _ rfl
  have hv7 : vs 7 = .pointer (some ⟨X, 0, none⟩) := hR 7 _ rfl
  have hv8 : vs 8 = .int .i64 gn := hR 8 _ rfl
  have hv9 : vs 9 = .int .i64 mk := hR 9 _ rfl
  have hr10 : (ItNv S0 HS mk m LF) (vs 10) W3 := hR 10 _ rfl
  obtain ⟨ri0, hv10, -⟩ := hr10
  have hv12 : vs 12 = .int .i64 0 := hR 12 _ rfl
  simp only [putAll, Act.put, List.setIfInBounds_toArray, List.set_cons_zero, List.set_cons_succ, hv0, hv1, hv2, hv3, hv4, hv5, hv6, hv7, hv8, hv9, hv10, hv12]
  clear hR hv0 hv1 hv2 hv3 hv4 hv5 hv6 hv7 hv8 hv9 hv10 hv12
  obtain ⟨ri, hb3, hst3, hu3⟩ := hW3.f (hL3 11 (by decide))
  have B3 := Lib.hid hb3
  have N3 := Lib.hid hst3
  have U3 := Lib.hid hu3
  clear hW3 hb3 hst3 hu3
  go_wp2_with fail
  refine bodyPost_ret (results_cell_tmp Tryz.results8 _ _ Y ri.toList _ rfl (range_blk (by rw [Array.toArray_toList]; exact B3.out)) Tryz.underlying38 rfl (by rw [Array.length_toList, N3.out.size H8N.out]; exact item_size)) rfl ?_
  refine ⟨ri, by simp, ?_, V2.out.drew.trans U3.out (fun j hj f => by have f : j = Y := f; have := HXY.out; have := HX.out; omega)⟩
  obtain ⟨sb, h1, h2⟩ := N3.out
  exact ⟨sb, h1.low (by have := HYS.out; have := HXY.out; have := HX.out; omega), h2⟩
end

section
open Go.RowKit Go.Shelf Go.Lib

/-- The ancestors of a name. -/
def AncP (l : List ItP) (n : List UInt8) (res : List (List UInt8)) : Prop := (itemOf l n = none ∧ res = []) ∨ ∃ x seen, itemOf l n = some x ∧ Clo l (parents x) [] seen ∧ res = seen.filter fun m => m ≠ n
/-- A value that reads as these names. -/
def NmP (l : List (List UInt8)) (v : Value) (w : World) : Prop := ∃ A c, v = .slice A l.length c ∧ NmR w (.slice A l.length c) l
theorem stb_nmp (l : List (List UInt8)) : Stb (fun w w' => Upd NoF w w') (NmP l) := fun _ _ _ ⟨A, c, e, h⟩ hu => ⟨A, c, e, h.keep hu⟩
/-- A new set that holds what is reached. -/
def ClP (S0 : Nat) (l : List ItP) (fr : List (List UInt8)) (v : Value) (w : World) : Prop := ∃ R seen, v = .map (some R) ∧ MapN w R (setE seen) ∧ S0 ≤ R ∧ Clo l fr [] seen
theorem stb_clp (S0 : Nat) (l : List ItP) (fr : List (List UInt8)) : Stb (fun w w' => Upd NoF w w') (ClP S0 l fr) := fun _ _ _ ⟨R, s, e, h, h2⟩ hu => ⟨R, s, e, h.keep hu, h2⟩
theorem setE_filter (l : List (List UInt8)) (n : List UInt8) : ((setE l).filter fun p => p.1 ≠ n) = setE (l.filter fun m => m ≠ n) := by
  unfold setE
  rw [List.filter_map]
  rfl
set_option maxRecDepth 100000 in
set_option maxHeartbeats 8000000 in
theorem grAncestors_any {w : World} {A : Option Addr} {n c r : Nat} {its : List (ItP × List Value)} {nm : List UInt8} (hn : its.length = n) (h : GrR w (.slice A n c) its) (hr : NmI w r (its.map (·.1.name))) (hfew : Few its) (h8 : nm.length = 8) :
    Calls Tryz.prog 46 #[.agg #[.slice A n c, .map (some r)], nameV nm] w fun e w' => ∃ v res, e = .returned v ∧ SetV w' v res ∧ AncP (its.map (·.1)) nm res ∧ Upd NoF w w' := by
  have IA := Lib.hid item_alloc
  have IO := Lib.hid itZ_one
  have IS := Lib.hid (show (Tryz.prog.info? 38).map (·.size) = some itZ.size from by rw [itZ_size, item_size])
  obtain ⟨nb, hnb⟩ : ∃ y, (nm.map byteV).toArray = y := ⟨_, rfl⟩
  have HNB := Lib.hid hnb
  have H8N := Lib.hid h8
  rw [show nameV nm = .agg nb from congrArg Value.agg hnb]
  cases hfi : (its.map (·.1.name)).findIdx? (fun y => y = nm) with
  | none =>
    have HIO := Lib.hid (itemOf_miss hfi)
    have CG := Lib.hid (fun W (hu : Upd NoF w W) => by have := grItem_miss (w := W) (A := A) (n := n) (c := c) (hr.keep hu) hfi h8; rw [show nameV nm = .agg nb from congrArg Value.agg hnb] at this; exact this)
    obtain ⟨iz, hiz⟩ : ∃ x, itZ = x := ⟨_, rfl⟩
    rw [hiz] at IA IO IS CG
    clear hn h hr hfew h8 hnb hfi hiz
    go_enter Tryz.func46, Tryz.ntmps46
    go_wp2_with (first
      | (refine wl_box rfl 89 (.tmp 0) rfl #[.slice A n c, .map (some r)] (by rfl) ?_; intro w0 hb0 hu0 hs0; have BG := Lib.hid hb0; have V0 := Lib.hid hu0; clear hb0 hu0 hs0)
      | (refine wl_box rfl 28 (.tmp 1) rfl nb (by rfl) ?_; intro w1 hb1 hu1 hs1; have BN := Lib.hid hb1; replace BG := Lib.hid (hu1.blk BG.out (fun f => f)); have V1 := Lib.hid (V0.out.trans hu1 (fun _ _ f => f)); clear hb1 hu1 hs1)
      | (refine wl_load rfl 89 (.tmp 2) rfl w.heap.size 0 (by rfl) [.slice A n c, .map (some r)] _ (range_blk BG.out) Tryz.underlying89 rfl graph_size _ rfl ?_)
      | (refine wl_load rfl 28 (.tmp 3) rfl w0.heap.size 0 (by rfl) (nm.map byteV) _ (name_cells HNB.out BN.out) Tryz.underlying28 rfl (by rw [name_size]; simp [H8N.out]) nb HNB.out ?_)
      | (refine (CG.out w1 V1.out).mono ?_; rintro e w5 ⟨rfl, hu5⟩; have U5 := Lib.hid (V1.out.trans hu5 (fun _ _ f => f)); clear hu5)
      | (refine wpList_alloc_row rfl 38 rfl iz IA.out ?_; intro w6 hb6 hu6 hs6; have B6 := Lib.hid hb6; have U6 := Lib.hid (U5.out.trans hu6 (fun _ _ f => f)); clear hb6 hu6 hs6)
      | (refine wpList_store_row rfl 38 (.tmp 5) (.tmp 12) rfl w5.heap.size (by rfl) iz (by rfl) 38 _ B6.out rfl IS.out IO.out ?_; intro w7 hb7 hu7 hs7; have U7 := Lib.hid (U6.out.trans hu7 (F := NoF) (fun j hj e => by have e : j = w5.heap.size := e; have := U5.out.size; omega)); clear hb7 hu7 hs7))
    go_ret
    exact ⟨_, [], rfl, .inl ⟨rfl, rfl⟩, .inl ⟨HIO.out, rfl⟩, U7.out⟩
  | some ki =>
    obtain ⟨x, hxk, hxn, hio⟩ := itemOf_hit hfi
    have HIO := Lib.hid hio
    have hxm := List.mem_of_getElem? hxk
    have HOK := Lib.hid (h.ok x hxm)
    obtain ⟨ra, hra⟩ : ∃ y, (itemC x.1.name x.2).toArray = y := ⟨_, rfl⟩
    have HR8 := Lib.hid (show ra.size = 28 from by rw [← hra]; simpa using itemC_len HOK.out)
    have HRO := Lib.hid (show ra.all (·.oneCell') = true from by rw [← hra]; exact itemC_one HOK.out)
    have CG := Lib.hid (fun W (hu : Upd NoF w W) => by have := grItem_hit (w := W) hn (h.keep hu) (hr.keep hu) hxk hfi h8; rw [show nameV nm = .agg nb from congrArg Value.agg hnb, hra] at this; exact this)
    obtain ⟨iz, hiz⟩ : ∃ x, itZ = x := ⟨_, rfl⟩
    rw [hiz] at IA
    have HI8 := Lib.hid (show iz.size = 28 from by rw [← hiz]; exact itZ_size)
    obtain ⟨PL, hPL⟩ : ∃ y, parents x.1 = y := ⟨_, rfl⟩
    have HPL := Lib.hid hPL
    have HP8 := Lib.hid (show All8 PL from by rw [← hPL]; exact ascSet_all8 (rawPar_all8 HOK.out.fit))
    have HPB : PL.length ≤ 10000 := by have := parents_len x.1; have := hfew.2 x hxm; rw [← hPL]; omega
    have CP0 := Lib.hid (fun W (hu : Upd NoF w W) => show Calls Tryz.prog 12 #[.agg ra] W (AscPost W PL) from by rw [← hra, ← hPL]; exact Parents_any (HOK.out.keep hu) (hfew.2 x hxm).1 (hfew.2 x hxm).2)
    have CC0 := Lib.hid (fun W A1 c1 (hu : Upd NoF w W) (hf : NmR W (.slice A1 PL.length c1) PL) => Closure_any (w := W) hn (h.keep hu) (hr.keep hu) hfew rfl hf HPB)
    clear hn h hr hfew h8 hnb hfi hiz hxk hio hra hPL hxm HPB
    go_enter Tryz.func46, Tryz.ntmps46
    go_wp2_with (first
      | (refine wl_box rfl 89 (.tmp 0) rfl #[.slice A n c, .map (some r)] (by rfl) ?_; intro w0 hb0 hu0 hs0; have BG := Lib.hid hb0; have V0 := Lib.hid hu0; have S0 := Lib.hid hs0; clear hb0 hu0 hs0)
      | (refine wl_box rfl 28 (.tmp 1) rfl nb (by rfl) ?_; intro w1 hb1 hu1 hs1; have BN := Lib.hid hb1; replace BG := Lib.hid (hu1.blk BG.out (fun f => f)); have V1 := Lib.hid (V0.out.trans hu1 (fun _ _ f => f)); have S1 := Lib.hid hs1; clear hb1 hu1 hs1)
      | (refine wl_load rfl 89 (.tmp 2) rfl w.heap.size 0 (by rfl) [.slice A n c, .map (some r)] _ (range_blk BG.out) Tryz.underlying89 rfl graph_size _ rfl ?_)
      | (refine wl_load rfl 28 (.tmp 3) rfl w0.heap.size 0 (by rfl) (nm.map byteV) _ (name_cells HNB.out BN.out) Tryz.underlying28 rfl (by rw [name_size]; simp [H8N.out]) nb HNB.out ?_)
      | (refine (CG.out w1 V1.out).mono ?_; rintro e w5 ⟨rfl, hu5⟩; have U5 := Lib.hid (V1.out.trans hu5 (fun _ _ f => f)); have G5 := Lib.hid (hu5.blk BG.out (fun f => f)); have N5 := Lib.hid (hu5.blk BN.out (fun f => f)); have S5 := Lib.hid hu5.size; clear hu5)
      | (refine wpList_alloc_row rfl 38 rfl iz IA.out ?_; intro w6 hb6 hu6 hs6; have B6 := Lib.hid hb6; have U6 := Lib.hid (U5.out.trans hu6 (fun _ _ f => f)); have G6 := Lib.hid (hu6.blk G5.out (fun f => f)); have N6 := Lib.hid (hu6.blk N5.out (fun f => f)); clear hb6 hu6 hs6)
      | (refine wpList_store_row rfl 38 (.tmp 5) (.tmp 12) rfl w5.heap.size (by rfl) ra (by rfl) 38 _ B6.out (by rw [HI8.out, HR8.out]) (by rw [item_size, HR8.out]) HRO.out ?_; intro w7 hb7 hu7 hs7; have B7 := Lib.hid hb7; have U7 := Lib.hid (U6.out.trans hu7 (F := NoF) (fun j hj e => by have e : j = w5.heap.size := e; have := U5.out.size; omega)); have G7 := Lib.hid (hu7.blk G6.out (fun e => by have e : w.heap.size = w5.heap.size := e; have := S5.out; have := S1.out; have := S0.out; omega)); have N7 := Lib.hid (hu7.blk N6.out (fun e => by have e : w0.heap.size = w5.heap.size := e; have := S5.out; have := S1.out; omega)); clear hb7 hu7 hs7))
    obtain ⟨W1, hW1⟩ : ∃ x, w7 = x := ⟨_, rfl⟩
    obtain ⟨X, hX⟩ : ∃ x, w.heap.size = x := ⟨_, rfl⟩
    obtain ⟨V, hV⟩ : ∃ x, w5.heap.size = x := ⟨_, rfl⟩
    subst hW1
    rw [hV] at B7 ⊢
    rw [hX] at G7 ⊢
    have RG := Lib.hid (fun w' (hu : Upd NoF w7.drew w') => show w'.rangeAt X 0 [.slice A n c, .map (some r)] from range_blk (((Upd.refl NoF w7).drew.trans hu (fun _ _ f => f)).blk G7.out (fun f => f)))
    have RI := Lib.hid (fun w' (hu : Upd NoF w7.drew w') => show w'.rangeAt V 0 ra.toList from range_blk (by rw [Array.toArray_toList]; exact ((Upd.refl NoF w7).drew.trans hu (fun _ _ f => f)).blk B7.out (fun f => f)))
    have RN := Lib.hid (fun w' (hu : Upd NoF w7.drew w') => show Blk w' w0.heap.size 28 nb from ((Upd.refl NoF w7).drew.trans hu (fun _ _ f => f)).blk N7.out (fun f => f))
    have HSW := Lib.hid (show w.heap.size ≤ w7.drew.heap.size from U7.out.size)
    have CP := Lib.hid (fun W (hu : Upd NoF w7.drew W) => CP0.out W (U7.out.drew.trans hu (fun _ _ f => f)))
    have CC := Lib.hid (fun W A1 c1 (hu : Upd NoF w7.drew W) => CC0.out W A1 c1 (U7.out.drew.trans hu (fun _ _ f => f)))
    obtain ⟨W1, hW1⟩ : ∃ x, x = w7 := ⟨_, rfl⟩
    rw [← hW1] at RG RI RN HSW CP CC ⊢
    have UW := Lib.hid (show Upd NoF w W1 from by rw [hW1]; exact U7.out)
    clear hW1 hX hV CP0 CC0 BG BN V0 V1 S0 S1 U5 G5 N5 S5 B6 U6 G6 N6 B7 U7 G7 N7 CG
    refine wp_region_rgw (rgR [isV (.agg #[.slice A n c, .map (some r)]), isV (.agg ra), NmP PL, ClP w.heap.size (its.map (·.1)) PL, ClP w.heap.size (its.map (·.1)) PL]) (fun w w' => Upd NoF w w') (fun _ wq => Upd NoF W1.drew wq) (by kernel_rfl) (by kernel_rfl) (by kernel_rfl) (by rfl) (fun w => Upd.refl _ _) (rgR_keep (by
      intro p hp; simp only [List.mem_cons, List.not_mem_nil, or_false] at hp; rcases hp with rfl | rfl | rfl | rfl | rfl <;> first | exact stb_isV _ | exact stb_any | exact stb_nmp _ | exact stb_clp _ _ _)) (Upd.refl _ _) ?_ ?_
    · refine ⟨?_, ?_, ?_, ?_, ?_, trivial⟩
      · refine fun ρ w' L hW hLi hcl hd hdep hext hc hg hf => ?_
        rw [if_pos (show wantedR _ _ _ = true from rfl)]
        have e2 : ρ (.tmp 2) = .pointer (some ⟨X, 0, none⟩) := hext 2 (by kernel_rfl)
        clear hdep hext
        refine od_load_row 89 (.tmp 2) rfl (X) 0 e2 ([.slice A n c, .map (some r)]) _ (RG.out w' hW) Tryz.underlying89 rfl (graph_size) ?_
        rw [show ([.slice A n c, .map (some r)] : List Value).toArray = #[.slice A n c, .map (some r)] from rfl]
        exact ⟨rfl, Upd.refl _ _, hW⟩
      · refine fun ρ w' L hW hLi hcl hd hdep hext hc hg hf => ?_
        rw [if_pos (show wantedR _ _ _ = true from rfl)]
        have e5 : ρ (.tmp 5) = .pointer (some ⟨V, 0, none⟩) := hext 5 (by kernel_rfl)
        clear hdep hext
        refine od_load_row 38 (.tmp 5) rfl (V) 0 e5 (ra.toList) _ (RI.out w' hW) Tryz.underlying38 rfl (by rw [Array.length_toList, HR8.out]; exact item_size) ?_
        rw [show ra.toList.toArray = ra from by simp]
        exact ⟨rfl, Upd.refl _ _, hW⟩
      · refine fun ρ w' L hW hLi hcl hd hdep hext hc hg hf => ?_
        rw [if_pos (show wantedR _ _ _ = true from rfl)]
        have e17 : ρ (.tmp 17) = .agg ra := hdep 1 _ rfl (by kernel_rfl)
        clear hdep hext
        have CL := Lib.hid (CP.out w' hW)
        have HW := Lib.hid hW
        clear hW hcl hd hLi
        unfold OpDone
        go_simp
        refine CL.out.mono ?_
        rintro e w2 ⟨A9, c9, rfl, hn, hu⟩
        exact ⟨_, rfl, ⟨A9, c9, rfl, ⟨HP8.out, hn.1.rd⟩⟩, hu, HW.out.trans hu (fun _ _ f => f)⟩
      · refine fun ρ w' L hW hLi hcl hd hdep hext hc hg hf => ?_
        rw [if_pos (show wantedR _ _ _ = true from rfl)]
        have e16 : ρ (.tmp 16) = .agg #[.slice A n c, .map (some r)] := hdep 0 _ rfl (by kernel_rfl)
        have e18 : (NmP PL) (ρ (.tmp 18)) w' := hdep 2 _ rfl (by kernel_rfl)
        clear hdep hext
        obtain ⟨a18, k18, e18, n18⟩ := e18
        have CL := Lib.hid (CC.out w' a18 k18 hW n18)
        have HW := Lib.hid hW
        clear hW hcl hd hLi
        have SZW := Lib.hid (show w.heap.size ≤ w'.heap.size from Nat.le_trans HSW.out HW.out.size)
        unfold OpDone
        go_simp
        refine CL.out.mono ?_
        rintro e w2 ⟨R, seen, rfl, hm, hr, hc, hu⟩
        exact ⟨_, rfl, ⟨R, seen, rfl, hm, Nat.le_trans SZW.out hr, hc⟩, hu, HW.out.trans hu (fun _ _ f => f)⟩
      · refine fun ρ w' L hW hLi hcl hd hdep hext hc hg hf => ?_
        rw [if_pos (show wantedR _ _ _ = true from rfl)]
        have e19 : (ClP w.heap.size (its.map (·.1)) PL) (ρ (.tmp 19)) w' := hdep 3 _ rfl (by kernel_rfl)
        clear hdep hext
        obtain ⟨R9, seen9, e19, q19⟩ := e19
        have Q19 := Lib.hid q19
        clear q19
        have HW := Lib.hid hW
        clear hW hcl hd hLi
        unfold OpDone
        go_simp
        exact ⟨⟨R9, seen9, rfl, Q19.out⟩, Upd.refl _ _, HW.out⟩
    intro vs W3 L3 hL3 hW3 hR
    have hv0 : vs 0 = .agg #[.slice A n c, .map (some r)] := hR 0 _ rfl
    have hv1 : vs 1 = .agg ra := hR 1 _ rfl
    have hr2 : (NmP PL) (vs 2) W3 := hR 2 _ rfl
    obtain ⟨a18, k18, hv2, -⟩ := hr2
    have hr3 : (ClP w.heap.size (its.map (·.1)) PL) (vs 3) W3 := hR 3 _ rfl
    obtain ⟨R, seen, hv3, hq3⟩ := hr3
    have hr4 : (ClP w.heap.size (its.map (·.1)) PL) (vs 4) W3 := hR 4 _ rfl
    obtain ⟨R4, seen4, hv4, hq4⟩ := hr4
    simp only [putAll, Act.put, List.setIfInBounds_toArray, List.set_cons_zero, List.set_cons_succ, hv0, hv1, hv2, hv3, hv4]
    clear hR hv0 hv1 hv2 hv3 hv4
    obtain ⟨q1, q2, q3⟩ := hq4
    have Q1 := Lib.hid q1
    have Q2 := Lib.hid q2
    have Q3 := Lib.hid q3
    have HW3 := Lib.hid hW3
    have HN3 := Lib.hid (name_cells HNB.out (RN.out W3 hW3))
    clear q1 q2 q3 hW3 hq3
    go_wp2_with (first
      | (refine wl_load rfl 28 (.tmp 3) rfl w0.heap.size 0 (by rfl) (nm.map byteV) _ HN3.out Tryz.underlying28 rfl (by rw [name_size]; simp [H8N.out]) nb HNB.out ?_)
      | (refine wl_delete rfl 86 _ _ (.tmp 20) (.tmp 21) rfl (by rfl) (by rfl) HNB.out H8N.out Q1.out Tryz.underlying86 ?_; intro w8 hm8 hu8 hs8; have M8 := Lib.hid hm8; have D8 := Lib.hid hu8; clear hm8 hu8 hs8))
    go_ret
    refine ⟨_, seen4.filter fun m => m ≠ nm, rfl, .inr ⟨R4, rfl, ?_⟩, .inr ⟨x.1, seen4, HIO.out, by rw [HPL.out]; exact Q3.out, rfl⟩, (UW.out.drew.trans HW3.out (fun _ _ f => f)).trans D8.out (fun j hj f => by have f : j = R4 := f; have := Q2.out; omega)⟩
    have := M8.out
    rw [setE_filter] at this
    exact this
end

section
open Go.RowKit Go.Shelf Go.Sort Go.Lib

theorem upd_putK {α : Type} [Inhabited α] (enc : α → List Value) (k : Nat) (w : World) (blk off m : Nat) (dk : Array α) : Upd (fun k => k = blk) w (putRowK enc k (Sort.ahead w m) blk off dk) := by
  refine ⟨rfl, rfl, rfl, ?_, fun k hk hn => ?_⟩
  · show w.heap.size ≤ (w.heap.modify blk _).size
    rw [Array.size_modify]
    exact Nat.le_refl _
  · show (w.heap.modify blk _)[k]? = w.heap[k]?
    rw [Array.getElem?_modify, if_neg (fun e => hn e.symm)]
theorem blk_putK {α : Type} [Inhabited α] (enc : α → List Value) (k : Nat) {w : World} {blk : Nat} {t : TypeId} {cur : Array Value} (h : Blk w blk t cur) (off m : Nat) (dk : Array α) : Blk (putRowK enc k (Sort.ahead w m) blk off dk) blk t (putCells id off (flatK enc k dk) cur) := by
  show (w.heap.modify blk _)[blk]? = _
  rw [Array.getElem?_modify, if_pos rfl]
  have h' : w.heap[blk]? = some (.cells cur t (0, 0)) := h
  rw [h']
  rfl
set_option maxRecDepth 100000 in
theorem ReverseNames_any {w : World} {A : Option Addr} {c n : Nat} {l : List (List UInt8)} (h8 : All8 l) (hl : l.length = n) (h : Own w 28 8 (.slice A n c) n (rowsN l)) (hs : n ≤ 100000000) :
    Calls Tryz.prog 82 #[.slice A n c] w fun e w' => e = .returned (.tuple #[]) ∧ Own w' 28 8 (.slice A n c) n (rowsN l.reverse) ∧ Upd (OwnB (.slice A n c)) w w' := by
  rcases Nat.eq_zero_or_pos n with h0 | h0
  · subst h0
    have hl : l = [] := List.eq_nil_of_length_eq_zero hl
    subst hl
    have hc := AnyQ.slices_Reverse_empty (P := Tryz.prog) (ρ := Tryz.revNames_ren) Tryz.revNames A c w
    refine Calls.mono (show Calls Tryz.prog 82 _ _ _ from hc) ?_
    rintro e w' ⟨rfl, rfl⟩
    exact ⟨rfl, h, Upd.refl _ _⟩
  · rcases h.2 with ⟨_, hz⟩ | ⟨g, cap, cur, hv, hb, hn, hcm, hcs, hx⟩
    · omega
    injection hv with hA _ hc
    subst hA
    subst hc
    obtain ⟨d, hd⟩ : ∃ d, d = (toN8 l h8).toArray := ⟨_, rfl⟩
    have hdl : d.toList = toN8 l h8 := by rw [hd]
    have hds : d.size = n := by rw [hd, ← hl, ← congrArg List.length (toN8_val h8)]; simp
    have hf : (flatK encN 8 d).toList = rowsN l := by
      rw [flatK_list encN 8 (fun x => by simp [encN, x.2]), hdl, encN_flat, toN8_val]; rfl
    have hfs : (flatK encN 8 d).size = n * 8 := by rw [size_flatK, hds]
    have hH : HoldsK encN 8 w g 0 d := by
      intro j hj
      refine ⟨?_, hb.frozen _⟩
      rw [Nat.zero_add, hb.cell]
      have h1 : (flatK encN 8 d).toList[j]? = some (flatK encN 8 d)[j]! := by
        rw [Array.getElem?_toList, Array.getElem?_eq_getElem hj, getElem!_pos _ j hj]
      rw [hf, ← hx, List.getElem?_take] at h1
      rw [hfs] at hj
      rw [if_pos hj] at h1
      rw [← Array.getElem?_toList]
      exact h1
    have hcon := AnyQ.slices_Reverse (P := Tryz.prog) (ρ := Tryz.revNames_ren) Tryz.revNames 8 (fun w => by kernel_rfl) (fun w => by kernel_rfl) encN (fun x => by simp [encN, x.2]) (fun x v hv => by obtain ⟨b, -, rfl⟩ := List.mem_map.1 hv; rfl) g 0 c d w hH (by rw [hds]; omega)
    rw [hds] at hcon
    refine Calls.mono (show Calls Tryz.prog 82 #[.slice (some ⟨g, 0, none⟩) n c] w _ from hcon) ?_
    rintro e w' ⟨rfl, q, rfl⟩
    have hd' : d.reverse.size = n := by simp [hds]
    refine ⟨rfl, ?_, (upd_putK encN 8 w g 0 q d.reverse).mono (fun k _ e => by rw [show k = g from e]; simp [OwnB, Value.ownBlock])⟩
    have hf' : (flatK encN 8 d.reverse).toList = rowsN l.reverse := by
      rw [flatK_list encN 8 (fun x => by simp [encN, x.2]), encN_flat, Array.toList_reverse, hdl, List.map_reverse, toN8_val]; rfl
    have hfs' : (flatK encN 8 d.reverse).size = n * 8 := by rw [size_flatK, hd']
    rw [← hf']
    refine ⟨by simp [hds], .inr ⟨g, c, _, rfl, blk_putK encN 8 hb 0 q d.reverse, hn, hcm, ?_, ?_⟩⟩
    · simp only [putCells, Array.size_mapIdx]
      exact hcs
    · apply List.ext_getElem?
      intro i
      rw [List.getElem?_take]
      have hnc : n * 8 ≤ cur.size := Nat.le_trans (Nat.mul_le_mul_right _ hn) hcs
      by_cases hi : i < n * 8
      · rw [if_pos hi]
        simp only [putCells, Array.getElem?_toList, Array.getElem?_mapIdx]
        rw [Array.getElem?_eq_getElem (show i < cur.size by omega)]
        simp only [Option.map_some]
        rw [if_pos (by omega), Nat.sub_zero, Array.getElem?_eq_getElem (by omega), getElem!_pos _ i (by omega)]
        rfl
      · rw [if_neg hi, Array.getElem?_toList, Array.getElem?_eq_none (by omega)]
end
end Go.Proofs.YtengcmfdfmnacaaGreat
