/- The reference's Put, behind the last entry. Conditions: sizes; the cell lies behind those of all entries. -/
import Derived.Test.YtengcmfdfmnacaaGreatJn16
namespace Go.Proofs.YtengcmfdfmnacaaGreat
open Go.RowKit Go.Lib

section
variable {P : Program} {ops : Array Oper} {rest : List Oper} {o : Oper} {a : Act} {w : World} {Q : Exit → Act → World → Prop}
theorem wl_bs0 (hw : Region.wanted o (yielded ops a.tmps) = true) (t e : TypeId) (size : Nat) (ho : o.op = .buildSlice t 0 #[]) (hr : ∀ w, (Instr.buildSlice t 0 #[]).run P w = .ok (.slice (some ⟨w.heap.size, 0, none⟩) 0 0) (w.alloc (.cells #[] e)))
    (hk : ∀ w', Own w' e size (.slice (some ⟨w.heap.size, 0, none⟩) 0 0) 0 [] → Upd NoF w w' → w'.heap.size = w.heap.size + 1 → wpList P ops Q rest (a.put o.dst (.slice (some ⟨w.heap.size, 0, none⟩) 0 0)) w') : wpList P ops Q (o :: rest) a w := by
  refine wl_run hw (v := .slice (some ⟨w.heap.size, 0, none⟩) 0 0) (w' := w.alloc (.cells #[] e)) ?_ (hk _ (NewR.fresh w e size).1 ((Upd.refl NoF w).alloc _) (by simp))
  simp [execOp, ho, hr w]
end
theorem rowsD_len {l : List DelS} (h : ∀ d ∈ l, d.Fit) : ((l.map rowD).flatten).length = l.length * 11 := by
  have := flatten_len (rows := l.map rowD) (k := 11) (fun r hr => by obtain ⟨d, hd, rfl⟩ := List.mem_map.1 hr; exact rowD_len (h d hd))
  rw [this, List.length_map]
set_option maxRecDepth 100000 in
set_option maxHeartbeats 8000000 in
theorem Put_zero {w : World} {n : Nat} {l : List DelS} {sa : Array Value} {kd z : Int} (h : StR w n l sa) (hn : n ≤ 1000) (hl : l.length ≤ 1000) (hf : ∀ d ∈ l, d.Fit) (hlt : ∀ d ∈ l, LtC d ⟨kd, z, nm0, 0⟩) : Calls Tryz.prog 64 #[.agg sa, .agg (cellC ⟨kd, z, nm0, 0⟩).toArray, .int .i64 0] w fun e w' => ∃ sb, e = .returned (.agg sb) ∧ StN w.heap.size n l sb w' ∧ Upd NoF w w' := by
  obtain ⟨ca, hca⟩ : ∃ x, (cellC ⟨kd, z, nm0, 0⟩).toArray = x := ⟨_, rfl⟩
  have HCAE := Lib.hid hca
  have HCA := Lib.hid (show ca.size = 10 from by rw [← hca]; rfl)
  have HSA5 := Lib.hid (show sa.size = 5 from by obtain ⟨A1, c1, A2, c2, A3, c3, A4, c4, rfl, -⟩ := h; rfl)
  have CC := Lib.hid (fun W (hu : Upd NoF w W) => CopyState_any (w := W) (h.keep hu) hn hl)
  have CAT := Lib.hid (fun W sb (hs : StR W n l sb) => r20at_none (w := W) (ca := ca) hs hl hf (cd := ⟨kd, z, nm0, 0⟩) rfl hca (fun d hd => (hlt d hd).ne))
  rw [hca]
  clear h hn hl hf hlt hca
  go_enter Tryz.func64, Tryz.ntmps64
  go_wp2_with (first
    | (refine wl_box rfl 34 (.tmp 0) rfl sa (by rfl) ?_; intro v0 hb0 hu0 hs0; have B30 := Lib.hid hb0; have V0 := Lib.hid hu0; have S0 := Lib.hid hs0; clear hb0 hu0 hs0)
    | (refine wl_box rfl 107 (.tmp 1) rfl ca (by rfl) ?_; intro v1 hb1 hu1 hs1; have B41 := Lib.hid hb1; have B31 := Lib.hid (hu1.blk B30.out (fun f => f)); have V1 := Lib.hid (V0.out.trans hu1 (fun _ _ f => f)); have S1 := Lib.hid hs1; clear hb1 hu1 hs1)
    | (refine wpList_alloc_row rfl 34 rfl zSt st_alloc ?_; intro v2 hb2 hu2 hs2; have B62 := Lib.hid hb2; have B32 := Lib.hid (hu2.blk B31.out (fun f => f)); have B42 := Lib.hid (hu2.blk B41.out (fun f => f)); have V2 := Lib.hid (V1.out.trans hu2 (fun _ _ f => f)); have S2 := Lib.hid hs2; clear hb2 hu2 hs2)
    | (refine wl_load rfl 34 (.tmp 3) rfl w.heap.size 0 (by rfl) sa.toList _ (range_blk (by rw [Array.toArray_toList]; exact B32.out)) Tryz.underlying34 rfl (by rw [Array.length_toList, HSA5.out]; exact st_size) sa (by simp) ?_)
    | (with_reducible show Calls _ 110 _ _ _; refine (CC.out _ V2.out).mono ?_; rintro e w3 ⟨sb, rfl, hst, hu3⟩; have N3 := Lib.hid hst; have B33 := Lib.hid (hu3.blk B32.out (fun f => f)); have B43 := Lib.hid (hu3.blk B42.out (fun f => f)); have B63 := Lib.hid (hu3.blk B62.out (fun f => f)); have V3 := Lib.hid (V2.out.trans hu3 (fun _ _ f => f)); clear hst hu3)
    | (refine wpList_store_row rfl 34 (.tmp 3) (.tmp 11) rfl w.heap.size (by rfl) sb (by rfl) 34 _ B33.out (by rw [HSA5.out, N3.out.size]) (by rw [N3.out.size]; exact st_size) N3.out.one ?_; intro w4 hb4 hu4 hs4; have B34 := Lib.hid hb4; have N4 := Lib.hid (N3.out.keepX (by have := S0.out; have := S1.out; have := S2.out; omega) hu4); have B44 := Lib.hid (hu4.blk B43.out (fun e => by have e : v0.heap.size = w.heap.size := e; have := S0.out; omega)); have B64 := Lib.hid (hu4.blk B63.out (fun e => by have e : v1.heap.size = w.heap.size := e; have := S0.out; have := S1.out; omega)); have V4 := Lib.hid (V3.out.trans hu4 (F := NoF) (fun j hj e => by have e : j = w.heap.size := e; omega)); clear hb4 hu4 hs4)
    | (refine wl_load rfl 34 (.tmp 3) rfl w.heap.size 0 (by rfl) sb.toList _ (range_blk (by rw [Array.toArray_toList]; exact B34.out)) Tryz.underlying34 rfl (by rw [Array.length_toList, N3.out.size]; exact st_size) sb (by simp) ?_)
    | (refine wl_load rfl 107 (.tmp 4) rfl v0.heap.size 0 (by rfl) ca.toList _ (range_blk (by rw [Array.toArray_toList]; exact B44.out)) Tryz.underlying107 rfl (by rw [Array.length_toList, HCA.out]; exact cell_size) ca (by simp) ?_)
    | (with_reducible show Calls _ 111 _ _ _; refine (CAT.out _ sb N4.out.rd).mono ?_; rintro e w5 ⟨rfl, hu5⟩; have N5 := Lib.hid (N4.out.keep hu5); have B35 := Lib.hid (hu5.blk B34.out (fun f => f)); have B45 := Lib.hid (hu5.blk B44.out (fun f => f)); have B65 := Lib.hid (hu5.blk B64.out (fun f => f)); have V5 := Lib.hid (V4.out.trans hu5 (fun _ _ f => f)); clear hu5)
    | (refine wl_load rfl 34 (.tmp 3) rfl w.heap.size 0 (by rfl) sb.toList _ (range_blk (by rw [Array.toArray_toList]; exact B35.out)) Tryz.underlying34 rfl (by rw [Array.length_toList, N3.out.size]; exact st_size) sb (by simp) ?_)
    | (refine wpList_store_row rfl 34 (.tmp 6) (.tmp 51) rfl v1.heap.size (by rfl) sb (by rfl) 34 _ B65.out (by rw [N3.out.size]; rfl) (by rw [N3.out.size]; exact st_size) N3.out.one ?_; intro w6 hb6 hu6 hs6; have B66 := Lib.hid hb6; have N6 := Lib.hid (N5.out.keepX (by have := S2.out; omega) hu6); have V6 := Lib.hid (V5.out.trans hu6 (F := NoF) (fun j hj e => by have e : j = v1.heap.size := e; have := S0.out; have := S1.out; omega)); clear hb6 hu6 hs6))
  refine bodyPost_ret (results_cell_row Tryz.results64 _ _ v1.heap.size 34 sb (0, 0) _ rfl B66.out Tryz.underlying34 rfl (by rw [st_size, N3.out.size])) rfl ⟨sb, rfl, N6.out.low (by have := S0.out; have := S1.out; have := S2.out; omega), V6.out⟩
set_option maxRecDepth 100000 in
set_option maxHeartbeats 16000000 in
theorem Put_new {w : World} {n : Nat} {l : List DelS} {sa : Array Value} {kd z am : Int} (h : StR w n l sa) (hn : n ≤ 1000) (hl : l.length ≤ 1000) (hf : ∀ d ∈ l, d.Fit) (hlt : ∀ d ∈ l, LtC d ⟨kd, z, nm0, 0⟩) (hfit : (⟨kd, z, nm0, am⟩ : DelS).Fit) (ham : am ≠ 0) : Calls Tryz.prog 64 #[.agg sa, .agg (cellC ⟨kd, z, nm0, 0⟩).toArray, .int .i64 am] w fun e w' => ∃ sb, e = .returned (.agg sb) ∧ StN w.heap.size n (l ++ [⟨kd, z, nm0, am⟩]) sb w' ∧ Upd NoF w w' := by
  obtain ⟨j0, hi0, hz0, hz1, hz2⟩ := info_parts delta_info
  obtain ⟨ca, hca⟩ : ∃ x, (cellC ⟨kd, z, nm0, 0⟩).toArray = x := ⟨_, rfl⟩
  have HCAE := Lib.hid hca
  have HCA := Lib.hid (show ca.size = 10 from by rw [← hca]; rfl)
  have HSA5 := Lib.hid (show sa.size = 5 from by obtain ⟨A1, c1, A2, c2, A3, c3, A4, c4, rfl, -⟩ := h; rfl)
  have CC := Lib.hid (fun W (hu : Upd NoF w W) => CopyState_any (w := W) (h.keep hu) hn hl)
  have CAT := Lib.hid (fun W sb (hs : StR W n l sb) => r20at_none (w := W) (ca := ca) hs hl hf (cd := ⟨kd, z, nm0, 0⟩) rfl hca (fun d hd => (hlt d hd).ne))
  rw [hca]
  have HFIT := Lib.hid hfit
  have HF := Lib.hid hf
  have HLT' := Lib.hid hlt
  obtain ⟨ra, hra⟩ : ∃ x, (rowD ⟨kd, z, nm0, am⟩).toArray = x := ⟨_, rfl⟩
  have HRA := Lib.hid hra
  have HBD := Lib.hid (fun W => show (Instr.build 109 #[(0, .agg ca), (1, .int .i64 am)]).run Tryz.prog W = .ok (.agg ra) W from by rw [← hca, ← hra]; exact build_delta kd z am W)
  have HBS := Lib.hid (fun W => show (Instr.buildSlice 31 1 #[(0, .agg ra)]).run Tryz.prog W = .ok (.slice (some ⟨W.heap.size, 0, none⟩) 1 1) (W.alloc (.cells ra 109)) from by rw [← hra]; exact bs_delta hfit W)
  obtain ⟨q, hq⟩ : ∃ q, l.length = q := ⟨_, rfl⟩
  have HQ := Lib.hid hq
  have HQL := Lib.hid (show q ≤ 1000 from by omega)
  have HRL := Lib.hid (show ((l.map rowD).flatten).length = q * 11 from by rw [rowsD_len hf, hq])
  have t0 : decide (am = 0) = false := decide_eq_false ham
  have t0' : ¬ am = 0 := ham
  clear h hn hl hf hlt hca hfit ham hra hq
  go_enter Tryz.func64, Tryz.ntmps64
  go_wp2_with (first
    | (refine wl_box rfl 34 (.tmp 0) rfl sa (by rfl) ?_; intro v0 hb0 hu0 hs0; have B30 := Lib.hid hb0; have V0 := Lib.hid hu0; have S0 := Lib.hid hs0; clear hb0 hu0 hs0)
    | (refine wl_box rfl 107 (.tmp 1) rfl ca (by rfl) ?_; intro v1 hb1 hu1 hs1; have B41 := Lib.hid hb1; have B31 := Lib.hid (hu1.blk B30.out (fun f => f)); have V1 := Lib.hid (V0.out.trans hu1 (fun _ _ f => f)); have S1 := Lib.hid hs1; clear hb1 hu1 hs1)
    | (refine wpList_alloc_row rfl 34 rfl zSt st_alloc ?_; intro v2 hb2 hu2 hs2; have B62 := Lib.hid hb2; have B32 := Lib.hid (hu2.blk B31.out (fun f => f)); have B42 := Lib.hid (hu2.blk B41.out (fun f => f)); have V2 := Lib.hid (V1.out.trans hu2 (fun _ _ f => f)); have S2 := Lib.hid hs2; clear hb2 hu2 hs2)
    | (refine wl_load rfl 34 (.tmp 3) rfl w.heap.size 0 (by rfl) sa.toList _ (range_blk (by rw [Array.toArray_toList]; exact B32.out)) Tryz.underlying34 rfl (by rw [Array.length_toList, HSA5.out]; exact st_size) sa (by simp) ?_)
    | (with_reducible show Calls _ 110 _ _ _; refine (CC.out _ V2.out).mono ?_; rintro e w3 ⟨sb, rfl, hst, hu3⟩; have N3 := Lib.hid hst; have B33 := Lib.hid (hu3.blk B32.out (fun f => f)); have B43 := Lib.hid (hu3.blk B42.out (fun f => f)); have B63 := Lib.hid (hu3.blk B62.out (fun f => f)); have V3 := Lib.hid (V2.out.trans hu3 (fun _ _ f => f)); clear hst hu3)
    | (refine wpList_store_row rfl 34 (.tmp 3) (.tmp 11) rfl w.heap.size (by rfl) sb (by rfl) 34 _ B33.out (by rw [HSA5.out, N3.out.size]) (by rw [N3.out.size]; exact st_size) N3.out.one ?_; intro w4 hb4 hu4 hs4; have B34 := Lib.hid hb4; have N4 := Lib.hid (N3.out.keepX (by have := S0.out; have := S1.out; have := S2.out; omega) hu4); have B44 := Lib.hid (hu4.blk B43.out (fun e => by have e : v0.heap.size = w.heap.size := e; have := S0.out; omega)); have B64 := Lib.hid (hu4.blk B63.out (fun e => by have e : v1.heap.size = w.heap.size := e; have := S0.out; have := S1.out; omega)); have V4 := Lib.hid (V3.out.trans hu4 (F := NoF) (fun j hj e => by have e : j = w.heap.size := e; omega)); clear hb4 hu4 hs4)
    | (refine wl_load rfl 34 (.tmp 3) rfl w.heap.size 0 (by rfl) sb.toList _ (range_blk (by rw [Array.toArray_toList]; exact B34.out)) Tryz.underlying34 rfl (by rw [Array.length_toList, N3.out.size]; exact st_size) sb (by simp) ?_)
    | (refine wl_load rfl 107 (.tmp 4) rfl v0.heap.size 0 (by rfl) ca.toList _ (range_blk (by rw [Array.toArray_toList]; exact B44.out)) Tryz.underlying107 rfl (by rw [Array.length_toList, HCA.out]; exact cell_size) ca (by simp) ?_)
    | (with_reducible show Calls _ 111 _ _ _; refine (CAT.out _ sb N4.out.rd).mono ?_; rintro e w5 ⟨rfl, hu5⟩; have N5 := Lib.hid (N4.out.keep hu5); have B35 := Lib.hid (hu5.blk B34.out (fun f => f)); have B45 := Lib.hid (hu5.blk B44.out (fun f => f)); have B65 := Lib.hid (hu5.blk B64.out (fun f => f)); have V5 := Lib.hid (V4.out.trans hu5 (fun _ _ f => f)); clear hu5))
  obtain ⟨X3, hX3⟩ : ∃ x, w.heap.size = x := ⟨_, rfl⟩
  obtain ⟨X4, hX4⟩ : ∃ x, v0.heap.size = x := ⟨_, rfl⟩
  obtain ⟨X6, hX6⟩ : ∃ x, v1.heap.size = x := ⟨_, rfl⟩
  have OX := Lib.hid (show X4 = X3 + 1 ∧ X6 = X3 + 2 ∧ v2.heap.size = X3 + 3 from by have := S0.out; have := S1.out; have := S2.out; omega)
  have HX3 := Lib.hid hX3
  have N5X := Lib.hid (N5.out.low (Nat.le_of_eq OX.out.2.2.symm))
  rw [hX3] at B35 ⊢
  rw [hX4] at B45 ⊢
  rw [hX6] at B65 ⊢
  obtain ⟨A1, c1, A2, c2, A3, c3, A4, c4, hsb, m1, m2, m3, m4⟩ := N5X.out
  rw [HQ.out] at hsb m1
  have HSB := Lib.hid hsb
  have M1 := Lib.hid m1
  have M2 := Lib.hid m2
  have M34 := Lib.hid (And.intro m3 m4)
  have CB0 := Lib.hid (show sb[0]? = some (.slice A1 q c1) from by rw [hsb]; rfl)
  clear hX3 hX4 hX6 B30 V0 S0 B41 B31 V1 S1 B62 B32 B42 V2 S2 N3 B33 B43 B63 V3 B34 N4 B44 B64 V4 N5 N5X hsb m1 m2 m3 m4 CC CAT t0 t0'
  go_loopw [8] (fun s8 wr => ∃ k : Nat, s8 = .int .i64 (k : Int) ∧ k ≤ q ∧ Upd NoF w5 wr) (fun i _ => q - (intOf i).toNat)
  case atStart => exact ⟨0, rfl, Nat.zero_le _, Upd.refl _ _⟩
  case round =>
    obtain ⟨k, rfl, hk, hu⟩ := hrel
    have HU := Lib.hid hu
    clear hu
    have B3r := Lib.hid (HU.out.blk B35.out (fun f => f))
    have hmx := HQL.out
    by_cases hlt : k < q
    · have t1 : decide ((k : Int) < (q : Int)) = true := by simp; omega
      have HLT := Lib.hid (show (k : Int) < (q : Int) from by omega)
      obtain ⟨d, hd⟩ : ∃ y, l[k]? = some y := ⟨_, List.getElem?_eq_getElem (by rw [HQ.out]; exact hlt)⟩
      have hdm := List.mem_of_getElem? hd
      obtain ⟨g, o, rfl, hrow⟩ := rowsD_at HF.out HQ.out M1.out.1.rd hd
      have RD := Lib.hid (show ∀ wq, Upd NoF wr.drew wq → wq.rangeAt g (o + k * 11) (cellC d) from fun wq hq j v hv => (HU.out.drew.trans hq (fun _ _ f => f)).cell (hrow j v (by unfold rowD; rw [List.getElem?_append_left (List.getElem?_eq_some_iff.1 hv).1]; exact hv)) (fun f => f))
      have HDL := Lib.hid (cellC_len (HF.out d hdm))
      obtain ⟨zd, hzd⟩ : ∃ y, (cellC d).toArray = y := ⟨_, rfl⟩
      have HZD := Lib.hid hzd
      have CMP := Lib.hid (fun W => r20Compare_lt (ca := zd) (cb := ca) hzd HCAE.out (HLT'.out d hdm) W)
      have C0 := Lib.hid (show wr.drew.cell? ⟨X3, 0, none⟩ = some (.slice (some ⟨g, o, none⟩) q c1) from (B3r.out.drew.cell 0).trans CB0.out)
      have B4r := Lib.hid (show Blk wr.drew X4 107 ca from (HU.out.blk B45.out (fun f => f)).drew)
      have ww : IntKind.i64.wrap ((k : Int) + 1) = (k : Int) + 1 := IntWalk.i64_in _ (by omega)
      clear hd hdm hrow hzd
      go_wp2_with fail
      refine wp_region_rgw (rgR [isV (.int .i64 (k : Int)), isV (.pointer (some ⟨X3, 0, none⟩)), isV (.slice (some ⟨g, o, none⟩) q c1), isV (.int .i64 (q : Int)), isV (.bool true), isV (.bool true), isV (.pointer (some ⟨X3, 0, none⟩)), isV (.slice (some ⟨g, o, none⟩) q c1), isV (.int .i64 (k : Int)), isV (.pointer (some ⟨g, o + k * 11, none⟩)), isV (.pointer (some ⟨g, o + k * 11, none⟩)), isV (.agg zd), isV (.agg ca), isV (.int .i64 (-1)), isV (.bool true), isV (.bool true)]) (fun w w' => Upd NoF w w') (fun _ wq => Upd NoF wr.drew wq) (by kernel_rfl) (by kernel_rfl) (by kernel_rfl) (by rfl) (fun w => Upd.refl _ _) (rgR_keep (by
        intro p hp; simp only [List.mem_cons, List.not_mem_nil, or_false] at hp; rcases hp with rfl | rfl | rfl | rfl | rfl | rfl | rfl | rfl | rfl | rfl | rfl | rfl | rfl | rfl | rfl | rfl <;> first | exact stb_isV _ | exact stb_any)) (Upd.refl _ _) ?_ ?_
      · refine ⟨?_, ?_, ?_, ?_, ?_, ?_, ?_, ?_, ?_, ?_, ?_, ?_, ?_, ?_, ?_, ?_, trivial⟩
        · refine fun ρ w' L hW hLi hcl hd hdep hext hc hg hf => ?_
          rw [if_pos (show wantedR _ _ _ = true from rfl)]
          have e8 : ρ (.tmp 8) = .int .i64 (k : Int) := hext 8 (by kernel_rfl)
          clear hdep hext hcl
          have HW := Lib.hid hW
          clear hW
          unfold OpDone
          go_simp
          exact ⟨rfl, Upd.refl _ _, HW.out⟩
        · refine fun ρ w' L hW hLi hcl hd hdep hext hc hg hf => ?_
          rw [if_pos (show wantedR _ _ _ = true from rfl)]
          have e3 : ρ (.tmp 3) = .pointer (some ⟨X3, 0, none⟩) := hext 3 (by kernel_rfl)
          clear hdep hext hcl
          have HW := Lib.hid hW
          clear hW
          unfold OpDone
          go_simp
          exact ⟨rfl, Upd.refl _ _, HW.out⟩
        · refine fun ρ w' L hW hLi hcl hd hdep hext hc hg hf => ?_
          rw [if_pos (show wantedR _ _ _ = true from rfl)]
          have e53 : ρ (.tmp 53) = .pointer (some ⟨X3, 0, none⟩) := hdep 1 _ rfl (by kernel_rfl)
          have q0 : w'.cell? ⟨X3, 0, none⟩ = some (.slice (some ⟨g, o, none⟩) q c1) := hW.cell C0.out (fun f => f)
          clear hdep hext hcl
          have HW := Lib.hid hW
          clear hW
          unfold OpDone
          go_simp
          exact ⟨rfl, Upd.refl _ _, HW.out⟩
        · refine fun ρ w' L hW hLi hcl hd hdep hext hc hg hf => ?_
          rw [if_pos (show wantedR _ _ _ = true from rfl)]
          have e54 : ρ (.tmp 54) = .slice (some ⟨g, o, none⟩) q c1 := hdep 2 _ rfl (by kernel_rfl)
          clear hdep hext hcl
          have HW := Lib.hid hW
          clear hW
          unfold OpDone
          go_simp
          exact ⟨rfl, Upd.refl _ _, HW.out⟩
        · refine fun ρ w' L hW hLi hcl hd hdep hext hc hg hf => ?_
          rw [if_pos (show wantedR _ _ _ = true from rfl)]
          have e52 : ρ (.tmp 52) = .int .i64 (k : Int) := hdep 0 _ rfl (by kernel_rfl)
          have e55 : ρ (.tmp 55) = .int .i64 (q : Int) := hdep 3 _ rfl (by kernel_rfl)
          clear hdep hext hcl
          have HW := Lib.hid hW
          clear hW
          unfold OpDone
          go_simp
          exact ⟨rfl, Upd.refl _ _, HW.out⟩
        · refine fun ρ w' L hW hLi hcl hd hdep hext hc hg hf => ?_
          rw [if_pos (show wantedR _ _ _ = true from rfl)]
          have e56 : ρ (.tmp 56) = .bool true := hdep 4 _ rfl (by kernel_rfl)
          clear hdep hext hcl
          have HW := Lib.hid hW
          clear hW
          unfold OpDone
          go_simp
          exact ⟨rfl, Upd.refl _ _, HW.out⟩
        · refine fun ρ w' L hW hLi hcl hd hdep hext hc hg hf => ?_
          have eg : ρ (.tmp 57) = .bool true := hdep 5 _ rfl (by kernel_rfl)
          refine wanted_go ?_ ?_
          · show (match ρ (.tmp 57) with | .bool c => c == true | _ => false) = true
            rw [eg]
            rfl
          clear eg
          have e3 : ρ (.tmp 3) = .pointer (some ⟨X3, 0, none⟩) := hext 3 (by kernel_rfl)
          clear hdep hext hcl
          have HW := Lib.hid hW
          clear hW
          unfold OpDone
          go_simp
          exact ⟨rfl, Upd.refl _ _, HW.out⟩
        · refine fun ρ w' L hW hLi hcl hd hdep hext hc hg hf => ?_
          have eg : ρ (.tmp 57) = .bool true := hdep 5 _ rfl (by kernel_rfl)
          refine wanted_go ?_ ?_
          · show (match ρ (.tmp 57) with | .bool c => c == true | _ => false) = true
            rw [eg]
            rfl
          clear eg
          have e58 : ρ (.tmp 58) = .pointer (some ⟨X3, 0, none⟩) := hdep 6 _ rfl (by kernel_rfl)
          have q0 : w'.cell? ⟨X3, 0, none⟩ = some (.slice (some ⟨g, o, none⟩) q c1) := hW.cell C0.out (fun f => f)
          clear hdep hext hcl
          have HW := Lib.hid hW
          clear hW
          unfold OpDone
          go_simp
          exact ⟨rfl, Upd.refl _ _, HW.out⟩
        · refine fun ρ w' L hW hLi hcl hd hdep hext hc hg hf => ?_
          have eg : ρ (.tmp 57) = .bool true := hdep 5 _ rfl (by kernel_rfl)
          refine wanted_go ?_ ?_
          · show (match ρ (.tmp 57) with | .bool c => c == true | _ => false) = true
            rw [eg]
            rfl
          clear eg
          have e8 : ρ (.tmp 8) = .int .i64 (k : Int) := hext 8 (by kernel_rfl)
          clear hdep hext hcl
          have HW := Lib.hid hW
          clear hW
          unfold OpDone
          go_simp
          exact ⟨rfl, Upd.refl _ _, HW.out⟩
        · refine fun ρ w' L hW hLi hcl hd hdep hext hc hg hf => ?_
          have eg : ρ (.tmp 57) = .bool true := hdep 5 _ rfl (by kernel_rfl)
          refine wanted_go ?_ ?_
          · show (match ρ (.tmp 57) with | .bool c => c == true | _ => false) = true
            rw [eg]
            rfl
          clear eg
          have e59 : ρ (.tmp 59) = .slice (some ⟨g, o, none⟩) q c1 := hdep 7 _ rfl (by kernel_rfl)
          have e60 : ρ (.tmp 60) = .int .i64 (k : Int) := hdep 8 _ rfl (by kernel_rfl)
          have q0 : (0 : Int) ≤ (k : Int) := by omega
          have q1 : (k : Int) < (q : Int) := HLT.out
          have q2 : k < q := by omega
          have q3 : ((k : Int)).toNat = k := by omega
          clear hdep hext hcl
          have HW := Lib.hid hW
          clear hW
          unfold OpDone
          go_simp
          exact ⟨rfl, Upd.refl _ _, HW.out⟩
        · refine fun ρ w' L hW hLi hcl hd hdep hext hc hg hf => ?_
          have eg : ρ (.tmp 57) = .bool true := hdep 5 _ rfl (by kernel_rfl)
          refine wanted_go ?_ ?_
          · show (match ρ (.tmp 57) with | .bool c => c == true | _ => false) = true
            rw [eg]
            rfl
          clear eg
          have e61 : ρ (.tmp 61) = .pointer (some ⟨g, o + k * 11, none⟩) := hdep 9 _ rfl (by kernel_rfl)
          clear hdep hext hcl
          have HW := Lib.hid hW
          clear hW
          unfold OpDone
          go_simp
          exact ⟨rfl, Upd.refl _ _, HW.out⟩
        · refine fun ρ w' L hW hLi hcl hd hdep hext hc hg hf => ?_
          have eg : ρ (.tmp 57) = .bool true := hdep 5 _ rfl (by kernel_rfl)
          refine wanted_go ?_ ?_
          · show (match ρ (.tmp 57) with | .bool c => c == true | _ => false) = true
            rw [eg]
            rfl
          clear eg
          have e62 : ρ (.tmp 62) = .pointer (some ⟨g, o + k * 11, none⟩) := hdep 10 _ rfl (by kernel_rfl)
          clear hdep hext
          refine od_load_row 107 (.tmp 62) rfl g (o + k * 11) e62 (cellC d) _ (RD.out w' hW) Tryz.underlying107 rfl (by rw [HDL.out]; exact cell_size) ?_
          rw [HZD.out]
          exact ⟨rfl, Upd.refl _ _, hW⟩
        · refine fun ρ w' L hW hLi hcl hd hdep hext hc hg hf => ?_
          have eg : ρ (.tmp 57) = .bool true := hdep 5 _ rfl (by kernel_rfl)
          refine wanted_go ?_ ?_
          · show (match ρ (.tmp 57) with | .bool c => c == true | _ => false) = true
            rw [eg]
            rfl
          clear eg
          have e4 : ρ (.tmp 4) = .pointer (some ⟨X4, 0, none⟩) := hext 4 (by kernel_rfl)
          clear hdep hext
          refine od_load_row 107 (.tmp 4) rfl X4 0 e4 ca.toList _ (range_blk (by rw [Array.toArray_toList]; exact hW.blk B4r.out (fun f => f))) Tryz.underlying107 rfl (by rw [Array.length_toList, HCA.out]; exact cell_size) ?_
          rw [show ca.toList.toArray = ca from by simp]
          exact ⟨rfl, Upd.refl _ _, hW⟩
        · refine fun ρ w' L hW hLi hcl hd hdep hext hc hg hf => ?_
          have eg : ρ (.tmp 57) = .bool true := hdep 5 _ rfl (by kernel_rfl)
          refine wanted_go ?_ ?_
          · show (match ρ (.tmp 57) with | .bool c => c == true | _ => false) = true
            rw [eg]
            rfl
          clear eg
          have e63 : ρ (.tmp 63) = .agg zd := hdep 11 _ rfl (by kernel_rfl)
          have e64 : ρ (.tmp 64) = .agg ca := hdep 12 _ rfl (by kernel_rfl)
          clear hdep hext
          have CL := Lib.hid (CMP.out w')
          have HW := Lib.hid hW
          clear hW hcl hd hLi
          unfold OpDone
          go_simp
          refine CL.out.mono ?_
          rintro e w2 ⟨rfl, hu⟩
          exact ⟨_, rfl, rfl, hu, HW.out.trans hu (fun _ _ f => f)⟩
        · refine fun ρ w' L hW hLi hcl hd hdep hext hc hg hf => ?_
          have eg : ρ (.tmp 57) = .bool true := hdep 5 _ rfl (by kernel_rfl)
          refine wanted_go ?_ ?_
          · show (match ρ (.tmp 57) with | .bool c => c == true | _ => false) = true
            rw [eg]
            rfl
          clear eg
          have e65 : ρ (.tmp 65) = .int .i64 (-1) := hdep 13 _ rfl (by kernel_rfl)
          clear hdep hext hcl
          have HW := Lib.hid hW
          clear hW
          unfold OpDone
          go_simp
          exact ⟨rfl, Upd.refl _ _, HW.out⟩
        · refine fun ρ w' L hW hLi hcl hd hdep hext hc hg hf => ?_
          rw [if_pos (show wantedR _ _ _ = true from rfl)]
          have e57 : ρ (.tmp 57) = .bool true := hdep 5 _ rfl (by kernel_rfl)
          have e66 : ρ (.tmp 66) = .bool true := hdep 14 _ rfl (by kernel_rfl)
          clear hdep hext hcl
          have HW := Lib.hid hW
          clear hW
          unfold OpDone
          go_simp
          exact ⟨rfl, Upd.refl _ _, HW.out⟩
      intro vs W8 L8 hL8 hW8 hR
      have hv0 : vs 0 = .int .i64 (k : Int) := hR 0 _ rfl
      have hv1 : vs 1 = .pointer (some ⟨X3, 0, none⟩) := hR 1 _ rfl
      have hv2 : vs 2 = .slice (some ⟨g, o, none⟩) q c1 := hR 2 _ rfl
      have hv3 : vs 3 = .int .i64 (q : Int) := hR 3 _ rfl
      have hv4 : vs 4 = .bool true := hR 4 _ rfl
      have hv5 : vs 5 = .bool true := hR 5 _ rfl
      have hv6 : vs 6 = .pointer (some ⟨X3, 0, none⟩) := hR 6 _ rfl
      have hv7 : vs 7 = .slice (some ⟨g, o, none⟩) q c1 := hR 7 _ rfl
      have hv8 : vs 8 = .int .i64 (k : Int) := hR 8 _ rfl
      have hv9 : vs 9 = .pointer (some ⟨g, o + k * 11, none⟩) := hR 9 _ rfl
      have hv10 : vs 10 = .pointer (some ⟨g, o + k * 11, none⟩) := hR 10 _ rfl
      have hv11 : vs 11 = .agg zd := hR 11 _ rfl
      have hv12 : vs 12 = .agg ca := hR 12 _ rfl
      have hv13 : vs 13 = .int .i64 (-1) := hR 13 _ rfl
      have hv14 : vs 14 = .bool true := hR 14 _ rfl
      have hv15 : vs 15 = .bool true := hR 15 _ rfl
      simp only [putAll, Act.put, List.setIfInBounds_toArray, List.set_cons_zero, List.set_cons_succ, hv0, hv1, hv2, hv3, hv4, hv5, hv6, hv7, hv8, hv9, hv10, hv11, hv12, hv13, hv14, hv15]
      clear hR hv0 hv1 hv2 hv3 hv4 hv5 hv6 hv7 hv8 hv9 hv10 hv11 hv12 hv13 hv14 hv15
      have HU8 := Lib.hid (show Upd NoF w5 W8 from HU.out.trans (((Upd.refl NoF wr).drew).trans hW8 (fun _ _ f => f)) (fun _ _ f => f))
      clear hW8
      go_wp2
      go_roundw
      case rel => exact ⟨k + 1, by go_num, by omega, HU8.out⟩
      case measure => simp [intOf]; omega
    · obtain rfl : k = q := by omega
      have t1 : decide ((k : Int) < (k : Int)) = false := by simp
      have C0 := Lib.hid (show wr.drew.cell? ⟨X3, 0, none⟩ = some (.slice A1 k c1) from (B3r.out.drew.cell 0).trans CB0.out)
      go_wp2_with fail
      refine wp_region_rgw (rgR [isV (.int .i64 (k : Int)), isV (.pointer (some ⟨X3, 0, none⟩)), isV (.slice A1 k c1), isV (.int .i64 (k : Int)), isV (.bool false), isV (.bool false), isV (undef), isV (undef), isV (undef), isV (undef), isV (undef), isV (undef), isV (undef), isV (undef), isV (undef), isV (.bool false)]) (fun w w' => Upd NoF w w') (fun _ wq => Upd NoF wr.drew wq) (by kernel_rfl) (by kernel_rfl) (by kernel_rfl) (by rfl) (fun w => Upd.refl _ _) (rgR_keep (by
        intro p hp; simp only [List.mem_cons, List.not_mem_nil, or_false] at hp; rcases hp with rfl | rfl | rfl | rfl | rfl | rfl | rfl | rfl | rfl | rfl | rfl | rfl | rfl | rfl | rfl | rfl <;> first | exact stb_isV _ | exact stb_any)) (Upd.refl _ _) ?_ ?_
      · refine ⟨?_, ?_, ?_, ?_, ?_, ?_, ?_, ?_, ?_, ?_, ?_, ?_, ?_, ?_, ?_, ?_, trivial⟩
        · refine fun ρ w' L hW hLi hcl hd hdep hext hc hg hf => ?_
          rw [if_pos (show wantedR _ _ _ = true from rfl)]
          have e8 : ρ (.tmp 8) = .int .i64 (k : Int) := hext 8 (by kernel_rfl)
          clear hdep hext hcl
          have HW := Lib.hid hW
          clear hW
          unfold OpDone
          go_simp
          exact ⟨rfl, Upd.refl _ _, HW.out⟩
        · refine fun ρ w' L hW hLi hcl hd hdep hext hc hg hf => ?_
          rw [if_pos (show wantedR _ _ _ = true from rfl)]
          have e3 : ρ (.tmp 3) = .pointer (some ⟨X3, 0, none⟩) := hext 3 (by kernel_rfl)
          clear hdep hext hcl
          have HW := Lib.hid hW
          clear hW
          unfold OpDone
          go_simp
          exact ⟨rfl, Upd.refl _ _, HW.out⟩
        · refine fun ρ w' L hW hLi hcl hd hdep hext hc hg hf => ?_
          rw [if_pos (show wantedR _ _ _ = true from rfl)]
          have e53 : ρ (.tmp 53) = .pointer (some ⟨X3, 0, none⟩) := hdep 1 _ rfl (by kernel_rfl)
          have q0 : w'.cell? ⟨X3, 0, none⟩ = some (.slice A1 k c1) := hW.cell C0.out (fun f => f)
          clear hdep hext hcl
          have HW := Lib.hid hW
          clear hW
          unfold OpDone
          go_simp
          exact ⟨rfl, Upd.refl _ _, HW.out⟩
        · refine fun ρ w' L hW hLi hcl hd hdep hext hc hg hf => ?_
          rw [if_pos (show wantedR _ _ _ = true from rfl)]
          have e54 : ρ (.tmp 54) = .slice A1 k c1 := hdep 2 _ rfl (by kernel_rfl)
          clear hdep hext hcl
          have HW := Lib.hid hW
          clear hW
          unfold OpDone
          go_simp
          exact ⟨rfl, Upd.refl _ _, HW.out⟩
        · refine fun ρ w' L hW hLi hcl hd hdep hext hc hg hf => ?_
          rw [if_pos (show wantedR _ _ _ = true from rfl)]
          have e52 : ρ (.tmp 52) = .int .i64 (k : Int) := hdep 0 _ rfl (by kernel_rfl)
          have e55 : ρ (.tmp 55) = .int .i64 (k : Int) := hdep 3 _ rfl (by kernel_rfl)
          clear hdep hext hcl
          have HW := Lib.hid hW
          clear hW
          unfold OpDone
          go_simp
          exact ⟨rfl, Upd.refl _ _, HW.out⟩
        · refine fun ρ w' L hW hLi hcl hd hdep hext hc hg hf => ?_
          rw [if_pos (show wantedR _ _ _ = true from rfl)]
          have e56 : ρ (.tmp 56) = .bool false := hdep 4 _ rfl (by kernel_rfl)
          clear hdep hext hcl
          have HW := Lib.hid hW
          clear hW
          unfold OpDone
          go_simp
          exact ⟨rfl, Upd.refl _ _, HW.out⟩
        · refine fun ρ w' L hW hLi hcl hd hdep hext hc hg hf => ?_
          have eg : ρ (.tmp 57) = .bool false := hdep 5 _ rfl (by kernel_rfl)
          rw [if_neg (show ¬ wantedR _ _ _ = true from by show ¬ (match ρ (.tmp 57) with | .bool c => c == true | _ => false) = true; rw [eg]; decide)]
          exact ⟨rfl, hW⟩
        · refine fun ρ w' L hW hLi hcl hd hdep hext hc hg hf => ?_
          have eg : ρ (.tmp 57) = .bool false := hdep 5 _ rfl (by kernel_rfl)
          rw [if_neg (show ¬ wantedR _ _ _ = true from by show ¬ (match ρ (.tmp 57) with | .bool c => c == true | _ => false) = true; rw [eg]; decide)]
          exact ⟨rfl, hW⟩
        · refine fun ρ w' L hW hLi hcl hd hdep hext hc hg hf => ?_
          have eg : ρ (.tmp 57) = .bool false := hdep 5 _ rfl (by kernel_rfl)
          rw [if_neg (show ¬ wantedR _ _ _ = true from by show ¬ (match ρ (.tmp 57) with | .bool c => c == true | _ => false) = true; rw [eg]; decide)]
          exact ⟨rfl, hW⟩
        · refine fun ρ w' L hW hLi hcl hd hdep hext hc hg hf => ?_
          have eg : ρ (.tmp 57) = .bool false := hdep 5 _ rfl (by kernel_rfl)
          rw [if_neg (show ¬ wantedR _ _ _ = true from by show ¬ (match ρ (.tmp 57) with | .bool c => c == true | _ => false) = true; rw [eg]; decide)]
          exact ⟨rfl, hW⟩
        · refine fun ρ w' L hW hLi hcl hd hdep hext hc hg hf => ?_
          have eg : ρ (.tmp 57) = .bool false := hdep 5 _ rfl (by kernel_rfl)
          rw [if_neg (show ¬ wantedR _ _ _ = true from by show ¬ (match ρ (.tmp 57) with | .bool c => c == true | _ => false) = true; rw [eg]; decide)]
          exact ⟨rfl, hW⟩
        · refine fun ρ w' L hW hLi hcl hd hdep hext hc hg hf => ?_
          have eg : ρ (.tmp 57) = .bool false := hdep 5 _ rfl (by kernel_rfl)
          rw [if_neg (show ¬ wantedR _ _ _ = true from by show ¬ (match ρ (.tmp 57) with | .bool c => c == true | _ => false) = true; rw [eg]; decide)]
          exact ⟨rfl, hW⟩
        · refine fun ρ w' L hW hLi hcl hd hdep hext hc hg hf => ?_
          have eg : ρ (.tmp 57) = .bool false := hdep 5 _ rfl (by kernel_rfl)
          rw [if_neg (show ¬ wantedR _ _ _ = true from by show ¬ (match ρ (.tmp 57) with | .bool c => c == true | _ => false) = true; rw [eg]; decide)]
          exact ⟨rfl, hW⟩
        · refine fun ρ w' L hW hLi hcl hd hdep hext hc hg hf => ?_
          have eg : ρ (.tmp 57) = .bool false := hdep 5 _ rfl (by kernel_rfl)
          rw [if_neg (show ¬ wantedR _ _ _ = true from by show ¬ (match ρ (.tmp 57) with | .bool c => c == true | _ => false) = true; rw [eg]; decide)]
          exact ⟨rfl, hW⟩
        · refine fun ρ w' L hW hLi hcl hd hdep hext hc hg hf => ?_
          have eg : ρ (.tmp 57) = .bool false := hdep 5 _ rfl (by kernel_rfl)
          rw [if_neg (show ¬ wantedR _ _ _ = true from by show ¬ (match ρ (.tmp 57) with | .bool c => c == true | _ => false) = true; rw [eg]; decide)]
          exact ⟨rfl, hW⟩
        · refine fun ρ w' L hW hLi hcl hd hdep hext hc hg hf => ?_
          rw [if_pos (show wantedR _ _ _ = true from rfl)]
          have e57 : ρ (.tmp 57) = .bool false := hdep 5 _ rfl (by kernel_rfl)
          have e66 : ρ (.tmp 66) = undef := hdep 14 _ rfl (by kernel_rfl)
          clear hdep hext hcl
          have HW := Lib.hid hW
          clear hW
          unfold OpDone
          go_simp
          exact ⟨rfl, Upd.refl _ _, HW.out⟩
      intro vs W8 L8 hL8 hW8 hR
      have hv0 : vs 0 = .int .i64 (k : Int) := hR 0 _ rfl
      have hv1 : vs 1 = .pointer (some ⟨X3, 0, none⟩) := hR 1 _ rfl
      have hv2 : vs 2 = .slice A1 k c1 := hR 2 _ rfl
      have hv3 : vs 3 = .int .i64 (k : Int) := hR 3 _ rfl
      have hv4 : vs 4 = .bool false := hR 4 _ rfl
      have hv5 : vs 5 = .bool false := hR 5 _ rfl
      have hv6 : vs 6 = undef := hR 6 _ rfl
      have hv7 : vs 7 = undef := hR 7 _ rfl
      have hv8 : vs 8 = undef := hR 8 _ rfl
      have hv9 : vs 9 = undef := hR 9 _ rfl
      have hv10 : vs 10 = undef := hR 10 _ rfl
      have hv11 : vs 11 = undef := hR 11 _ rfl
      have hv12 : vs 12 = undef := hR 12 _ rfl
      have hv13 : vs 13 = undef := hR 13 _ rfl
      have hv14 : vs 14 = undef := hR 14 _ rfl
      have hv15 : vs 15 = .bool false := hR 15 _ rfl
      simp only [putAll, Act.put, List.setIfInBounds_toArray, List.set_cons_zero, List.set_cons_succ, hv0, hv1, hv2, hv3, hv4, hv5, hv6, hv7, hv8, hv9, hv10, hv11, hv12, hv13, hv14, hv15]
      clear hR hv0 hv1 hv2 hv3 hv4 hv5 hv6 hv7 hv8 hv9 hv10 hv11 hv12 hv13 hv14 hv15
      have HU8 := Lib.hid (show Upd NoF w5 W8 from HU.out.trans (((Upd.refl NoF wr).drew).trans hW8 (fun _ _ f => f)) (fun _ _ f => f))
      clear hW8 C0 B3r HU
      have B38 := Lib.hid (HU8.out.blk B35.out (fun f => f))
      have B48 := Lib.hid (HU8.out.blk B45.out (fun f => f))
      have B68 := Lib.hid (HU8.out.blk B65.out (fun f => f))
      have M18 := Lib.hid (M1.out.keep HU8.out)
      have V8 := Lib.hid (V5.out.trans HU8.out (fun _ _ f => f))
      have HS8 := Lib.hid (show X3 + 3 ≤ W8.heap.size from by have := B68.out.lt; have := OX.out; omega)
      obtain ⟨RW, hRW⟩ : ∃ x, (l.map rowD).flatten = x := ⟨_, rfl⟩
      have HRW := Lib.hid hRW
      rw [hRW] at M18 HRL
      have HONE := Lib.hid (show ∀ u ∈ RW, u.oneCell' = true from fun u hu => by rw [← hRW] at hu; obtain ⟨r, hr, hu⟩ := List.mem_flatten.1 hu; obtain ⟨d, -, rfl⟩ := List.mem_map.1 hr; exact rowD_one d u hu)
      have HTK := Lib.hid (show RW.take (k * 11) = RW from List.take_of_length_le (Nat.le_of_eq HRL.out))
      have HDK := Lib.hid (show RW.drop (k * 11) = [] from List.drop_eq_nil_of_le (Nat.le_of_eq HRL.out))
      have y8 := (B38.out.cell 0).trans CB0.out
      clear hRW
      obtain rfl : ca = (#[.int .i64 kd, .int .i64 z, .int .u8 0, .int .u8 0, .int .u8 0, .int .u8 0, .int .u8 0, .int .u8 0, .int .u8 0, .int .u8 0] : Array Value) := by rw [← HCAE.out]; rfl
      go_wp2_with (first
        | (refine wl_bs0 rfl 31 109 11 rfl (fun w => by kernel_rfl) ?_; intro w9 ho9 hu9 hs9; have N9 := Lib.hid (show NwA W8.heap.size 109 11 0 [] (some ⟨W8.heap.size, 0, none⟩) 0 w9 from ⟨ho9, fun j hj => by have : W8.heap.size = j := (by simpa [OwnB, Value.ownBlock] using hj); omega⟩); have U9 := Lib.hid hu9; have y9 := (((hu9.blk B38.out (fun f => f)).cell 0)).trans CB0.out; clear ho9 hu9 hs9)
        | (refine wpList_cut_to' rfl (.tmp 72) (.tmp 73) rfl rfl rfl (M18.out.keep U9.out).1.rd Tryz.underlying31 (fun _ => by kernel_rfl) (k := k) (Nat.le_refl _) ?_; intro A10 hcut; have HC10 := Lib.hid (show Rd w9 11 (.slice A10 k c1) k RW from by rw [HTK.out] at hcut; exact hcut); clear hcut)
        | (at_builtin; refine wpList_append_to _ rfl (.tmp 70) (.tmp 74) 31 rfl 109 j0 _ 11 32 Tryz.underlying31 hi0 hz0 hz1 hz2 (by kernel_rfl) (.slice (some ⟨W8.heap.size, 0, none⟩) 0 0) 0 [] (by rfl) N9.out.1 (.slice A10 k c1) k RW (by rfl) HC10.out HONE.out (by unfold maxLen; omega) (by omega) ?_; intro A11 c11 w11 hown hupd hnew; have Q11 := NwA.appM N9.out (Upd.refl _ _) U9.out.size hown hupd hnew; have N11 := Lib.hid (show NwA W8.heap.size 109 11 k RW A11 c11 w11 from by have q := Q11.1; rw [Nat.zero_add] at q; exact q); have U11 := Lib.hid (Q11.2 (w := W8) (fun j h1 h2 => by omega) U9.out); have B411 := Lib.hid (U11.out.blk B48.out (fun f => f)); have yc0 := (U11.out.blk B48.out (fun f => f)).cell 0; have yc1 := (U11.out.blk B48.out (fun f => f)).cell 1; have yc2 := (U11.out.blk B48.out (fun f => f)).cell 2; have yc3 := (U11.out.blk B48.out (fun f => f)).cell 3; have yc4 := (U11.out.blk B48.out (fun f => f)).cell 4; have yc5 := (U11.out.blk B48.out (fun f => f)).cell 5; have yc6 := (U11.out.blk B48.out (fun f => f)).cell 6; have yc7 := (U11.out.blk B48.out (fun f => f)).cell 7; have yc8 := (U11.out.blk B48.out (fun f => f)).cell 8; have yc9 := (U11.out.blk B48.out (fun f => f)).cell 9; clear Q11 hown hupd hnew; try simp only [Nat.zero_add])
        | (refine wl_load rfl 107 (.tmp 4) rfl X4 0 (by rfl) (#[.int .i64 kd, .int .i64 z, .int .u8 0, .int .u8 0, .int .u8 0, .int .u8 0, .int .u8 0, .int .u8 0, .int .u8 0, .int .u8 0] : Array Value).toList _ (range_blk B411.out) Tryz.underlying107 rfl cell_size _ rfl ?_)
        | (with_reducible show wpList _ _ _ (Oper.mk (some 78) _ _ _ _ _ :: _) _ _; refine wl_run rfl (v := .int .i64 am) (w' := w11) (by rfl) ?_)
        | (refine wpList_build rfl 109 _ (by rfl) #[(0, .agg #[.int .i64 kd, .int .i64 z, .int .u8 0, .int .u8 0, .int .u8 0, .int .u8 0, .int .u8 0, .int .u8 0, .int .u8 0, .int .u8 0]), (1, .int .i64 am)] (by rfl) (HBD.out _) ?_)
        | (refine wpList_bsRow rfl 31 109 (.tmp 79) rfl (.agg ra) (by rfl) ra (HBS.out _) ?_; intro w12 hb12 hu12 hs12; have B12 := Lib.hid hb12; have U12 := Lib.hid hu12; clear hb12 hu12 hs12)
        | (at_builtin; refine wpList_append_to _ rfl (.tmp 76) (.tmp 80) 31 rfl 109 j0 _ 11 32 Tryz.underlying31 hi0 hz0 hz1 hz2 (by kernel_rfl) (.slice A11 k c11) k RW (by rfl) (N11.out.keep ((Upd.refl NoF w11).alloc _)).1 (.slice (some ⟨w11.heap.size, 0, none⟩) 1 1) 1 (rowD ⟨kd, z, nm0, am⟩) (by rfl) (rd_row w11 HFIT.out) (rowD_one _) (by unfold maxLen; omega) (by omega) ?_; intro A13 c13 w13 hown hupd hnew; have Q13 := NwA.appM N11.out ((Upd.refl NoF w11).alloc _) U11.out.size hown hupd hnew; have N13 := Lib.hid Q13.1; have U13 := Lib.hid (Q13.2 (w := W8) (fun j h1 h2 => by omega) U11.out); have y13 := (((U13.out.blk B38.out (fun f => f)).cell 0)).trans CB0.out; clear Q13 hown hupd hnew)
        | (refine wpList_cut_from' rfl (.tmp 84) (.tmp 85) rfl rfl rfl (M18.out.keep U13.out).1.rd Tryz.underlying31 (fun _ => by kernel_rfl) (k := k) (Nat.le_refl _) ?_; intro A14 hcut; have HC14 := Lib.hid (show Rd w13 11 (.slice A14 (k - k) (c1 - k)) (k - k) [] from by rw [HDK.out] at hcut; exact hcut); clear hcut)
        | (at_builtin; refine wpList_append_to _ rfl (.tmp 82) (.tmp 86) 31 rfl 109 j0 _ 11 32 Tryz.underlying31 hi0 hz0 hz1 hz2 (by kernel_rfl) (.slice A13 (k + 1) c13) (k + 1) (RW ++ rowD ⟨kd, z, nm0, am⟩) (by rfl) N13.out.1 (.slice A14 (k - k) (c1 - k)) (k - k) [] (by rfl) HC14.out (fun u hu => by cases hu) (by unfold maxLen; omega) (by omega) ?_; intro A15 c15 w15 hown hupd hnew; have Q15 := NwA.appM N13.out (Upd.refl _ _) U13.out.size hown hupd hnew; have N15 := Lib.hid (show NwA W8.heap.size 109 11 (k + 1) (RW ++ rowD ⟨kd, z, nm0, am⟩) A15 c15 w15 from by have q := Q15.1; rw [Nat.sub_self, Nat.add_zero, List.append_nil] at q; exact q); have U15 := Lib.hid (Q15.2 (w := W8) (fun j h1 h2 => by omega) U13.out); have B315 := Lib.hid (U15.out.blk B38.out (fun f => f)); have B615 := Lib.hid (U15.out.blk B68.out (fun f => f)); have y15 := (B315.out.cell 0).trans CB0.out; have z15 := B315.out.frozen 0; obtain ⟨sd, hsd⟩ : ∃ x, sb.setIfInBounds 0 (.slice A15 (k + 1) c15) = x := ⟨_, rfl⟩; have HSD := Lib.hid hsd; have B316 := Lib.hid (show Blk (w15.setCell ⟨X3, 0, none⟩ (.slice A15 (k + 1) c15)) X3 34 sd from by rw [← hsd]; exact B315.out.put 0 _); have B616 := Lib.hid (show Blk (w15.setCell ⟨X3, 0, none⟩ (.slice A15 (k + 1) c15)) X6 34 zSt from B615.out.far (p := ⟨X3, 0, none⟩) (by have := OX.out; show X6 ≠ X3; omega) _); have D16 := Lib.hid (show Upd (fun j => j = X3) w15 (w15.setCell ⟨X3, 0, none⟩ (.slice A15 (k + 1) c15)) from (Upd.refl (fun j => j = X3) w15).setCell (p := ⟨X3, 0, none⟩) (.inl rfl) _); have HSD5 := Lib.hid (show sd.size = 5 ∧ sd = #[.slice A15 (k + 1) c15, .slice A2 n c2, .slice A3 0 c3, .slice A4 0 c4, .int .i64 0] from by rw [← hsd, HSB.out]; exact ⟨rfl, rfl⟩); clear hsd Q15 hown hupd hnew; try simp only [Nat.sub_self, Nat.add_zero])
        | (refine wl_load rfl 34 (.tmp 3) rfl X3 0 (by rfl) sd.toList _ (range_blk (by rw [Array.toArray_toList]; exact B316.out)) Tryz.underlying34 rfl (by rw [Array.length_toList, HSD5.out.1]; exact st_size) sd (by simp) ?_)
        | (refine wpList_store_row rfl 34 (.tmp 6) (.tmp 89) rfl X6 (by rfl) sd (by rfl) 34 _ B616.out (by rw [HSD5.out.1]; rfl) (by rw [HSD5.out.1]; exact st_size) (by rw [HSD5.out.2]; exact st_one _ _ _ _ _ _ _ _ _ _ _ _ _) ?_; intro w17 hb17 hu17 hs17; have B17 := Lib.hid hb17; have D17 := Lib.hid hu17; clear hb17 hu17 hs17)
        | (refine wl_run rfl (v := .slice A11 k c11) (w' := w11) (by rfl) ?_))
      have D18 := Lib.hid (show Upd (fun j => j = X3 ∨ j = X6) W8 w17 from (U15.out.mono (fun _ _ f => f.elim)).trans ((D16.out.mono (G := fun j => j = X3 ∨ j = X6) (fun _ _ f => .inl f)).trans D17.out (fun _ _ f => .inr f)) (fun _ _ f => f))
      have E18 := Lib.hid (show Upd (fun j => j = X3 ∨ j = X6) w15 w17 from (D16.out.mono (G := fun j => j = X3 ∨ j = X6) (fun _ _ f => .inl f)).trans D17.out (fun _ _ f => .inr f))
      refine bodyPost_ret (results_cell_row Tryz.results64 _ _ X6 34 sd (0, 0) _ rfl B17.out Tryz.underlying34 rfl (by rw [st_size, HSD5.out.1])) rfl ⟨sd, rfl, ⟨A15, c15, A2, c2, A3, c3, A4, c4, by rw [HSD5.out.2, List.length_append, HQ.out]; rfl, ?_, ?_, M34.out.1, M34.out.2⟩, ?_⟩
      · have hw : W8.heap.size ≥ X3 + 3 := HS8.out
        have hx := HX3.out
        have ox := OX.out
        rw [List.length_append, HQ.out, List.map_append, List.flatten_append, HRW.out]
        refine ⟨?_, fun j hj => by have := N15.out.2 j hj; omega⟩
        have q := N15.out.1.upd E18.out (fun j hj f => by have := N15.out.2 j hj; rcases f with f | f <;> omega)
        simpa using q
      · have hx := HX3.out
        have ox := OX.out
        refine ⟨(M2.out.keep HU8.out).1.upd D18.out (fun j hj f => by have := M2.out.2 j hj; rcases f with f | f <;> omega), fun j hj => by have := M2.out.2 j hj; omega⟩
      · have hx := HX3.out
        have ox := OX.out
        exact V8.out.trans D18.out (fun j hj f => by rcases f with f | f <;> omega)
end Go.Proofs.YtengcmfdfmnacaaGreat
