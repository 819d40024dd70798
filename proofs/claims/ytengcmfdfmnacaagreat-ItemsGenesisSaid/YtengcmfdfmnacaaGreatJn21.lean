/- The reference's Balance, Stake, GenesisState at a valid genesis. No other condition. The reference's ValidGenesis. No condition. -/
import Derived.Test.YtengcmfdfmnacaaGreatPut
import Derived.Test.YtengcmfdfmnacaaGreatJn13
import Derived.WalkSpells
namespace Go.Proofs.YtengcmfdfmnacaaGreat
section
open Go.RowKit Go.Lib

def zCl : Array Value := (cellC ⟨0, 0, nm0, 0⟩).toArray
theorem cell_alloc0 (w : World) : (Instr.alloc 107 true (.tuple #[])).run Tryz.prog w = .ok (.pointer (some ⟨w.heap.size, 0, none⟩)) (w.alloc (.cells zCl 107)) := by kernel_rfl
theorem ltc_gen (g : GenS) : (genD g).Pairwise LtC := by
  unfold genD
  rw [List.pairwise_append]
  refine ⟨?_, ?_, ?_⟩
  · unfold balD
    rw [List.pairwise_map]
    exact List.Pairwise.imp (fun {a b} h => .inr ⟨rfl, by show (a : Int) < (b : Int); omega⟩) List.pairwise_lt_range
  · unfold stkD
    rw [List.pairwise_map]
    exact List.Pairwise.imp (fun {a b} h => .inr ⟨rfl, by show (a : Int) < (b : Int); omega⟩) List.pairwise_lt_range
  · intro a ha b hb
    unfold balD at ha
    unfold stkD at hb
    obtain ⟨i, -, rfl⟩ := List.mem_map.1 ha
    obtain ⟨j, -, rfl⟩ := List.mem_map.1 hb
    exact .inl (by show (1 : Int) < 3; decide)
theorem ltc_before {g : GenS} {k : Nat} {d : DelS} (h : (genD g)[k]? = some d) : ∀ y ∈ ((genD g).take k).filter nzD, LtC y d := by
  intro y hy
  have hy := (List.mem_filter.1 hy).1
  obtain ⟨i, hi⟩ := List.getElem?_of_mem hy
  rw [List.getElem?_take] at hi
  split at hi
  · rename_i hik
    obtain ⟨h1, e1⟩ := List.getElem?_eq_some_iff.1 hi
    obtain ⟨h2, e2⟩ := List.getElem?_eq_some_iff.1 h
    have := List.pairwise_iff_getElem.1 (ltc_gen g) i k h1 h2 hik
    rw [e1, e2] at this
    exact this
  · cases hi

set_option maxRecDepth 100000 in
set_option maxHeartbeats 2000000 in
theorem r20Balance_any (i : Int) (w : World) : Calls Tryz.prog 65 #[.int .i64 i] w fun e w' => e = .returned (.agg (cellC ⟨1, i, nm0, 0⟩).toArray) ∧ Upd NoF w w' := by
  rw [show (cellC ⟨1, i, nm0, 0⟩).toArray = (#[.int .i64 1, .int .i64 i, .int .u8 0, .int .u8 0, .int .u8 0, .int .u8 0, .int .u8 0, .int .u8 0, .int .u8 0, .int .u8 0] : Array Value) from rfl]
  have HCA := Lib.hid (show (#[.int .i64 1, .int .i64 i, .int .u8 0, .int .u8 0, .int .u8 0, .int .u8 0, .int .u8 0, .int .u8 0, .int .u8 0, .int .u8 0] : Array Value).all (·.oneCell') = true from by simp [Value.oneCell'])
  go_enter Tryz.func65, Tryz.ntmps65
  go_wp2_with (first
    | (refine wpList_alloc_row rfl 107 rfl zCl cell_alloc0 ?_; intro w1 hb1 hu1 hs1; have B1 := Lib.hid hb1; have U1 := Lib.hid hu1; clear hb1 hu1 hs1)
    | (refine wpList_build rfl 107 _ (by rfl) #[(0, .int .i64 1), (1, .int .i64 i)] (by rfl) (build_cell 1 i _) ?_)
    | (refine wpList_store_row rfl 107 (.tmp 2) (.tmp 4) rfl w.heap.size (by rfl) #[.int .i64 1, .int .i64 i, .int .u8 0, .int .u8 0, .int .u8 0, .int .u8 0, .int .u8 0, .int .u8 0, .int .u8 0, .int .u8 0] (by rfl) 107 _ B1.out (by rfl) cell_size HCA.out ?_; intro w3 hb3 hu3 hs3; have B3 := Lib.hid hb3; have U3 := Lib.hid (U1.out.trans hu3 (F := NoF) (fun j hj e => by have e : j = w.heap.size := e; omega)); clear hb3 hu3 hs3))
  refine bodyPost_ret (results_cell_row Tryz.results65 _ _ w.heap.size 107 _ (0, 0) _ rfl B3.out Tryz.underlying107 rfl cell_size) rfl ⟨rfl, U3.out⟩

set_option maxRecDepth 100000 in
set_option maxHeartbeats 2000000 in
theorem r20Stake_any (i : Int) (w : World) : Calls Tryz.prog 66 #[.int .i64 i] w fun e w' => e = .returned (.agg (cellC ⟨3, i, nm0, 0⟩).toArray) ∧ Upd NoF w w' := by
  rw [show (cellC ⟨3, i, nm0, 0⟩).toArray = (#[.int .i64 3, .int .i64 i, .int .u8 0, .int .u8 0, .int .u8 0, .int .u8 0, .int .u8 0, .int .u8 0, .int .u8 0, .int .u8 0] : Array Value) from rfl]
  have HCA := Lib.hid (show (#[.int .i64 3, .int .i64 i, .int .u8 0, .int .u8 0, .int .u8 0, .int .u8 0, .int .u8 0, .int .u8 0, .int .u8 0, .int .u8 0] : Array Value).all (·.oneCell') = true from by simp [Value.oneCell'])
  go_enter Tryz.func66, Tryz.ntmps66
  go_wp2_with (first
    | (refine wpList_alloc_row rfl 107 rfl zCl cell_alloc0 ?_; intro w1 hb1 hu1 hs1; have B1 := Lib.hid hb1; have U1 := Lib.hid hu1; clear hb1 hu1 hs1)
    | (refine wpList_build rfl 107 _ (by rfl) #[(0, .int .i64 3), (1, .int .i64 i)] (by rfl) (build_cell 3 i _) ?_)
    | (refine wpList_store_row rfl 107 (.tmp 2) (.tmp 4) rfl w.heap.size (by rfl) #[.int .i64 3, .int .i64 i, .int .u8 0, .int .u8 0, .int .u8 0, .int .u8 0, .int .u8 0, .int .u8 0, .int .u8 0, .int .u8 0] (by rfl) 107 _ B1.out (by rfl) cell_size HCA.out ?_; intro w3 hb3 hu3 hs3; have B3 := Lib.hid hb3; have U3 := Lib.hid (U1.out.trans hu3 (F := NoF) (fun j hj e => by have e : j = w.heap.size := e; omega)); clear hb3 hu3 hs3))
  refine bodyPost_ret (results_cell_row Tryz.results66 _ _ w.heap.size 107 _ (0, 0) _ rfl B3.out Tryz.underlying107 rfl cell_size) rfl ⟨rfl, U3.out⟩

theorem Put_step {g : GenS} {n k : Nat} {kd z am : Int} {w : World} {sa : Array Value} (hd : (genD g)[k]? = some ⟨kd, z, nm0, am⟩) (hF : ∀ d ∈ genD g, d.Fit) (hl : (genD g).length ≤ 1000) (hn : n ≤ 1000) (h : StR w n (((genD g).take k).filter nzD) sa) : Calls Tryz.prog 64 #[.agg sa, .agg (cellC ⟨kd, z, nm0, 0⟩).toArray, .int .i64 am] w fun e w' => ∃ sb, e = .returned (.agg sb) ∧ StN w.heap.size n (((genD g).take (k + 1)).filter nzD) sb w' ∧ Upd NoF w w' := by
  have hlen : (((genD g).take k).filter nzD).length ≤ 1000 := by
    have h1 := List.length_filter_le nzD ((genD g).take k)
    have h2 := List.length_take_le k (genD g)
    have h3 : ((genD g).take k).length ≤ (genD g).length := by rw [List.length_take]; omega
    omega
  have hfit : ∀ d ∈ ((genD g).take k).filter nzD, d.Fit := fun d hd => hF d (List.mem_of_mem_take (List.mem_filter.1 hd).1)
  have hlt : ∀ d ∈ ((genD g).take k).filter nzD, LtC d ⟨kd, z, nm0, 0⟩ := fun d hd' => ltc_before hd d hd'
  rw [filter_next hd]
  by_cases ham : am = 0
  · subst ham
    rw [show nzD ⟨kd, z, nm0, 0⟩ = false from by simp [nzD]]
    simpa using Put_zero (z := z) h hn hlen hfit hlt
  · rw [show nzD ⟨kd, z, nm0, am⟩ = true from by simp [nzD, ham]]
    exact Put_new h hn hlen hfit hlt (hF _ (List.mem_of_getElem? hd)) ham
theorem build_seqs (A : Option Addr) (n c : Nat) (w : World) : (Instr.build 34 #[(1, .slice A n c)]).run Tryz.prog w = .ok (.agg #[.slice none 0 0, .slice A n c, .slice none 0 0, .slice none 0 0, .int .i64 0]) w := by kernel_rfl
set_option maxRecDepth 100000 in
set_option maxHeartbeats 16000000 in
theorem r20GenesisState_ok {w : World} {A B C : Option Addr} {a b c : Nat} {g : GenS} (h : GenR w A B C a b c g) (hv : validG g = true) : Calls Tryz.prog 32 #[genV A B C a b c g] w fun e w' => ∃ sb, e = .returned (.agg sb) ∧ StN w.heap.size g.accs.length (genCells g) sb w' ∧ Upd NoF w w' := by
  obtain ⟨p1, p2, p3, p4, p5, p6, p7, p8, p9, p10⟩ := valid_parts hv
  have HBB := Lib.hid h.bals
  have HGF := Lib.hid (genD_fit (g := g) h.stake (fun z hz => h.bals.1 z hz) (by omega) (by omega))
  have HGL := Lib.hid (show (genD g).length ≤ 1000 from by rw [genD_len]; omega)
  have HALL := Lib.hid (show ((genD g).take (g.bals.length + g.vals.length)).filter nzD = genCells g from by rw [List.take_of_length_le (by rw [genD_len]; exact Nat.le_refl _)]; rfl)
  have HBAL := Lib.hid (fun k z (hk : g.bals[k]? = some z) => genD_bal (g := g) hk)
  have HSTK := Lib.hid (fun j (hj : j < g.vals.length) => genD_stk (g := g) hj)
  obtain ⟨GC, hGC⟩ : ∃ x, genCells g = x := ⟨_, rfl⟩
  rw [hGC] at HALL ⊢
  unfold genV
  obtain ⟨v, hvl⟩ : ∃ n, g.vals.length = n := ⟨_, rfl⟩
  obtain ⟨m, hml⟩ : ∃ n, g.accs.length = n := ⟨_, rfl⟩
  have hql : g.bals.length = m := by rw [p8, hml]
  obtain ⟨gn, hgn⟩ : ∃ x, g.n = x := ⟨_, rfl⟩
  obtain ⟨gs, hgs⟩ : ∃ x, g.stake = x := ⟨_, rfl⟩
  have HRB := Lib.hid (show InR w (.slice C m c) g.bals from by rw [← hql]; exact h.bals)
  rw [hvl, hml, hql, hgn, hgs]
  rw [hql] at HSTK HALL
  rw [hvl] at HSTK HALL
  rw [hgs] at HSTK
  have HQ := Lib.hid hql
  have hv10 : v ≤ 10 := by omega
  have hm16 : m ≤ 16 := by omega
  clear h hv p1 p2 p3 p4 p5 p6 p7 p8 p9 p10 hGC hvl hml hql hgn hgs HBB
  go_enter Tryz.func32, Tryz.ntmps32
  go_wp2_with (first
    | (refine wl_box rfl 25 (.tmp 0) rfl #[.int .i64 gn, .int .i64 gs, .slice A v a, .slice B m b, .slice C m c] (by rfl) ?_; intro v0 hb0 hu0 hs0; have B10 := Lib.hid hb0; have V0 := Lib.hid hu0; have S0 := Lib.hid hs0; clear hb0 hu0 hs0)
    | (with_reducible show wpList _ _ _ (Oper.mk (some 2) _ _ _ _ _ :: _) _ _; refine wpList_alloc_row rfl 34 rfl zSt st_alloc ?_; intro v1 hb1 hu1 hs1; have B21 := Lib.hid hb1; have B11 := Lib.hid (hu1.blk B10.out (fun f => f)); have V1 := Lib.hid (V0.out.trans hu1 (fun _ _ f => f)); have S1 := Lib.hid hs1; have y3 := B11.out.cell 3; clear hb1 hu1 hs1)
    | (refine wl_makeInts rfl (.tmp 8) m rfl (by rfl) (by omega) ?_; intro v2 ho2 hu2 hs2; have O2 := Lib.hid ho2; have B12 := Lib.hid (hu2.blk B11.out (fun f => f)); have B22 := Lib.hid (hu2.blk B21.out (fun f => f)); have V2 := Lib.hid (V1.out.trans hu2 (fun _ _ f => f)); have S2 := Lib.hid hs2; clear ho2 hu2 hs2)
    | (refine wpList_build rfl 34 _ (by rfl) #[(1, .slice (some ⟨v1.heap.size, 0, none⟩) m m)] (by rfl) (build_seqs _ _ _ _) ?_)
    | (with_reducible show wpList _ _ _ (Oper.mk (some 3) _ _ _ _ _ :: _) _ _; refine wpList_alloc_row rfl 34 rfl zSt st_alloc ?_; intro v3 hb3 hu3 hs3; have B33 := Lib.hid hb3; have B13 := Lib.hid (hu3.blk B12.out (fun f => f)); have B23 := Lib.hid (hu3.blk B22.out (fun f => f)); have O3 := Lib.hid (O2.out.upd hu3 (fun _ _ f => f)); have V3 := Lib.hid (V2.out.trans hu3 (fun _ _ f => f)); have S3 := Lib.hid hs3; clear hb3 hu3 hs3)
    | (refine wpList_store_row rfl 34 (.tmp 3) (.tmp 10) rfl v2.heap.size (by rfl) #[.slice none 0 0, .slice (some ⟨v1.heap.size, 0, none⟩) m m, .slice none 0 0, .slice none 0 0, .int .i64 0] (by rfl) 34 _ B33.out (by rfl) st_size (st_one _ _ _ _ _ _ _ _ _ _ _ _ _) ?_; intro v4 hb4 hu4 hs4; have B34 := Lib.hid hb4; have D4 := Lib.hid hu4; clear hb4 hu4 hs4))
  obtain ⟨X1, hX1⟩ : ∃ x, w.heap.size = x := ⟨_, rfl⟩
  obtain ⟨X2, hX2⟩ : ∃ x, v0.heap.size = x := ⟨_, rfl⟩
  obtain ⟨X3, hX3⟩ : ∃ x, v2.heap.size = x := ⟨_, rfl⟩
  have OX := Lib.hid (show X2 = X1 + 1 ∧ v1.heap.size = X1 + 2 ∧ X3 = X1 + 3 from by have := S0.out; have := S1.out; have := S2.out; omega)
  have HX1 := Lib.hid hX1
  have B14 := Lib.hid (D4.out.blk B13.out (fun e => by have e : w.heap.size = v2.heap.size := e; have := OX.out; omega))
  have B24 := Lib.hid (D4.out.blk B23.out (fun e => by have e : v0.heap.size = v2.heap.size := e; have := OX.out; omega))
  have O4 := Lib.hid (O3.out.upd D4.out (fun j hj f => by have f : j = v2.heap.size := f; have : v1.heap.size = j := (by simpa [OwnB, Value.ownBlock] using hj); have := OX.out; omega))
  have V4 := Lib.hid (show Upd NoF w v4 from V3.out.trans D4.out (fun j hj f => by have f : j = v2.heap.size := f; have := OX.out; omega))
  have N4 := Lib.hid (show StN (X1 + 2) m [] #[.slice none 0 0, .slice (some ⟨v1.heap.size, 0, none⟩) m m, .slice none 0 0, .slice none 0 0, .int .i64 0] v4 from ⟨none, 0, _, m, none, 0, none, 0, rfl, NwA.nil _ _ _ _, ⟨O4.out, fun j hj => by have : v1.heap.size = j := (by simpa [OwnB, Value.ownBlock] using hj); have := OX.out; omega⟩, by unfold maxLen; omega, by unfold maxLen; omega⟩)
  rw [hX1] at B14 ⊢
  rw [hX2] at B24 ⊢
  rw [hX3] at B34 ⊢
  generalize (#[.slice none 0 0, .slice (some ⟨v1.heap.size, 0, none⟩) m m, .slice none 0 0, .slice none 0 0, .int .i64 0] : Array Value) = sa0 at N4 B34
  clear hX1 hX2 hX3 B10 V0 S0 B21 B11 V1 S1 O2 B12 B22 V2 S2 B33 B13 B23 O3 V3 S3 D4 O4 y3
  go_loopg [4] m (fun kx s4 wr => ∃ (k : Nat) (sa : Array Value), s4 = .int .i64 (k : Int) ∧ k ≤ m ∧ m - k ≤ kx ∧ Hid (Blk wr X3 34 sa) ∧ Hid (StN (X1 + 2) m (((genD g).take k).filter nzD) sa wr) ∧ Hid (Blk wr X1 25 #[.int .i64 gn, .int .i64 gs, .slice A v a, .slice B m b, .slice C m c]) ∧ Hid (Blk wr X2 34 zSt) ∧ Hid (Upd NoF w wr))
  case atStart => exact ⟨0, sa0, rfl, by omega, by omega, B34, N4, B14, B24, V4⟩
  case round =>
    clear N4 B34 B14 B24 V4
    obtain ⟨k, sa, rfl, hk, hkx, B3, NS, B1, B2, HU⟩ := hrel
    have y4 := B1.out.cell 4
    by_cases hlt : k < m
    · have t1 : decide ((k : Int) < (m : Int)) = true := by simp; omega
      have HLT := Lib.hid (show (k : Int) < (m : Int) from by omega)
      obtain ⟨z, hz⟩ : ∃ y, g.bals[k]? = some y := ⟨_, List.getElem?_eq_getElem (by have := HQ.out; omega)⟩
      obtain ⟨g2, o2, rfl, hc⟩ := (HRB.out.keep HU.out).at_ hz
      obtain ⟨l2, hl2⟩ : ∃ x, ((genD g).take (k + 1)).filter nzD = x := ⟨_, rfl⟩
      have HL2 := Lib.hid hl2
      obtain ⟨ca, hca⟩ : ∃ x, (cellC ⟨1, (k : Int), nm0, 0⟩).toArray = x := ⟨_, rfl⟩
      have CCL := Lib.hid (fun W => show Calls Tryz.prog 65 #[.int .i64 (k : Int)] W (fun e w' => e = .returned (.agg ca) ∧ Upd NoF W w') from by rw [← hca]; exact r20Balance_any (k : Int) W)
      have CPT := Lib.hid (fun W (hu : Upd NoF wr.drew W) => show Calls Tryz.prog 64 #[.agg sa, .agg ca, .int .i64 z] W (fun e w' => ∃ sb, e = .returned (.agg sb) ∧ StN W.heap.size m l2 sb w' ∧ Upd NoF W w') from by rw [← hca, ← hl2]; exact Put_step (HBAL.out k z hz) HGF.out HGL.out (by omega) (NS.out.rd.keep ((Upd.refl NoF wr).drew.trans hu (fun _ _ f => f))))
      obtain ⟨S0, hS0⟩ : ∃ x, wr.drew.heap.size = x := ⟨_, rfl⟩
      have HSU := Lib.hid (fun w' (hu : Upd NoF wr.drew w') => show S0 ≤ w'.heap.size from by have := hu.size; rw [hS0] at this; exact this)
      have HXS := Lib.hid (show X3 < S0 from by have := B3.out.lt; have e : wr.heap.size = S0 := hS0; omega)
      have B3r := Lib.hid (show Blk wr.drew X3 34 sa from B3.out.drew)
      have NSr := Lib.hid (show StN (X1 + 2) m (((genD g).take k).filter nzD) sa wr from NS.out)
      have C4 := Lib.hid (show wr.drew.cell? ⟨X1, 4, none⟩ = some (.slice (some ⟨g2, o2, none⟩) m c) from B1.out.drew.cell 4)
      have Z0 := Lib.hid (show wr.drew.cell? ⟨g2, o2 + k, none⟩ = some (.int .i64 z) from hc)
      clear hz hc hl2 hca hS0
      go_wp2_with fail
      refine wp_region_rgl (rgR [isV (.agg sa), isV (.int .i64 (k : Int)), isV (.agg ca), isV (.pointer (some ⟨X1, 4, none⟩)), isV (.slice (some ⟨g2, o2, none⟩) m c), isV (.int .i64 (k : Int)), isV (.pointer (some ⟨g2, o2 + k, none⟩)), isV (.int .i64 z), StNv S0 m l2, anyV]) (StX X3) (LastSt wr.drew 9 (fun w => ∃ sz, Blk w X3 34 sz ∧ StN S0 m l2 sz w ∧ Upd (fun k => k = X3) wr.drew w)) (by kernel_rfl) (by kernel_rfl) (by kernel_rfl) (by rfl) (fun L w => StX.same) (rgR_keepL ⟨stbL_isV _, stbL_isV _, stbL_isV _, stbL_isV _, stbL_isV _, stbL_isV _, stbL_isV _, stbL_isV _, stbL_stn HXS.out, stbL_any, trivial⟩) (LastSt.start) ?_ ?_
      · refine ⟨?_, ?_, ?_, ?_, ?_, ?_, ?_, ?_, ?_, ?_, trivial⟩
        · refine fun ρ w' L hW hLi hcl hd hdep hext hc hg hf => ?_
          rw [if_pos (show wantedR _ _ _ = true from rfl)]
          have e3 : ρ (.tmp 3) = .pointer (some ⟨X3, 0, none⟩) := hext 3 (by kernel_rfl)
          clear hdep hext
          have hL9 : L 9 = false := by
            cases h : L 9 with
            | false => rfl
            | true => exact absurd (hcl 8 0 (hcl 9 8 h (by kernel_rfl)) (by kernel_rfl)) (by rw [hLi]; decide)
          refine od_load_row 34 (.tmp 3) rfl X3 0 e3 sa.toList _ (range_blk (by rw [Array.toArray_toList]; exact (hW.u hL9).blk B3r.out (fun f => f))) Tryz.underlying34 rfl (by rw [Array.length_toList, NSr.out.size]; exact st_size) ?_
          rw [show sa.toList.toArray = sa from by simp]
          exact ⟨rfl, StX.same, hW.same (by decide)⟩
        · refine fun ρ w' L hW hLi hcl hd hdep hext hc hg hf => ?_
          rw [if_pos (show wantedR _ _ _ = true from rfl)]
          have e4 : ρ (.tmp 4) = .int .i64 (k : Int) := hext 4 (by kernel_rfl)
          clear hdep hext
          have hL9 : L 9 = false := by
            cases h : L 9 with
            | false => rfl
            | true => exact absurd (hcl 2 1 (hcl 8 2 (hcl 9 8 h (by kernel_rfl)) (by kernel_rfl)) (by kernel_rfl)) (by rw [hLi]; decide)
          
          have HW := Lib.hid hW
          clear hW hcl hd hLi
          unfold OpDone
          go_simp
          exact ⟨rfl, StX.same, HW.out.same (by decide)⟩
        · refine fun ρ w' L hW hLi hcl hd hdep hext hc hg hf => ?_
          rw [if_pos (show wantedR _ _ _ = true from rfl)]
          have e19 : ρ (.tmp 19) = .int .i64 (k : Int) := hdep 1 _ rfl (by kernel_rfl)
          clear hdep hext
          have hL9 : L 9 = false := by
            cases h : L 9 with
            | false => rfl
            | true => exact absurd (hcl 8 2 (hcl 9 8 h (by kernel_rfl)) (by kernel_rfl)) (by rw [hLi]; decide)
          have CL := Lib.hid (CCL.out w')
          have HU := Lib.hid (hW.u hL9)
          have HW := Lib.hid hW
          have H9 := Lib.hid hL9
          clear hW hcl hd hLi hL9
          unfold OpDone
          go_simp
          refine CL.out.mono ?_
          rintro e w2 ⟨rfl, hu⟩
          exact ⟨_, rfl, rfl, StX.none hu, HW.out.step H9.out (by decide) hu⟩
        · refine fun ρ w' L hW hLi hcl hd hdep hext hc hg hf => ?_
          rw [if_pos (show wantedR _ _ _ = true from rfl)]
          have e1 : ρ (.tmp 1) = .pointer (some ⟨X1, 0, none⟩) := hext 1 (by kernel_rfl)
          clear hdep hext
          have hL9 : L 9 = false := by
            cases h : L 9 with
            | false => rfl
            | true => exact absurd (hcl 4 3 (hcl 6 4 (hcl 7 6 (hcl 8 7 (hcl 9 8 h (by kernel_rfl)) (by kernel_rfl)) (by kernel_rfl)) (by kernel_rfl)) (by kernel_rfl)) (by rw [hLi]; decide)
          
          have HW := Lib.hid hW
          clear hW hcl hd hLi
          unfold OpDone
          go_simp
          exact ⟨rfl, StX.same, HW.out.same (by decide)⟩
        · refine fun ρ w' L hW hLi hcl hd hdep hext hc hg hf => ?_
          rw [if_pos (show wantedR _ _ _ = true from rfl)]
          have e21 : ρ (.tmp 21) = .pointer (some ⟨X1, 4, none⟩) := hdep 3 _ rfl (by kernel_rfl)
          clear hdep hext
          have hL9 : L 9 = false := by
            cases h : L 9 with
            | false => rfl
            | true => exact absurd (hcl 6 4 (hcl 7 6 (hcl 8 7 (hcl 9 8 h (by kernel_rfl)) (by kernel_rfl)) (by kernel_rfl)) (by kernel_rfl)) (by rw [hLi]; decide)
          have q0 : w'.cell? ⟨X1, 4, none⟩ = some (.slice (some ⟨g2, o2, none⟩) m c) := (hW.u hL9).cell C4.out (fun f => f)
          have HW := Lib.hid hW
          clear hW hcl hd hLi
          unfold OpDone
          go_simp
          exact ⟨rfl, StX.same, HW.out.same (by decide)⟩
        · refine fun ρ w' L hW hLi hcl hd hdep hext hc hg hf => ?_
          rw [if_pos (show wantedR _ _ _ = true from rfl)]
          have e4 : ρ (.tmp 4) = .int .i64 (k : Int) := hext 4 (by kernel_rfl)
          clear hdep hext
          have hL9 : L 9 = false := by
            cases h : L 9 with
            | false => rfl
            | true => exact absurd (hcl 6 5 (hcl 7 6 (hcl 8 7 (hcl 9 8 h (by kernel_rfl)) (by kernel_rfl)) (by kernel_rfl)) (by kernel_rfl)) (by rw [hLi]; decide)
          
          have HW := Lib.hid hW
          clear hW hcl hd hLi
          unfold OpDone
          go_simp
          exact ⟨rfl, StX.same, HW.out.same (by decide)⟩
        · refine fun ρ w' L hW hLi hcl hd hdep hext hc hg hf => ?_
          rw [if_pos (show wantedR _ _ _ = true from rfl)]
          have e22 : ρ (.tmp 22) = .slice (some ⟨g2, o2, none⟩) m c := hdep 4 _ rfl (by kernel_rfl)
          have e23 : ρ (.tmp 23) = .int .i64 (k : Int) := hdep 5 _ rfl (by kernel_rfl)
          clear hdep hext
          have hL9 : L 9 = false := by
            cases h : L 9 with
            | false => rfl
            | true => exact absurd (hcl 7 6 (hcl 8 7 (hcl 9 8 h (by kernel_rfl)) (by kernel_rfl)) (by kernel_rfl)) (by rw [hLi]; decide)
          have q0 : (0 : Int) ≤ (k : Int) := by omega
          have q1 : (k : Int) < (m : Int) := HLT.out
          have q2 : k < m := by omega
          have q3 : ((k : Int)).toNat = k := by omega
          have HW := Lib.hid hW
          clear hW hcl hd hLi
          unfold OpDone
          go_simp
          exact ⟨rfl, StX.same, HW.out.same (by decide)⟩
        · refine fun ρ w' L hW hLi hcl hd hdep hext hc hg hf => ?_
          rw [if_pos (show wantedR _ _ _ = true from rfl)]
          have e24 : ρ (.tmp 24) = .pointer (some ⟨g2, o2 + k, none⟩) := hdep 6 _ rfl (by kernel_rfl)
          clear hdep hext
          have hL9 : L 9 = false := by
            cases h : L 9 with
            | false => rfl
            | true => exact absurd (hcl 8 7 (hcl 9 8 h (by kernel_rfl)) (by kernel_rfl)) (by rw [hLi]; decide)
          have q0 : w'.cell? ⟨g2, o2 + k, none⟩ = some (.int .i64 z) := (hW.u hL9).cell Z0.out (fun f => f)
          have HW := Lib.hid hW
          clear hW hcl hd hLi
          unfold OpDone
          go_simp
          exact ⟨rfl, StX.same, HW.out.same (by decide)⟩
        · refine fun ρ w' L hW hLi hcl hd hdep hext hc hg hf => ?_
          rw [if_pos (show wantedR _ _ _ = true from rfl)]
          have e18 : ρ (.tmp 18) = .agg sa := hdep 0 _ rfl (by kernel_rfl)
          have e20 : ρ (.tmp 20) = .agg ca := hdep 2 _ rfl (by kernel_rfl)
          have e25 : ρ (.tmp 25) = .int .i64 z := hdep 7 _ rfl (by kernel_rfl)
          clear hdep hext
          have hL9 : L 9 = false := by
            cases h : L 9 with
            | false => rfl
            | true => exact absurd (hcl 9 8 h (by kernel_rfl)) (by rw [hLi]; decide)
          have CL := Lib.hid (CPT.out w' (hW.u hL9))
          have HU := Lib.hid (hW.u hL9)
          have HW := Lib.hid hW
          have H9 := Lib.hid hL9
          clear hW hcl hd hLi hL9
          unfold OpDone
          go_simp
          refine CL.out.mono ?_
          rintro e w2 ⟨sb, rfl, hst, hu⟩
          exact ⟨_, rfl, ⟨sb, rfl, hst.low (HSU.out _ HU.out)⟩, StX.none hu, HW.out.step H9.out (by decide) hu⟩
        · refine fun ρ w' L hW hLi hcl hd hdep hext hc hg hf => ?_
          rw [if_pos (show wantedR _ _ _ = true from rfl)]
          have e3 : ρ (.tmp 3) = .pointer (some ⟨X3, 0, none⟩) := hext 3 (by kernel_rfl)
          have e26 : (StNv S0 m l2) (ρ (.tmp 26)) w' := hdep 8 _ rfl (by kernel_rfl)
          clear hdep hext
          have hL9 : L 9 = false := hLi
          obtain ⟨sz, e26, hst⟩ := e26
          refine od_store_row 34 (.tmp 3) (.tmp 26) rfl X3 e3 sz e26 34 sa ((hW.u hL9).blk B3r.out (fun f => f)) (by rw [hst.size, NSr.out.size]) (by rw [hst.size]; exact st_size) hst.one ?_
          intro w9 hb9 hu9 hs9
          exact ⟨trivial, hu9, LastSt.last ⟨sz, hb9, hst.keepX HXS.out hu9, (hW.u hL9).mono (fun _ _ f => f.elim) |>.trans hu9 (fun _ _ f => f)⟩⟩
      intro vs W9 L9 hL9 hW9 hR
      have hv0 : vs 0 = .agg sa := hR 0 _ rfl
      have hv1 : vs 1 = .int .i64 (k : Int) := hR 1 _ rfl
      have hv2 : vs 2 = .agg ca := hR 2 _ rfl
      have hv3 : vs 3 = .pointer (some ⟨X1, 4, none⟩) := hR 3 _ rfl
      have hv4 : vs 4 = .slice (some ⟨g2, o2, none⟩) m c := hR 4 _ rfl
      have hv5 : vs 5 = .int .i64 (k : Int) := hR 5 _ rfl
      have hv6 : vs 6 = .pointer (some ⟨g2, o2 + k, none⟩) := hR 6 _ rfl
      have hv7 : vs 7 = .int .i64 z := hR 7 _ rfl
      have hr8 : (StNv S0 m l2) (vs 8) W9 := hR 8 _ rfl
      obtain ⟨sz, hv8, -⟩ := hr8
      simp only [putAll, Act.put, List.setIfInBounds_toArray, List.set_cons_zero, List.set_cons_succ, hv0, hv1, hv2, hv3, hv4, hv5, hv6, hv7, hv8]
      clear hR hv0 hv1 hv2 hv3 hv4 hv5 hv6 hv7 hv8
      obtain ⟨sz, hb3, hst3, hu3⟩ := hW9.f (hL9 9 (by decide))
      have B39 := Lib.hid hb3
      have N9 := Lib.hid (hst3.low (show X1 + 2 ≤ S0 from by have := OX.out; have := HXS.out; omega))
      have D9 := Lib.hid hu3
      have B19 := Lib.hid (hu3.blk B1.out.drew (fun e => by have e : X1 = X3 := e; have := OX.out; omega))
      have B29 := Lib.hid (hu3.blk B2.out.drew (fun e => by have e : X2 = X3 := e; have := OX.out; omega))
      have U9 := Lib.hid (HU.out.drew.trans hu3 (fun j hj f => by have f : j = X3 := f; have := OX.out; have := HX1.out; omega))
      clear hW9 hb3 hst3 hu3 hL9
      go_wp2_with fail
      go_roundg (m - (k + 1))
      case measure => omega
      case rel => exact ⟨k + 1, sz, by first | rfl | go_num, by omega, by omega, B39, Lib.hid (by rw [HL2.out]; exact N9.out), B19, B29, U9⟩
    · obtain rfl : k = m := by omega
      have t1 : decide ((k : Int) < (k : Int)) = false := by simp
      go_wp2
      go_loopg [5] v (fun kx s5 wq => ∃ (j : Nat) (sa : Array Value), s5 = .int .i64 (j : Int) ∧ j ≤ v ∧ v - j ≤ kx ∧ Hid (Blk wq X3 34 sa) ∧ Hid (StN (X1 + 2) k (((genD g).take (k + j)).filter nzD) sa wq) ∧ Hid (Blk wq X1 25 #[.int .i64 gn, .int .i64 gs, .slice A v a, .slice B k b, .slice C k c]) ∧ Hid (Blk wq X2 34 zSt) ∧ Hid (Upd NoF w wq))
      case atStart => exact ⟨0, sa, rfl, by omega, by omega, B3, NS, B1, B2, HU⟩
      case round =>
        clear B3 NS B1 B2 HU y4
        obtain ⟨j, sa, rfl, hj, hjx, B3, NS, B1, B2, HU⟩ := hrel
        have y2 := B1.out.cell 2
        by_cases hlt : j < v
        · have t1 : decide ((j : Int) < (v : Int)) = true := by simp; omega
          obtain ⟨l2, hl2⟩ : ∃ x, ((genD g).take (k + j + 1)).filter nzD = x := ⟨_, rfl⟩
          have HL2 := Lib.hid (show ((genD g).take (k + (j + 1))).filter nzD = l2 from hl2)
          obtain ⟨ca, hca⟩ : ∃ x, (cellC ⟨3, (j : Int), nm0, 0⟩).toArray = x := ⟨_, rfl⟩
          have CCL := Lib.hid (fun W => show Calls Tryz.prog 66 #[.int .i64 (j : Int)] W (fun e w' => e = .returned (.agg ca) ∧ Upd NoF W w') from by rw [← hca]; exact r20Stake_any (j : Int) W)
          have CPT := Lib.hid (fun W (hu : Upd NoF wr.drew W) => show Calls Tryz.prog 64 #[.agg sa, .agg ca, .int .i64 gs] W (fun e w' => ∃ sb, e = .returned (.agg sb) ∧ StN W.heap.size k l2 sb w' ∧ Upd NoF W w') from by rw [← hca, ← hl2]; exact Put_step (HSTK.out j hlt) HGF.out HGL.out (by omega) (NS.out.rd.keep ((Upd.refl NoF wr).drew.trans hu (fun _ _ f => f))))
          obtain ⟨S0, hS0⟩ : ∃ x, wr.drew.heap.size = x := ⟨_, rfl⟩
          have HSU := Lib.hid (fun w' (hu : Upd NoF wr.drew w') => show S0 ≤ w'.heap.size from by have := hu.size; rw [hS0] at this; exact this)
          have HXS := Lib.hid (show X3 < S0 from by have := B3.out.lt; have e : wr.heap.size = S0 := hS0; omega)
          have B3r := Lib.hid (show Blk wr.drew X3 34 sa from B3.out.drew)
          have NSr := Lib.hid (show StN (X1 + 2) k (((genD g).take (k + j)).filter nzD) sa wr from NS.out)
          have C1 := Lib.hid (show wr.drew.cell? ⟨X1, 1, none⟩ = some (.int .i64 gs) from B1.out.drew.cell 1)
          clear hl2 hca hS0
          go_wp2_with fail
          refine wp_region_rgl (rgR [isV (.agg sa), isV (.int .i64 (j : Int)), isV (.agg ca), isV (.pointer (some ⟨X1, 1, none⟩)), isV (.int .i64 gs), StNv S0 k l2, anyV]) (StX X3) (LastSt wr.drew 6 (fun w => ∃ sz, Blk w X3 34 sz ∧ StN S0 k l2 sz w ∧ Upd (fun k => k = X3) wr.drew w)) (by kernel_rfl) (by kernel_rfl) (by kernel_rfl) (by rfl) (fun L w => StX.same) (rgR_keepL ⟨stbL_isV _, stbL_isV _, stbL_isV _, stbL_isV _, stbL_isV _, stbL_stn HXS.out, stbL_any, trivial⟩) (LastSt.start) ?_ ?_
          · refine ⟨?_, ?_, ?_, ?_, ?_, ?_, ?_, trivial⟩
            · refine fun ρ w' L hW hLi hcl hd hdep hext hc hg hf => ?_
              rw [if_pos (show wantedR _ _ _ = true from rfl)]
              have e3 : ρ (.tmp 3) = .pointer (some ⟨X3, 0, none⟩) := hext 3 (by kernel_rfl)
              clear hdep hext
              have hL9 : L 6 = false := by
                cases h : L 6 with
                | false => rfl
                | true => exact absurd (hcl 5 0 (hcl 6 5 h (by kernel_rfl)) (by kernel_rfl)) (by rw [hLi]; decide)
              refine od_load_row 34 (.tmp 3) rfl X3 0 e3 sa.toList _ (range_blk (by rw [Array.toArray_toList]; exact (hW.u hL9).blk B3r.out (fun f => f))) Tryz.underlying34 rfl (by rw [Array.length_toList, NSr.out.size]; exact st_size) ?_
              rw [show sa.toList.toArray = sa from by simp]
              exact ⟨rfl, StX.same, hW.same (by decide)⟩
            · refine fun ρ w' L hW hLi hcl hd hdep hext hc hg hf => ?_
              rw [if_pos (show wantedR _ _ _ = true from rfl)]
              have e5 : ρ (.tmp 5) = .int .i64 (j : Int) := hext 5 (by kernel_rfl)
              clear hdep hext
              have hL9 : L 6 = false := by
                cases h : L 6 with
                | false => rfl
                | true => exact absurd (hcl 2 1 (hcl 5 2 (hcl 6 5 h (by kernel_rfl)) (by kernel_rfl)) (by kernel_rfl)) (by rw [hLi]; decide)
              
              have HW := Lib.hid hW
              clear hW hcl hd hLi
              unfold OpDone
              go_simp
              exact ⟨rfl, StX.same, HW.out.same (by decide)⟩
            · refine fun ρ w' L hW hLi hcl hd hdep hext hc hg hf => ?_
              rw [if_pos (show wantedR _ _ _ = true from rfl)]
              have e35 : ρ (.tmp 35) = .int .i64 (j : Int) := hdep 1 _ rfl (by kernel_rfl)
              clear hdep hext
              have hL9 : L 6 = false := by
                cases h : L 6 with
                | false => rfl
                | true => exact absurd (hcl 5 2 (hcl 6 5 h (by kernel_rfl)) (by kernel_rfl)) (by rw [hLi]; decide)
              have CL := Lib.hid (CCL.out w')
              have HU := Lib.hid (hW.u hL9)
              have HW := Lib.hid hW
              have H9 := Lib.hid hL9
              clear hW hcl hd hLi hL9
              unfold OpDone
              go_simp
              refine CL.out.mono ?_
              rintro e w2 ⟨rfl, hu⟩
              exact ⟨_, rfl, rfl, StX.none hu, HW.out.step H9.out (by decide) hu⟩
            · refine fun ρ w' L hW hLi hcl hd hdep hext hc hg hf => ?_
              rw [if_pos (show wantedR _ _ _ = true from rfl)]
              have e1 : ρ (.tmp 1) = .pointer (some ⟨X1, 0, none⟩) := hext 1 (by kernel_rfl)
              clear hdep hext
              have hL9 : L 6 = false := by
                cases h : L 6 with
                | false => rfl
                | true => exact absurd (hcl 4 3 (hcl 5 4 (hcl 6 5 h (by kernel_rfl)) (by kernel_rfl)) (by kernel_rfl)) (by rw [hLi]; decide)
              
              have HW := Lib.hid hW
              clear hW hcl hd hLi
              unfold OpDone
              go_simp
              exact ⟨rfl, StX.same, HW.out.same (by decide)⟩
            · refine fun ρ w' L hW hLi hcl hd hdep hext hc hg hf => ?_
              rw [if_pos (show wantedR _ _ _ = true from rfl)]
              have e37 : ρ (.tmp 37) = .pointer (some ⟨X1, 1, none⟩) := hdep 3 _ rfl (by kernel_rfl)
              clear hdep hext
              have hL9 : L 6 = false := by
                cases h : L 6 with
                | false => rfl
                | true => exact absurd (hcl 5 4 (hcl 6 5 h (by kernel_rfl)) (by kernel_rfl)) (by rw [hLi]; decide)
              have q0 : w'.cell? ⟨X1, 1, none⟩ = some (.int .i64 gs) := (hW.u hL9).cell C1.out (fun f => f)
              have HW := Lib.hid hW
              clear hW hcl hd hLi
              unfold OpDone
              go_simp
              exact ⟨rfl, StX.same, HW.out.same (by decide)⟩
            · refine fun ρ w' L hW hLi hcl hd hdep hext hc hg hf => ?_
              rw [if_pos (show wantedR _ _ _ = true from rfl)]
              have e34 : ρ (.tmp 34) = .agg sa := hdep 0 _ rfl (by kernel_rfl)
              have e36 : ρ (.tmp 36) = .agg ca := hdep 2 _ rfl (by kernel_rfl)
              have e38 : ρ (.tmp 38) = .int .i64 gs := hdep 4 _ rfl (by kernel_rfl)
              clear hdep hext
              have hL9 : L 6 = false := by
                cases h : L 6 with
                | false => rfl
                | true => exact absurd (hcl 6 5 h (by kernel_rfl)) (by rw [hLi]; decide)
              have CL := Lib.hid (CPT.out w' (hW.u hL9))
              have HU := Lib.hid (hW.u hL9)
              have HW := Lib.hid hW
              have H9 := Lib.hid hL9
              clear hW hcl hd hLi hL9
              unfold OpDone
              go_simp
              refine CL.out.mono ?_
              rintro e w2 ⟨sb, rfl, hst, hu⟩
              exact ⟨_, rfl, ⟨sb, rfl, hst.low (HSU.out _ HU.out)⟩, StX.none hu, HW.out.step H9.out (by decide) hu⟩
            · refine fun ρ w' L hW hLi hcl hd hdep hext hc hg hf => ?_
              rw [if_pos (show wantedR _ _ _ = true from rfl)]
              have e3 : ρ (.tmp 3) = .pointer (some ⟨X3, 0, none⟩) := hext 3 (by kernel_rfl)
              have e39 : (StNv S0 k l2) (ρ (.tmp 39)) w' := hdep 5 _ rfl (by kernel_rfl)
              clear hdep hext
              have hL9 : L 6 = false := hLi
              obtain ⟨sz, e39, hst⟩ := e39
              refine od_store_row 34 (.tmp 3) (.tmp 39) rfl X3 e3 sz e39 34 sa ((hW.u hL9).blk B3r.out (fun f => f)) (by rw [hst.size, NSr.out.size]) (by rw [hst.size]; exact st_size) hst.one ?_
              intro w9 hb9 hu9 hs9
              exact ⟨trivial, hu9, LastSt.last ⟨sz, hb9, hst.keepX HXS.out hu9, (hW.u hL9).mono (fun _ _ f => f.elim) |>.trans hu9 (fun _ _ f => f)⟩⟩
          intro vs W9 L9 hL9 hW9 hR
          have hv0 : vs 0 = .agg sa := hR 0 _ rfl
          have hv1 : vs 1 = .int .i64 (j : Int) := hR 1 _ rfl
          have hv2 : vs 2 = .agg ca := hR 2 _ rfl
          have hv3 : vs 3 = .pointer (some ⟨X1, 1, none⟩) := hR 3 _ rfl
          have hv4 : vs 4 = .int .i64 gs := hR 4 _ rfl
          have hr5 : (StNv S0 k l2) (vs 5) W9 := hR 5 _ rfl
          obtain ⟨sz, hv5, -⟩ := hr5
          simp only [putAll, Act.put, List.setIfInBounds_toArray, List.set_cons_zero, List.set_cons_succ, hv0, hv1, hv2, hv3, hv4, hv5]
          clear hR hv0 hv1 hv2 hv3 hv4 hv5
          obtain ⟨sz, hb3, hst3, hu3⟩ := hW9.f (hL9 6 (by decide))
          have B39 := Lib.hid hb3
          have N9 := Lib.hid (hst3.low (show X1 + 2 ≤ S0 from by have := OX.out; have := HXS.out; omega))
          have B19 := Lib.hid (hu3.blk B1.out.drew (fun e => by have e : X1 = X3 := e; have := OX.out; omega))
          have B29 := Lib.hid (hu3.blk B2.out.drew (fun e => by have e : X2 = X3 := e; have := OX.out; omega))
          have U9 := Lib.hid (HU.out.drew.trans hu3 (fun j hj f => by have f : j = X3 := f; have := OX.out; have := HX1.out; omega))
          clear hW9 hb3 hst3 hu3 hL9
          go_wp2_with fail
          go_roundg (v - (j + 1))
          case measure => omega
          case rel => exact ⟨j + 1, sz, by first | rfl | go_num, by omega, by omega, B39, Lib.hid (by rw [HL2.out]; exact N9.out), B19, B29, U9⟩
        · obtain rfl : j = v := by omega
          have t1 : decide ((j : Int) < (j : Int)) = false := by simp
          rw [HALL.out] at NS
          go_wp2_with (first
            | (refine wl_load rfl 34 (.tmp 3) rfl X3 0 (by rfl) sa.toList _ (range_blk (by rw [Array.toArray_toList]; exact B3.out)) Tryz.underlying34 rfl (by rw [Array.length_toList, NS.out.size]; exact st_size) sa (by simp) ?_)
            | (refine wpList_store_row rfl 34 (.tmp 2) (.tmp 40) rfl X2 (by rfl) sa (by rfl) 34 _ B2.out (by rw [NS.out.size]; rfl) (by rw [NS.out.size]; exact st_size) NS.out.one ?_; intro w6 hb6 hu6 hs6; have B6 := Lib.hid hb6; have N6 := Lib.hid (NS.out.keepX (by have := OX.out; omega) hu6); have V6 := Lib.hid (HU.out.trans hu6 (F := NoF) (fun j hj e => by have e : j = X2 := e; have := OX.out; have := HX1.out; omega)); clear hb6 hu6 hs6))
          refine bodyPost_ret (results_cell_row Tryz.results32 _ _ X2 34 sa (0, 0) _ rfl B6.out Tryz.underlying34 rfl (by rw [st_size, NS.out.size])) rfl ⟨sa, rfl, N6.out.low (by have := HX1.out; omega), V6.out⟩
end

section
open Go.RowKit Go.Lib


set_option maxRecDepth 100000 in
set_option maxHeartbeats 4000000 in
theorem rvg_bad1 {w : World} {A B C : Option Addr} {a b c : Nat} {n s : Int} {v m q : Nat} (h1 : (decide (1 ≤ n) && decide (n ≤ 7)) = false)  : Calls Tryz.prog 63 #[.agg #[.int .i64 n, .int .i64 s, .slice A v a, .slice B m b, .slice C q c]] w fun e w' => e = .returned (.bool false) ∧ Upd NoF w w' := by
  have W1 := Lib.hid (fun W => show Calls Tryz.prog 95 #[.int .i64 n, .int .i64 1, .int .i64 7] W (fun e w' => e = .returned (.bool false) ∧ w' = W) from by have q := r20within_any n 1 7 W; rw [h1] at q; exact q)
  clear h1
  go_enter Tryz.func63, Tryz.ntmps63
  go_wp2_with (first
    | (refine wl_box rfl 25 (.tmp 0) rfl #[.int .i64 n, .int .i64 s, .slice A v a, .slice B m b, .slice C q c] (by rfl) ?_; intro v0 hb0 hu0 hs0; have BX := Lib.hid hb0; have V0 := Lib.hid hu0; have y0 := hb0.cell 0; have y1 := hb0.cell 1; have y2 := hb0.cell 2; have y3 := hb0.cell 3; have y4 := hb0.cell 4; clear hb0 hu0 hs0)
    | (with_reducible show Calls _ 95 #[.int .i64 n, .int .i64 1, .int .i64 7] _ _; refine (W1.out _).mono ?_; rintro e w1 ⟨rfl, rfl⟩))
  go_ret
  exact ⟨rfl, V0.out⟩

set_option maxRecDepth 100000 in
set_option maxHeartbeats 4000000 in
theorem rvg_bad2 {w : World} {A B C : Option Addr} {a b c : Nat} {n s : Int} {v m q : Nat} (h1 : (decide (1 ≤ n) && decide (n ≤ 7)) = true) (h2 : (decide (1 ≤ (v : Int)) && decide ((v : Int) ≤ 10)) = false)  : Calls Tryz.prog 63 #[.agg #[.int .i64 n, .int .i64 s, .slice A v a, .slice B m b, .slice C q c]] w fun e w' => e = .returned (.bool false) ∧ Upd NoF w w' := by
  have W1 := Lib.hid (fun W => show Calls Tryz.prog 95 #[.int .i64 n, .int .i64 1, .int .i64 7] W (fun e w' => e = .returned (.bool true) ∧ w' = W) from by have q := r20within_any n 1 7 W; rw [h1] at q; exact q)
  have W2 := Lib.hid (fun W => show Calls Tryz.prog 95 #[.int .i64 (v : Int), .int .i64 1, .int .i64 10] W (fun e w' => e = .returned (.bool false) ∧ w' = W) from by have q := r20within_any (v : Int) 1 10 W; rw [h2] at q; exact q)
  clear h1 h2
  go_enter Tryz.func63, Tryz.ntmps63
  go_wp2_with (first
    | (refine wl_box rfl 25 (.tmp 0) rfl #[.int .i64 n, .int .i64 s, .slice A v a, .slice B m b, .slice C q c] (by rfl) ?_; intro v0 hb0 hu0 hs0; have BX := Lib.hid hb0; have V0 := Lib.hid hu0; have y0 := hb0.cell 0; have y1 := hb0.cell 1; have y2 := hb0.cell 2; have y3 := hb0.cell 3; have y4 := hb0.cell 4; clear hb0 hu0 hs0)
    | (with_reducible show Calls _ 95 #[.int .i64 n, .int .i64 1, .int .i64 7] _ _; refine (W1.out _).mono ?_; rintro e w1 ⟨rfl, rfl⟩)
    | (with_reducible show Calls _ 95 #[.int .i64 (v : Int), .int .i64 1, .int .i64 10] _ _; refine (W2.out _).mono ?_; rintro e w2 ⟨rfl, rfl⟩))
  go_ret
  exact ⟨rfl, V0.out⟩

set_option maxRecDepth 100000 in
set_option maxHeartbeats 4000000 in
theorem rvg_bad3 {w : World} {A B C : Option Addr} {a b c : Nat} {n s : Int} {v m q : Nat} (h1 : (decide (1 ≤ n) && decide (n ≤ 7)) = true) (h2 : (decide (1 ≤ (v : Int)) && decide ((v : Int) ≤ 10)) = true) (h5 : (v : Int) < n) : Calls Tryz.prog 63 #[.agg #[.int .i64 n, .int .i64 s, .slice A v a, .slice B m b, .slice C q c]] w fun e w' => e = .returned (.bool false) ∧ Upd NoF w w' := by
  have W1 := Lib.hid (fun W => show Calls Tryz.prog 95 #[.int .i64 n, .int .i64 1, .int .i64 7] W (fun e w' => e = .returned (.bool true) ∧ w' = W) from by have q := r20within_any n 1 7 W; rw [h1] at q; exact q)
  have W2 := Lib.hid (fun W => show Calls Tryz.prog 95 #[.int .i64 (v : Int), .int .i64 1, .int .i64 10] W (fun e w' => e = .returned (.bool true) ∧ w' = W) from by have q := r20within_any (v : Int) 1 10 W; rw [h2] at q; exact q)
  have t5 : decide ((v : Int) < n) = true := decide_eq_true h5
  clear h1 h2
  go_enter Tryz.func63, Tryz.ntmps63
  go_wp2_with (first
    | (refine wl_box rfl 25 (.tmp 0) rfl #[.int .i64 n, .int .i64 s, .slice A v a, .slice B m b, .slice C q c] (by rfl) ?_; intro v0 hb0 hu0 hs0; have BX := Lib.hid hb0; have V0 := Lib.hid hu0; have y0 := hb0.cell 0; have y1 := hb0.cell 1; have y2 := hb0.cell 2; have y3 := hb0.cell 3; have y4 := hb0.cell 4; clear hb0 hu0 hs0)
    | (with_reducible show Calls _ 95 #[.int .i64 n, .int .i64 1, .int .i64 7] _ _; refine (W1.out _).mono ?_; rintro e w1 ⟨rfl, rfl⟩)
    | (with_reducible show Calls _ 95 #[.int .i64 (v : Int), .int .i64 1, .int .i64 10] _ _; refine (W2.out _).mono ?_; rintro e w2 ⟨rfl, rfl⟩))
  go_ret
  exact ⟨rfl, V0.out⟩

set_option maxRecDepth 100000 in
set_option maxHeartbeats 4000000 in
theorem rvg_bad4 {w : World} {A B C : Option Addr} {a b c : Nat} {n s : Int} {v m q : Nat} (h1 : (decide (1 ≤ n) && decide (n ≤ 7)) = true) (h2 : (decide (1 ≤ (v : Int)) && decide ((v : Int) ≤ 10)) = true) (h3 : (decide (1 ≤ (m : Int)) && decide ((m : Int) ≤ 16)) = false) (h5 : n ≤ (v : Int)) : Calls Tryz.prog 63 #[.agg #[.int .i64 n, .int .i64 s, .slice A v a, .slice B m b, .slice C q c]] w fun e w' => e = .returned (.bool false) ∧ Upd NoF w w' := by
  have W1 := Lib.hid (fun W => show Calls Tryz.prog 95 #[.int .i64 n, .int .i64 1, .int .i64 7] W (fun e w' => e = .returned (.bool true) ∧ w' = W) from by have q := r20within_any n 1 7 W; rw [h1] at q; exact q)
  have W2 := Lib.hid (fun W => show Calls Tryz.prog 95 #[.int .i64 (v : Int), .int .i64 1, .int .i64 10] W (fun e w' => e = .returned (.bool true) ∧ w' = W) from by have q := r20within_any (v : Int) 1 10 W; rw [h2] at q; exact q)
  have W3 := Lib.hid (fun W => show Calls Tryz.prog 95 #[.int .i64 (m : Int), .int .i64 1, .int .i64 16] W (fun e w' => e = .returned (.bool false) ∧ w' = W) from by have q := r20within_any (m : Int) 1 16 W; rw [h3] at q; exact q)
  have t5 : decide ((v : Int) < n) = false := decide_eq_false (by omega)
  have t5' : ¬ (v : Int) < n := by omega
  clear h1 h2 h3
  go_enter Tryz.func63, Tryz.ntmps63
  go_wp2_with (first
    | (refine wl_box rfl 25 (.tmp 0) rfl #[.int .i64 n, .int .i64 s, .slice A v a, .slice B m b, .slice C q c] (by rfl) ?_; intro v0 hb0 hu0 hs0; have BX := Lib.hid hb0; have V0 := Lib.hid hu0; have y0 := hb0.cell 0; have y1 := hb0.cell 1; have y2 := hb0.cell 2; have y3 := hb0.cell 3; have y4 := hb0.cell 4; clear hb0 hu0 hs0)
    | (with_reducible show Calls _ 95 #[.int .i64 n, .int .i64 1, .int .i64 7] _ _; refine (W1.out _).mono ?_; rintro e w1 ⟨rfl, rfl⟩)
    | (with_reducible show Calls _ 95 #[.int .i64 (v : Int), .int .i64 1, .int .i64 10] _ _; refine (W2.out _).mono ?_; rintro e w2 ⟨rfl, rfl⟩)
    | (with_reducible show Calls _ 95 #[.int .i64 (m : Int), .int .i64 1, .int .i64 16] _ _; refine (W3.out _).mono ?_; rintro e w3 ⟨rfl, rfl⟩))
  go_ret
  exact ⟨rfl, V0.out⟩

set_option maxRecDepth 100000 in
set_option maxHeartbeats 4000000 in
theorem rvg_bad5 {w : World} {A B C : Option Addr} {a b c : Nat} {n s : Int} {v m q : Nat} (h1 : (decide (1 ≤ n) && decide (n ≤ 7)) = true) (h2 : (decide (1 ≤ (v : Int)) && decide ((v : Int) ≤ 10)) = true) (h3 : (decide (1 ≤ (m : Int)) && decide ((m : Int) ≤ 16)) = true) (h5 : n ≤ (v : Int)) (h6 : q ≠ m) : Calls Tryz.prog 63 #[.agg #[.int .i64 n, .int .i64 s, .slice A v a, .slice B m b, .slice C q c]] w fun e w' => e = .returned (.bool false) ∧ Upd NoF w w' := by
  have W1 := Lib.hid (fun W => show Calls Tryz.prog 95 #[.int .i64 n, .int .i64 1, .int .i64 7] W (fun e w' => e = .returned (.bool true) ∧ w' = W) from by have q := r20within_any n 1 7 W; rw [h1] at q; exact q)
  have W2 := Lib.hid (fun W => show Calls Tryz.prog 95 #[.int .i64 (v : Int), .int .i64 1, .int .i64 10] W (fun e w' => e = .returned (.bool true) ∧ w' = W) from by have q := r20within_any (v : Int) 1 10 W; rw [h2] at q; exact q)
  have W3 := Lib.hid (fun W => show Calls Tryz.prog 95 #[.int .i64 (m : Int), .int .i64 1, .int .i64 16] W (fun e w' => e = .returned (.bool true) ∧ w' = W) from by have q := r20within_any (m : Int) 1 16 W; rw [h3] at q; exact q)
  have t5 : decide ((v : Int) < n) = false := decide_eq_false (by omega)
  have t5' : ¬ (v : Int) < n := by omega
  have t6 : decide ((q : Int) = (m : Int)) = false := decide_eq_false (by omega)
  have t6' : decide (q = m) = false := decide_eq_false h6
  have t6b : (q : Int) ≠ (m : Int) := by omega
  have t6c : decide ((q : Int) ≠ (m : Int)) = true := decide_eq_true t6b
  clear h1 h2 h3
  go_enter Tryz.func63, Tryz.ntmps63
  go_wp2_with (first
    | (refine wl_box rfl 25 (.tmp 0) rfl #[.int .i64 n, .int .i64 s, .slice A v a, .slice B m b, .slice C q c] (by rfl) ?_; intro v0 hb0 hu0 hs0; have BX := Lib.hid hb0; have V0 := Lib.hid hu0; have y0 := hb0.cell 0; have y1 := hb0.cell 1; have y2 := hb0.cell 2; have y3 := hb0.cell 3; have y4 := hb0.cell 4; clear hb0 hu0 hs0)
    | (with_reducible show Calls _ 95 #[.int .i64 n, .int .i64 1, .int .i64 7] _ _; refine (W1.out _).mono ?_; rintro e w1 ⟨rfl, rfl⟩)
    | (with_reducible show Calls _ 95 #[.int .i64 (v : Int), .int .i64 1, .int .i64 10] _ _; refine (W2.out _).mono ?_; rintro e w2 ⟨rfl, rfl⟩)
    | (with_reducible show Calls _ 95 #[.int .i64 (m : Int), .int .i64 1, .int .i64 16] _ _; refine (W3.out _).mono ?_; rintro e w3 ⟨rfl, rfl⟩))
  go_ret
  exact ⟨rfl, V0.out⟩

set_option maxRecDepth 100000 in
set_option maxHeartbeats 4000000 in
theorem rvg_bad6 {w : World} {A B C : Option Addr} {a b c : Nat} {n s : Int} {v m q : Nat} (h1 : (decide (1 ≤ n) && decide (n ≤ 7)) = true) (h2 : (decide (1 ≤ (v : Int)) && decide ((v : Int) ≤ 10)) = true) (h3 : (decide (1 ≤ (m : Int)) && decide ((m : Int) ≤ 16)) = true) (h4 : (decide (0 ≤ s) && decide (s ≤ 1099511627776)) = false) (h5 : n ≤ (v : Int)) (h6 : q = m) : Calls Tryz.prog 63 #[.agg #[.int .i64 n, .int .i64 s, .slice A v a, .slice B m b, .slice C q c]] w fun e w' => e = .returned (.bool false) ∧ Upd NoF w w' := by
  have W1 := Lib.hid (fun W => show Calls Tryz.prog 95 #[.int .i64 n, .int .i64 1, .int .i64 7] W (fun e w' => e = .returned (.bool true) ∧ w' = W) from by have q := r20within_any n 1 7 W; rw [h1] at q; exact q)
  have W2 := Lib.hid (fun W => show Calls Tryz.prog 95 #[.int .i64 (v : Int), .int .i64 1, .int .i64 10] W (fun e w' => e = .returned (.bool true) ∧ w' = W) from by have q := r20within_any (v : Int) 1 10 W; rw [h2] at q; exact q)
  have W3 := Lib.hid (fun W => show Calls Tryz.prog 95 #[.int .i64 (m : Int), .int .i64 1, .int .i64 16] W (fun e w' => e = .returned (.bool true) ∧ w' = W) from by have q := r20within_any (m : Int) 1 16 W; rw [h3] at q; exact q)
  have W4 := Lib.hid (fun W => show Calls Tryz.prog 95 #[.int .i64 s, .int .i64 0, .int .i64 1099511627776] W (fun e w' => e = .returned (.bool false) ∧ w' = W) from by have q := r20within_any s 0 1099511627776 W; rw [h4] at q; exact q)
  have t5 : decide ((v : Int) < n) = false := decide_eq_false (by omega)
  have t5' : ¬ (v : Int) < n := by omega
  subst h6
  have t6c : decide ((q : Int) ≠ (q : Int)) = false := by simp
  clear h1 h2 h3 h4
  go_enter Tryz.func63, Tryz.ntmps63
  go_wp2_with (first
    | (refine wl_box rfl 25 (.tmp 0) rfl #[.int .i64 n, .int .i64 s, .slice A v a, .slice B q b, .slice C q c] (by rfl) ?_; intro v0 hb0 hu0 hs0; have BX := Lib.hid hb0; have V0 := Lib.hid hu0; have y0 := hb0.cell 0; have y1 := hb0.cell 1; have y2 := hb0.cell 2; have y3 := hb0.cell 3; have y4 := hb0.cell 4; clear hb0 hu0 hs0)
    | (with_reducible show Calls _ 95 #[.int .i64 n, .int .i64 1, .int .i64 7] _ _; refine (W1.out _).mono ?_; rintro e w1 ⟨rfl, rfl⟩)
    | (with_reducible show Calls _ 95 #[.int .i64 (v : Int), .int .i64 1, .int .i64 10] _ _; refine (W2.out _).mono ?_; rintro e w2 ⟨rfl, rfl⟩)
    | (with_reducible show Calls _ 95 #[.int .i64 (q : Int), .int .i64 1, .int .i64 16] _ _; refine (W3.out _).mono ?_; rintro e w3 ⟨rfl, rfl⟩)
    | (with_reducible show Calls _ 95 #[.int .i64 s, .int .i64 0, .int .i64 1099511627776] _ _; refine (W4.out _).mono ?_; rintro e w4 ⟨rfl, rfl⟩))
  go_ret
  exact ⟨rfl, V0.out⟩

set_option maxRecDepth 100000 in
set_option maxHeartbeats 4000000 in
theorem rvg_loop {w : World} {A B C : Option Addr} {a b c : Nat} {n s : Int} {v q : Nat} {bl : List Int} (h1 : (decide (1 ≤ n) && decide (n ≤ 7)) = true) (h2 : (decide (1 ≤ (v : Int)) && decide ((v : Int) ≤ 10)) = true) (h3 : (decide (1 ≤ (q : Int)) && decide ((q : Int) ≤ 16)) = true) (h4 : (decide (0 ≤ s) && decide (s ≤ 1099511627776)) = true) (h5 : n ≤ (v : Int)) (hq : bl.length = q) (hq2 : q ≤ 1000000) (h : InR w (.slice C q c) bl) : Calls Tryz.prog 63 #[.agg #[.int .i64 n, .int .i64 s, .slice A v a, .slice B q b, .slice C q c]] w fun e w' => e = .returned (.bool (bl.all amtB)) ∧ Upd NoF w w' := by
  have W1 := Lib.hid (fun W => show Calls Tryz.prog 95 #[.int .i64 n, .int .i64 1, .int .i64 7] W (fun e w' => e = .returned (.bool true) ∧ w' = W) from by have q := r20within_any n 1 7 W; rw [h1] at q; exact q)
  have W2 := Lib.hid (fun W => show Calls Tryz.prog 95 #[.int .i64 (v : Int), .int .i64 1, .int .i64 10] W (fun e w' => e = .returned (.bool true) ∧ w' = W) from by have q := r20within_any (v : Int) 1 10 W; rw [h2] at q; exact q)
  have W3 := Lib.hid (fun W => show Calls Tryz.prog 95 #[.int .i64 (q : Int), .int .i64 1, .int .i64 16] W (fun e w' => e = .returned (.bool true) ∧ w' = W) from by have q := r20within_any (q : Int) 1 16 W; rw [h3] at q; exact q)
  have W4 := Lib.hid (fun W => show Calls Tryz.prog 95 #[.int .i64 s, .int .i64 0, .int .i64 1099511627776] W (fun e w' => e = .returned (.bool true) ∧ w' = W) from by have q := r20within_any s 0 1099511627776 W; rw [h4] at q; exact q)
  have t5 : decide ((v : Int) < n) = false := decide_eq_false (by omega)
  have t5' : ¬ (v : Int) < n := by omega
  have CW := Lib.hid (fun z W => show Calls Tryz.prog 95 #[.int .i64 z, .int .i64 0, .int .i64 1099511627776] W (fun e w' => e = .returned (.bool (amtB z)) ∧ w' = W) from r20within_any z 0 1099511627776 W)
  have HR := Lib.hid h
  have HQ := Lib.hid hq
  obtain ⟨rv, hrv⟩ : ∃ x, bl.all amtB = x := ⟨_, rfl⟩
  rw [hrv]
  have HPOS := Lib.hid (show (∀ z ∈ bl, amtB z = true) → rv = true from fun e => by rw [← hrv]; exact List.all_eq_true.2 e)
  have HNEG := Lib.hid (show ∀ z ∈ bl, amtB z = false → rv = false from fun z hz e => by rw [← hrv, List.all_eq_false]; exact ⟨z, hz, by rw [e]; decide⟩)
  clear h1 h2 h3 h4 h hq hrv
  go_enter Tryz.func63, Tryz.ntmps63
  go_wp2_with (first
    | (refine wl_box rfl 25 (.tmp 0) rfl #[.int .i64 n, .int .i64 s, .slice A v a, .slice B q b, .slice C q c] (by rfl) ?_; intro v0 hb0 hu0 hs0; have BX := Lib.hid hb0; have V0 := Lib.hid hu0; have y0 := hb0.cell 0; have y1 := hb0.cell 1; have y2 := hb0.cell 2; have y3 := hb0.cell 3; have y4 := hb0.cell 4; clear hb0 hu0 hs0)
    | (with_reducible show Calls _ 95 #[.int .i64 n, .int .i64 1, .int .i64 7] _ _; refine (W1.out _).mono ?_; rintro e w1 ⟨rfl, rfl⟩)
    | (with_reducible show Calls _ 95 #[.int .i64 (v : Int), .int .i64 1, .int .i64 10] _ _; refine (W2.out _).mono ?_; rintro e w2 ⟨rfl, rfl⟩)
    | (with_reducible show Calls _ 95 #[.int .i64 (q : Int), .int .i64 1, .int .i64 16] _ _; refine (W3.out _).mono ?_; rintro e w3 ⟨rfl, rfl⟩)
    | (with_reducible show Calls _ 95 #[.int .i64 s, .int .i64 0, .int .i64 1099511627776] _ _; refine (W4.out _).mono ?_; rintro e w4 ⟨rfl, rfl⟩))
  obtain ⟨X, hX⟩ : ∃ x, w.heap.size = x := ⟨_, rfl⟩
  rw [hX] at BX ⊢
  clear hX y0 y1 y2 y3 y4
  go_loopg [3] q (fun kx s3 wr => ∃ k : Nat, s3 = .int .i64 (k : Int) ∧ k ≤ q ∧ q - k ≤ kx ∧ Hid (Blk wr X 25 #[.int .i64 n, .int .i64 s, .slice A v a, .slice B q b, .slice C q c]) ∧ Hid (Upd NoF w wr) ∧ Hid (∀ (j : Nat) z, j < k → bl[j]? = some z → amtB z = true))
  case atStart => exact ⟨0, rfl, by omega, by omega, BX, V0, Lib.hid (fun j z hj => by omega)⟩
  case round =>
    clear BX V0
    obtain ⟨k, rfl, hk, hkx, BX, V0, HF⟩ := hrel
    have y4 := BX.out.cell 4
    by_cases hlt : k < q
    · have t1 : decide ((k : Int) < (q : Int)) = true := by simp; omega
      obtain ⟨z, hz⟩ : ∃ y, bl[k]? = some y := ⟨_, List.getElem?_eq_getElem (by rw [HQ.out]; exact hlt)⟩
      obtain ⟨g, o, rfl, hc⟩ := HR.out.at_ hz
      have yz := V0.out.cell hc (fun f => f)
      have q0 : (0 : Int) ≤ (k : Int) := by omega
      have q1 : (k : Int) < (q : Int) := by omega
      have q2 : k < q := hlt
      have q3 : ((k : Int)).toNat = k := by omega
      have CZ := Lib.hid (CW.out z)
      have HZK := Lib.hid hz
      cases hb : amtB z with
      | true =>
        rw [hb] at CZ
        have HB := Lib.hid hb
        clear hz hc hb
        go_wp2_with (first | (with_reducible show Calls _ 95 _ _ _; refine (CZ.out _).mono ?_; rintro e w9 ⟨rfl, rfl⟩))
        go_roundg (q - (k + 1))
        case measure => omega
        case rel =>
          refine ⟨k + 1, by first | rfl | go_num, by omega, by omega, BX, V0, Lib.hid (fun j y hj hy => ?_)⟩
          rcases Nat.lt_succ_iff_lt_or_eq.1 hj with h | rfl
          · exact HF.out j y h hy
          · rw [HZK.out] at hy; cases hy; exact HB.out
      | false =>
        rw [hb] at CZ
        have HE := Lib.hid (HNEG.out z (List.mem_of_getElem? hz) hb)
        clear hz hc hb
        go_wp2_with (first | (with_reducible show Calls _ 95 _ _ _; refine (CZ.out _).mono ?_; rintro e w9 ⟨rfl, rfl⟩))
        go_ret
        exact ⟨by rw [HE.out]; rfl, V0.out⟩
    · obtain rfl : k = q := by omega
      have t1 : decide ((k : Int) < (k : Int)) = false := by simp
      have HE := Lib.hid (HPOS.out (fun z hz => by obtain ⟨j, hj⟩ := List.mem_iff_getElem?.1 hz; exact HF.out j z (by rw [← HQ.out]; exact (List.getElem?_eq_some_iff.1 hj).1) hj))
      go_wp2
      go_ret
      exact ⟨by rw [HE.out]; rfl, V0.out⟩
theorem r20ValidGenesis_any {w : World} {A B C : Option Addr} {a b c : Nat} {g : GenS} (h : GenR w A B C a b c g) : Calls Tryz.prog 63 #[genV A B C a b c g] w fun e w' => e = .returned (.bool (validG g)) ∧ Upd NoF w w' := by
  unfold genV
  have hv : validG g = ((decide (1 ≤ g.n) && decide (g.n ≤ 7)) && (decide (1 ≤ (g.vals.length : Int)) && decide ((g.vals.length : Int) ≤ 10)) && decide (g.n ≤ (g.vals.length : Int)) && (decide (1 ≤ (g.accs.length : Int)) && decide ((g.accs.length : Int) ≤ 16)) && decide (g.bals.length = g.accs.length) && (decide (0 ≤ g.stake) && decide (g.stake ≤ 1099511627776)) && g.bals.all amtB) := by
    have e1 : decide (1 ≤ g.vals.length) = decide ((1 : Int) ≤ (g.vals.length : Int)) := by rw [decide_eq_decide]; omega
    have e2 : decide (g.vals.length ≤ 10) = decide ((g.vals.length : Int) ≤ (10 : Int)) := by rw [decide_eq_decide]; omega
    have e3 : decide (1 ≤ g.accs.length) = decide ((1 : Int) ≤ (g.accs.length : Int)) := by rw [decide_eq_decide]; omega
    have e4 : decide (g.accs.length ≤ 16) = decide ((g.accs.length : Int) ≤ (16 : Int)) := by rw [decide_eq_decide]; omega
    unfold validG
    rw [e1, e2, e3, e4, show amtB g.stake = (decide (0 ≤ g.stake) && decide (g.stake ≤ 1099511627776)) from rfl]
    simp only [Bool.and_assoc]
  rw [hv]
  cases h1 : (decide (1 ≤ g.n) && decide (g.n ≤ 7)) with
  | false => simpa using rvg_bad1 h1
  | true =>
  cases h2 : (decide (1 ≤ (g.vals.length : Int)) && decide ((g.vals.length : Int) ≤ 10)) with
  | false => simpa using rvg_bad2 h1 h2
  | true =>
  by_cases h5 : g.n ≤ (g.vals.length : Int)
  rotate_left
  · rw [decide_eq_false h5]
    simpa using rvg_bad3 h1 h2 (by omega)
  rw [decide_eq_true h5]
  cases h3 : (decide (1 ≤ (g.accs.length : Int)) && decide ((g.accs.length : Int) ≤ 16)) with
  | false => simpa using rvg_bad4 h1 h2 h3 h5
  | true =>
  by_cases h6 : g.bals.length = g.accs.length
  rotate_left
  · rw [decide_eq_false h6]
    simpa using rvg_bad5 h1 h2 h3 h5 h6
  rw [decide_eq_true h6]
  cases h4 : (decide (0 ≤ g.stake) && decide (g.stake ≤ 1099511627776)) with
  | false => simpa using rvg_bad6 h1 h2 h3 h4 h5 h6
  | true =>
  have q3 : g.accs.length ≤ 16 := by simp only [Bool.and_eq_true, decide_eq_true_eq] at h3; omega
  have := rvg_loop (w := w) (A := A) (B := B) (a := a) (b := b) h1 h2 (by rw [h6]; exact h3) h4 h5 rfl (by omega) h.bals
  rw [← h6]
  simpa using this
end
end Go.Proofs.YtengcmfdfmnacaaGreat
