/- state.Genesis of a valid genesis. No condition. Small functions of the reference: within, num, name. Conditions: sizes. block.EncodeGenesis. No condition. -/
import Derived.Test.YtengcmfdfmnacaaGreatJn14
import Derived.Test.YtengcmfdfmnacaaGreatJn10
import Derived.Test.YtengcmfdfmnacaaGreatJn4
import Derived.Test.YtengcmfdfmnacaaGreatJn5
import Derived.Test.YtengcmfdfmnacaaGreatJn8
import Derived.Test.YtengcmfdfmnacaaGreatJn6
namespace Go.Proofs.YtengcmfdfmnacaaGreat
section
open Go.RowKit Go.Lib

theorem run_make_ints (w : World) (n : Nat) (hn : n ≤ 1000000) : (Instr.makeSlice 23 (.int .i64 (n : Int)) (.int .i64 (n : Int))).run Tryz.prog w = .ok (.slice (some ⟨w.heap.size, 0, none⟩) n n) (w.alloc (.cells (List.replicate n (Value.int .i64 0)).toArray 3)) := by
  obtain ⟨i0, hi0, hz0, hz1, hz2⟩ := info_parts int_info
  have h := run_make (P := Tryz.prog) w 23 3 i0 _ Tryz.underlying23 hi0 hz0 .i64 .i64 n n (by omega) (by omega) (by rw [hz2]; omega) (by omega)
  rw [h, hz1]
  have : madeCells (Value.int .i64 0).cells ((n : Int).toNat * 1) = (List.replicate n (Value.int .i64 0)).toArray := by
    apply Array.ext
    · simp [size_madeCells]
    · intro i h1 h2
      simp [madeCells, Value.cells, Nat.mod_one]
  rw [this, Int.toNat_natCast]
theorem rd_row (w : World) {k z v : Int} (h : (⟨k, z, nm0, v⟩ : DelS).Fit) : Rd (w.alloc (.cells #[.int .i64 k, .int .i64 z, .int .u8 0, .int .u8 0, .int .u8 0, .int .u8 0, .int .u8 0, .int .u8 0, .int .u8 0, .int .u8 0, .int .i64 v] 109)) 11 (.slice (some ⟨w.heap.size, 0, none⟩) 1 1) 1 (rowD ⟨k, z, nm0, v⟩) :=
  Rd.of_blk (Blk.new w _ _) (by omega) (by unfold maxLen; omega) (by rw [rowD_len h]) (fun j y hy => by
    rw [Nat.zero_add]
    show (rowD ⟨k, z, nm0, v⟩).toArray[j]? = some y
    rw [List.getElem?_toArray]
    exact hy)
theorem valid_parts {g : GenS} (h : validG g = true) : 1 ≤ g.n ∧ g.n ≤ 7 ∧ 1 ≤ g.vals.length ∧ g.vals.length ≤ 10 ∧ g.n ≤ g.vals.length ∧ 1 ≤ g.accs.length ∧ g.accs.length ≤ 16 ∧ g.bals.length = g.accs.length ∧ amtB g.stake = true ∧ g.bals.all amtB = true := by
  unfold validG at h
  simpa only [Bool.and_eq_true, decide_eq_true_eq, and_assoc] using h
theorem st_alloc (w : World) : (Instr.alloc 34 true (.tuple #[])).run Tryz.prog w = .ok (.pointer (some ⟨w.heap.size, 0, none⟩)) (w.alloc (.cells zSt 34)) := by kernel_rfl
theorem gen_size : (Tryz.prog.info? 25).map (·.size) = some 5 := by kernel_rfl
theorem st_size : (Tryz.prog.info? 34).map (·.size) = some 5 := by kernel_rfl
theorem st_one (A1 A2 A3 A4 : Option Addr) (n1 c1 n2 c2 n3 c3 n4 c4 : Nat) (z : Int) : (#[.slice A1 n1 c1, .slice A2 n2 c2, .slice A3 n3 c3, .slice A4 n4 c4, .int .i64 z] : Array Value).all (·.oneCell') = true := by simp [Value.oneCell']
section
variable {ops : Array Oper} {rest : List Oper} {o : Oper} {a : Act} {w : World} {Q : Exit → Act → World → Prop}
theorem wl_makeInts (hw : Region.wanted o (yielded ops a.tmps) = true) (x : Operand) (n : Nat) (ho : o.op = .makeSlice 23 x x) (hx : a.eval x = .int .i64 (n : Int)) (hn : n ≤ 1000000)
    (hk : ∀ w', Own w' 3 1 (.slice (some ⟨w.heap.size, 0, none⟩) n n) n (List.replicate n (Value.int .i64 0)) → Upd NoF w w' → w'.heap.size = w.heap.size + 1 → wpList Tryz.prog ops Q rest (a.put o.dst (.slice (some ⟨w.heap.size, 0, none⟩) n n)) w') : wpList Tryz.prog ops Q (o :: rest) a w := by
  refine wl_run hw (v := .slice (some ⟨w.heap.size, 0, none⟩) n n) (w' := w.alloc (.cells (List.replicate n (Value.int .i64 0)).toArray 3)) ?_ (hk _ ⟨by simp, .inr ⟨_, n, _, rfl, Blk.new w _ _, Nat.le_refl _, by unfold maxLen; omega, by simp, by simp⟩⟩ ((Upd.refl NoF w).alloc _) (by simp))
  have := run_make_ints w n hn
  simp [execOp, ho, hx, this]
end
set_option maxRecDepth 100000 in
set_option maxHeartbeats 16000000 in
theorem stGenesis_ok {w : World} {A B C : Option Addr} {a b c : Nat} {g : GenS} (h : GenR w A B C a b c g) (hv : validG g = true) : Calls Tryz.prog 28 #[genV A B C a b c g] w fun e w' => ∃ A1 c1 A2 c2, e = .returned (.tuple #[.agg #[.slice A1 (genCells g).length c1, .slice A2 g.accs.length c2, .slice none 0 0, .slice none 0 0, .int .i64 0], .int .i64 0]) ∧ NwA w.heap.size 109 11 (genCells g).length (((genCells g).map rowD).flatten) A1 c1 w' ∧ NwA w.heap.size 3 1 g.accs.length (List.replicate g.accs.length (Value.int .i64 0)) A2 c2 w' ∧ Upd NoF w w' := by
  obtain ⟨i0, hi0, hz0, hz1, hz2⟩ := info_parts delta_info
  obtain ⟨p1, p2, p3, p4, p5, p6, p7, p8, p9, p10⟩ := valid_parts hv
  have CV := Lib.hid (fun W (hu : Upd NoF w W) => show Calls Tryz.prog 58 #[genV A B C a b c g] W (fun e w' => e = .returned (.int .i64 0) ∧ Upd NoF W w') from by have := stValidateGenesis_any (w := W) (h.keep hu); rw [hv] at this; exact this)
  have HFT := Lib.hid (genD_fit h.stake h.bals.1 (by omega) (by omega))
  have HBL := Lib.hid h.bals
  have HGL := Lib.hid (genD_len g)
  have HASC := Lib.hid (asc_gen g)
  obtain ⟨v, hvl⟩ : ∃ n, g.vals.length = n := ⟨_, rfl⟩
  obtain ⟨m, hml⟩ : ∃ n, g.accs.length = n := ⟨_, rfl⟩
  obtain ⟨q, hql⟩ : ∃ n, g.bals.length = n := ⟨_, rfl⟩
  rw [hvl] at p3 p4 p5
  rw [hml] at p6 p7 p8
  rw [hql] at p8
  have HV := Lib.hid hvl
  have HM := Lib.hid hml
  have HQ := Lib.hid hql
  have HB := Lib.hid (show v ≤ 10 ∧ m ≤ 16 ∧ q ≤ 16 ∧ 1 ≤ m from by omega)
  have hv10 := p4
  have hm16 := p7
  have hq16 : q ≤ 16 := by omega
  show Calls Tryz.prog 28 #[.agg #[.int .i64 g.n, .int .i64 g.stake, .slice A g.vals.length a, .slice B g.accs.length b, .slice C g.bals.length c]] w _
  rw [hvl, hml, hql]
  obtain ⟨LF, hLF⟩ : ∃ x, x = genCells g := ⟨_, rfl⟩
  have HLF := Lib.hid (show (genD g).filter nzD = LF from by rw [hLF]; rfl)
  rw [← hLF]
  clear hLF
  have CV := Lib.hid (show ∀ W, Upd NoF w W → Calls Tryz.prog 58 #[.agg #[.int .i64 g.n, .int .i64 g.stake, .slice A v a, .slice B m b, .slice C q c]] W (fun e w' => e = .returned (.int .i64 0) ∧ Upd NoF W w') from fun W hu => by have := CV.out W hu; unfold genV at this; rw [hvl, hml, hql] at this; exact this)
  clear h hv p1 p2 p3 p4 p5 p6 p7 p8 p9 p10 hvl hml hql
  go_enter Tryz.func28, Tryz.ntmps28
  go_wp2_with (first
    | (refine wl_box rfl 25 (.tmp 0) rfl #[.int .i64 g.n, .int .i64 g.stake, .slice A v a, .slice B m b, .slice C q c] (by rfl) ?_; intro v0 hb0 hu0 hs0; have BX := Lib.hid hb0; have V0 := Lib.hid hu0; have S0 := Lib.hid hs0; clear hb0 hu0 hs0)
    | (refine wpList_alloc_row rfl 34 rfl zSt st_alloc ?_; intro v1 hb1 hu1 hs1; have BR := Lib.hid hb1; have S1 := Lib.hid hs1; replace BX := Lib.hid (hu1.blk BX.out (fun f => f)); have V1 := Lib.hid (V0.out.trans hu1 (fun _ _ f => f)); clear hb1 hu1 hs1)
    | (refine wl_load rfl 25 (.tmp 1) rfl w.heap.size 0 (by rfl) (#[.int .i64 g.n, .int .i64 g.stake, .slice A v a, .slice B m b, .slice C q c] : Array Value).toList _ (range_blk BX.out) Tryz.underlying25 rfl gen_size _ rfl ?_)
    | (refine (CV.out _ V1.out).mono ?_; rintro e w1 ⟨rfl, hu1⟩; have U1 := Lib.hid hu1; have c1 : w1.cell? ⟨w.heap.size, 4, none⟩ = some (.slice C q c) := (hu1.blk BX.out (fun f => f)).cell 4; clear hu1))
  have HX1 := Lib.hid (U1.out.blk BX.out (fun f => f))
  have HZ1 := Lib.hid (U1.out.blk BR.out (fun f => f))
  have UA := Lib.hid (V1.out.trans U1.out (fun _ _ f => f))
  obtain ⟨X, hX⟩ : ∃ x, w.heap.size = x := ⟨_, rfl⟩
  have HSZ := Lib.hid (show X + 2 ≤ w1.heap.size from by have := U1.out.size; have := S1.out; have := S0.out; omega)
  obtain ⟨Y, hY⟩ : ∃ x, v0.heap.size = x := ⟨_, rfl⟩
  have HYX := Lib.hid (show Y = X + 1 from by have := S0.out; omega)
  rw [hX] at HX1 ⊢
  rw [hY] at HZ1 ⊢
  have HX := Lib.hid hX
  obtain ⟨S, hS⟩ : ∃ s, w1.heap.size = s := ⟨_, rfl⟩
  have HS1 := Lib.hid hS
  clear V0 V1 S0 S1 BX BR U1 CV c1 hX hY hS
  have N0 := Lib.hid (show NwA S 109 11 0 (genRows g 0) none 0 w1 from NwA.nil _ _ _ _)
  go_loopg [4, 15] q (fun kx s4 s15 wr => ∃ (k : Nat) (D : Option Addr) (cd : Nat), s15 = .int .i64 (k : Int) ∧ k ≤ q ∧ q - k ≤ kx ∧ s4 = .slice D k cd ∧ Hid (NwA S 109 11 k (genRows g k) D cd wr) ∧ Hid (Upd NoF w1 wr))
  case atStart => exact ⟨0, none, 0, rfl, by omega, by omega, rfl, N0, Lib.hid (Upd.refl _ _)⟩
  case round =>
    clear N0
    obtain ⟨k, D, cd, rfl, hkn, hkx, rfl, HN, HU⟩ := hrel
    by_cases hlt : k < q
    · have hltz : (k : Int) < (q : Int) := by omega
      obtain ⟨z, hz⟩ : ∃ z, g.bals[k]? = some z := ⟨_, List.getElem?_eq_getElem (by have := HQ.out; omega)⟩
      obtain ⟨gb, ob, hA, c0⟩ := (HBL.out.keep (UA.out.trans HU.out (fun _ _ f => f))) |> fun h => by rw [HQ.out] at h; exact h.at_ hz
      subst hA
      have HZZ := Lib.hid hz
      clear hz
      have HD := Lib.hid (genD_bal HZZ.out)
      have HFD := Lib.hid (HFT.out _ (List.mem_of_getElem? HD.out))
      have e1 : ((k : Int)).toNat = k := by omega
      have HB1 := Lib.hid (show k + 1 ≤ maxLen ∧ (k + 1) * 32 ≤ 140737488355328 from by unfold maxLen; omega)
      go_wp2_with (at_builtin; refine wpList_append_to _ rfl (.tmp 20) (.tmp 25) 31 rfl 109 i0 _ 11 32 Tryz.underlying31 hi0 hz0 hz1 hz2 (by kernel_rfl) (.slice D (k) cd) (k) (genRows g (k)) (by rfl) (HN.out.keep ((Upd.refl NoF wr).alloc _)).1 (.slice (some ⟨wr.heap.size, 0, none⟩) 1 1) 1 (rowD ⟨1, (k : Int), nm0, z⟩) (by rfl) (rd_row wr HFD.out) (rowD_one _) HB1.out.1 HB1.out.2 ?_; intro A6 c6 w6 hown hupd hnew; have N6 := Lib.hid (NwA.app HN.out ((Upd.refl NoF wr).alloc _) (by have := HU.out.size; have := HS1.out; omega) hown hupd hnew); clear hown hupd hnew)
      have NX := Lib.hid (show NwA S 109 11 ((k + 1)) (genRows g ((k + 1))) A6 c6 w6 from by rw [show (k + 1) = k + 1 by omega, genRows_next HD.out]; exact N6.out.1)
      have UX := Lib.hid (N6.out.2 (w := w1) (by have := HS1.out; omega) HU.out)
      go_roundg (q - (k + 1))
      case measure => omega
      case rel => exact ⟨k + 1, A6, c6, by first | rfl | go_num, by omega, by omega, by first | rfl | (congr 1; done), NX, UX⟩
    · have hltz : ¬ (k : Int) < (q : Int) := by omega
      obtain rfl : k = q := by omega
      have c2 : wr.cell? ⟨X, 2, none⟩ = some (.slice A v a) := (HU.out.blk HX1.out (fun f => f)).cell 2
      go_wp2
      go_loopg [4, 31] v (fun kx s4 s31 wr => ∃ (j : Nat) (D : Option Addr) (cd : Nat), s31 = .int .i64 (j : Int) ∧ j ≤ v ∧ v - j ≤ kx ∧ s4 = .slice D (k + j) cd ∧ Hid (NwA S 109 11 (k + j) (genRows g (k + j)) D cd wr) ∧ Hid (Upd NoF w1 wr))
      case atStart => exact ⟨0, D, cd, rfl, by omega, by omega, rfl, HN, HU⟩
      case round =>
        clear HN HU c2
        obtain ⟨j, D, cd, rfl, hjn, hjx, rfl, HN, HU⟩ := hrel
        by_cases hjt : j < v
        · have hltz : (j : Int) < (v : Int) := by omega
          have cs : wr.cell? ⟨X, 1, none⟩ = some (.int .i64 g.stake) := (HU.out.blk HX1.out (fun f => f)).cell 1
          have cs' : (wr.alloc (.cells (rowD ⟨3, (j : Int), nm0, g.stake⟩).toArray 109)).heap.size = wr.heap.size + 1 := by simp
          have HD := Lib.hid (show (genD g)[k + j]? = some ⟨3, (j : Int), nm0, g.stake⟩ from by have := genD_stk (g := g) (j := j) (by have := HV.out; omega); rw [HQ.out] at this; exact this)
          have HFD := Lib.hid (HFT.out _ (List.mem_of_getElem? HD.out))
          have e1 : ((j : Int)).toNat = j := by omega
          have HB1 := Lib.hid (show k + j + 1 ≤ maxLen ∧ (k + j + 1) * 32 ≤ 140737488355328 from by unfold maxLen; omega)
          obtain ⟨stk, hstk⟩ : ∃ z, g.stake = z := ⟨_, rfl⟩
          rw [hstk] at cs HD HFD
          clear cs' hstk
          go_wp2_with (at_builtin; refine wpList_append_to _ rfl (.tmp 34) (.tmp 40) 31 rfl 109 i0 _ 11 32 Tryz.underlying31 hi0 hz0 hz1 hz2 (by kernel_rfl) (.slice D (k + j) cd) (k + j) (genRows g (k + j)) (by rfl) (HN.out.keep ((Upd.refl NoF wr).alloc _)).1 (.slice (some ⟨wr.heap.size, 0, none⟩) 1 1) 1 (rowD ⟨3, (j : Int), nm0, stk⟩) (by rfl) (rd_row wr HFD.out) (rowD_one _) HB1.out.1 HB1.out.2 ?_; intro A6 c6 w6 hown hupd hnew; have N6 := Lib.hid (NwA.app HN.out ((Upd.refl NoF wr).alloc _) (by have := HU.out.size; have := HS1.out; omega) hown hupd hnew); clear hown hupd hnew)
          have NX := Lib.hid (show NwA S 109 11 (k + (j + 1)) (genRows g (k + (j + 1))) A6 c6 w6 from by rw [show k + (j + 1) = k + j + 1 by omega, genRows_next HD.out]; exact N6.out.1)
          have UX := Lib.hid (N6.out.2 (w := w1) (by have := HS1.out; omega) HU.out)
          go_roundg (v - (j + 1))
          case measure => omega
          case rel => exact ⟨j + 1, A6, c6, by first | rfl | go_num, by omega, by omega, by first | rfl | (congr 1; done), NX, UX⟩
        · have hltz : ¬ (j : Int) < (v : Int) := by omega
          obtain rfl : j = v := by omega
          have c3 : wr.cell? ⟨X, 3, none⟩ = some (.slice B m b) := (HU.out.blk HX1.out (fun f => f)).cell 3
          have HALL := Lib.hid (show genRows g (k + j) = ((genD g).map rowD).flatten from by unfold genRows; rw [List.take_of_length_le (by rw [HGL.out, HQ.out, HV.out]; exact Nat.le_refl _)])
          have HDL := Lib.hid (show (genD g).length = k + j from by rw [HGL.out, HQ.out, HV.out])
          have CA := Lib.hid (fun (W : World) (pa : Addr) (hz : InR W (.slice (some pa) m m) (List.replicate m 0)) (hd : DeR W (.slice D (k + j) cd) (genD g)) => stAdd_rising (w := W) (by simp) hz (by have := HB.out; omega) HDL.out hd (by have := HB.out; omega) HASC.out)
          go_wp2_with (first
            | (refine wl_makeInts rfl (.tmp 45) m rfl (by rfl) (by have := HB.out; omega) ?_; intro w3 ho3 hu3 hs3; have O3 := Lib.hid ho3; have U3 := Lib.hid hu3; clear ho3 hu3 hs3)
            | (refine (CA.out w3 _ ⟨fun z hz => by rw [(List.mem_replicate.1 hz).2]; omega, by have := O3.out.rd; simpa using this⟩ ⟨HFT.out, by have := (HN.out.keep U3.out).1.rd; rw [HALL.out] at this; rw [HDL.out]; exact this⟩).mono ?_; rintro e w4 ⟨A1, c1, A2, c2, he, hn1, hn2, hu4⟩; rw [HLF.out] at he hn1; obtain ⟨sa, hsa⟩ : ∃ x, (#[.slice A1 LF.length c1, .slice A2 m c2, .slice none 0 0, .slice none 0 0, .int .i64 0] : Array Value) = x := ⟨_, rfl⟩; rw [hsa] at he; subst he; have HSA := Lib.hid hsa; have N4 := Lib.hid hn1; have M4 := Lib.hid hn2; have U4 := Lib.hid (U3.out.trans hu4 (fun _ _ f => f)); have S4 := Lib.hid U3.out.size; clear hn1 hn2 hu4 hsa)
            | (refine wpList_store_row rfl 34 (.tmp 2) (.tmp 49) rfl Y (by rfl) sa (by rfl) 34 _ (U4.out.blk (HU.out.blk HZ1.out (fun f => f)) (fun f => f)) (by rw [← HSA.out]; rfl) (by rw [← HSA.out]; exact st_size) (by rw [← HSA.out]; exact st_one _ _ _ _ _ _ _ _ _ _ _ _ _) ?_; intro w5 hb5 hu5 hs5; have B5 := Lib.hid hb5; have U5 := Lib.hid hu5; clear hb5 hu5 hs5))
          have hwr := HU.out.size
          refine bodyPost_ret (results_cell_tmp Tryz.results28 _ _ Y sa.toList _ rfl (range_blk (by rw [Array.toArray_toList]; exact B5.out)) Tryz.underlying34 rfl (by rw [Array.length_toList, ← HSA.out]; exact st_size)) rfl ?_
          have nw : ∀ {e : TypeId} {s n : Nat} {xs : List Value} {A : Option Addr} {c : Nat}, NwA w3.heap.size e s n xs A c w4 → NwA w.heap.size e s n xs A c w5 := fun hN => ⟨hN.1.upd U5.out (fun j hj f => by have := hN.2 j hj; have f : j = Y := f; have := HYX.out; have := HSZ.out; have := S4.out; omega), fun j hj => by have := hN.2 j hj; have := HX.out; have := HSZ.out; have := S4.out; omega⟩
          refine ⟨A1, c1, A2, c2, by rw [HSA.out]; simp, nw N4.out, nw (by have := M4.out; rw [List.map_replicate] at this; exact this), ((UA.out.trans HU.out (fun _ _ f => f)).trans U4.out (fun _ _ f => f)).trans U5.out (fun j hj f => by have f : j = Y := f; have := HYX.out; have := HX.out; omega)⟩
end

section
open Go.RowKit

theorem r20within_any (v lo hi : Int) (w : World) : Calls Tryz.prog 95 #[.int .i64 v, .int .i64 lo, .int .i64 hi] w fun e w' => e = .returned (.bool (decide (lo ≤ v) && decide (v ≤ hi))) ∧ w' = w := by
  by_cases h1 : lo ≤ v
  · by_cases h2 : v ≤ hi
    · have t1 : decide (lo ≤ v) = true := by simpa using h1
      have t2 : decide (v ≤ hi) = true := by simpa using h2
      have E := Lib.hid (show (decide (lo ≤ v) && decide (v ≤ hi)) = true by rw [t1, t2]; rfl)
      generalize (decide (lo ≤ v) && decide (v ≤ hi)) = z at E ⊢
      go_enter Tryz.func95, Tryz.ntmps95
      go_wp2
      go_ret
      exact ⟨congrArg (fun z => Ending.returned (.bool z)) E.out.symm, rfl⟩
    · have t1 : decide (lo ≤ v) = true := by simpa using h1
      have t2 : decide (v ≤ hi) = false := by simpa using h2
      have E := Lib.hid (show (decide (lo ≤ v) && decide (v ≤ hi)) = false by rw [t1, t2]; rfl)
      generalize (decide (lo ≤ v) && decide (v ≤ hi)) = z at E ⊢
      go_enter Tryz.func95, Tryz.ntmps95
      go_wp2
      go_ret
      exact ⟨congrArg (fun z => Ending.returned (.bool z)) E.out.symm, rfl⟩
  · have t1 : decide (lo ≤ v) = false := by simpa using h1
    have E := Lib.hid (show (decide (lo ≤ v) && decide (v ≤ hi)) = false by rw [t1]; rfl)
    generalize (decide (lo ≤ v) && decide (v ≤ hi)) = z at E ⊢
    go_enter Tryz.func95, Tryz.ntmps95
    go_wp2
    go_ret
    exact ⟨congrArg (fun z => Ending.returned (.bool z)) E.out.symm, rfl⟩

set_option maxRecDepth 100000 in
set_option maxHeartbeats 2000000 in
theorem r20num_any {w : World} {b : Value} {bs : List UInt8} (h : Rd w 1 b bs.length (bs.map byteV)) (v : Int) (hv : 0 ≤ v) (hv2 : v ≤ 9223372036854775807) (n : Nat) (hn : n ≤ 8) (hm : bs.length + 8 ≤ 1099511627776) : Calls Tryz.prog 56 #[b, .int .i64 v, .int .i64 (n : Int)] w (BytesPost w (bs ++ beB v n)) := by
  have C := Lib.hid (r1AppendUint_any h v hv n hn hm)
  have hw : IntKind.u64.wrap v = v := by
    obtain ⟨k, rfl⟩ : ∃ k : Nat, v = (k : Int) := ⟨v.toNat, by omega⟩
    exact wrap_u64_nat _ (by omega)
  obtain ⟨R, hR⟩ : ∃ x, x = bs ++ beB v n := ⟨_, rfl⟩
  rw [← hR] at C ⊢
  clear h hm hR
  go_enter Tryz.func56, Tryz.ntmps56
  go_wp2_with fail
  refine C.out.mono ?_
  rintro e w' ⟨A, c, rfl, hN⟩
  have HN := Lib.hid hN
  clear hN
  go_wp2
  go_ret
  exact ⟨A, c, rfl, HN.out⟩

theorem eight0 {bs : List UInt8} (h : bs.length = 8) : ∃ b0 b1 b2 b3 b4 b5 b6 b7, bs = [b0, b1, b2, b3, b4, b5, b6, b7] := by
  match bs, h with
  | [b0, b1, b2, b3, b4, b5, b6, b7], _ => exact ⟨_, _, _, _, _, _, _, _, rfl⟩
set_option maxRecDepth 100000 in
set_option maxHeartbeats 4000000 in
theorem r20name_any {w : World} {b : Value} {bs n : List UInt8} (h : Rd w 1 b bs.length (bs.map byteV)) (hn : n.length = 8) (hm : bs.length + 8 ≤ 1099511627776) : Calls Tryz.prog 57 #[b, nameV n] w (BytesPost w (bs ++ n)) := by
  obtain ⟨b0, b1, b2, b3, b4, b5, b6, b7, rfl⟩ := eight0 hn
  obtain ⟨A, c, rfl, hlc, hcm, _⟩ := id h
  obtain ⟨i1, hi1, hy0, hy1, hy2⟩ := info_parts byte_info
  obtain ⟨W0, hW0⟩ : ∃ x, x = w.alloc (.cells #[byteV b0, byteV b1, byteV b2, byteV b3, byteV b4, byteV b5, byteV b6, byteV b7] 28) := ⟨_, rfl⟩
  have BN := Lib.hid (show Blk W0 w.heap.size 28 #[byteV b0, byteV b1, byteV b2, byteV b3, byteV b4, byteV b5, byteV b6, byteV b7] from by rw [hW0]; exact Blk.new _ _ _)
  have UW := Lib.hid (show Upd NoF w W0 from by rw [hW0]; exact (Upd.refl _ _).alloc _)
  have HR := Lib.hid (h.keep UW.out)
  have SZ := Lib.hid (show W0.heap.size = w.heap.size + 1 from by rw [hW0]; simp)
  have LB := Lib.hid (show bs.length ≤ maxLen ∧ bs.length * 1 ≤ 140737488355328 from by unfold maxLen; omega)
  have LC := Lib.hid (show bs.length + 8 ≤ maxLen ∧ (bs.length + 8) * 1 ≤ 140737488355328 from by unfold maxLen; omega)
  clear h hm hlc hcm
  go_enter Tryz.func57, Tryz.ntmps57
  go_wp2_with fail
  rw [← hW0]
  have N0 := Lib.hid ((NewR.fresh W0 5 1).keep ((Upd.refl NoF _).drew))
  have UD := Lib.hid (show Upd NoF W0 ((W0.alloc (.cells #[] 5)).drew) from ((Upd.refl NoF W0).alloc _).drew)
  clear hW0
  have OB := Lib.hid (bytes_oneCell bs)
  have KF := Lib.hid (fun w1 (hu : Upd NoF W0 w1) => Rd.of_blk (n := 8) (c := 8) (o := 0) (size := 1) (xs := [byteV b0, byteV b1, byteV b2, byteV b3, byteV b4, byteV b5, byteV b6, byteV b7]) (hu.blk BN.out (fun f => f)) (by omega) (by unfold maxLen; omega) rfl (fun j u hu => by rw [Nat.zero_add, List.getElem?_toArray]; exact hu))
  go_region_law
    (first
      | (refine step_append_new _ (by rfl) (.tmp 5) (.tmp 6) _ (by rfl) 5 i1 _ 1 1 Tryz.underlying52 hi1 hy0 hy1 hy2 rfl (.slice (some ⟨W0.heap.size, 0, none⟩) 0 0) (by rfl) (by exact N0.out.1) (.slice A bs.length c) bs.length (bs.map byteV) (by rfl) (by exact HR.out.keep UD.out) OB.out LB.out.1 LB.out.2 ?_; intro A5 c5 w5 hown hupd hnew; have N5 := Lib.hid (NewR.app0 N0.out hown hupd hnew); clear hown hupd hnew)
      | (refine step_append_to _ (by rfl) (.tmp 7) (.tmp 8) _ (by rfl) 5 i1 _ 1 1 Tryz.underlying52 hi1 hy0 hy1 hy2 rfl (.slice A5 bs.length c5) bs.length (bs.map byteV) (by rfl) N5.out.1 (.slice (some ⟨w.heap.size, 0, none⟩) 8 8) 8 [byteV b0, byteV b1, byteV b2, byteV b3, byteV b4, byteV b5, byteV b6, byteV b7] (by rfl) (KF.out _ N5.out.2.2) (by simp [byteV, Value.oneCell']) LC.out.1 LC.out.2 ?_; intro A6 c6 w6 hown hupd hnew; have N6 := Lib.hid (NewR.app N5.out hown hupd hnew); clear hown hupd hnew))
  all_goals
    go_wp2
    go_ret
    have hN := N6.out.from_ UW.out
    refine ⟨A6, c6, by rw [List.length_append]; rfl, ?_⟩
    unfold NewO
    rw [List.length_append, List.map_append]
    exact hN
end

section
open Go.RowKit Go.Lib

/-- Op b writes only blocks of F; the others turn nothing. -/
structure ApPh (w0 : World) (F : Nat → Prop) (b : Nat) (L : Nat → Bool) (w : World) : Prop where
  u0 : L b = false → Upd NoF w0 w
  u1 : Upd F w0 w
def ApSt (F : Nat → Prop) (b : Nat) (L : Nat → Bool) (w w' : World) : Prop := Upd F w w' ∧ (L b = true → Upd NoF w w')
section
variable {w0 w w' : World} {F : Nat → Prop} {b i : Nat} {L : Nat → Bool}
theorem ApSt.same : ApSt F b L w w := ⟨Upd.refl _ _, fun _ => Upd.refl _ _⟩
theorem ApSt.none (h : Upd NoF w w') : ApSt F b L w w' := ⟨h.mono (fun _ _ f => f.elim), fun _ => h⟩
theorem ApSt.app (hl : L b = false) (h : Upd F w w') : ApSt F b L w w' := ⟨h, fun e => by rw [hl] at e; cases e⟩
theorem ApPh.start : ApPh w0 F b (fun _ => false) w0 := ⟨fun _ => Upd.refl _ _, Upd.refl _ _⟩
theorem ApPh.same (h : ApPh w0 F b L w) (hb : (b == i) = false) : ApPh w0 F b (fun j => j == i || L j) w := ⟨fun e => h.u0 (by simpa [hb] using e), h.u1⟩
theorem ApPh.app (h : ApPh w0 F b L w) (hu : Upd F w w') : ApPh w0 F b (fun j => j == b || L j) w' := ⟨fun e => by simp at e, h.u1.trans hu (fun _ _ f => f)⟩
theorem ApPh.step (h : ApPh w0 F b L w) (hl : L b = true) (_ : (b == i) = false) (hu : Upd NoF w w') : ApPh w0 F b (fun j => j == i || L j) w' := ⟨fun e => by simp [hl] at e, h.u1.trans hu (fun _ _ f => f.elim)⟩
end
/-- What was appended reads so now. -/
def ApR (bs nm : List UInt8) (v : Value) (w : World) : Prop := ∃ A c, v = .slice A (bs.length + 8) c ∧ Rd w 1 (.slice A (bs.length + 8) c) (bs.length + 8) ((bs ++ nm).map byteV)
def ApN (S0 : Nat) (l : List UInt8) (v : Value) (w : World) : Prop := ∃ A c, v = .slice A l.length c ∧ NwA S0 5 1 l.length (l.map byteV) A c w
theorem stbL_apr {F : Nat → Prop} {bs nm : List UInt8} : StbL (ApSt F 2) 2 (ApR bs nm) := fun _ _ _ _ hl ⟨A, c, e, h⟩ hs => ⟨A, c, e, h.keep (hs.2 hl)⟩
theorem stbL_apn {F : Nat → Prop} {S0 i : Nat} {l : List UInt8} (hF : ∀ k, F k → k < S0) : StbL (ApSt F 2) i (ApN S0 l) := fun _ _ _ _ _ ⟨A, c, e, h⟩ hs => ⟨A, c, e, ⟨h.1.upd hs.1 (fun k hk f => by have := h.2 k hk; have := hF k f; omega), h.2⟩⟩
theorem rd_arr {w : World} {g : Nat} {T : TypeId} {n : List UInt8} (hn : n.length = 8) {za : Array Value} (hz : (n.map byteV).toArray = za) (hb : Blk w g T za) : Rd w 1 (.slice (some ⟨g, 0, none⟩) 8 8) 8 (n.map byteV) :=
  Rd.of_blk hb (Nat.le_refl _) (by unfold maxLen; omega) (by simp [hn]) (fun j u hu => by rw [← hz, List.getElem?_toArray, Nat.zero_add]; exact hu)
theorem NwA.appM {S0 : Nat} {e : TypeId} {size n mm : Nat} {xs ys : List Value} {A A' : Option Addr} {c c' : Nat} {wr w5 w6 : World} (h : NwA S0 e size n xs A c wr) (hu0 : Upd NoF wr w5) (hS : S0 ≤ wr.heap.size) (ho : Own w6 e size (.slice A' (n + mm) c') (n + mm) (xs ++ ys)) (hu : Upd (OwnB (.slice A n c)) w5 w6) (hn : ∀ k, OwnB (.slice A' (n + mm) c') k → OwnB (.slice A n c) k ∨ w5.heap.size ≤ k) : NwA S0 e size (n + mm) (xs ++ ys) A' c' w6 ∧ ∀ {w : World}, (∀ k, S0 ≤ k → k < w.heap.size → False) → Upd NoF w wr → Upd NoF w w6 := by
  have h5 := hu0.size
  refine ⟨⟨ho, fun k hk => ?_⟩, fun hw hu1 => (hu1.trans hu0 (fun _ _ f => f)).trans hu (fun k hk f => hw k (h.2 k f) hk)⟩
  rcases hn k hk with f | f
  · exact h.2 k f
  · omega
theorem u8_small {n : Int} (h0 : 0 ≤ n) (h1 : n < 256) : IntKind.u8.wrap n = ((byteAt n 0).toNat : Int) := by
  obtain ⟨k, rfl⟩ : ∃ k : Nat, n = (k : Int) := ⟨n.toNat, by omega⟩
  have hk : k < 256 := by omega
  have e : (byteAt (k : Int) 0).toNat = k := by
    unfold byteAt
    rw [Nat.mul_zero, Int.pow_zero, Int.ediv_one]
    rw [show ((k : Int) % 256).toNat = k from by omega]
    rw [UInt8.toNat_ofNat']
    exact Nat.mod_eq_of_lt hk
  rw [e]
  simp [IntKind.wrap, IntKind.bits, IntKind.signed]
  omega
theorem pre_len (n s : Int) (v : Nat) : ([1, byteAt n 0] ++ beB s 6 ++ [byteAt v 0]).length = 9 := by simp [beB_len]
/-- What has been written behind k validators, behind k accounts. -/
def egV (g : GenS) (k : Nat) : List UInt8 := [1, byteAt g.n 0] ++ beB g.stake 6 ++ [byteAt g.vals.length 0] ++ (g.vals.take k).flatten
def egA (g : GenS) (k : Nat) : List UInt8 := egV g g.vals.length ++ [byteAt g.accs.length 0] ++ encAccs (g.accs.take k) (g.bals.take k)
theorem flat8_len : ∀ {l : List (List UInt8)}, All8 l → l.flatten.length = 8 * l.length
  | [], _ => rfl
  | x :: l, h => by
    rw [List.flatten_cons, List.length_append, h x List.mem_cons_self, flat8_len (fun y hy => h y (List.mem_cons_of_mem _ hy)), List.length_cons]
    omega
theorem egV_next {g : GenS} {k : Nat} {x : List UInt8} (h : g.vals[k]? = some x) : egV g (k + 1) = egV g k ++ x := by
  obtain ⟨hlt, rfl⟩ := List.getElem?_eq_some_iff.1 h
  unfold egV
  rw [List.take_succ_eq_append_getElem hlt, List.flatten_append]
  simp
theorem egA_next {g : GenS} {k : Nat} {x : List UInt8} {z : Int} (h : g.accs[k]? = some x) (hz : g.bals[k]? = some z) : egA g (k + 1) = egA g k ++ x ++ beB z 6 := by
  obtain ⟨hlt, rfl⟩ := List.getElem?_eq_some_iff.1 h
  obtain ⟨hlt2, rfl⟩ := List.getElem?_eq_some_iff.1 hz
  unfold egA encAccs
  rw [List.take_succ_eq_append_getElem hlt, List.take_succ_eq_append_getElem hlt2, List.zipWith_append (by rw [List.length_take, List.length_take]; omega), List.flatten_append]
  simp
theorem egA_all {g : GenS} (h : g.bals.length = g.accs.length) : egA g g.accs.length = encG g := by
  unfold egA egV encG encVals
  rw [List.take_of_length_le (Nat.le_refl _), List.take_of_length_le (Nat.le_refl _), List.take_of_length_le (Nat.le_of_eq h)]
theorem egV_len {g : GenS} (h : All8 g.vals) (k : Nat) (hk : k ≤ 10) : (egV g k).length ≤ 100 := by
  have h1 := flat8_len (l := g.vals.take k) (fun y hy => h y (List.mem_of_mem_take hy))
  have h2 : (g.vals.take k).length ≤ k := List.length_take_le _ _
  unfold egV
  rw [List.length_append, pre_len, h1]
  omega
theorem accs_len : ∀ {l : List (List UInt8)} {b : List Int}, All8 l → (encAccs l b).length ≤ 14 * l.length
  | [], _, _ => by simp [encAccs]
  | x :: l, [], _ => by simp [encAccs]
  | x :: l, z :: b, h => by
    have := accs_len (l := l) (b := b) (fun y hy => h y (List.mem_cons_of_mem _ hy))
    unfold encAccs at this ⊢
    rw [List.zipWith_cons_cons, List.flatten_cons, List.length_append, List.length_append, beB_len, h x List.mem_cons_self, List.length_cons]
    omega
theorem egA_len {g : GenS} (h : All8 g.vals) (h2 : All8 g.accs) (hv : g.vals.length ≤ 10) (k : Nat) (hk : k ≤ 16) : (egA g k).length ≤ 400 := by
  have h1 := egV_len h g.vals.length hv
  have h3 := accs_len (l := g.accs.take k) (b := g.bals.take k) (fun y hy => h2 y (List.mem_of_mem_take hy))
  have h4 : (g.accs.take k).length ≤ k := List.length_take_le _ _
  unfold egA
  rw [List.length_append, List.length_append, List.length_singleton]
  omega
theorem encG_len {g : GenS} (h : All8 g.vals) (h2 : All8 g.accs) (hv : g.vals.length ≤ 10) (ha : g.accs.length ≤ 16) (he : g.bals.length = g.accs.length) : (encG g).length ≤ 400 := by rw [← egA_all he]; exact egA_len h h2 hv _ ha
set_option maxRecDepth 100000 in
set_option maxHeartbeats 16000000 in
theorem EncodeGenesis_ok {w : World} {A B C : Option Addr} {a b c : Nat} {g : GenS} (h : GenR w A B C a b c g) (hv : validG g = true) : Calls Tryz.prog 27 #[genV A B C a b c g] w fun e w' => ∃ D cd, e = .returned (.tuple #[.slice D (encG g).length cd, .int .i64 0]) ∧ NwA w.heap.size 5 1 (encG g).length ((encG g).map byteV) D cd w' ∧ Upd NoF w w' := by
  obtain ⟨i1, hi1, hy0, hy1, hy2⟩ := info_parts byte_info
  obtain ⟨p1, p2, p3, p4, p5, p6, p7, p8, p9, p10⟩ := valid_parts hv
  have CV := Lib.hid (fun W (hu : Upd NoF w W) => show Calls Tryz.prog 58 #[genV A B C a b c g] W (fun e w' => e = .returned (.int .i64 0) ∧ Upd NoF W w') from by have := stValidateGenesis_any (w := W) (h.keep hu); rw [hv] at this; exact this)
  have HVL := Lib.hid h.vals
  have HAC := Lib.hid h.accs
  have HBL := Lib.hid h.bals
  have hst : 0 ≤ g.stake ∧ g.stake ≤ 1099511627776 := by unfold amtB at p9; simpa using p9
  have HST := Lib.hid hst
  have HAM := Lib.hid (show ∀ z ∈ g.bals, 0 ≤ z ∧ z ≤ 1099511627776 from fun z hz => by have := List.all_eq_true.1 p10 z hz; unfold amtB at this; simpa using this)
  have wn : IntKind.u8.wrap g.n = ((byteAt g.n 0).toNat : Int) := u8_small (by omega) (by omega)
  have wv : IntKind.u8.wrap (g.vals.length : Int) = ((byteAt g.vals.length 0).toNat : Int) := u8_small (by omega) (by omega)
  have wm : IntKind.u8.wrap (g.accs.length : Int) = ((byteAt g.accs.length 0).toNat : Int) := u8_small (by omega) (by omega)
  have wst : IntKind.u64.wrap g.stake = g.stake := by
    obtain ⟨k, hk⟩ : ∃ k : Nat, g.stake = (k : Int) := ⟨g.stake.toNat, by omega⟩
    rw [hk]; exact wrap_u64_nat _ (by omega)
  have HE0 := Lib.hid (show [1, byteAt g.n 0] ++ beB g.stake 6 ++ [byteAt g.vals.length 0] = egV g 0 from by unfold egV; simp)
  have HE1 := Lib.hid (show egV g g.vals.length ++ [byteAt g.accs.length 0] = egA g 0 from by unfold egA encAccs; simp)
  have HE2 := Lib.hid (egA_all p8)
  have HLV := Lib.hid (fun k (hk : k ≤ 10) => egV_len h.vals.1 k hk)
  have HLA := Lib.hid (fun k (hk : k ≤ 16) => egA_len h.vals.1 h.accs.1 p4 k hk)
  have HFIN := Lib.hid (show (encG g).length ≤ 400 from encG_len h.vals.1 h.accs.1 p4 p7 p8)
  obtain ⟨nb, hnb⟩ : ∃ x, byteAt g.n 0 = x := ⟨_, rfl⟩
  obtain ⟨vb, hvb⟩ : ∃ x, byteAt (g.vals.length : Int) 0 = x := ⟨_, rfl⟩
  obtain ⟨mb, hmb⟩ : ∃ x, byteAt (g.accs.length : Int) 0 = x := ⟨_, rfl⟩
  rw [hnb] at wn HE0
  rw [hvb] at wv HE0
  rw [hmb] at wm HE1
  obtain ⟨v, hvl⟩ : ∃ n, g.vals.length = n := ⟨_, rfl⟩
  obtain ⟨m, hml⟩ : ∃ n, g.accs.length = n := ⟨_, rfl⟩
  obtain ⟨q, hql⟩ : ∃ n, g.bals.length = n := ⟨_, rfl⟩
  obtain ⟨EG, hEG⟩ : ∃ x, encG g = x := ⟨_, rfl⟩
  rw [hEG] at HE2 HFIN ⊢
  show Calls Tryz.prog 27 #[.agg #[.int .i64 g.n, .int .i64 g.stake, .slice A g.vals.length a, .slice B g.accs.length b, .slice C g.bals.length c]] w _
  rw [hvl] at p3 p4 p5 wv HVL HE1 ⊢
  rw [hml] at p6 p7 p8 wm HAC HE2 ⊢
  rw [hql] at p8 HBL ⊢
  have HV := Lib.hid hvl
  have HM := Lib.hid hml
  have HQ := Lib.hid hql
  have hv10 := p4
  have hm16 := p7
  have HQM := Lib.hid p8
  have CV := Lib.hid (show ∀ W, Upd NoF w W → Calls Tryz.prog 58 #[.agg #[.int .i64 g.n, .int .i64 g.stake, .slice A v a, .slice B m b, .slice C q c]] W (fun e w' => e = .returned (.int .i64 0) ∧ Upd NoF W w') from fun W hu => by have := CV.out W hu; unfold genV at this; rw [hvl, hml, hql] at this; exact this)
  obtain ⟨gn, hgn⟩ : ∃ z, g.n = z := ⟨_, rfl⟩
  obtain ⟨gs, hgs⟩ : ∃ z, g.stake = z := ⟨_, rfl⟩
  rw [hgn] at wn CV ⊢
  rw [hgs] at wst CV HE0 HST hst ⊢
  obtain ⟨P0, hP0⟩ : ∃ x, [1, nb] ++ beB gs 6 = x := ⟨_, rfl⟩
  have HP0L := Lib.hid (show P0.length = 8 from by rw [← hP0]; simp [beB_len])
  rw [hP0] at HE0
  have CAU := Lib.hid (fun (W : World) => show Calls Tryz.prog 59 #[.slice (some ⟨W.heap.size, 0, none⟩) 2 2, u64V gs, .int .i64 ((6 : Nat) : Int)] (W.alloc (.cells #[byteV 1, byteV nb] 5)) (BytesPost (W.alloc (.cells #[byteV 1, byteV nb] 5)) P0) from by
    rw [← hP0]
    exact cAppendUint_any (bs := [1, nb]) (Rd.of_blk (n := 2) (c := 2) (o := 0) (Blk.new W 5 #[byteV 1, byteV nb]) (Nat.le_refl _) (by unfold maxLen; omega) rfl (fun j x hj => by rw [Nat.zero_add, List.getElem?_toArray]; exact hj)) gs hst.1 6 (by omega) (by simp))
  clear hP0
  clear h hv p1 p2 p3 p4 p5 p6 p7 p8 p9 p10 hvl hml hql hnb hvb hmb hst hgn hgs hEG
  go_enter Tryz.func27, Tryz.ntmps27
  go_wp2_with (first
    | (refine wl_box rfl 25 (.tmp 0) rfl #[.int .i64 gn, .int .i64 gs, .slice A v a, .slice B m b, .slice C q c] (by rfl) ?_; intro v0 hb0 hu0 hs0; have BX := Lib.hid hb0; have V0 := Lib.hid hu0; have S0 := Lib.hid hs0; clear hb0 hu0 hs0)
    | (refine wl_load rfl 25 (.tmp 1) rfl w.heap.size 0 (by rfl) (#[.int .i64 gn, .int .i64 gs, .slice A v a, .slice B m b, .slice C q c] : Array Value).toList _ (range_blk BX.out) Tryz.underlying25 rfl gen_size _ rfl ?_)
    | (refine (CV.out _ V0.out).mono ?_; rintro e w1 ⟨rfl, hu1⟩; have U1 := Lib.hid hu1; have BX1 := Lib.hid (hu1.blk BX.out (fun f => f)); have c0 := (hu1.blk BX.out (fun f => f)).cell 0; have c1 := ((hu1.blk BX.out (fun f => f)).alloc (.cells #[.int .u8 1, .int .u8 (nb.toNat : Int)] 5)).cell 1; clear hu1)
    | (refine Calls.mono (CAU.out w1) ?_; rintro e w2 ⟨D, cd, rfl, hN⟩; have N2 := Lib.hid hN; have SZ2 := Lib.hid (show w1.heap.size ≤ w2.heap.size from by have := hN.2.2.size; rw [World.size_alloc] at this; omega); have BX2 := Lib.hid (hN.2.2.blk (BX1.out.alloc _) (fun f => f)); have U2 := Lib.hid ((U1.out.alloc _).trans hN.2.2 (fun _ _ f => f)); have c2 := (hN.2.2.blk (BX1.out.alloc _) (fun f => f)).cell 2; clear hN)
    | (at_builtin; refine wpList_append_to _ rfl (.tmp 20) (.tmp 25) 52 rfl 5 i1 _ 1 1 Tryz.underlying52 hi1 hy0 hy1 hy2 rfl (.slice D P0.length cd) P0.length (P0.map byteV) (by rfl) (N2.out.1.upd ((Upd.refl NoF w2).alloc (.cells #[byteV vb] 5)) (fun _ _ f => f)) (.slice (some ⟨w2.heap.size, 0, none⟩) 1 1) 1 [byteV vb] (by rfl) (rd_lit w2 5 (byteV vb)) (by simp [Value.oneCell']) (by have := HP0L.out; unfold maxLen; omega) (by have := HP0L.out; omega) ?_; intro A7 c7 w7 hown hupd hnew; have O7 := Lib.hid hown; have D7 := Lib.hid (((Upd.refl (OwnB (.slice D P0.length cd)) w2).alloc (.cells #[byteV vb] 5)).trans hupd (fun _ _ f => f)); have N7 := Lib.hid hnew; have c2w := (hupd.blk (BX2.out.alloc (.cells #[byteV vb] 5)) (fun f => by have := N2.out.2.1 _ f; rw [World.size_alloc] at this; have := U1.out.size; have := S0.out; omega)).cell 2; clear hown hupd hnew))
  obtain ⟨X, hX⟩ : ∃ x, w.heap.size = x := ⟨_, rfl⟩
  obtain ⟨S, hS⟩ : ∃ s, w1.heap.size = s := ⟨_, rfl⟩
  have HX := Lib.hid hX
  have HS1 := Lib.hid hS
  have HSX := Lib.hid (show X + 1 ≤ S from by have := U1.out.size; have := S0.out; omega)
  have HDN := Lib.hid (show ∀ k, OwnB (.slice D P0.length cd) k → S ≤ k from fun k hk => by have := N2.out.2.1 k hk; rw [World.size_alloc] at this; omega)
  have HU7 := Lib.hid (show Upd NoF w w7 from (V0.out.trans U2.out (fun _ _ f => f)).trans D7.out (fun k hk f => by have := HDN.out k f; have := HSX.out; omega))
  have HX7 := Lib.hid (show Blk w7 w.heap.size 25 #[.int .i64 gn, .int .i64 gs, .slice A v a, .slice B m b, .slice C q c] from D7.out.blk BX2.out (fun f => by have := HDN.out _ f; have := HSX.out; omega))
  have S7 := Lib.hid (show S ≤ w7.heap.size from by have := SZ2.out; have := D7.out.size; omega)
  have N8 := Lib.hid (show NwA S 5 1 (egV g 0).length ((egV g 0).map byteV) A7 c7 w7 from by
    rw [← HE0.out, List.length_append, List.map_append]
    exact ⟨O7.out, fun k hk => by
      rcases N7.out k hk with f | f
      · exact HDN.out k f
      · have := SZ2.out; rw [World.size_alloc] at f; omega⟩)
  have HL0 := Lib.hid (show P0.length + 1 = (egV g 0).length from by rw [← HE0.out, List.length_append]; rfl)
  rw [hX] at HX7 c2 ⊢
  rw [HL0.out]
  obtain ⟨bs0, hbs0⟩ : ∃ x, egV g 0 = x := ⟨_, rfl⟩
  have HBS0 := Lib.hid hbs0
  rw [hbs0] at N8 ⊢
  clear V0 S0 BX U1 BX1 c0 c1 N2 BX2 U2 c2 O7 D7 N7 hX hS HDN hbs0 HL0 c2w SZ2
  go_loopg [4, 30] v (fun kx s4 s30 wr => ∃ (k : Nat) (bs : List UInt8) (D : Option Addr) (cd : Nat), s30 = .int .i64 (k : Int) ∧ k ≤ v ∧ v - k ≤ kx ∧ s4 = .slice D bs.length cd ∧ Hid (egV g k = bs) ∧ Hid (NwA S 5 1 bs.length (bs.map byteV) D cd wr) ∧ Hid (Blk wr X 25 #[.int .i64 gn, .int .i64 gs, .slice A v a, .slice B m b, .slice C q c]) ∧ Hid (S ≤ wr.heap.size) ∧ Hid (Upd NoF w wr))
  case atStart => exact ⟨0, bs0, A7, c7, rfl, by omega, by omega, rfl, HBS0, N8, HX7, S7, HU7⟩
  case round =>
    clear N8 HBS0 HX7 S7 HU7
    obtain ⟨k, bs, D, cd, rfl, hkn, hkx, rfl, HBS, HN, HBX, HSW, HU⟩ := hrel
    have HLB := Lib.hid (show bs.length ≤ 100 from by rw [← HBS.out]; exact HLV.out k (by omega))
    by_cases hlt : k < v
    · have hltz : (k : Int) < (v : Int) := by omega
      obtain ⟨nm, hnm⟩ : ∃ x, g.vals[k]? = some x := ⟨_, List.getElem?_eq_getElem (by have := HV.out; omega)⟩
      obtain ⟨gv, ov, rfl, hrg⟩ := (HVL.out.keep HU.out).at_ hnm
      have HRG := Lib.hid hrg
      have HNM := Lib.hid hnm
      have H8N := Lib.hid (HVL.out.1 nm (List.mem_of_getElem? hnm))
      obtain ⟨za, hza⟩ : ∃ y, (nm.map byteV).toArray = y := ⟨_, rfl⟩
      have HZA := Lib.hid hza
      have e1 : ((k : Int)).toNat = k := by omega
      have HB1 := Lib.hid (show bs.length + 8 ≤ maxLen ∧ (bs.length + 8) * 1 ≤ 140737488355328 from by have := HLB.out; unfold maxLen; omega)
      clear hrg hnm hza
      go_wp2_with (first
        | (refine wpList_load_row rfl 28 (.tmp 32) rfl gv (ov + k * 8) (by first | rfl | simp) (nm.map byteV) _ HRG.out Tryz.underlying28 rfl (by rw [name_size]; simp [H8N.out]) za HZA.out ?_)
        | (refine wpList_alloc_row rfl 28 rfl zN name_alloc ?_; intro w3 hb3 hu3 hs3; have B3 := Lib.hid hb3; have U3 := Lib.hid hu3; clear hb3 hu3 hs3)
        | (refine wpList_store_row rfl 28 (.tmp 6) (.tmp 33) rfl wr.heap.size (by rfl) za (by rfl) 28 _ B3.out (by rw [(name_arr H8N.out HZA.out).1]; exact zN_size) (by rw [name_size, (name_arr H8N.out HZA.out).1]) (name_arr H8N.out HZA.out).2 ?_; intro w4 hb4 hu4 hs4; have B4 := Lib.hid hb4; have U4 := Lib.hid (U3.out.trans hu4 (F := NoF) (fun j hj e => by have e : j = wr.heap.size := e; omega)); clear hb4 hu4 hs4)
        | (at_builtin; refine wpList_append_to _ rfl (.tmp 34) (.tmp 35) 52 rfl 5 i1 _ 1 1 Tryz.underlying52 hi1 hy0 hy1 hy2 rfl (.slice D bs.length cd) bs.length (bs.map byteV) (by rfl) (HN.out.keep U4.out).1 (.slice (some ⟨wr.heap.size, 0, none⟩) 8 8) 8 (nm.map byteV) (by rfl) (rd_arr H8N.out HZA.out B4.out) (one_bytes nm) HB1.out.1 HB1.out.2 ?_; intro A9 c9 w9 hown hupd hnew; have N9 := Lib.hid (NwA.appM HN.out U4.out HSW.out hown hupd hnew); have BX9 := Lib.hid (hupd.blk (U4.out.blk HBX.out (fun f => f)) (fun f => by have := HN.out.2 X f; have := HSX.out; have := HX.out; omega)); have SZ9 := Lib.hid (Nat.le_trans HSW.out (Nat.le_trans U4.out.size hupd.size)); clear hown hupd hnew))
      go_roundg (v - (k + 1))
      case measure => omega
      case rel => exact ⟨k + 1, bs ++ nm, A9, c9, by first | rfl | go_num, by omega, by omega, by rw [List.length_append, H8N.out], Lib.hid (by rw [egV_next HNM.out, HBS.out]), Lib.hid (by rw [List.length_append, H8N.out, List.map_append]; exact N9.out.1), BX9, SZ9, Lib.hid (N9.out.2 (w := w) (fun j h1 h2 => by have := HSX.out; have := HX.out; omega) HU.out)⟩
    · have hltz : ¬ (k : Int) < (v : Int) := by omega
      obtain rfl : v = k := by omega
      have c3 : wr.cell? ⟨X, 3, none⟩ = some (.slice B m b) := HBX.out.cell 3
      have HB1 := Lib.hid (show bs.length + 1 ≤ maxLen ∧ (bs.length + 1) * 1 ≤ 140737488355328 from by have := HLB.out; unfold maxLen; omega)
      have HBXA := Lib.hid (HBX.out.alloc (.cells #[byteV mb] 5))
      go_wp2_with (at_builtin; refine wpList_append_to _ rfl (.tmp 38) (.tmp 43) 52 rfl 5 i1 _ 1 1 Tryz.underlying52 hi1 hy0 hy1 hy2 rfl (.slice D bs.length cd) bs.length (bs.map byteV) (by rfl) (HN.out.keep ((Upd.refl NoF wr).alloc (.cells #[byteV mb] 5))).1 (.slice (some ⟨wr.heap.size, 0, none⟩) 1 1) 1 [byteV mb] (by rfl) (rd_lit wr 5 (byteV mb)) (by simp [Value.oneCell']) HB1.out.1 HB1.out.2 ?_; intro A8 c8 w8 hown hupd hnew; have N9 := Lib.hid (NwA.appM HN.out ((Upd.refl NoF wr).alloc (.cells #[byteV mb] 5)) HSW.out hown hupd hnew); have BX9 := Lib.hid (hupd.blk HBXA.out (fun f => by have := HN.out.2 X f; have := HSX.out; have := HX.out; omega)); have SZ9 := Lib.hid (show S ≤ w8.heap.size from by have h1 := hupd.size; rw [World.size_alloc] at h1; have := HSW.out; omega); have c3' := (hupd.blk HBXA.out (fun f => by have := HN.out.2 X f; have := HSX.out; have := HX.out; omega)).cell 3; clear hown hupd hnew)
      have HU8 := Lib.hid (N9.out.2 (w := w) (fun j h1 h2 => by have := HSX.out; have := HX.out; omega) HU.out)
      have HE1' := HE1.out
      rw [HBS.out] at HE1'
      have HL1 := Lib.hid (show bs.length + 1 = (egA g 0).length from by rw [← HE1', List.length_append]; rfl)
      have N10 := Lib.hid (show NwA S 5 1 (egA g 0).length ((egA g 0).map byteV) A8 c8 w8 from by
        have := N9.out.1
        rw [HL1.out] at this
        rw [← HE1', List.map_append]
        rw [← HE1'] at this
        exact this)
      rw [HL1.out]
      obtain ⟨bs1, hbs1⟩ : ∃ x, egA g 0 = x := ⟨_, rfl⟩
      have HBS1 := Lib.hid hbs1
      rw [hbs1] at N10 ⊢
      clear N9 HN HBX HSW HU hbs1 HL1 HE1' HBXA c3
      go_loopg [4, 48] m (fun kx s4 s48 wr => ∃ (k : Nat) (bs : List UInt8) (D : Option Addr) (cd : Nat), s48 = .int .i64 (k : Int) ∧ k ≤ m ∧ m - k ≤ kx ∧ s4 = .slice D bs.length cd ∧ Hid (egA g k = bs) ∧ Hid (NwA S 5 1 bs.length (bs.map byteV) D cd wr) ∧ Hid (Blk wr X 25 #[.int .i64 gn, .int .i64 gs, .slice A v a, .slice B m b, .slice C q c]) ∧ Hid (S ≤ wr.heap.size) ∧ Hid (Upd NoF w wr))
      case atStart => exact ⟨0, bs1, A8, c8, rfl, by omega, by omega, rfl, HBS1, N10, BX9, SZ9, HU8⟩
      case round =>
        clear N10 HBS1 BX9 SZ9 HU8 HBS HLB HB1 c3'
        obtain ⟨k, bs, D, cd, rfl, hkn, hkx, rfl, HBS, HN, HBX, HSW, HU⟩ := hrel
        have HLB := Lib.hid (show bs.length ≤ 400 from by rw [← HBS.out]; exact HLA.out k (by omega))
        by_cases hlt : k < m
        · have hltz : (k : Int) < (m : Int) := by omega
          obtain ⟨nm, hnm⟩ : ∃ x, g.accs[k]? = some x := ⟨_, List.getElem?_eq_getElem (by have := HM.out; omega)⟩
          obtain ⟨z, hz⟩ : ∃ x, g.bals[k]? = some x := ⟨_, List.getElem?_eq_getElem (by have := HQ.out; have := HQM.out; omega)⟩
          obtain ⟨gv, ov, rfl, hrg⟩ := (HAC.out.keep HU.out).at_ hnm
          obtain ⟨gb, ob, rfl, hcz⟩ := (HBL.out.keep HU.out).at_ hz
          obtain ⟨_, _, e00, hcw⟩ := HBL.out.at_ hz
          injection e00 with e01
          injection e01 with e02 e03
          subst e02 e03
          have HCW := Lib.hid (block_lt_of_cell hcw)
          have HRG := Lib.hid hrg
          have HCZ := Lib.hid hcz
          have HNM := Lib.hid hnm
          have HZ := Lib.hid hz
          have H8N := Lib.hid (HAC.out.1 nm (List.mem_of_getElem? hnm))
          have HZ0 := Lib.hid (HAM.out z (List.mem_of_getElem? hz)).1
          have HWZ := Lib.hid (show IntKind.u64.wrap z = z from by
            have := HAM.out z (List.mem_of_getElem? hz)
            obtain ⟨kz, hk⟩ : ∃ k : Nat, z = (k : Int) := ⟨z.toNat, by omega⟩
            rw [hk]; exact wrap_u64_nat _ (by omega))
          obtain ⟨za, hza⟩ : ∃ y, (nm.map byteV).toArray = y := ⟨_, rfl⟩
          have HZA := Lib.hid hza
          have e1 : ((k : Int)).toNat = k := by omega
          have HB1 := Lib.hid (show bs.length + 8 ≤ maxLen ∧ (bs.length + 8) * 1 ≤ 140737488355328 from by have := HLB.out; unfold maxLen; omega)
          have HLT := Lib.hid (show (k : Int) < (q : Int) from by have := HQM.out; omega)
          clear hrg hnm hza hcz hz hcw
          go_wp2_with (first
            | (refine wpList_load_row rfl 28 (.tmp 51) rfl gv (ov + k * 8) (by first | rfl | simp) (nm.map byteV) _ HRG.out Tryz.underlying28 rfl (by rw [name_size]; simp [H8N.out]) za HZA.out ?_)
            | (refine wpList_alloc_row rfl 28 rfl zN name_alloc ?_; intro w3 hb3 hu3 hs3; have B3 := Lib.hid hb3; have U3 := Lib.hid hu3; clear hb3 hu3 hs3)
            | (refine wpList_store_row rfl 28 (.tmp 8) (.tmp 52) rfl wr.heap.size (by rfl) za (by rfl) 28 _ B3.out (by rw [(name_arr H8N.out HZA.out).1]; exact zN_size) (by rw [name_size, (name_arr H8N.out HZA.out).1]) (name_arr H8N.out HZA.out).2 ?_; intro w4 hb4 hu4 hs4; have B4 := Lib.hid hb4; have U4 := Lib.hid (U3.out.trans hu4 (F := NoF) (fun j hj e => by have e : j = wr.heap.size := e; omega)); clear hb4 hu4 hs4))
          obtain ⟨V, hVV⟩ : ∃ x, wr.heap.size = x := ⟨_, rfl⟩
          rw [hVV] at B4 ⊢
          replace HN := Lib.hid (HN.out.keep U4.out)
          have HFS := Lib.hid (show ∀ j, OwnB (.slice D bs.length cd) j → j < w4.drew.heap.size from fun j hj => HN.out.1.lt hj)
          obtain ⟨S0, hS0⟩ : ∃ s, w4.drew.heap.size = s := ⟨_, rfl⟩
          have HS0 := Lib.hid (show S0 ≤ w4.drew.heap.size from Nat.le_of_eq hS0.symm)
          rw [hS0] at HFS
          have HSS := Lib.hid (show S ≤ S0 from by rw [← hS0]; exact Nat.le_trans HSW.out U4.out.size)
          have RV := Lib.hid (fun w' (hu : Upd NoF w4.drew w') => rd_arr H8N.out HZA.out (((Upd.refl NoF w4).drew.trans hu (fun _ _ f => f)).blk B4.out (fun f => f)))
          have HBX4 := Lib.hid (show Blk w4.drew X 25 #[.int .i64 gn, .int .i64 gs, .slice A v a, .slice (some ⟨gv, ov, none⟩) m b, .slice (some ⟨gb, ob, none⟩) q c] from Blk.drew (U4.out.blk HBX.out (fun f => f)))
          have CB4 := Lib.hid (HBX4.out.cell 4)
          have HXF := Lib.hid (show ¬ OwnB (.slice D bs.length cd) X from fun f => by have := HN.out.2 X f; have := HSX.out; have := HX.out; omega)
          have CZ := Lib.hid (show w4.drew.cell? ⟨gb, ob + k, none⟩ = some (.int .i64 z) from U4.out.drew.cell HCZ.out (fun f => f))
          have HGF := Lib.hid (show ¬ OwnB (.slice D bs.length cd) gb from fun f => by have := HN.out.2 gb f; have h1 : gb < w.heap.size := HCW.out; have := HSX.out; have := HX.out; omega)
          have HUW4 := Lib.hid (HU.out.trans U4.out.drew (fun _ _ f => f))
          have HBL2 := HBL
          replace HBL := Lib.hid (show bs.length + 16 ≤ 1099511627776 from by have := HLB.out; omega)
          clear hVV hS0 HBX HU
          refine wp_region_rgl (rgR [isV (.slice D bs.length cd), isV (.slice (some ⟨V, 0, none⟩) 8 8), ApR bs nm, isV (.pointer (some ⟨X, 4, none⟩)), isV (.slice (some ⟨gb, ob, none⟩) q c), isV (.int .i64 (k : Int)), isV (.pointer (some ⟨gb, ob + k, none⟩)), isV (.int .i64 z), isV (u64V z), ApN S0 (bs ++ nm ++ beB z 6), ApN S0 (bs ++ nm ++ beB z 6)]) (ApSt (OwnB (.slice D bs.length cd)) 2) (ApPh w4.drew (OwnB (.slice D bs.length cd)) 2) (by kernel_rfl) (by kernel_rfl) (by kernel_rfl) (by rfl) (fun L w => ApSt.same) (rgR_keepL ⟨stbL_isV _, stbL_isV _, stbL_apr, stbL_isV _, stbL_isV _, stbL_isV _, stbL_isV _, stbL_isV _, stbL_isV _, (stbL_apn HFS.out), (stbL_apn HFS.out), trivial⟩) (ApPh.start) ?_ ?_
          · refine ⟨?_, ?_, ?_, ?_, ?_, ?_, ?_, ?_, ?_, ?_, ?_, trivial⟩
            · refine fun ρ w' L hW hLi hcl hd hdep hext hc hg hf => ?_
              rw [if_pos (show wantedR _ _ _ = true from rfl)]
              have e4 : ρ (.tmp 4) = .slice D bs.length cd := hext 4 (by kernel_rfl)
              clear hdep hext
              have HW := Lib.hid hW
              clear hW hcl hd hLi
              unfold OpDone
              go_simp
              exact ⟨rfl, ApSt.same, HW.out.same (by decide)⟩
            · refine fun ρ w' L hW hLi hcl hd hdep hext hc hg hf => ?_
              rw [if_pos (show wantedR _ _ _ = true from rfl)]
              have e8 : ρ (.tmp 8) = .pointer (some ⟨V, 0, none⟩) := hext 8 (by kernel_rfl)
              clear hdep hext
              have HW := Lib.hid hW
              clear hW hcl hd hLi
              unfold OpDone
              go_simp
              exact ⟨rfl, ApSt.same, HW.out.same (by decide)⟩
            · refine fun ρ w' L hW hLi hcl hd hdep hext hc hg hf => ?_
              rw [if_pos (show wantedR _ _ _ = true from rfl)]
              have e53 : ρ (.tmp 53) = .slice D bs.length cd := hdep 0 _ rfl (by kernel_rfl)
              have e54 : ρ (.tmp 54) = .slice (some ⟨V, 0, none⟩) 8 8 := hdep 1 _ rfl (by kernel_rfl)
              clear hdep hext
              have HO := Lib.hid (HN.out.1.upd ((Upd.refl NoF w4).drew.trans (hW.u0 hLi) (fun _ _ f => f)) (fun _ _ f => f))
              have HR := Lib.hid (show Rd w' 1 (.slice (some ⟨V, 0, none⟩) 8 8) 8 (nm.map byteV) from RV.out w' (hW.u0 hLi))
              have HW := Lib.hid hW
              have HL2 := Lib.hid hLi
              clear hW hcl hd hLi
              refine od_append (.tmp 53) (.tmp 54) 52 rfl 5 i1 _ 1 1 Tryz.underlying52 hi1 hy0 hy1 hy2 rfl (.slice D bs.length cd) bs.length (bs.map byteV) e53 HO.out (.slice (some ⟨V, 0, none⟩) 8 8) 8 (nm.map byteV) e54 HR.out (one_bytes nm) HB1.out.1 HB1.out.2 ?_
              intro A6 c6 w6 hown hupd hnew
              exact ⟨⟨A6, c6, rfl, by have := hown.rd; rw [← List.map_append] at this; exact this⟩, ApSt.app HL2.out hupd, HW.out.app hupd⟩
            · refine fun ρ w' L hW hLi hcl hd hdep hext hc hg hf => ?_
              rw [if_pos (show wantedR _ _ _ = true from rfl)]
              have e1 : ρ (.tmp 1) = .pointer (some ⟨X, 0, none⟩) := hext 1 (by kernel_rfl)
              clear hdep hext
              have HW := Lib.hid hW
              clear hW hcl hd hLi
              unfold OpDone
              go_simp
              exact ⟨rfl, ApSt.same, HW.out.same (by decide)⟩
            · refine fun ρ w' L hW hLi hcl hd hdep hext hc hg hf => ?_
              rw [if_pos (show wantedR _ _ _ = true from rfl)]
              have e56 : ρ (.tmp 56) = .pointer (some ⟨X, 4, none⟩) := hdep 3 _ rfl (by kernel_rfl)
              clear hdep hext
              have q0 : w'.cell? ⟨X, 4, none⟩ = some (.slice (some ⟨gb, ob, none⟩) q c) := hW.u1.cell CB4.out HXF.out
              have HW := Lib.hid hW
              clear hW hcl hd hLi
              unfold OpDone
              go_simp
              exact ⟨rfl, ApSt.same, HW.out.same (by decide)⟩
            · refine fun ρ w' L hW hLi hcl hd hdep hext hc hg hf => ?_
              rw [if_pos (show wantedR _ _ _ = true from rfl)]
              have e7 : ρ (.tmp 7) = .int .i64 (k : Int) := hext 7 (by kernel_rfl)
              clear hdep hext
              have HW := Lib.hid hW
              clear hW hcl hd hLi
              unfold OpDone
              go_simp
              exact ⟨rfl, ApSt.same, HW.out.same (by decide)⟩
            · refine fun ρ w' L hW hLi hcl hd hdep hext hc hg hf => ?_
              rw [if_pos (show wantedR _ _ _ = true from rfl)]
              have e57 : ρ (.tmp 57) = .slice (some ⟨gb, ob, none⟩) q c := hdep 4 _ rfl (by kernel_rfl)
              have e58 : ρ (.tmp 58) = .int .i64 (k : Int) := hdep 5 _ rfl (by kernel_rfl)
              clear hdep hext
              have q0 : (0 : Int) ≤ (k : Int) := by omega
              have q1 : (k : Int) < (q : Int) := HLT.out
              have q2 : k < q := by omega
              have q3 : ((k : Int)).toNat = k := by omega
              have HW := Lib.hid hW
              clear hW hcl hd hLi
              unfold OpDone
              go_simp
              exact ⟨rfl, ApSt.same, HW.out.same (by decide)⟩
            · refine fun ρ w' L hW hLi hcl hd hdep hext hc hg hf => ?_
              rw [if_pos (show wantedR _ _ _ = true from rfl)]
              have e59 : ρ (.tmp 59) = .pointer (some ⟨gb, ob + k, none⟩) := hdep 6 _ rfl (by kernel_rfl)
              clear hdep hext
              have q0 : w'.cell? ⟨gb, ob + k, none⟩ = some (.int .i64 z) := hW.u1.cell CZ.out HGF.out
              have HW := Lib.hid hW
              clear hW hcl hd hLi
              unfold OpDone
              go_simp
              exact ⟨rfl, ApSt.same, HW.out.same (by decide)⟩
            · refine fun ρ w' L hW hLi hcl hd hdep hext hc hg hf => ?_
              rw [if_pos (show wantedR _ _ _ = true from rfl)]
              have e60 : ρ (.tmp 60) = .int .i64 z := hdep 7 _ rfl (by kernel_rfl)
              clear hdep hext
              have wz : IntKind.u64.wrap z = z := HWZ.out
              have HW := Lib.hid hW
              clear hW hcl hd hLi
              unfold OpDone
              go_simp
              exact ⟨rfl, ApSt.same, HW.out.same (by decide)⟩
            · refine fun ρ w' L hW hLi hcl hd hdep hext hc hg hf => ?_
              rw [if_pos (show wantedR _ _ _ = true from rfl)]
              have e55 : (ApR bs nm) (ρ (.tmp 55)) w' := hdep 2 _ rfl (by kernel_rfl)
              have e61 : ρ (.tmp 61) = u64V z := hdep 8 _ rfl (by kernel_rfl)
              clear hdep hext
              obtain ⟨A55, k55, e55, r55⟩ := e55
              have L2 : L 2 = true := hd 2 (by kernel_rfl)
              have CL := Lib.hid (show Calls Tryz.prog 59 #[.slice A55 (bs.length + 8) k55, u64V z, .int .i64 ((6 : Nat) : Int)] w' (BytesPost w' (bs ++ nm ++ beB z 6)) from cAppendUint_any (bs := bs ++ nm) (by rw [List.length_append, H8N.out]; exact r55) z HZ0.out 6 (by omega) (by rw [List.length_append, H8N.out]; have := HBL.out; omega))
              have HW := Lib.hid hW
              have SW := Lib.hid (show S0 ≤ w'.heap.size from Nat.le_trans HS0.out hW.u1.size)
              clear hW hcl hd hLi r55
              generalize bs ++ nm ++ beB z 6 = LL at CL ⊢
              unfold OpDone
              go_simp
              refine CL.out.mono ?_
              rintro e w2 ⟨A2, c2, rfl, hN⟩
              exact ⟨_, rfl, ⟨A2, c2, rfl, ⟨hN.1, fun j hj => Nat.le_trans SW.out (hN.2.1 j hj)⟩⟩, ApSt.none hN.2.2, HW.out.step L2 (by decide) hN.2.2⟩
            · refine fun ρ w' L hW hLi hcl hd hdep hext hc hg hf => ?_
              rw [if_pos (show wantedR _ _ _ = true from rfl)]
              have e62 : (ApN S0 (bs ++ nm ++ beB z 6)) (ρ (.tmp 62)) w' := hdep 9 _ rfl (by kernel_rfl)
              clear hdep hext
              obtain ⟨A9, k9, e62, r9⟩ := e62
              have R9 := Lib.hid r9
              have HW := Lib.hid hW
              clear hW hcl hd hLi r9
              generalize bs ++ nm ++ beB z 6 = LL at e62 R9 ⊢
              unfold OpDone
              go_simp
              exact ⟨⟨A9, k9, rfl, R9.out⟩, ApSt.same, HW.out.same (by decide)⟩
          intro vs W3 L3 hL3 hW3 hR
          have hv0 : vs 0 = .slice D bs.length cd := hR 0 _ rfl
          have hv1 : vs 1 = .slice (some ⟨V, 0, none⟩) 8 8 := hR 1 _ rfl
          have hr2 : (ApR bs nm) (vs 2) W3 := hR 2 _ rfl
          obtain ⟨A55, c55, hv2, -⟩ := hr2
          have hv3 : vs 3 = .pointer (some ⟨X, 4, none⟩) := hR 3 _ rfl
          have hv4 : vs 4 = .slice (some ⟨gb, ob, none⟩) q c := hR 4 _ rfl
          have hv5 : vs 5 = .int .i64 (k : Int) := hR 5 _ rfl
          have hv6 : vs 6 = .pointer (some ⟨gb, ob + k, none⟩) := hR 6 _ rfl
          have hv7 : vs 7 = .int .i64 z := hR 7 _ rfl
          have hv8 : vs 8 = u64V z := hR 8 _ rfl
          have hr9 : (ApN S0 (bs ++ nm ++ beB z 6)) (vs 9) W3 := hR 9 _ rfl
          obtain ⟨A62, c62, hv9, hq9⟩ := hr9
          have hr10 : (ApN S0 (bs ++ nm ++ beB z 6)) (vs 10) W3 := hR 10 _ rfl
          obtain ⟨A4, c4, hv10, hq10⟩ := hr10
          simp only [putAll, Act.put, List.setIfInBounds_toArray, List.set_cons_zero, List.set_cons_succ, hv0, hv1, hv2, hv3, hv4, hv5, hv6, hv7, hv8, hv9, hv10]
          clear hR hv0 hv1 hv2 hv3 hv4 hv5 hv6 hv7 hv8 hv9 hv10
          have HW3 := Lib.hid hW3
          have Q10 := Lib.hid hq10
          clear hW3 hq9 hq10
          obtain ⟨L1, hL1⟩ : ∃ x, bs ++ nm ++ beB z 6 = x := ⟨_, rfl⟩
          have HL1 := Lib.hid hL1
          rw [hL1] at Q10 ⊢
          clear hL1
          go_wp2
          go_roundg (m - (k + 1))
          case measure => omega
          case rel => exact ⟨k + 1, L1, A4, c4, by first | rfl | go_num, by omega, by omega, by first | rfl | (congr 1; done), Lib.hid (by rw [egA_next HNM.out HZ.out, HBS.out]; exact HL1.out), Lib.hid ⟨Q10.out.1, fun j hj => Nat.le_trans HSS.out (Q10.out.2 j hj)⟩, Lib.hid (HW3.out.u1.blk HBX4.out HXF.out), Lib.hid (Nat.le_trans (Nat.le_trans HSS.out HS0.out) HW3.out.u1.size), Lib.hid (HUW4.out.trans HW3.out.u1 (fun j hj f => by have := HN.out.2 j f; have := HSX.out; have := HX.out; omega))⟩
        · have hltz : ¬ (k : Int) < (m : Int) := by omega
          obtain rfl : k = m := by omega
          have HEG := Lib.hid (show bs = EG from HBS.out.symm.trans HE2.out)
          go_wp2
          go_ret2
          refine ⟨D, cd, by rw [HEG.out]; rfl, ⟨?_, fun j hj => ?_⟩, HU.out⟩
          · have := HN.out.1
            rw [HEG.out] at this
            exact this
          · have := HN.out.2 j (by rw [HEG.out]; exact hj)
            have := HSX.out
            have := HX.out
            omega
end
end Go.Proofs.YtengcmfdfmnacaaGreat
