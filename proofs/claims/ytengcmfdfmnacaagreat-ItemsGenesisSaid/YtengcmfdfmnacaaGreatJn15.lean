/- items.Genesis. No condition. items.Text: the least text with a name. Conditions: sizes. -/
import Derived.Test.YtengcmfdfmnacaaGreatJn14
import Derived.Test.YtengcmfdfmnacaaGreatJn13
namespace Go.Proofs.YtengcmfdfmnacaaGreat
section
open Go.RowKit Go.Lib

/-- Op b stores a row into block Y; nothing else that is old turns. -/
structure LsPh (w0 : World) (Y : Nat) (T : TypeId) (ri : Array Value) (b : Nat) (L : Nat → Bool) (w : World) : Prop where
  u1 : Upd (fun k => k = Y) w0 w
  x0 : ∃ cs, Blk w Y T cs ∧ cs.size = ri.size
  f : L b = true → Blk w Y T ri
section
variable {w0 w w' : World} {Y : Nat} {T : TypeId} {ri : Array Value} {b i : Nat} {L : Nat → Bool}
theorem LsPh.start {cs : Array Value} (h : Blk w0 Y T cs ∧ cs.size = ri.size) : LsPh w0 Y T ri b (fun _ => false) w0 := ⟨Upd.refl _ _, ⟨cs, h⟩, fun e => by cases e⟩
theorem LsPh.same (h : LsPh w0 Y T ri b L w) (hb : (b == i) = false := by decide) : LsPh w0 Y T ri b (fun j => j == i || L j) w := ⟨h.u1, h.x0, fun e => h.f (by simpa [hb] using e)⟩
theorem LsPh.step (h : LsPh w0 Y T ri b L w) (hu : Upd NoF w w') (hb : (b == i) = false := by decide) : LsPh w0 Y T ri b (fun j => j == i || L j) w' := by
  obtain ⟨cs, h1, h2⟩ := h.x0
  exact ⟨h.u1.trans hu (fun _ _ f => f.elim), ⟨cs, hu.blk h1 (fun f => f), h2⟩, fun e => hu.blk (h.f (by simpa [hb] using e)) (fun f => f)⟩
theorem LsPh.put (h : LsPh w0 Y T ri b L w) (hb : Blk w' Y T ri) (hu : Upd (fun k => k = Y) w w') : LsPh w0 Y T ri b (fun j => j == b || L j) w' := ⟨h.u1.trans hu (fun _ _ f => f), ⟨ri, hb, rfl⟩, fun _ => hb⟩
end
/-- What follows the name in the row of a genesis item. -/
def genRest (x0 x1 x2 x3 x4 : Value) (mask : Int) : List Value := [.int .i64 1, .int .i64 0, .int .u8 0, .int .u8 0, .int .u8 0, .int .u8 0, .int .u8 0, .int .u8 0, .int .u8 0, .int .u8 0, .slice none 0 0, .slice none 0 0, .int .i64 mask, x0, x1, x2, x3, x4, .slice none 0 0, .slice none 0 0]
theorem build_gen8 (b0 b1 b2 b3 b4 b5 b6 b7 x0 x1 x2 x3 x4 : Value) (mask : Int) (w : World) : (Instr.build 38 #[(0, .agg #[b0, b1, b2, b3, b4, b5, b6, b7]), (1, .int .i64 1), (7, .agg #[x0, x1, x2, x3, x4]), (6, .int .i64 mask)]).run Tryz.prog w = .ok (.agg ([b0, b1, b2, b3, b4, b5, b6, b7] ++ genRest x0 x1 x2 x3 x4 mask).toArray) w := by kernel_rfl
theorem build_gen {n : List UInt8} (hn : n.length = 8) (x0 x1 x2 x3 x4 : Value) (mask : Int) (w : World) : (Instr.build 38 #[(0, nameV n), (1, .int .i64 1), (7, .agg #[x0, x1, x2, x3, x4]), (6, .int .i64 mask)]).run Tryz.prog w = .ok (.agg (itemC n (genRest x0 x1 x2 x3 x4 mask)).toArray) w := by
  match n, hn with
  | [b0, b1, b2, b3, b4, b5, b6, b7], _ => exact build_gen8 _ _ _ _ _ _ _ _ x0 x1 x2 x3 x4 mask w
theorem hsum_len (l : List UInt8) : (hsum l).length = 8 := rfl
set_option maxRecDepth 100000 in
set_option maxHeartbeats 4000000 in
theorem bkName_any {w : World} {v : Value} {bs : List UInt8} (h : Rd w 1 v bs.length (bs.map byteV)) (hb : bs.length ≤ 4611686018427387904) : Calls Tryz.prog 29 #[v] w fun e w' => e = .returned (nameV (hsum bs)) ∧ Upd NoF w w' := by
  have CS := Lib.hid (fun W (hu : Upd NoF w W) => hSum_any (h.keep hu) hb)
  obtain ⟨za, hza⟩ : ∃ y, ((hsum bs).map byteV).toArray = y := ⟨_, rfl⟩
  have HZA := Lib.hid (name_arr (hsum_len bs) hza)
  rw [show nameV (hsum bs) = .agg za from congrArg Value.agg hza] at CS ⊢
  clear h hza
  go_enter Tryz.func29, Tryz.ntmps29
  go_wp2_with (first
    | (refine wpList_alloc_row rfl 28 rfl zN name_alloc ?_; intro w1 hb1 hu1 hs1; have B1 := Lib.hid hb1; have U1 := Lib.hid hu1; clear hb1 hu1 hs1)
    | (refine (CS.out _ U1.out).mono ?_; rintro e w2 ⟨rfl, hu2⟩; have U2 := Lib.hid (U1.out.trans hu2 (fun _ _ f => f)); have B2 := Lib.hid (hu2.blk B1.out (fun f => f)); clear hu2)
    | (refine wpList_store_row rfl 28 (.tmp 2) (.tmp 4) rfl w.heap.size (by rfl) za (by rfl) 28 _ B2.out (by rw [HZA.out.1]; exact zN_size) (by rw [name_size, HZA.out.1]) HZA.out.2 ?_; intro w3 hb3 hu3 hs3; have B3 := Lib.hid hb3; have U3 := Lib.hid (U2.out.trans hu3 (F := NoF) (fun j hj e => by have e : j = w.heap.size := e; omega)); clear hb3 hu3 hs3))
  refine bodyPost_ret (results_cell_row Tryz.results29 _ _ w.heap.size 28 za (0, 0) _ rfl B3.out Tryz.underlying28 rfl (by rw [name_size, HZA.out.1])) rfl ⟨rfl, U3.out⟩
set_option maxRecDepth 100000 in
set_option maxHeartbeats 4000000 in
theorem EncodeGenesis_bad {w : World} {A B C : Option Addr} {a b c : Nat} {g : GenS} (h : GenR w A B C a b c g) (hv : validG g = false) : Calls Tryz.prog 27 #[genV A B C a b c g] w fun e w' => e = .returned (.tuple #[.slice none 0 0, .int .i64 1]) ∧ Upd NoF w w' := by
  have CV := Lib.hid (fun W (hu : Upd NoF w W) => show Calls Tryz.prog 58 #[genV A B C a b c g] W (fun e w' => e = .returned (.int .i64 1) ∧ Upd NoF W w') from by have := stValidateGenesis_any (w := W) (h.keep hu); rw [hv] at this; exact this)
  unfold genV at CV ⊢
  obtain ⟨ga, hga⟩ : ∃ x, (#[.int .i64 g.n, .int .i64 g.stake, .slice A g.vals.length a, .slice B g.accs.length b, .slice C g.bals.length c] : Array Value) = x := ⟨_, rfl⟩
  rw [hga] at CV ⊢
  have HGA := Lib.hid (show ga.size = 5 from by rw [← hga]; rfl)
  clear h hv hga
  go_enter Tryz.func27, Tryz.ntmps27
  go_wp2_with (first
    | (refine wl_box rfl 25 (.tmp 0) rfl ga (by rfl) ?_; intro v0 hb0 hu0 hs0; have BX := Lib.hid hb0; have V0 := Lib.hid hu0; clear hb0 hu0 hs0)
    | (refine wl_load rfl 25 (.tmp 1) rfl w.heap.size 0 (by rfl) ga.toList _ (range_blk (by rw [Array.toArray_toList]; exact BX.out)) Tryz.underlying25 rfl (by rw [Array.length_toList, HGA.out]; exact gen_size) ga (by simp) ?_)
    | (refine (CV.out _ V0.out).mono ?_; rintro e w1 ⟨rfl, hu1⟩; have U1 := Lib.hid (V0.out.trans hu1 (fun _ _ f => f)); clear hu1))
  go_ret2
  exact ⟨rfl, U1.out⟩
set_option maxRecDepth 100000 in
set_option maxHeartbeats 4000000 in
theorem itGenesis_bad {w : World} {A B C : Option Addr} {a b c : Nat} {g : GenS} (h : GenR w A B C a b c g) (hv : validG g = false) : Calls Tryz.prog 7 #[genV A B C a b c g] w fun e w' => e = .returned (.tuple #[.agg itZ, .int .i64 1]) ∧ Upd NoF w w' := by
  have CE := Lib.hid (fun W (hu : Upd NoF w W) => EncodeGenesis_bad (w := W) (h.keep hu) hv)
  unfold genV at CE ⊢
  obtain ⟨ga, hga⟩ : ∃ x, (#[.int .i64 g.n, .int .i64 g.stake, .slice A g.vals.length a, .slice B g.accs.length b, .slice C g.bals.length c] : Array Value) = x := ⟨_, rfl⟩
  rw [hga] at CE ⊢
  have HGA := Lib.hid (show ga.size = 5 from by rw [← hga]; rfl)
  have IA := Lib.hid item_alloc
  have IO := Lib.hid itZ_one
  have IS := Lib.hid (show (Tryz.prog.info? 38).map (·.size) = some itZ.size from by rw [itZ_size, item_size])
  obtain ⟨iz, hiz⟩ : ∃ x, itZ = x := ⟨_, rfl⟩
  rw [hiz] at IA IO IS ⊢
  have HIZ := Lib.hid hiz
  clear h hv hga hiz
  go_enter Tryz.func7, Tryz.ntmps7
  go_wp2_with (first
    | (refine wl_box rfl 25 (.tmp 0) rfl ga (by rfl) ?_; intro v0 hb0 hu0 hs0; have BX := Lib.hid hb0; have V0 := Lib.hid hu0; clear hb0 hu0 hs0)
    | (refine wpList_alloc_row rfl 38 rfl iz IA.out ?_; intro w1 hb1 hu1 hs1; have B1 := Lib.hid hb1; replace BX := Lib.hid (hu1.blk BX.out (fun f => f)); have V1 := Lib.hid (V0.out.trans hu1 (fun _ _ f => f)); have SV := Lib.hid V0.out.size; clear hb1 hu1 hs1)
    | (refine wl_load rfl 25 (.tmp 1) rfl w.heap.size 0 (by rfl) ga.toList _ (range_blk (by rw [Array.toArray_toList]; exact BX.out)) Tryz.underlying25 rfl (by rw [Array.length_toList, HGA.out]; exact gen_size) ga (by simp) ?_)
    | (refine (CE.out _ V1.out).mono ?_; rintro e w2 ⟨rfl, hu2⟩; have U2 := Lib.hid (V1.out.trans hu2 (fun _ _ f => f)); have B2 := Lib.hid (hu2.blk B1.out (fun f => f)); clear hu2)
    | (refine wpList_store_row rfl 38 (.tmp 2) (.tmp 15) rfl v0.heap.size (by rfl) iz (by rw [← HIZ.out]; kernel_rfl) 38 _ B2.out rfl IS.out IO.out ?_; intro w9 hb9 hu9 hs9))
  refine bodyPost_ret (results_cell_tmp Tryz.results7 _ _ v0.heap.size iz.toList _ rfl (range_blk (by rw [Array.toArray_toList]; exact hb9)) Tryz.underlying38 rfl (by rw [Array.length_toList]; exact IS.out)) rfl ?_
  exact ⟨by simp, U2.out.trans hu9 (fun j hj f => by have f : j = v0.heap.size := f; have := SV.out; omega)⟩
theorem sel_bnd : ∀ v : Nat, v ≤ 10 → -9223372036854775808 ≤ bits .andNot .i64 (2 ^ v - 1) 0 ∧ bits .andNot .i64 (2 ^ v - 1) 0 ≤ 9223372036854775807 := by
  intro v hv
  have : ∀ v : Fin 11, -9223372036854775808 ≤ bits .andNot .i64 (2 ^ v.1 - 1) 0 ∧ bits .andNot .i64 (2 ^ v.1 - 1) 0 ≤ 9223372036854775807 := by decide +kernel
  exact this ⟨v, by omega⟩
set_option maxRecDepth 100000 in
set_option maxHeartbeats 8000000 in
theorem itGenesis_ok {w : World} {A B C : Option Addr} {a b c : Nat} {g : GenS} (h : GenR w A B C a b c g) (hv : validG g = true) : Calls Tryz.prog 7 #[genV A B C a b c g] w fun e w' => ∃ A1 c1 A2 c2, e = .returned (.tuple #[.agg (itemC (hsum (encG g)) (genRest (.slice A1 (genCells g).length c1) (.slice A2 g.accs.length c2) (.slice none 0 0) (.slice none 0 0) (.int .i64 0) (selS g.vals.length g.n 0))).toArray, .int .i64 0]) ∧ NwA w.heap.size 109 11 (genCells g).length (((genCells g).map rowD).flatten) A1 c1 w' ∧ NwA w.heap.size 3 1 g.accs.length (List.replicate g.accs.length (Value.int .i64 0)) A2 c2 w' ∧ Upd NoF w w' := by
  obtain ⟨p1, p2, p3, p4, p5, p6, p7, p8, p9, p10⟩ := valid_parts hv
  have CE := Lib.hid (fun W (hu : Upd NoF w W) => EncodeGenesis_ok (w := W) (h.keep hu) hv)
  have CG := Lib.hid (fun W (hu : Upd NoF w W) => stGenesis_ok (w := W) (h.keep hu) hv)
  have CSE := Lib.hid (fun W => Select_any g.vals.length g.n 0 p4 h.n.1 h.n.2 (sel_bnd _ p4).1 (sel_bnd _ p4).2 W)
  have HEL := Lib.hid (encG_len h.vals.1 h.accs.1 p4 p7 p8)
  unfold genV at CE CG ⊢
  obtain ⟨EG, hEG⟩ : ∃ x, encG g = x := ⟨_, rfl⟩
  rw [hEG] at CE HEL ⊢
  obtain ⟨LF, hLF⟩ : ∃ x, genCells g = x := ⟨_, rfl⟩
  rw [hLF] at CG ⊢
  obtain ⟨v, hvl⟩ : ∃ n, g.vals.length = n := ⟨_, rfl⟩
  obtain ⟨m, hml⟩ : ∃ n, g.accs.length = n := ⟨_, rfl⟩
  obtain ⟨q, hql⟩ : ∃ n, g.bals.length = n := ⟨_, rfl⟩
  rw [hvl, hml, hql] at CE CG
  rw [hvl] at CSE
  rw [hvl, hml, hql]
  obtain ⟨mk, hmk⟩ : ∃ z, selS v g.n 0 = z := ⟨_, rfl⟩
  rw [hmk] at CSE ⊢
  have CNM := Lib.hid (fun W {D : Option Addr} {cd : Nat} (hr : Rd W 1 (.slice D EG.length cd) EG.length (EG.map byteV)) => bkName_any hr (by have := HEL.out; omega))
  have H8N := Lib.hid (hsum_len EG)
  have HBG := Lib.hid (fun x0 x1 x2 x3 x4 W => build_gen (hsum_len EG) x0 x1 x2 x3 x4 mk W)
  obtain ⟨HS, hHS⟩ : ∃ x, hsum EG = x := ⟨_, rfl⟩
  rw [hHS] at CNM H8N HBG ⊢
  obtain ⟨zn, hzn⟩ : ∃ y, (HS.map byteV).toArray = y := ⟨_, rfl⟩
  have HZN := Lib.hid hzn
  rw [show nameV HS = .agg zn from congrArg Value.agg hzn] at CNM HBG
  have IA := Lib.hid item_alloc
  obtain ⟨iz, hiz⟩ : ∃ x, itZ = x := ⟨_, rfl⟩
  rw [hiz] at IA
  have HI8 := Lib.hid (show iz.size = 28 from by rw [← hiz]; exact itZ_size)
  clear h hv p1 p2 p3 p4 p5 p6 p7 p8 p9 p10 hEG hLF hvl hml hql hmk hHS hzn hiz
  go_enter Tryz.func7, Tryz.ntmps7
  go_wp2_with (first
    | (refine wl_box rfl 25 (.tmp 0) rfl #[.int .i64 g.n, .int .i64 g.stake, .slice A v a, .slice B m b, .slice C q c] (by rfl) ?_; intro v0 hb0 hu0 hs0; have BX := Lib.hid hb0; have V0 := Lib.hid hu0; have S0 := Lib.hid hs0; clear hb0 hu0 hs0)
    | (refine wpList_alloc_row rfl 38 rfl iz IA.out ?_; intro w1 hb1 hu1 hs1; have BY := Lib.hid hb1; have S1 := Lib.hid hs1; replace BX := Lib.hid (hu1.blk BX.out (fun f => f)); have V1 := Lib.hid (V0.out.trans hu1 (fun _ _ f => f)); clear hb1 hu1 hs1)
    | (refine wl_load rfl 25 (.tmp 1) rfl w.heap.size 0 (by rfl) (#[.int .i64 g.n, .int .i64 g.stake, .slice A v a, .slice B m b, .slice C q c] : Array Value).toList _ (range_blk BX.out) Tryz.underlying25 rfl gen_size _ rfl ?_)
    | (refine (CE.out _ V1.out).mono ?_; rintro e w2 ⟨D, cd, rfl, hn2, hu2⟩; have NT := Lib.hid hn2; replace BX := Lib.hid (hu2.blk BX.out (fun f => f)); replace BY := Lib.hid (hu2.blk BY.out (fun f => f)); have V2 := Lib.hid (V1.out.trans hu2 (fun _ _ f => f)); have S2 := Lib.hid hu2.size; clear hn2 hu2)
    | (refine (CG.out _ V2.out).mono ?_; rintro e w3 ⟨A1, c1, A2, c2, he, hn3, hm3, hu3⟩; obtain ⟨sa, hsa⟩ : ∃ x, (#[.slice A1 LF.length c1, .slice A2 m c2, .slice none 0 0, .slice none 0 0, .int .i64 0] : Array Value) = x := ⟨_, rfl⟩; rw [hsa] at he; subst he; have HSA := Lib.hid hsa; have N3 := Lib.hid hn3; have M3 := Lib.hid hm3; have LN3 := Lib.hid (fun k (hk : OwnB (.slice A1 LF.length c1) k) => hn3.1.lt hk); have LM3 := Lib.hid (fun k (hk : OwnB (.slice A2 m c2) k) => hm3.1.lt hk); have LNT := Lib.hid (fun k (hk : OwnB (.slice D EG.length cd) k) => Nat.lt_of_lt_of_le (NT.out.1.lt hk) hu3.size); replace NT := Lib.hid (NT.out.keep hu3); replace BX := Lib.hid (hu3.blk BX.out (fun f => f)); replace BY := Lib.hid (hu3.blk BY.out (fun f => f)); have V3 := Lib.hid (V2.out.trans hu3 (fun _ _ f => f)); have S3 := Lib.hid hu3.size; clear hn3 hm3 hu3 hsa)
    | (refine wpList_alloc_row rfl 34 rfl zSt st_alloc ?_; intro w4 hb4 hu4 hs4; have BZ := Lib.hid hb4; replace NT := Lib.hid (NT.out.keep hu4); replace BX := Lib.hid (hu4.blk BX.out (fun f => f)); replace BY := Lib.hid (hu4.blk BY.out (fun f => f)); have V4 := Lib.hid (V3.out.trans hu4 (fun _ _ f => f)); replace N3 := Lib.hid (N3.out.keep hu4); replace M3 := Lib.hid (M3.out.keep hu4); have S4 := Lib.hid hs4; clear hb4 hu4 hs4)
    | (refine wpList_store_row rfl 34 (.tmp 6) (.tmp 19) rfl w3.heap.size (by rfl) sa (by rfl) 34 _ BZ.out (by rw [← HSA.out]; rfl) (by rw [← HSA.out]; exact st_size) (by rw [← HSA.out]; exact st_one _ _ _ _ _ _ _ _ _ _ _ _ _) ?_; intro w5 hb5 hu5 hs5; have BZ5 := Lib.hid hb5; have U5 := Lib.hid hu5; clear hb5 hu5 hs5))
  obtain ⟨X, hX⟩ : ∃ x, w.heap.size = x := ⟨_, rfl⟩
  obtain ⟨Y, hY⟩ : ∃ x, v0.heap.size = x := ⟨_, rfl⟩
  obtain ⟨Z, hZ⟩ : ∃ x, w3.heap.size = x := ⟨_, rfl⟩
  have OX := Lib.hid (show Y = X + 1 ∧ Y + 1 ≤ w2.heap.size ∧ w2.heap.size ≤ Z from by have := S0.out; have := S1.out; have := S2.out; have := S3.out; omega)
  have HX := Lib.hid hX
  rw [hX] at BX ⊢
  rw [hY] at BY ⊢
  rw [hZ] at BZ5 U5 ⊢
  have HBX := Lib.hid (U5.out.blk BX.out (fun f => by have f : X = Z := f; have := OX.out; omega))
  have HBY5 := Lib.hid (U5.out.blk BY.out (fun f => by have f : Y = Z := f; have := OX.out; omega))
  have nk : ∀ {e : TypeId} {s n : Nat} {xs : List Value} {A : Option Addr} {cc : Nat}, NwA w2.heap.size e s n xs A cc w4 → (∀ k, OwnB (.slice A n cc) k → k ≠ Z) → NwA w2.heap.size e s n xs A cc w5 := fun hN hz => ⟨hN.1.upd U5.out (fun j hj f => hz j hj f), hN.2⟩
  have ZN3 := Lib.hid (show ∀ k, OwnB (.slice A1 LF.length c1) k → k ≠ Z from fun k hk e => by have := LN3.out k hk; rw [hZ] at this; omega)
  have ZM3 := Lib.hid (show ∀ k, OwnB (.slice A2 m c2) k → k ≠ Z from fun k hk e => by have := LM3.out k hk; rw [hZ] at this; omega)
  have ZNT := Lib.hid (show ∀ k, OwnB (.slice D EG.length cd) k → k ≠ Z from fun k hk e => by have := LNT.out k hk; rw [hZ] at this; omega)
  obtain ⟨ri, hri⟩ : ∃ y, (itemC HS (genRest (.slice A1 LF.length c1) (.slice A2 m c2) (.slice none 0 0) (.slice none 0 0) (.int .i64 0) mk)).toArray = y := ⟨_, rfl⟩
  have HRIE := Lib.hid hri
  have HRI := Lib.hid (show ri.size = 28 from by rw [← hri]; simp [itemC, genRest, H8N.out])
  have HRO := Lib.hid (show ri.all (·.oneCell') = true from by
    rw [← hri, List.all_toArray, List.all_eq_true]
    intro u hu
    rcases List.mem_append.1 hu with h1 | h1
    · obtain ⟨b, -, rfl⟩ := List.mem_map.1 h1
      rfl
    · simp only [genRest, List.mem_cons, List.not_mem_nil, or_false] at h1
      rcases h1 with rfl | rfl | rfl | rfl | rfl | rfl | rfl | rfl | rfl | rfl | rfl | rfl | rfl | rfl | rfl | rfl | rfl | rfl | rfl | rfl <;> rfl)
  have HBLD := Lib.hid (fun W => by have := HBG.out (.slice A1 LF.length c1) (.slice A2 m c2) (.slice none 0 0) (.slice none 0 0) (.int .i64 0) W; rw [HSA.out, hri] at this; exact this)
  have UW0 := Lib.hid (show Upd NoF w w5 from V4.out.trans U5.out (fun k hk f => by have f : k = Z := f; have := OX.out; have := HX.out; omega))
  have T5 := Lib.hid (show NwA w1.heap.size 5 1 EG.length (EG.map byteV) D cd w5 from ⟨NT.out.1.upd U5.out (fun j hj f => ZNT.out j hj f), NT.out.2⟩)
  have N5 := Lib.hid (nk N3.out ZN3.out)
  have M5 := Lib.hid (nk M3.out ZM3.out)
  have SW1 := Lib.hid (show w1.heap.size = Y + 1 from by have := S1.out; omega)
  have SW2 := Lib.hid (show Y + 1 ≤ w2.heap.size from OX.out.2.1)
  have XY := Lib.hid (show X ≠ Y from by have := OX.out; omega)
  have ZY := Lib.hid (show Z ≠ Y from by have := OX.out; omega)
  have YX := Lib.hid (show Y = X + 1 from OX.out.1)
  obtain ⟨W1, hW1⟩ : ∃ x, x = w5 := ⟨_, rfl⟩
  rw [← hW1] at UW0 T5 N5 M5 HBX HBY5 BZ5 ⊢
  have HNT := Lib.hid (show NwA w1.heap.size 5 1 EG.length (EG.map byteV) D cd W1.drew from T5.out.keep (Upd.refl NoF W1).drew)
  have HNY := Lib.hid (show ∀ k, OwnB (.slice D EG.length cd) k → k ≠ Y from fun k hk e => by have := T5.out.2 k hk; have := SW1.out; omega)
  have CX2 := Lib.hid (show W1.drew.cell? ⟨X, 2, none⟩ = some (.slice A v a) from HBX.out.drew.cell 2)
  have CX0 := Lib.hid (show W1.drew.cell? ⟨X, 0, none⟩ = some (.int .i64 g.n) from HBX.out.drew.cell 0)
  have HBZ := Lib.hid (show Blk W1.drew Z 34 sa from BZ5.out.drew)
  have HBY := Lib.hid (show Blk W1.drew Y 38 iz ∧ iz.size = ri.size from ⟨HBY5.out.drew, by rw [HI8.out, HRI.out]⟩)
  clear hW1 hX hY hZ hri nk BX V0 S0 S1 BY V1 V2 S2 NT V3 S3 N3 M3 LN3 LM3 LNT BZ V4 S4 U5 BZ5 HBX HBY5 OX ZN3 ZM3 ZNT T5
  refine wp_region_rgl (rgR [isV (.slice D EG.length cd), isV (.agg zn), isV (.agg sa), isV (.pointer (some ⟨X, 2, none⟩)), isV (.slice A v a), isV (.int .i64 (v : Int)), isV (.pointer (some ⟨X, 0, none⟩)), isV (.int .i64 g.n), isV (.int .i64 mk), isV (.agg ri), anyV, isV (.int .i64 0)]) (fun _ w w' => Upd (fun k => k = Y) w w') (LsPh W1.drew Y 38 ri 10) (by kernel_rfl) (by kernel_rfl) (by kernel_rfl) (by rfl) (fun L w => Upd.refl _ _) (rgR_keepL ⟨stbL_isV _, stbL_isV _, stbL_isV _, stbL_isV _, stbL_isV _, stbL_isV _, stbL_isV _, stbL_isV _, stbL_isV _, stbL_isV _, stbL_any, stbL_isV _, trivial⟩) (LsPh.start HBY.out) ?_ ?_
  · refine ⟨?_, ?_, ?_, ?_, ?_, ?_, ?_, ?_, ?_, ?_, ?_, ?_, trivial⟩
    · refine fun ρ w' L hW hLi hcl hd hdep hext hc hg hf => ?_
      rw [if_pos (show wantedR _ _ _ = true from rfl)]
      have e4 : ρ (.tmp 4) = .slice D EG.length cd := hext 4 (by kernel_rfl)
      clear hdep hext
      have HW := Lib.hid hW
      clear hW hcl hd hLi
      unfold OpDone
      go_simp
      exact ⟨rfl, Upd.refl _ _, HW.out.same⟩
    · refine fun ρ w' L hW hLi hcl hd hdep hext hc hg hf => ?_
      rw [if_pos (show wantedR _ _ _ = true from rfl)]
      have e21 : ρ (.tmp 21) = .slice D EG.length cd := hdep 0 _ rfl (by kernel_rfl)
      clear hdep hext
      have CL := Lib.hid (CNM.out w' (HNT.out.1.upd hW.u1 (fun k hk e => HNY.out k hk e)).rd)
      have HW := Lib.hid hW
      clear hW hcl hd hLi
      unfold OpDone
      go_simp
      refine CL.out.mono ?_
      rintro e w2 ⟨rfl, hu⟩
      exact ⟨_, rfl, rfl, hu.mono (fun _ _ f => f.elim), HW.out.step hu⟩
    · refine fun ρ w' L hW hLi hcl hd hdep hext hc hg hf => ?_
      rw [if_pos (show wantedR _ _ _ = true from rfl)]
      have e6 : ρ (.tmp 6) = .pointer (some ⟨Z, 0, none⟩) := hext 6 (by kernel_rfl)
      clear hdep hext
      refine od_load_row 34 (.tmp 6) rfl Z 0 e6 sa.toList _ (range_blk (by rw [Array.toArray_toList]; exact hW.u1.blk HBZ.out (fun e => ZY.out e))) Tryz.underlying34 rfl (by rw [Array.length_toList, ← HSA.out]; exact st_size) ?_
      rw [show sa.toList.toArray = sa from by simp]
      exact ⟨rfl, Upd.refl _ _, hW.same⟩
    · refine fun ρ w' L hW hLi hcl hd hdep hext hc hg hf => ?_
      rw [if_pos (show wantedR _ _ _ = true from rfl)]
      have e1 : ρ (.tmp 1) = .pointer (some ⟨X, 0, none⟩) := hext 1 (by kernel_rfl)
      clear hdep hext
      have HW := Lib.hid hW
      clear hW hcl hd hLi
      unfold OpDone
      go_simp
      exact ⟨rfl, Upd.refl _ _, HW.out.same⟩
    · refine fun ρ w' L hW hLi hcl hd hdep hext hc hg hf => ?_
      rw [if_pos (show wantedR _ _ _ = true from rfl)]
      have e24 : ρ (.tmp 24) = .pointer (some ⟨X, 2, none⟩) := hdep 3 _ rfl (by kernel_rfl)
      clear hdep hext
      have q0 : w'.cell? ⟨X, 2, none⟩ = some (.slice A v a) := hW.u1.cell CX2.out (fun e => XY.out e)
      have HW := Lib.hid hW
      clear hW hcl hd hLi
      unfold OpDone
      go_simp
      exact ⟨rfl, Upd.refl _ _, HW.out.same⟩
    · refine fun ρ w' L hW hLi hcl hd hdep hext hc hg hf => ?_
      rw [if_pos (show wantedR _ _ _ = true from rfl)]
      have e25 : ρ (.tmp 25) = .slice A v a := hdep 4 _ rfl (by kernel_rfl)
      clear hdep hext
      have HW := Lib.hid hW
      clear hW hcl hd hLi
      unfold OpDone
      go_simp
      exact ⟨rfl, Upd.refl _ _, HW.out.same⟩
    · refine fun ρ w' L hW hLi hcl hd hdep hext hc hg hf => ?_
      rw [if_pos (show wantedR _ _ _ = true from rfl)]
      have e1 : ρ (.tmp 1) = .pointer (some ⟨X, 0, none⟩) := hext 1 (by kernel_rfl)
      clear hdep hext
      have HW := Lib.hid hW
      clear hW hcl hd hLi
      unfold OpDone
      go_simp
      exact ⟨rfl, Upd.refl _ _, HW.out.same⟩
    · refine fun ρ w' L hW hLi hcl hd hdep hext hc hg hf => ?_
      rw [if_pos (show wantedR _ _ _ = true from rfl)]
      have e27 : ρ (.tmp 27) = .pointer (some ⟨X, 0, none⟩) := hdep 6 _ rfl (by kernel_rfl)
      clear hdep hext
      have q0 : w'.cell? ⟨X, 0, none⟩ = some (.int .i64 g.n) := hW.u1.cell CX0.out (fun e => XY.out e)
      have HW := Lib.hid hW
      clear hW hcl hd hLi
      unfold OpDone
      go_simp
      exact ⟨rfl, Upd.refl _ _, HW.out.same⟩
    · refine fun ρ w' L hW hLi hcl hd hdep hext hc hg hf => ?_
      rw [if_pos (show wantedR _ _ _ = true from rfl)]
      have e26 : ρ (.tmp 26) = .int .i64 (v : Int) := hdep 5 _ rfl (by kernel_rfl)
      have e28 : ρ (.tmp 28) = .int .i64 g.n := hdep 7 _ rfl (by kernel_rfl)
      clear hdep hext
      have CL := Lib.hid (CSE.out w')
      have HW := Lib.hid hW
      clear hW hcl hd hLi
      unfold OpDone
      go_simp
      refine CL.out.mono ?_
      rintro e w2 ⟨rfl, hu⟩
      exact ⟨_, rfl, rfl, hu.mono (fun _ _ f => f.elim), HW.out.step hu⟩
    · refine fun ρ w' L hW hLi hcl hd hdep hext hc hg hf => ?_
      rw [if_pos (show wantedR _ _ _ = true from rfl)]
      have e22 : ρ (.tmp 22) = .agg zn := hdep 1 _ rfl (by kernel_rfl)
      have e23 : ρ (.tmp 23) = .agg sa := hdep 2 _ rfl (by kernel_rfl)
      have e29 : ρ (.tmp 29) = .int .i64 mk := hdep 8 _ rfl (by kernel_rfl)
      clear hdep hext
      have HB := Lib.hid (HBLD.out w')
      refine od_build 38 #[(0, .tmp 22), (1, .const (.int .i64 1)), (7, .tmp 23), (6, .tmp 29)] rfl #[(0, .agg zn), (1, .int .i64 1), (7, .agg sa), (6, .int .i64 mk)] (by simp [e22, e23, e29, hc]) HB.out ?_
      exact ⟨rfl, Upd.refl _ _, hW.same⟩
    · refine fun ρ w' L hW hLi hcl hd hdep hext hc hg hf => ?_
      rw [if_pos (show wantedR _ _ _ = true from rfl)]
      have e2 : ρ (.tmp 2) = .pointer (some ⟨Y, 0, none⟩) := hext 2 (by kernel_rfl)
      have e30 : ρ (.tmp 30) = .agg ri := hdep 9 _ rfl (by kernel_rfl)
      clear hdep hext
      obtain ⟨cs, hcs1, hcs2⟩ := hW.x0
      refine od_store_row 38 (.tmp 2) (.tmp 30) rfl Y e2 ri e30 38 cs hcs1 hcs2 (by rw [HRI.out]; exact item_size) HRO.out ?_
      intro w9 hb9 hu9 hs9
      exact ⟨trivial, hu9, hW.put hb9 hu9⟩
    · refine fun ρ w' L hW hLi hcl hd hdep hext hc hg hf => ?_
      rw [if_pos (show wantedR _ _ _ = true from rfl)]
      clear hdep hext
      have HW := Lib.hid hW
      clear hW hcl hd hLi
      unfold OpDone
      go_simp
      exact ⟨rfl, Upd.refl _ _, HW.out.same⟩
  intro vs W3 L3 hL3 hW3 hR
  have hv0 : vs 0 = .slice D EG.length cd := hR 0 _ rfl
  have hv1 : vs 1 = .agg zn := hR 1 _ rfl
  have hv2 : vs 2 = .agg sa := hR 2 _ rfl
  have hv3 : vs 3 = .pointer (some ⟨X, 2, none⟩) := hR 3 _ rfl
  have hv4 : vs 4 = .slice A v a := hR 4 _ rfl
  have hv5 : vs 5 = .int .i64 (v : Int) := hR 5 _ rfl
  have hv6 : vs 6 = .pointer (some ⟨X, 0, none⟩) := hR 6 _ rfl
  have hv7 : vs 7 = .int .i64 g.n := hR 7 _ rfl
  have hv8 : vs 8 = .int .i64 mk := hR 8 _ rfl
  have hv9 : vs 9 = .agg ri := hR 9 _ rfl
  have hv11 : vs 11 = .int .i64 0 := hR 11 _ rfl
  simp only [putAll, Act.put, List.setIfInBounds_toArray, List.set_cons_zero, List.set_cons_succ, hv0, hv1, hv2, hv3, hv4, hv5, hv6, hv7, hv8, hv9, hv11]
  clear hR hv0 hv1 hv2 hv3 hv4 hv5 hv6 hv7 hv8 hv9 hv11
  have hw3 := Lib.hid (hW3.f (hL3 10 (by decide)))
  have hu3 := Lib.hid hW3.u1
  clear hW3
  go_wp2_with fail
  refine bodyPost_ret (results_cell_tmp Tryz.results7 _ _ Y ri.toList _ rfl (range_blk (by rw [Array.toArray_toList]; exact hw3.out)) Tryz.underlying38 rfl (by rw [Array.length_toList, HRI.out]; exact item_size)) rfl ?_
  have fin : ∀ {e : TypeId} {s n : Nat} {xs : List Value} {A : Option Addr} {cc : Nat}, NwA w2.heap.size e s n xs A cc W1 → NwA w.heap.size e s n xs A cc W3 := fun hN => ⟨hN.1.upd ((Upd.refl NoF W1).drew.mono (G := fun k => k = Y) (fun _ _ f => f.elim) |>.trans hu3.out (fun _ _ f => f)) (fun j hj f => by have := hN.2 j hj; have f : j = Y := f; have := SW2.out; omega), fun j hj => by have := hN.2 j hj; have := SW2.out; have := YX.out; have := HX.out; omega⟩
  refine ⟨A1, c1, A2, c2, by rw [HRIE.out]; simp, fin N5.out, fin M5.out, UW0.out.drew.trans hu3.out (fun j hj f => by have f : j = Y := f; have := YX.out; have := HX.out; omega)⟩
end

section
open Go.RowKit Go.Lib

theorem wanted_go {l : List Oper} {o : Oper} {ρ : Operand → Value} {A B : Prop} (h : wantedR l o ρ = true) (a : A) : if wantedR l o ρ = true then A else B := by rw [if_pos h]; exact a
def pickB (n : List UInt8) (l : List (List UInt8)) : List UInt8 := (pickT n l).getD []
set_option maxRecDepth 100000 in
set_option maxHeartbeats 4000000 in
theorem r20TextName_any {w : World} {v : Value} {bs : List UInt8} (h : Rd w 1 v bs.length (bs.map byteV)) (hb : bs.length ≤ 4611686018427387904) : Calls Tryz.prog 22 #[v] w fun e w' => e = .returned (nameV (hsum bs)) ∧ Upd NoF w w' := by
  have CS := Lib.hid (fun W (hu : Upd NoF w W) => r1Sum_any (h.keep hu) hb)
  obtain ⟨za, hza⟩ : ∃ y, ((hsum bs).map byteV).toArray = y := ⟨_, rfl⟩
  have HZA := Lib.hid (name_arr (hsum_len bs) hza)
  rw [show nameV (hsum bs) = .agg za from congrArg Value.agg hza] at CS ⊢
  clear h hza
  go_enter Tryz.func22, Tryz.ntmps22
  go_wp2_with (first
    | (refine wpList_alloc_row rfl 28 rfl zN name_alloc ?_; intro w1 hb1 hu1 hs1; have B1 := Lib.hid hb1; have U1 := Lib.hid hu1; clear hb1 hu1 hs1)
    | (refine (CS.out _ U1.out).mono ?_; rintro e w2 ⟨rfl, hu2⟩; have U2 := Lib.hid (U1.out.trans hu2 (fun _ _ f => f)); have B2 := Lib.hid (hu2.blk B1.out (fun f => f)); clear hu2)
    | (refine wpList_store_row rfl 28 (.tmp 2) (.tmp 4) rfl w.heap.size (by rfl) za (by rfl) 28 _ B2.out (by rw [HZA.out.1]; exact zN_size) (by rw [name_size, HZA.out.1]) HZA.out.2 ?_; intro w3 hb3 hu3 hs3; have B3 := Lib.hid hb3; have U3 := Lib.hid (U2.out.trans hu3 (F := NoF) (fun j hj e => by have e : j = w.heap.size := e; omega)); clear hb3 hu3 hs3))
  refine bodyPost_ret (results_cell_row Tryz.results22 _ _ w.heap.size 28 za (0, 0) _ rfl B3.out Tryz.underlying28 rfl (by rw [name_size, HZA.out.1])) rfl ⟨rfl, U3.out⟩
def TxRel (v0 w : World) (nm : List UInt8) (l : List (List UInt8)) (n : Nat) (s6 s7 s12 : Value) (wr : World) : Prop :=
  ∃ (k : Nat) (po : Option (List UInt8)) (A6 : Option Addr) (m6 c6 : Nat), s6 = .slice A6 m6 c6 ∧ s7 = .bool po.isSome ∧ s12 = .int .i64 (k : Int) ∧ k ≤ n ∧ po = pickT nm (l.take k) ∧ (po.getD []).length = m6 ∧ Rd w 1 (.slice A6 m6 c6) m6 ((po.getD []).map byteV) ∧ Upd NoF v0 wr
end
end Go.Proofs.YtengcmfdfmnacaaGreat
