/- The sanity check of the items answers true. No condition. The law ItemsGenesis, walked. Conditions: the argument as it was opened. A list of items among the arguments. No condition. ItemsGenesis, lifted to its statement. No condition. ItemsGenesis: the closed facts of its row. No condition. -/
import Derived.Test.YtengcmfdfmnacaaGreatJn26
import Derived.WalkSpells
import Derived.OwnWalk
import Derived.Test.YtengcmfdfmnacaaGreatJn24
import Derived.Test.YtengcmfdfmnacaaGreatJn13
import Derived.Test.YtengcmfdfmnacaaGreatJn4
import Derived.Test.YtengcmfdfmnacaaGreatJn3
import Derived.JoinedOf
namespace Go.Proofs.YtengcmfdfmnacaaGreat
section
open Go.RowKit Go.Lib

set_option maxRecDepth 100000 in
set_option maxHeartbeats 8000000 in
theorem awake25_ok (w : World) : Calls Tryz.prog 6 #[] w fun e w' => e = .returned (.bool true) ∧ Upd NoF w w' := by
  have K := Lib.hid (fun W (h : Upd NoF w W) => h)
  have CB5 := Lib.hid (fun W v g0 g1 g2 g3 g4 L h => ItemsBlock_bad (w := W) (v := v) g0 g1 g2 g3 g4 L h)
  have CC5 := Lib.hid (fun W v A0 c0 rest g0 g1 g2 g3 g4 h hi hone hm => aw_call7 (W := W) (v := v) (A0 := A0) (c0 := c0) (rest := rest) g0 g1 g2 g3 g4 h hi hone hm)
  have CN5 := Lib.hid (fun W v g0 g1 g2 g3 g4 h => aw_call8 (W := W) (v := v) g0 g1 g2 g3 g4 h)
  have IA := Lib.hid item_alloc
  have IO := Lib.hid itZ_one
  have IZ := Lib.hid itZ_size
  have CZ := Lib.hid aw_call3
  obtain ⟨iz, hiz⟩ : ∃ x, itZ = x := ⟨_, rfl⟩
  rw [hiz] at IA IO IZ CZ CB5 CC5 CN5
  obtain ⟨z0, z1, z2, z3, z4, z5, z6, z7, hzn⟩ := aw_arr8
  have HZN := Lib.hid hzn
  have HIZ := Lib.hid hiz
  clear hiz hzn
  go_enter Tryz.func6, Tryz.ntmps6
  go_wp2_with (first
    | (with_reducible show wpList _ _ _ (Oper.mk (some 19) _ _ _ _ _ :: _) _ _; refine wl_new rfl awV 28 (.slice (some ⟨w.heap.size, 0, none⟩) 4 4) (by kernel_rfl) ?_; intro v1 hb hu; replace K := Lib.hid (fun W (h : Upd NoF _ W) => And.intro (K.out W (hu.trans h (fun _ _ f => f))) (h.blk hb (fun f => f))); clear hb hu)
    | (with_reducible show wpList _ _ _ (Oper.mk (some 21) _ _ _ _ _ :: _) _ _; refine wl_new rfl awA 28 (.slice (some ⟨v1.heap.size, 0, none⟩) 1 1) (by kernel_rfl) ?_; intro v2 hb hu; replace K := Lib.hid (fun W (h : Upd NoF _ W) => And.intro (K.out W (hu.trans h (fun _ _ f => f))) (h.blk hb (fun f => f))); clear hb hu)
    | (with_reducible show wpList _ _ _ (Oper.mk (some 22) _ _ _ _ _ :: _) _ _; refine wl_new rfl awB 3 (.slice (some ⟨v2.heap.size, 0, none⟩) 1 1) (by kernel_rfl) ?_; intro v3 hb hu; replace K := Lib.hid (fun W (h : Upd NoF _ W) => And.intro (K.out W (hu.trans h (fun _ _ f => f))) (h.blk hb (fun f => f))); clear hb hu)
    | (refine wl_load rfl 25 (.tmp 1) rfl v3.heap.size 0 (by rfl) (#[.int .i64 4, .int .i64 0, .slice (some ⟨w.heap.size, 0, none⟩) 4 4, .slice (some ⟨v1.heap.size, 0, none⟩) 1 1, .slice (some ⟨v2.heap.size, 0, none⟩) 1 1] : Array Value).toList _ (range_blk (by have k := K.out _ (Upd.refl _ _); first | exact k.2 | exact k.1.2 | exact k.1.1.2 | exact k.1.1.1.2 | exact k.1.1.1.1.2 | exact k.1.1.1.1.1.2 | exact k.1.1.1.1.1.1.2 | exact k.1.1.1.1.1.1.1.2 | exact k.1.1.1.1.1.1.1.1.2)) Tryz.underlying25 rfl gen_size _ rfl ?_)
    | (with_reducible show Calls _ 7 #[.agg #[.int .i64 4, _, _, _, _]] _ _; refine (aw_call1 (by have k := K.out _ (((Upd.refl NoF v3).alloc (.cells #[.int .i64 4, .int .i64 0, .slice (some ⟨w.heap.size, 0, none⟩) 4 4, .slice (some ⟨v1.heap.size, 0, none⟩) 1 1, .slice (some ⟨v2.heap.size, 0, none⟩) 1 1] 25))); first | exact k.2 | exact k.1.2 | exact k.1.1.2 | exact k.1.1.1.2 | exact k.1.1.1.1.2 | exact k.1.1.1.1.1.2 | exact k.1.1.1.1.1.1.2 | exact k.1.1.1.1.1.1.1.2 | exact k.1.1.1.1.1.1.1.1.2) (by have k := K.out _ (((Upd.refl NoF v3).alloc (.cells #[.int .i64 4, .int .i64 0, .slice (some ⟨w.heap.size, 0, none⟩) 4 4, .slice (some ⟨v1.heap.size, 0, none⟩) 1 1, .slice (some ⟨v2.heap.size, 0, none⟩) 1 1] 25))); first | exact k.2 | exact k.1.2 | exact k.1.1.2 | exact k.1.1.1.2 | exact k.1.1.1.1.2 | exact k.1.1.1.1.1.2 | exact k.1.1.1.1.1.1.2 | exact k.1.1.1.1.1.1.1.2 | exact k.1.1.1.1.1.1.1.1.2) (by have k := K.out _ (((Upd.refl NoF v3).alloc (.cells #[.int .i64 4, .int .i64 0, .slice (some ⟨w.heap.size, 0, none⟩) 4 4, .slice (some ⟨v1.heap.size, 0, none⟩) 1 1, .slice (some ⟨v2.heap.size, 0, none⟩) 1 1] 25))); first | exact k.2 | exact k.1.2 | exact k.1.1.2 | exact k.1.1.1.2 | exact k.1.1.1.1.2 | exact k.1.1.1.1.1.2 | exact k.1.1.1.1.1.1.2 | exact k.1.1.1.1.1.1.1.2 | exact k.1.1.1.1.1.1.1.1.2) rfl).mono ?_; rintro e v6 ⟨rest, he, hok, h12, h0, hu⟩; obtain ⟨ra, hra⟩ : ∃ x, (itemC awI.name rest).toArray = x := ⟨_, rfl⟩; rw [hra] at he; subst he; have HRA := Lib.hid hra; have HOK := Lib.hid hok; have H12 := Lib.hid h12; have H0 := Lib.hid h0; have HSZ := Lib.hid (show ra.size = 28 from by rw [← hra]; exact (by rw [List.size_toArray]; exact itemC_len (hok v6))); have HON := Lib.hid (show ra.all (·.oneCell') = true from by rw [← hra]; exact itemC_one (hok v6)); replace K := Lib.hid (fun W (h : Upd NoF _ W) => And.intro (K.out W ((((Upd.refl NoF v3).alloc (.cells #[.int .i64 4, .int .i64 0, .slice (some ⟨w.heap.size, 0, none⟩) 4 4, .slice (some ⟨v1.heap.size, 0, none⟩) 1 1, .slice (some ⟨v2.heap.size, 0, none⟩) 1 1] 25)).trans hu (fun _ _ f => f)).trans h (fun _ _ f => f))) (h.blk (hu.blk (Blk.new v3 25 #[.int .i64 4, .int .i64 0, .slice (some ⟨w.heap.size, 0, none⟩) 4 4, .slice (some ⟨v1.heap.size, 0, none⟩) 1 1, .slice (some ⟨v2.heap.size, 0, none⟩) 1 1]) (fun f => f)) (fun f => f))); clear hok h12 h0 hu hra)
    | (with_reducible show wpList _ _ _ (Oper.mk (some 24) _ _ _ _ _ :: _) _ _; refine wl_run rfl (v := .tuple #[.agg ra, .int .i64 0]) (by rfl) ?_)
    | (with_reducible show wpList _ _ _ (Oper.mk (some 27) _ _ _ _ _ :: _) _ _; refine wl_run rfl (v := .agg ra) (by rfl) ?_)
    | (with_reducible show wpList _ _ _ (Oper.mk (some 28) _ _ _ _ _ :: _) _ _; refine wl_run rfl (v := .int .i64 0) (by rfl) ?_)
    | (with_reducible show wpList _ _ _ (Oper.mk (some 3) _ _ _ _ _ :: _) _ _; refine wl_run rfl (v := .int .i64 0) (by rfl) ?_)
    | (with_reducible show wpList _ _ _ (Oper.mk (some 29) _ _ _ _ _ :: _) _ _; refine wl_run rfl (v := .tuple #[.agg iz, .int .i64 1]) (by rfl) ?_)
    | (with_reducible show wpList _ _ _ (Oper.mk (some 32) _ _ _ _ _ :: _) _ _; refine wl_run rfl (v := .agg iz) (by rfl) ?_)
    | (with_reducible show wpList _ _ _ (Oper.mk (some 33) _ _ _ _ _ :: _) _ _; refine wl_run rfl (v := .int .i64 1) (by rfl) ?_)
    | (with_reducible show wpList _ _ _ (Oper.mk (some 5) _ _ _ _ _ :: _) _ _; refine wl_run rfl (v := .int .i64 1) (by rfl) ?_)
    | (with_reducible show wpList _ _ _ (Oper.mk (some 36) _ _ _ _ _ :: _) _ _; refine wl_run rfl (v := .tuple #[.agg iz, .int .i64 4]) (by rfl) ?_)
    | (with_reducible show wpList _ _ _ (Oper.mk (some 42) _ _ _ _ _ :: _) _ _; refine wl_run rfl (v := .agg iz) (by rfl) ?_)
    | (with_reducible show wpList _ _ _ (Oper.mk (some 43) _ _ _ _ _ :: _) _ _; refine wl_run rfl (v := .int .i64 4) (by rfl) ?_)
    | (with_reducible show wpList _ _ _ (Oper.mk (some 8) _ _ _ _ _ :: _) _ _; refine wl_run rfl (v := .int .i64 4) (by rfl) ?_)
    | (with_reducible show wpList _ _ _ (Oper.mk (some 56) _ _ _ _ _ :: _) _ _; refine wl_run rfl (v := .tuple #[.agg iz, .int .i64 105]) (by rfl) ?_)
    | (with_reducible show wpList _ _ _ (Oper.mk (some 62) _ _ _ _ _ :: _) _ _; refine wl_run rfl (v := .agg iz) (by rfl) ?_)
    | (with_reducible show wpList _ _ _ (Oper.mk (some 63) _ _ _ _ _ :: _) _ _; refine wl_run rfl (v := .int .i64 105) (by rfl) ?_)
    | (with_reducible show wpList _ _ _ (Oper.mk (some 12) _ _ _ _ _ :: _) _ _; refine wl_run rfl (v := .int .i64 105) (by rfl) ?_)
    | (with_reducible show wpList _ _ _ (Oper.mk (some 64) _ _ _ _ _ :: _) _ _; refine wl_run rfl (v := .tuple #[.agg iz, .int .i64 6]) (by rfl) ?_)
    | (with_reducible show wpList _ _ _ (Oper.mk (some 69) _ _ _ _ _ :: _) _ _; refine wl_run rfl (v := .agg iz) (by rfl) ?_)
    | (with_reducible show wpList _ _ _ (Oper.mk (some 70) _ _ _ _ _ :: _) _ _; refine wl_run rfl (v := .int .i64 6) (by rfl) ?_)
    | (with_reducible show wpList _ _ _ (Oper.mk (some 14) _ _ _ _ _ :: _) _ _; refine wl_run rfl (v := .int .i64 6) (by rfl) ?_)
    | (with_reducible show wpList _ _ _ (Oper.mk (some 2) _ _ _ _ _ :: _) _ _; refine wpList_alloc_row rfl 38 rfl iz IA.out ?_; intro va hb hu hs; have UA := Lib.hid hu; have BN := Lib.hid hb; have SZ := Lib.hid hs; clear hb hu hs)
    | (refine wpList_store_row rfl 38 (.tmp 2) (.tmp 27) rfl _ (by rfl) ra (by rfl) 38 _ BN.out (by first | rfl | rw [IZ.out, HSZ.out]) (by rw [HSZ.out]; exact item_size) HON.out ?_; intro vb hb hu hs; have hh := UA.out.trans hu (F := NoF) (fun j hj f => Nat.lt_irrefl _ (Nat.lt_of_lt_of_eq hj (Eq.symm f))); replace K := Lib.hid (fun W (h : Upd NoF _ W) => And.intro (K.out W (hh.trans h (fun _ _ f => f))) (h.blk hb (fun f => f))); clear hb hu hs hh UA BN SZ)
    | (with_reducible show wpList _ _ _ (Oper.mk (some 4) _ _ _ _ _ :: _) _ _; refine wpList_alloc_row rfl 38 rfl iz IA.out ?_; intro va hb hu hs; have UA := Lib.hid hu; have BN := Lib.hid hb; have SZ := Lib.hid hs; clear hb hu hs)
    | (refine wpList_store_row rfl 38 (.tmp 4) (.tmp 32) rfl _ (by rfl) iz (by rfl) 38 _ BN.out (by first | rfl | rw [IZ.out, IZ.out]) (by rw [IZ.out]; exact item_size) IO.out ?_; intro vb hb hu hs; have hh := UA.out.trans hu (F := NoF) (fun j hj f => Nat.lt_irrefl _ (Nat.lt_of_lt_of_eq hj (Eq.symm f))); replace K := Lib.hid (fun W (h : Upd NoF _ W) => K.out W (hh.trans h (fun _ _ f => f))); clear hb hu hs hh UA BN SZ)
    | (with_reducible show wpList _ _ _ (Oper.mk (some 7) _ _ _ _ _ :: _) _ _; refine wpList_alloc_row rfl 38 rfl iz IA.out ?_; intro va hb hu hs; have UA := Lib.hid hu; have BN := Lib.hid hb; have SZ := Lib.hid hs; clear hb hu hs)
    | (refine wpList_store_row rfl 38 (.tmp 7) (.tmp 42) rfl _ (by rfl) iz (by rfl) 38 _ BN.out (by first | rfl | rw [IZ.out, IZ.out]) (by rw [IZ.out]; exact item_size) IO.out ?_; intro vb hb hu hs; have hh := UA.out.trans hu (F := NoF) (fun j hj f => Nat.lt_irrefl _ (Nat.lt_of_lt_of_eq hj (Eq.symm f))); replace K := Lib.hid (fun W (h : Upd NoF _ W) => K.out W (hh.trans h (fun _ _ f => f))); clear hb hu hs hh UA BN SZ; obtain ⟨n0, n1, n2, n3, n4, n5, n6, n7⟩ := aw_cells HZN.out HRA.out (show Blk vb v6.heap.size 38 ra from (by have k := K.out _ (Upd.refl _ _); first | exact k.2 | exact k.1.2 | exact k.1.1.2 | exact k.1.1.1.2 | exact k.1.1.1.1.2 | exact k.1.1.1.1.1.2 | exact k.1.1.1.1.1.1.2 | exact k.1.1.1.1.1.1.1.2 | exact k.1.1.1.1.1.1.1.1.2)))
    | (with_reducible show wpList _ _ _ (Oper.mk (some 11) _ _ _ _ _ :: _) _ _; refine wpList_alloc_row rfl 38 rfl iz IA.out ?_; intro va hb hu hs; have UA := Lib.hid hu; have BN := Lib.hid hb; have SZ := Lib.hid hs; clear hb hu hs)
    | (refine wpList_store_row rfl 38 (.tmp 11) (.tmp 62) rfl _ (by rfl) iz (by rfl) 38 _ BN.out (by first | rfl | rw [IZ.out, IZ.out]) (by rw [IZ.out]; exact item_size) IO.out ?_; intro vb hb hu hs; have hh := UA.out.trans hu (F := NoF) (fun j hj f => Nat.lt_irrefl _ (Nat.lt_of_lt_of_eq hj (Eq.symm f))); replace K := Lib.hid (fun W (h : Upd NoF _ W) => K.out W (hh.trans h (fun _ _ f => f))); clear hb hu hs hh UA BN SZ)
    | (with_reducible show wpList _ _ _ (Oper.mk (some 13) _ _ _ _ _ :: _) _ _; refine wpList_alloc_row rfl 38 rfl iz IA.out ?_; intro va hb hu hs; have UA := Lib.hid hu; have BN := Lib.hid hb; have SZ := Lib.hid hs; clear hb hu hs)
    | (refine wpList_store_row rfl 38 (.tmp 13) (.tmp 69) rfl _ (by rfl) iz (by rfl) 38 _ BN.out (by first | rfl | rw [IZ.out, IZ.out]) (by rw [IZ.out]; exact item_size) IO.out ?_; intro vb hb hu hs; have hh := UA.out.trans hu (F := NoF) (fun j hj f => Nat.lt_irrefl _ (Nat.lt_of_lt_of_eq hj (Eq.symm f))); replace K := Lib.hid (fun W (h : Upd NoF _ W) => K.out W (hh.trans h (fun _ _ f => f))); clear hb hu hs hh UA BN SZ; obtain ⟨n0, n1, n2, n3, n4, n5, n6, n7⟩ := aw_cells HZN.out HRA.out (show Blk vb v6.heap.size 38 ra from (by have k := K.out _ (Upd.refl _ _); first | exact k.2 | exact k.1.2 | exact k.1.1.2 | exact k.1.1.1.2 | exact k.1.1.1.1.2 | exact k.1.1.1.1.1.2 | exact k.1.1.1.1.1.1.2 | exact k.1.1.1.1.1.1.1.2 | exact k.1.1.1.1.1.1.1.1.2)); have c20 : vb.cell? ⟨v6.heap.size, 20, none⟩ = some (.int .i64 15) := ((show Blk vb v6.heap.size 38 ra from (by have k := K.out _ (Upd.refl _ _); first | exact k.2 | exact k.1.2 | exact k.1.1.2 | exact k.1.1.1.2 | exact k.1.1.1.1.2 | exact k.1.1.1.1.1.2 | exact k.1.1.1.1.1.1.2 | exact k.1.1.1.1.1.1.1.2 | exact k.1.1.1.1.1.1.1.1.2)).cell 20).trans (aw_tr HRA.out (aw_c20 H12.out)); have c8 : vb.cell? ⟨v6.heap.size, 8, none⟩ = some (.int .i64 1) := ((show Blk vb v6.heap.size 38 ra from (by have k := K.out _ (Upd.refl _ _); first | exact k.2 | exact k.1.2 | exact k.1.1.2 | exact k.1.1.1.2 | exact k.1.1.1.1.2 | exact k.1.1.1.1.1.2 | exact k.1.1.1.1.1.1.2 | exact k.1.1.1.1.1.1.1.2 | exact k.1.1.1.1.1.1.1.1.2)).cell 8).trans (aw_tr HRA.out (aw_c8 H0.out)))
    | (with_reducible show Calls _ 7 #[.agg #[.int .i64 0, _, _, _, _]] _ _; refine (CZ.out _).mono ?_; rintro e vz ⟨rfl, hu⟩; replace K := Lib.hid (fun W (h : Upd NoF _ W) => K.out W (hu.trans h (fun _ _ f => f))); clear hu)
    | (refine wl_load rfl 38 (.tmp 2) rfl v6.heap.size 0 (by rfl) ra.toList _ (range_blk (by rw [Array.toArray_toList]; exact (by have k := K.out _ (Upd.refl _ _); first | exact k.2 | exact k.1.2 | exact k.1.1.2 | exact k.1.1.1.2 | exact k.1.1.1.1.2 | exact k.1.1.1.1.1.2 | exact k.1.1.1.1.1.1.2 | exact k.1.1.1.1.1.1.1.2 | exact k.1.1.1.1.1.1.1.1.2))) Tryz.underlying38 rfl (by rw [Array.length_toList, HSZ.out]; exact item_size) ra (by simp) ?_)
    | (refine wl_row1 rfl 44 38 (.tmp 34) rfl (.agg ra) (by rfl) ra (run_slice_item HSZ.out _) ?_; intro vi hb hu; replace K := Lib.hid (fun W (h : Upd NoF _ W) => And.intro (K.out W (hu.trans h (fun _ _ f => f))) ((by have q := h.blk hb (fun f => f); rw [← HRA.out] at q; exact aw_gr (HOK.out W) q))); clear hb hu)
    | (with_reducible show Calls _ 25 #[_, _, _, .slice _ 1 1] _ _; refine (CB5.out _ _ _ _ _ _ _ _ (aw_txt (Blk.new vi 5 #[.int .u8 3]))).mono ?_; rintro e vz ⟨rfl, hu⟩; replace K := Lib.hid (fun W (h : Upd NoF _ W) => K.out W ((((Upd.refl NoF vi).alloc (.cells #[.int .u8 3] 5)).trans hu (fun _ _ f => f)).trans h (fun _ _ f => f))); clear hu)
    | (refine wl_build rfl 67 #[(0, .tmp 46), (1, .tmp 51)] rfl #[(0, .agg #[z0, z1, z2, z3, z4, z5, z6, z7]), (1, .slice (some ⟨_, 0, none⟩) 4 4)] (by simp; exact ⟨rfl, rfl⟩) _ (aw_blk HZN.out _) ?_; generalize hxb : (blkC awI.name (.slice (some ⟨_, 0, none⟩) 4 4)).toArray = xb; have HXB := Lib.hid hxb; clear hxb)
    | (with_reducible show Calls _ 26 _ _ _; refine (aw_call6' (Blk.new vb 64 #[.int .i64 0, .int .u8 0, .int .u8 0, .int .u8 0, .int .u8 0, .int .u8 0, .int .u8 0, .int .u8 0, .int .u8 0, .int .i64 1, .int .u8 0, .int .u8 0, .int .u8 0, .int .u8 0, .int .u8 0, .int .u8 0, .int .u8 0, .int .u8 0, .int .i64 2, .int .u8 0, .int .u8 0, .int .u8 0, .int .u8 0, .int .u8 0, .int .u8 0, .int .u8 0, .int .u8 0, .int .i64 3, .int .u8 0, .int .u8 0, .int .u8 0, .int .u8 0, .int .u8 0, .int .u8 0, .int .u8 0, .int .u8 0]) HXB.out).mono ?_; rintro e vd ⟨B, d, he, hr, hu⟩; obtain ⟨tn, htn⟩ : ∃ x, (3 :: blkT awI.name aw4).length = x := ⟨_, rfl⟩; rw [htn] at he hr; subst he; have HTN := Lib.hid htn; replace K := Lib.hid (fun W (h : Upd NoF _ W) => And.intro (K.out W ((((Upd.refl NoF vb).alloc (.cells #[.int .i64 0, .int .u8 0, .int .u8 0, .int .u8 0, .int .u8 0, .int .u8 0, .int .u8 0, .int .u8 0, .int .u8 0, .int .i64 1, .int .u8 0, .int .u8 0, .int .u8 0, .int .u8 0, .int .u8 0, .int .u8 0, .int .u8 0, .int .u8 0, .int .i64 2, .int .u8 0, .int .u8 0, .int .u8 0, .int .u8 0, .int .u8 0, .int .u8 0, .int .u8 0, .int .u8 0, .int .i64 3, .int .u8 0, .int .u8 0, .int .u8 0, .int .u8 0, .int .u8 0, .int .u8 0, .int .u8 0, .int .u8 0] 64)).trans hu (fun _ _ f => f)).trans h (fun _ _ f => f))) (hr.keep h)); clear hr hu htn)
    | (with_reducible show Calls _ 25 #[_, _, .slice none _ _, _] _ _; refine (CN5.out _ _ _ _ _ _ _ (by rw [HTN.out]; exact (by have k := K.out _ (Upd.refl _ _); first | exact k.2 | exact k.1.2 | exact k.1.1.2 | exact k.1.1.1.2 | exact k.1.1.1.1.2 | exact k.1.1.1.1.1.2 | exact k.1.1.1.1.1.1.2 | exact k.1.1.1.1.1.1.1.2 | exact k.1.1.1.1.1.1.1.1.2))).mono ?_; rintro e vz ⟨rfl, hu⟩; replace K := Lib.hid (fun W (h : Upd NoF _ W) => K.out W (hu.trans h (fun _ _ f => f))); clear hu)
    | (with_reducible show Calls _ 25 #[_, _, _, _] _ _; refine (CC5.out _ _ _ _ rest _ _ _ _ _ (by rw [HTN.out]; exact (by have k := K.out _ (Upd.refl _ _); first | exact k.2 | exact k.1.2 | exact k.1.1.2 | exact k.1.1.1.2 | exact k.1.1.1.1.2 | exact k.1.1.1.1.1.2 | exact k.1.1.1.1.1.1.2 | exact k.1.1.1.1.1.1.1.2 | exact k.1.1.1.1.1.1.1.1.2)) (by have k := K.out _ (Upd.refl _ _); first | exact k.2 | exact k.1.2 | exact k.1.1.2 | exact k.1.1.1.2 | exact k.1.1.1.1.2 | exact k.1.1.1.1.1.2 | exact k.1.1.1.1.1.1.2 | exact k.1.1.1.1.1.1.1.2 | exact k.1.1.1.1.1.1.1.1.2) (HOK.out w).one H12.out).mono ?_; rintro e vz ⟨rfl, hu⟩; replace K := Lib.hid (fun W (h : Upd NoF _ W) => K.out W (hu.trans h (fun _ _ f => f))); clear hu)
    | (with_reducible show Calls _ 14 #[_, .agg #[.int .u8 9, _, _, _, _, _, _, _]] _ _; refine (aw_call14n (by have k := K.out _ (Upd.refl _ _); first | exact k.2 | exact k.1.2 | exact k.1.1.2 | exact k.1.1.1.2 | exact k.1.1.1.1.2 | exact k.1.1.1.1.1.2 | exact k.1.1.1.1.1.1.2 | exact k.1.1.1.1.1.1.1.2 | exact k.1.1.1.1.1.1.1.1.2)).mono ?_; rintro e vz ⟨rfl, hu⟩; replace K := Lib.hid (fun W (h : Upd NoF _ W) => K.out W (hu.trans h (fun _ _ f => f))); clear hu; obtain ⟨n0, n1, n2, n3, n4, n5, n6, n7⟩ := aw_cells HZN.out HRA.out (show Blk vz v6.heap.size 38 ra from (by have k := K.out _ (Upd.refl _ _); first | exact k.2 | exact k.1.2 | exact k.1.1.2 | exact k.1.1.1.2 | exact k.1.1.1.1.2 | exact k.1.1.1.1.1.2 | exact k.1.1.1.1.1.1.2 | exact k.1.1.1.1.1.1.1.2 | exact k.1.1.1.1.1.1.1.1.2)))
    | (with_reducible show Calls _ 14 _ _ _; refine (aw_call14 (by have k := K.out _ (Upd.refl _ _); first | exact k.2 | exact k.1.2 | exact k.1.1.2 | exact k.1.1.1.2 | exact k.1.1.1.1.2 | exact k.1.1.1.1.1.2 | exact k.1.1.1.1.1.1.2 | exact k.1.1.1.1.1.1.1.2 | exact k.1.1.1.1.1.1.1.1.2) HZN.out).mono ?_; rintro e vz ⟨rfl, hu⟩; replace K := Lib.hid (fun W (h : Upd NoF _ W) => K.out W (hu.trans h (fun _ _ f => f))); clear hu)
    | (with_reducible show Calls _ 20 _ _ _; refine (aw_call20 (by have k := K.out _ (Upd.refl _ _); first | exact k.2 | exact k.1.2 | exact k.1.1.2 | exact k.1.1.1.2 | exact k.1.1.1.1.2 | exact k.1.1.1.1.1.2 | exact k.1.1.1.1.1.1.2 | exact k.1.1.1.1.1.1.1.2 | exact k.1.1.1.1.1.1.1.1.2) HZN.out).mono ?_; rintro e vz ⟨A', c', rfl, hu⟩; replace K := Lib.hid (fun W (h : Upd NoF _ W) => K.out W (hu.trans h (fun _ _ f => f))); clear hu; obtain ⟨n0, n1, n2, n3, n4, n5, n6, n7⟩ := aw_cells HZN.out HRA.out (show Blk vz v6.heap.size 38 ra from (by have k := K.out _ (Upd.refl _ _); first | exact k.2 | exact k.1.2 | exact k.1.1.2 | exact k.1.1.1.2 | exact k.1.1.1.1.2 | exact k.1.1.1.1.1.2 | exact k.1.1.1.1.1.1.2 | exact k.1.1.1.1.1.1.1.2 | exact k.1.1.1.1.1.1.1.1.2)))
    | (with_reducible show Calls _ 16 _ _ _; refine (aw_call16 (by have k := K.out _ (Upd.refl _ _); first | exact k.2 | exact k.1.2 | exact k.1.1.2 | exact k.1.1.1.2 | exact k.1.1.1.1.2 | exact k.1.1.1.1.1.2 | exact k.1.1.1.1.1.1.2 | exact k.1.1.1.1.1.1.1.2 | exact k.1.1.1.1.1.1.1.1.2) HZN.out).mono ?_; rintro e vz ⟨A', c', rfl, hu⟩; replace K := Lib.hid (fun W (h : Upd NoF _ W) => K.out W (hu.trans h (fun _ _ f => f))); clear hu))
  go_ret
  exact ⟨rfl, by have k := K.out _ (Upd.refl _ _); exact k.1.1.1.1.1.1.1⟩
end

section
open Go.RowKit Go.Lib

theorem StR.size {w : World} {n : Nat} {l : List DelS} {ri : Array Value} (h : StR w n l ri) : ri.size = 5 := by
  obtain ⟨A1, c1, A2, c2, A3, c3, A4, c4, rfl, -⟩ := h; rfl
theorem itRow_size {n : List UInt8} (hn : n.length = 8) {kd mk : Int} {sb ri : Array Value} (h : (itRow n kd mk sb).toArray = ri) (hs : sb.size = 5) : ri.size = 28 := by
  subst h
  simp [itRow, hn, hs, nm0]
theorem itRow_one {n : List UInt8} {kd mk : Int} {m : Nat} {l : List DelS} {sb ri : Array Value} {w : World} (h : (itRow n kd mk sb).toArray = ri) (hs : StR w m l sb) : ri.all (·.oneCell') = true := by
  obtain ⟨A1, c1, A2, c2, A3, c3, A4, c4, rfl, -⟩ := hs
  subst h
  rw [List.all_toArray, List.all_eq_true]
  intro u hu
  rcases List.mem_append.1 hu with h1 | h1
  · obtain ⟨b, -, rfl⟩ := List.mem_map.1 h1
    rfl
  · simp only [nm0, List.replicate, List.map_cons, List.map_nil, List.cons_append, List.nil_append, List.mem_cons, List.not_mem_nil, or_false] at h1
    rcases h1 with rfl | rfl | rfl | rfl | rfl | rfl | rfl | rfl | rfl | rfl | rfl | rfl | rfl | rfl | rfl | rfl | rfl | rfl | rfl | rfl <;> rfl

set_option maxRecDepth 100000 in
set_option maxHeartbeats 4000000 in
theorem gnl_awake1 {w : World} {A B C : Option Addr} {a b c : Nat} {gn gs : Int} {v m q : Nat} (h : 100 < v) : Calls Tryz.prog 3 #[.agg #[.int .i64 gn, .int .i64 gs, .slice A v a, .slice B m b, .slice C q c]] w fun e w' => e = .returned (.bool true) ∧ Upd NoF w w' := by
  have t1 : decide ((100 : Int) < (v : Int)) = true := by simp; omega
  have t1' : decide (100 < v) = true := by simp; omega
  go_enter Tryz.func3, Tryz.ntmps3
  go_wp2_with (first
    | (refine wl_box rfl 25 (.tmp 0) rfl #[.int .i64 gn, .int .i64 gs, .slice A v a, .slice B m b, .slice C q c] (by rfl) ?_; intro v0 hb0 hu0 hs0; have B0 := Lib.hid hb0; have V0 := Lib.hid hu0; have y0 := (hb0).cell 0; have y1 := (hb0).cell 1; have y2 := (hb0).cell 2; have y3 := (hb0).cell 3; have y4 := (hb0).cell 4; clear hb0 hu0 hs0)
    | (with_reducible show Calls _ 6 _ _ _; refine (awake25_ok _).mono ?_; rintro e v8 ⟨rfl, hu8⟩; have V8 := Lib.hid (V0.out.trans hu8 (fun _ _ f => f)); clear hu8))
  go_ret
  exact ⟨rfl, V8.out⟩

set_option maxRecDepth 100000 in
set_option maxHeartbeats 4000000 in
theorem gnl_awake2 {w : World} {A B C : Option Addr} {a b c : Nat} {gn gs : Int} {v m q : Nat} (h0 : v ≤ 100) (h : 100 < m) : Calls Tryz.prog 3 #[.agg #[.int .i64 gn, .int .i64 gs, .slice A v a, .slice B m b, .slice C q c]] w fun e w' => e = .returned (.bool true) ∧ Upd NoF w w' := by
  have t1 : decide ((100 : Int) < (v : Int)) = false := by simp; omega
  have t1' : decide (100 < v) = false := by simp; omega
  have t2 : decide ((100 : Int) < (m : Int)) = true := by simp; omega
  have t2' : decide (100 < m) = true := by simp; omega
  go_enter Tryz.func3, Tryz.ntmps3
  go_wp2_with (first
    | (refine wl_box rfl 25 (.tmp 0) rfl #[.int .i64 gn, .int .i64 gs, .slice A v a, .slice B m b, .slice C q c] (by rfl) ?_; intro v0 hb0 hu0 hs0; have B0 := Lib.hid hb0; have V0 := Lib.hid hu0; have y0 := (hb0).cell 0; have y1 := (hb0).cell 1; have y2 := (hb0).cell 2; have y3 := (hb0).cell 3; have y4 := (hb0).cell 4; clear hb0 hu0 hs0)
    | (with_reducible show Calls _ 6 _ _ _; refine (awake25_ok _).mono ?_; rintro e v8 ⟨rfl, hu8⟩; have V8 := Lib.hid (V0.out.trans hu8 (fun _ _ f => f)); clear hu8))
  go_ret
  exact ⟨rfl, V8.out⟩

set_option maxRecDepth 100000 in
set_option maxHeartbeats 4000000 in
theorem gnl_awake3 {w : World} {A B C : Option Addr} {a b c : Nat} {gn gs : Int} {v m q : Nat} (h0 : v ≤ 100) (h1 : m ≤ 100) (h : 100 < q) : Calls Tryz.prog 3 #[.agg #[.int .i64 gn, .int .i64 gs, .slice A v a, .slice B m b, .slice C q c]] w fun e w' => e = .returned (.bool true) ∧ Upd NoF w w' := by
  have t1 : decide ((100 : Int) < (v : Int)) = false := by simp; omega
  have t1' : decide (100 < v) = false := by simp; omega
  have t2 : decide ((100 : Int) < (m : Int)) = false := by simp; omega
  have t2' : decide (100 < m) = false := by simp; omega
  have t3 : decide ((100 : Int) < (q : Int)) = true := by simp; omega
  have t3' : decide (100 < q) = true := by simp; omega
  go_enter Tryz.func3, Tryz.ntmps3
  go_wp2_with (first
    | (refine wl_box rfl 25 (.tmp 0) rfl #[.int .i64 gn, .int .i64 gs, .slice A v a, .slice B m b, .slice C q c] (by rfl) ?_; intro v0 hb0 hu0 hs0; have B0 := Lib.hid hb0; have V0 := Lib.hid hu0; have y0 := (hb0).cell 0; have y1 := (hb0).cell 1; have y2 := (hb0).cell 2; have y3 := (hb0).cell 3; have y4 := (hb0).cell 4; clear hb0 hu0 hs0)
    | (with_reducible show Calls _ 6 _ _ _; refine (awake25_ok _).mono ?_; rintro e v8 ⟨rfl, hu8⟩; have V8 := Lib.hid (V0.out.trans hu8 (fun _ _ f => f)); clear hu8))
  go_ret
  exact ⟨rfl, V8.out⟩

/-- What both sides answer. -/
def GnPost (n : List UInt8) (kd mk er : Int) (k : Nat) (l : List DelS) (w : World) (e : Ending) (w' : World) : Prop := ∃ ra sa, e = .returned (.tuple #[.agg ra, .int .i64 er]) ∧ (itRow n kd mk sa).toArray = ra ∧ StR w' k l sa ∧ Upd NoF w w'
set_option maxRecDepth 100000 in
set_option maxHeartbeats 16000000 in
theorem gnl_core {w : World} {A B C : Option Addr} {a b c : Nat} {gn gs : Int} {v m q : Nat} {n : List UInt8} {kd mk er : Int} {k : Nat} {l : List DelS} (h0 : v ≤ 100) (h1 : m ≤ 100) (h2 : q ≤ 100) (hn : n.length = 8) (hf : ∀ d ∈ l, d.Fit) (hk : k ≤ 1000) (hl : l.length ≤ 1000)
    (hG : ∀ W, Upd NoF w W → Calls Tryz.prog 7 #[.agg #[.int .i64 gn, .int .i64 gs, .slice A v a, .slice B m b, .slice C q c]] W (GnPost n kd mk er k l W)) (hR : ∀ W, Upd NoF w W → Calls Tryz.prog 8 #[.agg #[.int .i64 gn, .int .i64 gs, .slice A v a, .slice B m b, .slice C q c]] W (GnPost n kd mk er k l W)) :
    Calls Tryz.prog 3 #[.agg #[.int .i64 gn, .int .i64 gs, .slice A v a, .slice B m b, .slice C q c]] w fun e w' => e = .returned (.bool true) ∧ Upd NoF w w' := by
  have t1 : decide ((100 : Int) < (v : Int)) = false := by simp; omega
  have t1' : decide (100 < v) = false := by simp; omega
  have t2 : decide ((100 : Int) < (m : Int)) = false := by simp; omega
  have t2' : decide (100 < m) = false := by simp; omega
  have t3 : decide ((100 : Int) < (q : Int)) = false := by simp; omega
  have t3' : decide (100 < q) = false := by simp; omega
  have CG := Lib.hid hG
  have CR := Lib.hid hR
  have CS := Lib.hid (fun W ra rb sa sb (hra : (itRow n kd mk sa).toArray = ra) (hrb : (itRow n kd mk sb).toArray = rb) (h : StR W k l sa) (h2 : StR W k l sb) => SameItem_true (w := W) hn hra hrb h h2 hf hk hl)
  have HSZ := Lib.hid (fun sb ri (h : (itRow n kd mk sb).toArray = ri) (hs : sb.size = 5) => itRow_size hn h hs)
  have HON := Lib.hid (fun sb ri W (h : (itRow n kd mk sb).toArray = ri) (hs : StR W k l sb) => itRow_one h hs)
  have te : decide (er = er) = true := by simp
  have IA := Lib.hid item_alloc
  obtain ⟨iz, hiz⟩ : ∃ x, itZ = x := ⟨_, rfl⟩
  rw [hiz] at IA
  have HI8 := Lib.hid (show iz.size = 28 from by rw [← hiz]; exact itZ_size)
  clear hiz hG hR hn hf hk hl h0 h1 h2
  go_enter Tryz.func3, Tryz.ntmps3
  go_wp2_with (first
    | (refine wl_box rfl 25 (.tmp 0) rfl #[.int .i64 gn, .int .i64 gs, .slice A v a, .slice B m b, .slice C q c] (by rfl) ?_; intro v0 hb0 hu0 hs0; have B0 := Lib.hid hb0; have V0 := Lib.hid hu0; have y0 := (hb0).cell 0; have y1 := (hb0).cell 1; have y2 := (hb0).cell 2; have y3 := (hb0).cell 3; have y4 := (hb0).cell 4; clear hb0 hu0 hs0)
    | (with_reducible show wpList _ _ _ (Oper.mk (some 24) _ _ _ _ _ :: _) _ _; refine wl_run rfl (v := .tuple #[.agg ra, .int .i64 er]) (w' := v1) (by rfl) ?_)
    | (with_reducible show wpList _ _ _ (Oper.mk (some 27) _ _ _ _ _ :: _) _ _; refine wl_run rfl (v := .agg ra) (w' := v1) (by rfl) ?_)
    | (with_reducible show wpList _ _ _ (Oper.mk (some 28) _ _ _ _ _ :: _) _ _; refine wl_run rfl (v := .int .i64 er) (w' := v1) (by rfl) ?_)
    | (with_reducible show wpList _ _ _ (Oper.mk (some 3) _ _ _ _ _ :: _) _ _; refine wpList_alloc_row rfl 38 rfl iz IA.out ?_; intro v2 hb2 hu2 hs2; have BY2 := Lib.hid hb2; have D2 := Lib.hid hu2; clear hb2 hu2 hs2)
    | (refine wpList_store_row rfl 38 (.tmp 3) (.tmp 27) rfl v1.heap.size (by rfl) ra (by rfl) 38 _ BY2.out (by rw [HI8.out, HSZ.out _ _ HRA.out N1.out.size]) (by rw [HSZ.out _ _ HRA.out N1.out.size]; exact item_size) (HON.out _ _ _ HRA.out N1.out) ?_; intro v3 hb3 hu3 hs3; have D3 := Lib.hid (D2.out.trans hu3 (F := NoF) (fun j hj e => by have e : j = v1.heap.size := e; omega)); have BY3 := Lib.hid hb3; have V3 := Lib.hid (V1.out.trans D3.out (fun _ _ f => f)); have N3 := Lib.hid (N1.out.keep D3.out); have z0 := (D3.out.blk B1.out (fun f => f)).cell 0; have z1 := (D3.out.blk B1.out (fun f => f)).cell 1; have z2 := (D3.out.blk B1.out (fun f => f)).cell 2; have z3 := (D3.out.blk B1.out (fun f => f)).cell 3; have z4 := (D3.out.blk B1.out (fun f => f)).cell 4; clear hb3 hu3 hs3)
    | (with_reducible show wpList _ _ _ (Oper.mk (some 4) _ _ _ _ _ :: _) _ _; refine wl_run rfl (v := .int .i64 er) (w' := v3) (by rfl) ?_)
    | (with_reducible show wpList _ _ _ (Oper.mk (some 29) _ _ _ _ _ :: _) _ _; refine wl_run rfl (v := .tuple #[.agg rb, .int .i64 er]) (w' := v4) (by rfl) ?_)
    | (with_reducible show wpList _ _ _ (Oper.mk (some 32) _ _ _ _ _ :: _) _ _; refine wl_run rfl (v := .agg rb) (w' := v4) (by rfl) ?_)
    | (with_reducible show wpList _ _ _ (Oper.mk (some 33) _ _ _ _ _ :: _) _ _; refine wl_run rfl (v := .int .i64 er) (w' := v4) (by rfl) ?_)
    | (with_reducible show wpList _ _ _ (Oper.mk (some 5) _ _ _ _ _ :: _) _ _; refine wpList_alloc_row rfl 38 rfl iz IA.out ?_; intro v5 hb5 hu5 hs5; have BZ5 := Lib.hid hb5; have D5 := Lib.hid hu5; clear hb5 hu5 hs5)
    | (refine wpList_store_row rfl 38 (.tmp 5) (.tmp 32) rfl v4.heap.size (by rfl) rb (by rfl) 38 _ BZ5.out (by rw [HI8.out, HSZ.out _ _ HRB.out M4.out.size]) (by rw [HSZ.out _ _ HRB.out M4.out.size]; exact item_size) (HON.out _ _ _ HRB.out M4.out) ?_; intro v6 hb6 hu6 hs6; have D6 := Lib.hid (D5.out.trans hu6 (F := NoF) (fun j hj e => by have e : j = v4.heap.size := e; omega)); have BZ6 := Lib.hid hb6; have V6 := Lib.hid (V4.out.trans D6.out (fun _ _ f => f)); have N6 := Lib.hid (N4.out.keep D6.out); have M6 := Lib.hid (M4.out.keep D6.out); have BY6 := Lib.hid (D6.out.blk BY4.out (fun f => f)); clear hb6 hu6 hs6)
    | (with_reducible show wpList _ _ _ (Oper.mk (some 6) _ _ _ _ _ :: _) _ _; refine wl_run rfl (v := .int .i64 er) (w' := v6) (by rfl) ?_)
    | (refine wl_load rfl 38 (.tmp 3) rfl v1.heap.size 0 (by rfl) ra.toList _ (range_blk (by rw [Array.toArray_toList]; exact BY6.out)) Tryz.underlying38 rfl (by rw [Array.length_toList, HSZ.out _ _ HRA.out N6.out.size]; exact item_size) ra (by simp) ?_)
    | (refine wl_load rfl 38 (.tmp 5) rfl v4.heap.size 0 (by rfl) rb.toList _ (range_blk (by rw [Array.toArray_toList]; exact BZ6.out)) Tryz.underlying38 rfl (by rw [Array.length_toList, HSZ.out _ _ HRB.out M6.out.size]; exact item_size) rb (by simp) ?_)
    | (refine (awake25_ok v7).mono ?_; rintro e v8 ⟨rfl, hu8⟩; have V8 := Lib.hid (V7.out.trans hu8 (fun _ _ f => f)); clear hu8)
    | (refine (CS.out _ _ _ _ _ HRA.out HRB.out N6.out M6.out).mono ?_; rintro e v7 ⟨rfl, hu7⟩; have V7 := Lib.hid (V6.out.trans hu7 (fun _ _ f => f)); clear hu7)
    | (refine (CR.out _ V3.out).mono ?_; rintro e v4 ⟨rb, sb, rfl, hrb, hst, hu4⟩; have HRB := Lib.hid hrb; have M4 := Lib.hid hst; have V4 := Lib.hid (V3.out.trans hu4 (fun _ _ f => f)); have N4 := Lib.hid (N3.out.keep hu4); have BY4 := Lib.hid (hu4.blk BY3.out (fun f => f)); clear hrb hst hu4 z0 z1 z2 z3 z4)
    | (refine (CG.out _ V0.out).mono ?_; rintro e v1 ⟨ra, sa, rfl, hra, hst, hu1⟩; have HRA := Lib.hid hra; have N1 := Lib.hid hst; have V1 := Lib.hid (V0.out.trans hu1 (fun _ _ f => f)); have B1 := Lib.hid (hu1.blk B0.out (fun f => f)); clear hra hst hu1 y0 y1 y2 y3 y4))
  go_ret
  exact ⟨rfl, V8.out⟩
set_option maxRecDepth 100000 in
theorem itZ_row : (itRow nm0 0 0 #[.slice none 0 0, .slice none 0 0, .slice none 0 0, .slice none 0 0, .int .i64 0]).toArray = itZ := by rfl
set_option maxRecDepth 100000 in
theorem str_nil (w : World) : StR w 0 [] #[.slice none 0 0, .slice none 0 0, .slice none 0 0, .slice none 0 0, .int .i64 0] :=
  ⟨none, 0, none, 0, none, 0, none, 0, rfl, Rd.nil w 11, Rd.nil w 1, by unfold maxLen; omega, by unfold maxLen; omega⟩
theorem ItemsGenesis_true {w : World} {A B C : Option Addr} {a b c : Nat} {g : GenS} (h : GenR w A B C a b c g) : Calls Tryz.prog 3 #[genV A B C a b c g] w fun e w' => e = .returned (.bool true) ∧ Upd NoF w w' := by
  rcases Nat.lt_or_ge 100 g.vals.length with h1 | h1
  · exact gnl_awake1 h1
  rcases Nat.lt_or_ge 100 g.accs.length with h2 | h2
  · exact gnl_awake2 h1 h2
  rcases Nat.lt_or_ge 100 g.bals.length with h3 | h3
  · exact gnl_awake3 h1 h2 h3
  cases hv : validG g with
  | false =>
    refine gnl_core (n := nm0) (kd := 0) (mk := 0) (er := 1) (k := 0) (l := []) h1 h2 h3 rfl (fun d hd => by cases hd) (by omega) (by simp) (fun W hu => ?_) (fun W hu => ?_)
    · exact (itGenesis_bad (w := W) (h.keep hu) hv).mono (fun e w' ⟨e1, e2⟩ => ⟨_, _, e1, itZ_row, str_nil w', e2⟩)
    · exact (r25GenesisItem_bad (w := W) (h.keep hu) hv).mono (fun e w' ⟨e1, e2⟩ => ⟨_, _, e1, itZ_row, str_nil w', e2⟩)
  | true =>
    obtain ⟨p1, p2, p3, p4, p5, p6, p7, p8, p9, p10⟩ := valid_parts hv
    have hgf := genD_fit (g := g) h.stake (fun z hz => h.bals.1 z hz) (by omega) (by omega)
    refine gnl_core (n := hsum (encG g)) (kd := 1) (mk := selS g.vals.length g.n 0) (er := 0) (k := g.accs.length) (l := genCells g) h1 h2 h3 (hsum_len _) (fun d hd => hgf d (List.mem_filter.1 hd).1) (by omega) (by
      have := List.length_filter_le (fun d : DelS => decide (d.amt ≠ 0)) (genD g)
      have e := genD_len g
      show ((genD g).filter _).length ≤ 1000
      omega) (fun W hu => ?_) (fun W hu => ?_)
    · refine (itGenesis_ok (w := W) (h.keep hu) hv).mono (fun e w' ⟨A1, c1, A2, c2, e1, n1, n2, e2⟩ => ⟨_, #[.slice A1 (genCells g).length c1, .slice A2 g.accs.length c2, .slice none 0 0, .slice none 0 0, .int .i64 0], e1, rfl, ⟨A1, c1, A2, c2, none, 0, none, 0, rfl, n1.1.rd, n2.1.rd, by unfold maxLen; omega, by unfold maxLen; omega⟩, e2⟩)
    · exact (r25GenesisItem_ok (w := W) (h.keep hu) hv).mono (fun e w' ⟨ri, e1, ⟨sb, hs, hr⟩, e2⟩ => ⟨ri, sb, e1, hr, hs.rd, e2⟩)
end

section
open Go.ChangeShapes Go.WideShapes Go.ChangeAt Go.RowKit

theorem list_map_of {α β : Type} {f : β → α} {P : β → Prop} : ∀ (l : List α), (∀ x ∈ l, ∃ y, x = f y ∧ P y) → ∃ r : List β, l = r.map f ∧ ∀ y ∈ r, P y
  | [], _ => ⟨[], rfl, fun y hy => by cases hy⟩
  | a :: l, h => by
    obtain ⟨r, h1, h2⟩ := list_map_of l (fun x hx => h x (List.mem_cons_of_mem _ hx))
    obtain ⟨y, rfl, hy⟩ := h a List.mem_cons_self
    exact ⟨y :: r, by rw [h1]; rfl, fun z hz => by rcases List.mem_cons.1 hz with rfl | hz; (· exact hy); exact h2 z hz⟩
section
variable {H : Type} {enc : TypeId × Value → H} {W : World} {v : Value} {d : DataW H} {p : List MemPlace} {base : Nat} {spare : Nat → Bool} {held : Bool} {fuel : Nat}
theorem open_name_list {l : List Value} (hl : l.length = 8) {x : DataW H × List MemPlace} (h : DataW.trod enc Tryz.prog W base spare held fuel 28 l = some x) : ∃ n : List UInt8, n.length = 8 ∧ l = n.map byteV := by
  match l, hl with
  | [c0, c1, c2, c3, c4, c5, c6, c7], _ => exact open_name_cells h
/-- A slice of names among the data. -/
theorem open_names {x : DataW H × List MemPlace} (h : DataW.trod enc Tryz.prog W base spare held fuel 22 [v] = some x) : ∃ l : List (List UInt8), NmR W v l := by
  obtain ⟨rows, h1, h2⟩ := open_slice_rows Tryz.underlying22 (by rw [cells_name]; omega) h
  rw [cells_name] at h1
  obtain ⟨l, rfl, hl⟩ := list_map_of (f := fun n : List UInt8 => n.map byteV) (P := fun n => n.length = 8) rows (fun row hrow => by
    obtain ⟨h3, n, y, hy⟩ := h2 row hrow
    rw [cells_name] at h3
    obtain ⟨n, h8, rfl⟩ := open_name_list h3 hy
    exact ⟨n, rfl, h8⟩)
  exact ⟨l, hl, by rw [List.length_map] at h1; exact h1⟩
/-- The cells of a struct's field. -/
theorem fld_of {t : TypeId} (hS : Tryz.prog.underlying t = some (.struct (Tryz.prog.fieldsOf t))) {cs : List Value} {x : DataW H × List MemPlace} (h : DataW.trod enc Tryz.prog W base spare held fuel t cs = some x) : cs.length = Tryz.prog.cellsOf t ∧ ∃ n, ∀ (i u o : Nat), ((Tryz.prog.fieldsOf t).toList.map (fun f => (f.type, f.offset)))[i]? = some (u, o) → ∃ y, DataW.trod enc Tryz.prog W base spare held n u ((cs.drop o).take (Tryz.prog.cellsOf u)) = some y := by
  obtain ⟨xs, n, _, _, hcl, hxl, hf⟩ := DataW.trod_struct hS h
  refine ⟨hcl, n, fun i u o hi => ?_⟩
  rw [List.getElem?_map] at hi
  obtain ⟨f, hf1, hf2⟩ := Option.map_eq_some_iff.1 hi
  have hf3 : (Tryz.prog.fieldsOf t)[i]? = some f := by simpa using hf1
  have := hf i f hf3
  obtain ⟨e1, e2⟩ := Prod.mk.inj hf2
  rw [e1, e2] at this
  have hlt : i < xs.length := by rw [hxl]; exact (Array.getElem?_eq_some_iff.1 hf3).1
  exact ⟨xs[i], this.trans (List.getElem?_eq_getElem hlt)⟩
end
end

section
open Go.ChangeShapes Go.WideShapes Go.ChangeAt Go.RowKit

section
variable {H : Type} {enc : TypeId × Value → H} {W : World} {v : Value} {d : DataW H} {p : List MemPlace}
theorem cells_gen : Tryz.prog.cellsOf 25 = 5 := by kernel_rfl
set_option maxRecDepth 100000 in
theorem open_ints1 {base : Nat} {spare : Nat → Bool} {held : Bool} {fuel : Nat} {x : DataW H × List MemPlace} (h : DataW.trod enc Tryz.prog W base spare held fuel 23 [v] = some x) : ∃ zs : List Int, InR W v zs := by
  obtain ⟨zs, h1, h2⟩ := open_nums (v := v) Tryz.underlying23 Tryz.underlying3 cells_int h
  exact ⟨zs, fun z hz => wf_i64 (h2 z hz), h1⟩
set_option maxRecDepth 100000 in
/-- A genesis among the arguments. -/
theorem open_genV {base0 : Nat} (hok : Value.okWide Tryz.prog W .any base0 25 v) (h : DataW.Trod enc Tryz.prog W 0 (fun _ => true) true 25 v d p) : ∃ A B C a b c g, v = genV A B C a b c g ∧ GenR W A B C a b c g := by
  unfold Value.okWide at hok
  rw [Tryz.underlying25] at hok
  obtain ⟨cs, rfl, hsz, -⟩ := hok
  rw [cells_gen] at hsz
  obtain ⟨l⟩ := cs
  match l, hsz with
  | [c0, c1, c2, c3, c4], _ =>
    obtain ⟨fuel, hf⟩ := h
    obtain ⟨-, n, fld⟩ := fld_of (t := 25) (cs := [c0, c1, c2, c3, c4]) (by kernel_rfl) hf
    have hfs : (Tryz.prog.fieldsOf 25).toList.map (fun f => (f.type, f.offset)) = [(3, 0), (3, 1), (22, 2), (22, 3), (23, 4)] := by kernel_rfl
    rw [hfs] at fld
    obtain ⟨y0, f0⟩ := fld 0 3 0 rfl
    obtain ⟨y1, f1⟩ := fld 1 3 1 rfl
    obtain ⟨y2, f2⟩ := fld 2 22 2 rfl
    obtain ⟨y3, f3⟩ := fld 3 22 3 rfl
    obtain ⟨y4, f4⟩ := fld 4 23 4 rfl
    rw [cells_int] at f0 f1
    rw [show Tryz.prog.cellsOf 22 = 1 from by kernel_rfl] at f2 f3
    rw [show Tryz.prog.cellsOf 23 = 1 from by kernel_rfl] at f4
    obtain ⟨z0, rfl, h0⟩ := open_int1 Tryz.underlying3 f0
    obtain ⟨z1, rfl, h1⟩ := open_int1 Tryz.underlying3 f1
    obtain ⟨vs, h2⟩ := open_names (v := c2) f2
    obtain ⟨as_, h3⟩ := open_names (v := c3) f3
    obtain ⟨bs, h4⟩ := open_ints1 (v := c4) f4
    obtain ⟨A, a, rfl, -, -⟩ := h2.form
    obtain ⟨B, b, rfl, -, -⟩ := h3.form
    obtain ⟨C, c, rfl, -, -⟩ := h4.form
    exact ⟨A, B, C, a, b, c, ⟨z0, z1, vs, as_, bs⟩, rfl, h0, h1, h2, h3, h4⟩
end
set_option maxRecDepth 100000 in
theorem gen_lifted (os : Os) (started : os.Started) (H : Type) (enc : TypeId × Value → H) :
    ReturnsInHanded {} Tryz.checked os 3 .any (Rows.itemsGenesisSpec.pre6 enc Tryz.prog Tryz.f3 Rows.itemsGenesisRow.domain false) (Rows.itemsGenesisSpec.post enc Tryz.prog Tryz.f3 false true false false) := by
  refine returnsInHanded_of_change (C := Tryz.checked) own started (by kernel_rfl) Tryz.func3
    (ChangeSpec.witness6 (enc := enc) (C := Tryz.checked) false ⟨#[], #[.agg #[.int .i64 0, .int .i64 0, .slice none 0 0, .slice none 0 0, .slice none 0 0]], []⟩ 8 (by kernel_rfl) (by kernel_rfl) (by kernel_rfl) (by kernel_rfl)) ?_
  intro W base args ds gs before hval0 hW hcnd _
  have hval : ∀ (j : Nat) t v, Tryz.f3.params[j]? = some t → args[j]? = some v → Value.okWide Tryz.prog W .any base t v := hval0
  have hW' := hW
  obtain ⟨p, q, hA0, hV, rfl, hfz, hnd⟩ := hW
  have hA : DataW.TrodAll enc Tryz.prog W 0 (fun _ => true) true Tryz.f3.params.toList args.toList ds p := hA0
  rw [Tryz.params3] at hA hval
  obtain ⟨v0, vs0, d0, ds0, p0, q0, hargs, rfl, rfl, h0, r0⟩ := trodAll_cons hA
  obtain ⟨rfl, rfl, rfl⟩ := trodAll_nil r0
  obtain rfl : args = #[v0] := by cases args; simp_all
  have hgs : gs = [] := (trodVars_none hV).1
  subst hgs
  obtain ⟨A, B, C, a, b, c, g, rfl, hg⟩ := open_genV (hval 0 25 v0 rfl rfl) h0
  refine (ItemsGenesis_true hg).mono fun e W' ⟨he, hu⟩ => ?_
  subst he
  exact ⟨_, rfl, law_post rfl rfl (by decide +kernel) ⟨rfl, rfl, rfl⟩ hW' (hu.below (Nat.le_refl _) (fun k hk h => h))⟩
end

section
open Go

theorem and2 {a b : Bool} (h : a = true) (k : b = true) : (a && b) = true := by rw [h, k]; rfl
theorem itemsGenesis_fact0 : (Rows.itemsGenesisRow.wf (OpenSpec.ofChange Rows.itemsGenesisSpec) : Bool) = true := by kernel_rfl
theorem itemsGenesis_fact1 : (laidOutB Tryz.prog : Bool) = true := by kernel_rfl
theorem itemsGenesis_fact2 : (mapsRowed Tryz.prog : Bool) = true := by kernel_rfl
theorem itemsGenesis_fact3 : (Tryz.f3.params.all (Tryz.prog.readableRec ·) : Bool) = true := by kernel_rfl
theorem itemsGenesis_fact4 : (namedTie Tryz.prog Rows.itemsGenesisRow.named Rows.itemsGenesisSpec.vars : Bool) = true := by kernel_rfl
theorem itemsGenesis_fact5 : ((Rows.itemsGenesisRow.stops == []) : Bool) = true := by kernel_rfl
theorem itemsGenesis_fact6 : ((Tryz.prog.stops == []) : Bool) = true := by kernel_rfl
theorem itemsGenesis_fact7 : ((Rows.itemsGenesisRow.knobs == []) : Bool) = true := by kernel_rfl
theorem itemsGenesis_fact8 : ((Tryz.prog.stopKnobs == []) : Bool) = true := by kernel_rfl
theorem itemsGenesis_fact9 : ((Rows.itemsGenesisRow.inPlace == Tryz.prog.inPlace 3) : Bool) = true := by kernel_rfl
theorem itemsGenesis_fact10 : ((Rows.itemsGenesisRow.unfollowed == Tryz.prog.unfollowed 3) : Bool) = true := by kernel_rfl
theorem itemsGenesis_fact11 : ((Rows.itemsGenesisRow.recurses == Tryz.prog.recurses 3) : Bool) = true := by kernel_rfl
theorem itemsGenesis_fact12 : ((Rows.itemsGenesisRow.named == Tryz.prog.varsNamed 3) : Bool) = true := by kernel_rfl
theorem itemsGenesis_fact13 : ((Rows.itemsGenesisRow.maps == (Tryz.f3.params.toList ++ Rows.itemsGenesisSpec.plain.varTypes Tryz.prog).any (Tryz.prog.mapsRec ·)) : Bool) = true := by kernel_rfl
theorem itemsGenesis_fact14 : ((Rows.itemsGenesisRow.ifaces == (Tryz.f3.params.toList ++ Rows.itemsGenesisSpec.plain.varTypes Tryz.prog).any (Tryz.prog.ifacesRec ·)) : Bool) = true := by kernel_rfl
theorem itemsGenesis_fact15 : ((Rows.itemsGenesisRow.mapsOut == Tryz.prog.mapsAmong Tryz.f3.resultTypes.toList) : Bool) = true := by kernel_rfl
theorem itemsGenesis_fact16 : ((Rows.itemsGenesisRow.loops == (Tryz.f3.params.toList ++ Rows.itemsGenesisSpec.plain.varTypes Tryz.prog).any (Tryz.prog.loopsFrom ·)) : Bool) = true := by kernel_rfl
theorem itemsGenesis_fact17 : ((Rows.itemsGenesisRow.wideKeys == (Tryz.f3.params.toList ++ Rows.itemsGenesisSpec.plain.varTypes Tryz.prog ++ Tryz.f3.resultTypes.toList).any (Tryz.prog.wideKeysFrom ·)) : Bool) = true := by kernel_rfl
theorem itemsGenesis_fact18 : (Rows.itemsGenesisSpec.vars.all (Tryz.prog.varReadable ·) : Bool) = true := by kernel_rfl
theorem itemsGenesis_fact19 : (Tryz.f3.resultTypes.all (fun t => Tryz.prog.readableRec t && decide (t < Tryz.prog.types.size)) : Bool) = true := by kernel_rfl
theorem itemsGenesis_fact20 : ((Rows.itemsGenesisRow.ifacesOut == Tryz.f3.resultTypes.toList.any (Tryz.prog.ifacesRec ·)) : Bool) = true := by kernel_rfl
theorem itemsGenesis_fact21 : ((Rows.itemsGenesisRow.loopsOut == Tryz.f3.resultTypes.toList.any (Tryz.prog.loopsFrom ·)) : Bool) = true := by kernel_rfl
theorem itemsGenesis_fact22 : ((Rows.itemsGenesisRow.plainKeys == Tryz.prog.plainKeys) : Bool) = true := by kernel_rfl
theorem itemsGenesis_fact23 : (Rows.itemsGenesisRow.shortTexts.isNone : Bool) = true := by kernel_rfl
theorem itemsGenesis_fact24 : (Tryz.prog.stopsHeard : Bool) = true := by kernel_rfl
theorem itemsGenesis_fact25 : (Tryz.prog.mayEnter : Bool) = true := by kernel_rfl
theorem itemsGenesis_fact26 : ((Rows.itemsGenesisRow.lifted == Tryz.prog.liftsFinal) : Bool) = true := by kernel_rfl
theorem itemsGenesis_fact27 : ((Tryz.prog.make == some Rows.itemsGenesisRow.make) : Bool) = true := by kernel_rfl
theorem itemsGenesis_fact28 : ((Rows.itemsGenesisRow.kinds == (if Rows.itemsGenesisRow.domain.isEmpty then [] else Tryz.f3.params.toList.map fun t => match Tryz.prog.underlying t with | some (.int k) => some k | _ => none)) : Bool) = true := by kernel_rfl
theorem itemsGenesis_fact29 : ((Rows.itemsGenesisRow.pinned == Rows.itemsGenesisRow.pinnedBy) : Bool) = true := by kernel_rfl
theorem itemsGenesis_fact30 : ((Rows.itemsGenesisRow.veiled == (Tryz.f3.params.toList ++ Rows.itemsGenesisSpec.plain.varTypes Tryz.prog ++ Tryz.f3.resultTypes.toList).any (Tryz.prog.veiledRec ·)) : Bool) = true := by kernel_rfl
theorem itemsGenesis_fact31 : (Rows.itemsGenesisRow.veiledFits Tryz.prog Tryz.f3.params.toList (Tryz.f3.params.toList ++ Rows.itemsGenesisSpec.plain.varTypes Tryz.prog ++ Tryz.f3.resultTypes.toList) : Bool) = true := by kernel_rfl
set_option maxRecDepth 100000 in
theorem itemsGenesis_facts : joinedFacts Tryz.prog 3 Tryz.f3 Rows.itemsGenesisSpec Rows.itemsGenesisRow = true := by
  unfold joinedFacts
  exact and2 (and2 (and2 (and2 (and2 (and2 (and2 (and2 (and2 (and2 (and2 (and2 (and2 (and2 (and2 (and2 (and2 (and2 (and2 (and2 (and2 (and2 (and2 (and2 (and2 (and2 (and2 (and2 (and2 (and2 (and2 (itemsGenesis_fact0) itemsGenesis_fact1) itemsGenesis_fact2) itemsGenesis_fact3) itemsGenesis_fact4) itemsGenesis_fact5) itemsGenesis_fact6) itemsGenesis_fact7) itemsGenesis_fact8) itemsGenesis_fact9) itemsGenesis_fact10) itemsGenesis_fact11) itemsGenesis_fact12) itemsGenesis_fact13) itemsGenesis_fact14) itemsGenesis_fact15) itemsGenesis_fact16) itemsGenesis_fact17) itemsGenesis_fact18) itemsGenesis_fact19) itemsGenesis_fact20) itemsGenesis_fact21) itemsGenesis_fact22) itemsGenesis_fact23) itemsGenesis_fact24) itemsGenesis_fact25) itemsGenesis_fact26) itemsGenesis_fact27) itemsGenesis_fact28) itemsGenesis_fact29) itemsGenesis_fact30) itemsGenesis_fact31
end
end Go.Proofs.YtengcmfdfmnacaaGreat
