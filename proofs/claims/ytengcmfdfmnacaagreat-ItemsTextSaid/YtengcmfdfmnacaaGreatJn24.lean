/- The sanity check of the items answers true. No condition. The rule of text Rgl where an edge that does not bind may point forward. No condition. -/
import Derived.Test.YtengcmfdfmnacaaGreatJn23
import Derived.WalkSpells
import Derived.OwnWalk
import Derived.Test.YtengcmfdfmnacaaGreatJn6
namespace Go.Proofs.YtengcmfdfmnacaaGreat
section
open Go.RowKit Go.Lib

set_option maxRecDepth 100000 in
set_option maxHeartbeats 8000000 in
theorem awake25_ok (w : World) : Calls Tryz.prog 6 #[] w fun e w' => e = .returned (.bool true) ∧ Upd NoF w w' := by
  have K := Lib.hid (fun W (h : Upd NoF w W) => h)
  have CB5 := Lib.hid (fun W v g0 g1 g2 g3 g4 L h => ItemsBlock_bad (w := W) (v := v) g0 g1 g2 g3 g4 L h)
  have CC5 := Lib.hid (fun W v A0 c0 rest g0 g1 g2 g3 g4 h hi hone hm => aw_call7 (W := W) (v := v) (A0 := A0) (c0 := c0) (rest := rest) g0 g1 g2 g3 g4 h hi hone hm)
  have CN5 := Lib.hid (fun W v g0 g1 g2 g3 g4 h => aw_call8 (W := W) (v := v) g0 g1 g2 g3 g4 h)
  have IA := Lib.hid item_alloc
  have IO := Lib.hid itZ_one
  have IZ := Lib.hid itZ_size
  have CZ := Lib.hid aw_call3
  obtain ⟨iz, hiz⟩ : ∃ x, itZ = x := ⟨_, rfl⟩
  rw [hiz] at IA IO IZ CZ CB5 CC5 CN5
  obtain ⟨z0, z1, z2, z3, z4, z5, z6, z7, hzn⟩ := aw_arr8
  have HZN := Lib.hid hzn
  have HIZ := Lib.hid hiz
  clear hiz hzn
  go_enter Tryz.func6, Tryz.ntmps6
  go_wp2_with (first
    | (with_reducible show wpList _ _ _ (Oper.mk (some 19) _ _ _ _ _ :: _) _ _; refine wl_new rfl awV 28 (.slice (some ⟨w.heap.size, 0, none⟩) 4 4) (by kernel_rfl) ?_; intro v1 hb hu; replace K := Lib.hid (fun W (h : Upd NoF _ W) => And.intro (K.out W (hu.trans h (fun _ _ f => f))) (h.blk hb (fun f => f))); clear hb hu)
    | (with_reducible show wpList _ _ _ (Oper.mk (some 21) _ _ _ _ _ :: _) _ _; refine wl_new rfl awA 28 (.slice (some ⟨v1.heap.size, 0, none⟩) 1 1) (by kernel_rfl) ?_; intro v2 hb hu; replace K := Lib.hid (fun W (h : Upd NoF _ W) => And.intro (K.out W (hu.trans h (fun _ _ f => f))) (h.blk hb (fun f => f))); clear hb hu)
    | (with_reducible show wpList _ _ _ (Oper.mk (some 22) _ _ _ _ _ :: _) _ _; refine wl_new rfl awB 3 (.slice (some ⟨v2.heap.size, 0, none⟩) 1 1) (by kernel_rfl) ?_; intro v3 hb hu; replace K := Lib.hid (fun W (h : Upd NoF _ W) => And.intro (K.out W (hu.trans h (fun _ _ f => f))) (h.blk hb (fun f => f))); clear hb hu)
    | (refine wl_load rfl 25 (.tmp 1) rfl v3.heap.size 0 (by rfl) (#[.int .i64 4, .int .i64 0, .slice (some ⟨w.heap.size, 0, none⟩) 4 4, .slice (some ⟨v1.heap.size, 0, none⟩) 1 1, .slice (some ⟨v2.heap.size, 0, none⟩) 1 1] : Array Value).toList _ (range_blk (by have k := K.out _ (Upd.refl _ _); first | exact k.2 | exact k.1.2 | exact k.1.1.2 | exact k.1.1.1.2 | exact k.1.1.1.1.2 | exact k.1.1.1.1.1.2 | exact k.1.1.1.1.1.1.2 | exact k.1.1.1.1.1.1.1.2 | exact k.1.1.1.1.1.1.1.1.2)) Tryz.underlying25 rfl gen_size _ rfl ?_)
    | (with_reducible show Calls _ 7 #[.agg #[.int .i64 4, _, _, _, _]] _ _; refine (aw_call1 (by have k := K.out _ (((Upd.refl NoF v3).alloc (.cells #[.int .i64 4, .int .i64 0, .slice (some ⟨w.heap.size, 0, none⟩) 4 4, .slice (some ⟨v1.heap.size, 0, none⟩) 1 1, .slice (some ⟨v2.heap.size, 0, none⟩) 1 1] 25))); first | exact k.2 | exact k.1.2 | exact k.1.1.2 | exact k.1.1.1.2 | exact k.1.1.1.1.2 | exact k.1.1.1.1.1.2 | exact k.1.1.1.1.1.1.2 | exact k.1.1.1.1.1.1.1.2 | exact k.1.1.1.1.1.1.1.1.2) (by have k := K.out _ (((Upd.refl NoF v3).alloc (.cells #[.int .i64 4, .int .i64 0, .slice (some ⟨w.heap.size, 0, none⟩) 4 4, .slice (some ⟨v1.heap.size, 0, none⟩) 1 1, .slice (some ⟨v2.heap.size, 0, none⟩) 1 1] 25))); first | exact k.2 | exact k.1.2 | exact k.1.1.2 | exact k.1.1.1.2 | exact k.1.1.1.1.2 | exact k.1.1.1.1.1.2 | exact k.1.1.1.1.1.1.2 | exact k.1.1.1.1.1.1.1.2 | exact k.1.1.1.1.1.1.1.1.2) (by have k := K.out _ (((Upd.refl NoF v3).alloc (.cells #[.int .i64 4, .int .i64 0, .slice (some ⟨w.heap.size, 0, none⟩) 4 4, .slice (some ⟨v1.heap.size, 0, none⟩) 1 1, .slice (some ⟨v2.heap.size, 0, none⟩) 1 1] 25))); first | exact k.2 | exact k.1.2 | exact k.1.1.2 | exact k.1.1.1.2 | exact k.1.1.1.1.2 | exact k.1.1.1.1.1.2 | exact k.1.1.1.1.1.1.2 | exact k.1.1.1.1.1.1.1.2 | exact k.1.1.1.1.1.1.1.1.2) rfl).mono ?_; rintro e v6 ⟨rest, he, hok, h12, h0, hu⟩; obtain ⟨ra, hra⟩ : ∃ x, (itemC awI.name rest).toArray = x := ⟨_, rfl⟩; rw [hra] at he; subst he; have HRA := Lib.hid hra; have HOK := Lib.hid hok; have H12 := Lib.hid h12; have H0 := Lib.hid h0; have HSZ := Lib.hid (show ra.size = 28 from by rw [← hra]; exact (by rw [List.size_toArray]; exact itemC_len (hok v6))); have HON := Lib.hid (show ra.all (·.oneCell') = true from by rw [← hra]; exact itemC_one (hok v6)); replace K := Lib.hid (fun W (h : Upd NoF _ W) => And.intro (K.out W ((((Upd.refl NoF v3).alloc (.cells #[.int .i64 4, .int .i64 0, .slice (some ⟨w.heap.size, 0, none⟩) 4 4, .slice (some ⟨v1.heap.size, 0, none⟩) 1 1, .slice (some ⟨v2.heap.size, 0, none⟩) 1 1] 25)).trans hu (fun _ _ f => f)).trans h (fun _ _ f => f))) (h.blk (hu.blk (Blk.new v3 25 #[.int .i64 4, .int .i64 0, .slice (some ⟨w.heap.size, 0, none⟩) 4 4, .slice (some ⟨v1.heap.size, 0, none⟩) 1 1, .slice (some ⟨v2.heap.size, 0, none⟩) 1 1]) (fun f => f)) (fun f => f))); clear hok h12 h0 hu hra)
    | (with_reducible show wpList _ _ _ (Oper.mk (some 24) _ _ _ _ _ :: _) _ _; refine wl_run rfl (v := .tuple #[.agg ra, .int .i64 0]) (by rfl) ?_)
    | (with_reducible show wpList _ _ _ (Oper.mk (some 27) _ _ _ _ _ :: _) _ _; refine wl_run rfl (v := .agg ra) (by rfl) ?_)
    | (with_reducible show wpList _ _ _ (Oper.mk (some 28) _ _ _ _ _ :: _) _ _; refine wl_run rfl (v := .int .i64 0) (by rfl) ?_)
    | (with_reducible show wpList _ _ _ (Oper.mk (some 3) _ _ _ _ _ :: _) _ _; refine wl_run rfl (v := .int .i64 0) (by rfl) ?_)
    | (with_reducible show wpList _ _ _ (Oper.mk (some 29) _ _ _ _ _ :: _) _ _; refine wl_run rfl (v := .tuple #[.agg iz, .int .i64 1]) (by rfl) ?_)
    | (with_reducible show wpList _ _ _ (Oper.mk (some 32) _ _ _ _ _ :: _) _ _; refine wl_run rfl (v := .agg iz) (by rfl) ?_)
    | (with_reducible show wpList _ _ _ (Oper.mk (some 33) _ _ _ _ _ :: _) _ _; refine wl_run rfl (v := .int .i64 1) (by rfl) ?_)
    | (with_reducible show wpList _ _ _ (Oper.mk (some 5) _ _ _ _ _ :: _) _ _; refine wl_run rfl (v := .int .i64 1) (by rfl) ?_)
    | (with_reducible show wpList _ _ _ (Oper.mk (some 36) _ _ _ _ _ :: _) _ _; refine wl_run rfl (v := .tuple #[.agg iz, .int .i64 4]) (by rfl) ?_)
    | (with_reducible show wpList _ _ _ (Oper.mk (some 42) _ _ _ _ _ :: _) _ _; refine wl_run rfl (v := .agg iz) (by rfl) ?_)
    | (with_reducible show wpList _ _ _ (Oper.mk (some 43) _ _ _ _ _ :: _) _ _; refine wl_run rfl (v := .int .i64 4) (by rfl) ?_)
    | (with_reducible show wpList _ _ _ (Oper.mk (some 8) _ _ _ _ _ :: _) _ _; refine wl_run rfl (v := .int .i64 4) (by rfl) ?_)
    | (with_reducible show wpList _ _ _ (Oper.mk (some 56) _ _ _ _ _ :: _) _ _; refine wl_run rfl (v := .tuple #[.agg iz, .int .i64 105]) (by rfl) ?_)
    | (with_reducible show wpList _ _ _ (Oper.mk (some 62) _ _ _ _ _ :: _) _ _; refine wl_run rfl (v := .agg iz) (by rfl) ?_)
    | (with_reducible show wpList _ _ _ (Oper.mk (some 63) _ _ _ _ _ :: _) _ _; refine wl_run rfl (v := .int .i64 105) (by rfl) ?_)
    | (with_reducible show wpList _ _ _ (Oper.mk (some 12) _ _ _ _ _ :: _) _ _; refine wl_run rfl (v := .int .i64 105) (by rfl) ?_)
    | (with_reducible show wpList _ _ _ (Oper.mk (some 64) _ _ _ _ _ :: _) _ _; refine wl_run rfl (v := .tuple #[.agg iz, .int .i64 6]) (by rfl) ?_)
    | (with_reducible show wpList _ _ _ (Oper.mk (some 69) _ _ _ _ _ :: _) _ _; refine wl_run rfl (v := .agg iz) (by rfl) ?_)
    | (with_reducible show wpList _ _ _ (Oper.mk (some 70) _ _ _ _ _ :: _) _ _; refine wl_run rfl (v := .int .i64 6) (by rfl) ?_)
    | (with_reducible show wpList _ _ _ (Oper.mk (some 14) _ _ _ _ _ :: _) _ _; refine wl_run rfl (v := .int .i64 6) (by rfl) ?_)
    | (with_reducible show wpList _ _ _ (Oper.mk (some 2) _ _ _ _ _ :: _) _ _; refine wpList_alloc_row rfl 38 rfl iz IA.out ?_; intro va hb hu hs; have UA := Lib.hid hu; have BN := Lib.hid hb; have SZ := Lib.hid hs; clear hb hu hs)
    | (refine wpList_store_row rfl 38 (.tmp 2) (.tmp 27) rfl _ (by rfl) ra (by rfl) 38 _ BN.out (by first | rfl | rw [IZ.out, HSZ.out]) (by rw [HSZ.out]; exact item_size) HON.out ?_; intro vb hb hu hs; have hh := UA.out.trans hu (F := NoF) (fun j hj f => Nat.lt_irrefl _ (Nat.lt_of_lt_of_eq hj (Eq.symm f))); replace K := Lib.hid (fun W (h : Upd NoF _ W) => And.intro (K.out W (hh.trans h (fun _ _ f => f))) (h.blk hb (fun f => f))); clear hb hu hs hh UA BN SZ)
    | (with_reducible show wpList _ _ _ (Oper.mk (some 4) _ _ _ _ _ :: _) _ _; refine wpList_alloc_row rfl 38 rfl iz IA.out ?_; intro va hb hu hs; have UA := Lib.hid hu; have BN := Lib.hid hb; have SZ := Lib.hid hs; clear hb hu hs)
    | (refine wpList_store_row rfl 38 (.tmp 4) (.tmp 32) rfl _ (by rfl) iz (by rfl) 38 _ BN.out (by first | rfl | rw [IZ.out, IZ.out]) (by rw [IZ.out]; exact item_size) IO.out ?_; intro vb hb hu hs; have hh := UA.out.trans hu (F := NoF) (fun j hj f => Nat.lt_irrefl _ (Nat.lt_of_lt_of_eq hj (Eq.symm f))); replace K := Lib.hid (fun W (h : Upd NoF _ W) => K.out W (hh.trans h (fun _ _ f => f))); clear hb hu hs hh UA BN SZ)
    | (with_reducible show wpList _ _ _ (Oper.mk (some 7) _ _ _ _ _ :: _) _ _; refine wpList_alloc_row rfl 38 rfl iz IA.out ?_; intro va hb hu hs; have UA := Lib.hid hu; have BN := Lib.hid hb; have SZ := Lib.hid hs; clear hb hu hs)
    | (refine wpList_store_row rfl 38 (.tmp 7) (.tmp 42) rfl _ (by rfl) iz (by rfl) 38 _ BN.out (by first | rfl | rw [IZ.out, IZ.out]) (by rw [IZ.out]; exact item_size) IO.out ?_; intro vb hb hu hs; have hh := UA.out.trans hu (F := NoF) (fun j hj f => Nat.lt_irrefl _ (Nat.lt_of_lt_of_eq hj (Eq.symm f))); replace K := Lib.hid (fun W (h : Upd NoF _ W) => K.out W (hh.trans h (fun _ _ f => f))); clear hb hu hs hh UA BN SZ; obtain ⟨n0, n1, n2, n3, n4, n5, n6, n7⟩ := aw_cells HZN.out HRA.out (show Blk vb v6.heap.size 38 ra from (by have k := K.out _ (Upd.refl _ _); first | exact k.2 | exact k.1.2 | exact k.1.1.2 | exact k.1.1.1.2 | exact k.1.1.1.1.2 | exact k.1.1.1.1.1.2 | exact k.1.1.1.1.1.1.2 | exact k.1.1.1.1.1.1.1.2 | exact k.1.1.1.1.1.1.1.1.2)))
    | (with_reducible show wpList _ _ _ (Oper.mk (some 11) _ _ _ _ _ :: _) _ _; refine wpList_alloc_row rfl 38 rfl iz IA.out ?_; intro va hb hu hs; have UA := Lib.hid hu; have BN := Lib.hid hb; have SZ := Lib.hid hs; clear hb hu hs)
    | (refine wpList_store_row rfl 38 (.tmp 11) (.tmp 62) rfl _ (by rfl) iz (by rfl) 38 _ BN.out (by first | rfl | rw [IZ.out, IZ.out]) (by rw [IZ.out]; exact item_size) IO.out ?_; intro vb hb hu hs; have hh := UA.out.trans hu (F := NoF) (fun j hj f => Nat.lt_irrefl _ (Nat.lt_of_lt_of_eq hj (Eq.symm f))); replace K := Lib.hid (fun W (h : Upd NoF _ W) => K.out W (hh.trans h (fun _ _ f => f))); clear hb hu hs hh UA BN SZ)
    | (with_reducible show wpList _ _ _ (Oper.mk (some 13) _ _ _ _ _ :: _) _ _; refine wpList_alloc_row rfl 38 rfl iz IA.out ?_; intro va hb hu hs; have UA := Lib.hid hu; have BN := Lib.hid hb; have SZ := Lib.hid hs; clear hb hu hs)
    | (refine wpList_store_row rfl 38 (.tmp 13) (.tmp 69) rfl _ (by rfl) iz (by rfl) 38 _ BN.out (by first | rfl | rw [IZ.out, IZ.out]) (by rw [IZ.out]; exact item_size) IO.out ?_; intro vb hb hu hs; have hh := UA.out.trans hu (F := NoF) (fun j hj f => Nat.lt_irrefl _ (Nat.lt_of_lt_of_eq hj (Eq.symm f))); replace K := Lib.hid (fun W (h : Upd NoF _ W) => K.out W (hh.trans h (fun _ _ f => f))); clear hb hu hs hh UA BN SZ; obtain ⟨n0, n1, n2, n3, n4, n5, n6, n7⟩ := aw_cells HZN.out HRA.out (show Blk vb v6.heap.size 38 ra from (by have k := K.out _ (Upd.refl _ _); first | exact k.2 | exact k.1.2 | exact k.1.1.2 | exact k.1.1.1.2 | exact k.1.1.1.1.2 | exact k.1.1.1.1.1.2 | exact k.1.1.1.1.1.1.2 | exact k.1.1.1.1.1.1.1.2 | exact k.1.1.1.1.1.1.1.1.2)); have c20 : vb.cell? ⟨v6.heap.size, 20, none⟩ = some (.int .i64 15) := ((show Blk vb v6.heap.size 38 ra from (by have k := K.out _ (Upd.refl _ _); first | exact k.2 | exact k.1.2 | exact k.1.1.2 | exact k.1.1.1.2 | exact k.1.1.1.1.2 | exact k.1.1.1.1.1.2 | exact k.1.1.1.1.1.1.2 | exact k.1.1.1.1.1.1.1.2 | exact k.1.1.1.1.1.1.1.1.2)).cell 20).trans (aw_tr HRA.out (aw_c20 H12.out)); have c8 : vb.cell? ⟨v6.heap.size, 8, none⟩ = some (.int .i64 1) := ((show Blk vb v6.heap.size 38 ra from (by have k := K.out _ (Upd.refl _ _); first | exact k.2 | exact k.1.2 | exact k.1.1.2 | exact k.1.1.1.2 | exact k.1.1.1.1.2 | exact k.1.1.1.1.1.2 | exact k.1.1.1.1.1.1.2 | exact k.1.1.1.1.1.1.1.2 | exact k.1.1.1.1.1.1.1.1.2)).cell 8).trans (aw_tr HRA.out (aw_c8 H0.out)))
    | (with_reducible show Calls _ 7 #[.agg #[.int .i64 0, _, _, _, _]] _ _; refine (CZ.out _).mono ?_; rintro e vz ⟨rfl, hu⟩; replace K := Lib.hid (fun W (h : Upd NoF _ W) => K.out W (hu.trans h (fun _ _ f => f))); clear hu)
    | (refine wl_load rfl 38 (.tmp 2) rfl v6.heap.size 0 (by rfl) ra.toList _ (range_blk (by rw [Array.toArray_toList]; exact (by have k := K.out _ (Upd.refl _ _); first | exact k.2 | exact k.1.2 | exact k.1.1.2 | exact k.1.1.1.2 | exact k.1.1.1.1.2 | exact k.1.1.1.1.1.2 | exact k.1.1.1.1.1.1.2 | exact k.1.1.1.1.1.1.1.2 | exact k.1.1.1.1.1.1.1.1.2))) Tryz.underlying38 rfl (by rw [Array.length_toList, HSZ.out]; exact item_size) ra (by simp) ?_)
    | (refine wl_row1 rfl 44 38 (.tmp 34) rfl (.agg ra) (by rfl) ra (run_slice_item HSZ.out _) ?_; intro vi hb hu; replace K := Lib.hid (fun W (h : Upd NoF _ W) => And.intro (K.out W (hu.trans h (fun _ _ f => f))) ((by have q := h.blk hb (fun f => f); rw [← HRA.out] at q; exact aw_gr (HOK.out W) q))); clear hb hu)
    | (with_reducible show Calls _ 25 #[_, _, _, .slice _ 1 1] _ _; refine (CB5.out _ _ _ _ _ _ _ _ (aw_txt (Blk.new vi 5 #[.int .u8 3]))).mono ?_; rintro e vz ⟨rfl, hu⟩; replace K := Lib.hid (fun W (h : Upd NoF _ W) => K.out W ((((Upd.refl NoF vi).alloc (.cells #[.int .u8 3] 5)).trans hu (fun _ _ f => f)).trans h (fun _ _ f => f))); clear hu)
    | (refine wl_build rfl 67 #[(0, .tmp 46), (1, .tmp 51)] rfl #[(0, .agg #[z0, z1, z2, z3, z4, z5, z6, z7]), (1, .slice (some ⟨_, 0, none⟩) 4 4)] (by simp; exact ⟨rfl, rfl⟩) _ (aw_blk HZN.out _) ?_; generalize hxb : (blkC awI.name (.slice (some ⟨_, 0, none⟩) 4 4)).toArray = xb; have HXB := Lib.hid hxb; clear hxb)
    | (with_reducible show Calls _ 26 _ _ _; refine (aw_call6' (Blk.new vb 64 #[.int .i64 0, .int .u8 0, .int .u8 0, .int .u8 0, .int .u8 0, .int .u8 0, .int .u8 0, .int .u8 0, .int .u8 0, .int .i64 1, .int .u8 0, .int .u8 0, .int .u8 0, .int .u8 0, .int .u8 0, .int .u8 0, .int .u8 0, .int .u8 0, .int .i64 2, .int .u8 0, .int .u8 0, .int .u8 0, .int .u8 0, .int .u8 0, .int .u8 0, .int .u8 0, .int .u8 0, .int .i64 3, .int .u8 0, .int .u8 0, .int .u8 0, .int .u8 0, .int .u8 0, .int .u8 0, .int .u8 0, .int .u8 0]) HXB.out).mono ?_; rintro e vd ⟨B, d, he, hr, hu⟩; obtain ⟨tn, htn⟩ : ∃ x, (3 :: blkT awI.name aw4).length = x := ⟨_, rfl⟩; rw [htn] at he hr; subst he; have HTN := Lib.hid htn; replace K := Lib.hid (fun W (h : Upd NoF _ W) => And.intro (K.out W ((((Upd.refl NoF vb).alloc (.cells #[.int .i64 0, .int .u8 0, .int .u8 0, .int .u8 0, .int .u8 0, .int .u8 0, .int .u8 0, .int .u8 0, .int .u8 0, .int .i64 1, .int .u8 0, .int .u8 0, .int .u8 0, .int .u8 0, .int .u8 0, .int .u8 0, .int .u8 0, .int .u8 0, .int .i64 2, .int .u8 0, .int .u8 0, .int .u8 0, .int .u8 0, .int .u8 0, .int .u8 0, .int .u8 0, .int .u8 0, .int .i64 3, .int .u8 0, .int .u8 0, .int .u8 0, .int .u8 0, .int .u8 0, .int .u8 0, .int .u8 0, .int .u8 0] 64)).trans hu (fun _ _ f => f)).trans h (fun _ _ f => f))) (hr.keep h)); clear hr hu htn)
    | (with_reducible show Calls _ 25 #[_, _, .slice none _ _, _] _ _; refine (CN5.out _ _ _ _ _ _ _ (by rw [HTN.out]; exact (by have k := K.out _ (Upd.refl _ _); first | exact k.2 | exact k.1.2 | exact k.1.1.2 | exact k.1.1.1.2 | exact k.1.1.1.1.2 | exact k.1.1.1.1.1.2 | exact k.1.1.1.1.1.1.2 | exact k.1.1.1.1.1.1.1.2 | exact k.1.1.1.1.1.1.1.1.2))).mono ?_; rintro e vz ⟨rfl, hu⟩; replace K := Lib.hid (fun W (h : Upd NoF _ W) => K.out W (hu.trans h (fun _ _ f => f))); clear hu)
    | (with_reducible show Calls _ 25 #[_, _, _, _] _ _; refine (CC5.out _ _ _ _ rest _ _ _ _ _ (by rw [HTN.out]; exact (by have k := K.out _ (Upd.refl _ _); first | exact k.2 | exact k.1.2 | exact k.1.1.2 | exact k.1.1.1.2 | exact k.1.1.1.1.2 | exact k.1.1.1.1.1.2 | exact k.1.1.1.1.1.1.2 | exact k.1.1.1.1.1.1.1.2 | exact k.1.1.1.1.1.1.1.1.2)) (by have k := K.out _ (Upd.refl _ _); first | exact k.2 | exact k.1.2 | exact k.1.1.2 | exact k.1.1.1.2 | exact k.1.1.1.1.2 | exact k.1.1.1.1.1.2 | exact k.1.1.1.1.1.1.2 | exact k.1.1.1.1.1.1.1.2 | exact k.1.1.1.1.1.1.1.1.2) (HOK.out w).one H12.out).mono ?_; rintro e vz ⟨rfl, hu⟩; replace K := Lib.hid (fun W (h : Upd NoF _ W) => K.out W (hu.trans h (fun _ _ f => f))); clear hu)
    | (with_reducible show Calls _ 14 #[_, .agg #[.int .u8 9, _, _, _, _, _, _, _]] _ _; refine (aw_call14n (by have k := K.out _ (Upd.refl _ _); first | exact k.2 | exact k.1.2 | exact k.1.1.2 | exact k.1.1.1.2 | exact k.1.1.1.1.2 | exact k.1.1.1.1.1.2 | exact k.1.1.1.1.1.1.2 | exact k.1.1.1.1.1.1.1.2 | exact k.1.1.1.1.1.1.1.1.2)).mono ?_; rintro e vz ⟨rfl, hu⟩; replace K := Lib.hid (fun W (h : Upd NoF _ W) => K.out W (hu.trans h (fun _ _ f => f))); clear hu; obtain ⟨n0, n1, n2, n3, n4, n5, n6, n7⟩ := aw_cells HZN.out HRA.out (show Blk vz v6.heap.size 38 ra from (by have k := K.out _ (Upd.refl _ _); first | exact k.2 | exact k.1.2 | exact k.1.1.2 | exact k.1.1.1.2 | exact k.1.1.1.1.2 | exact k.1.1.1.1.1.2 | exact k.1.1.1.1.1.1.2 | exact k.1.1.1.1.1.1.1.2 | exact k.1.1.1.1.1.1.1.1.2)))
    | (with_reducible show Calls _ 14 _ _ _; refine (aw_call14 (by have k := K.out _ (Upd.refl _ _); first | exact k.2 | exact k.1.2 | exact k.1.1.2 | exact k.1.1.1.2 | exact k.1.1.1.1.2 | exact k.1.1.1.1.1.2 | exact k.1.1.1.1.1.1.2 | exact k.1.1.1.1.1.1.1.2 | exact k.1.1.1.1.1.1.1.1.2) HZN.out).mono ?_; rintro e vz ⟨rfl, hu⟩; replace K := Lib.hid (fun W (h : Upd NoF _ W) => K.out W (hu.trans h (fun _ _ f => f))); clear hu)
    | (with_reducible show Calls _ 20 _ _ _; refine (aw_call20 (by have k := K.out _ (Upd.refl _ _); first | exact k.2 | exact k.1.2 | exact k.1.1.2 | exact k.1.1.1.2 | exact k.1.1.1.1.2 | exact k.1.1.1.1.1.2 | exact k.1.1.1.1.1.1.2 | exact k.1.1.1.1.1.1.1.2 | exact k.1.1.1.1.1.1.1.1.2) HZN.out).mono ?_; rintro e vz ⟨A', c', rfl, hu⟩; replace K := Lib.hid (fun W (h : Upd NoF _ W) => K.out W (hu.trans h (fun _ _ f => f))); clear hu; obtain ⟨n0, n1, n2, n3, n4, n5, n6, n7⟩ := aw_cells HZN.out HRA.out (show Blk vz v6.heap.size 38 ra from (by have k := K.out _ (Upd.refl _ _); first | exact k.2 | exact k.1.2 | exact k.1.1.2 | exact k.1.1.1.2 | exact k.1.1.1.1.2 | exact k.1.1.1.1.1.2 | exact k.1.1.1.1.1.1.2 | exact k.1.1.1.1.1.1.1.2 | exact k.1.1.1.1.1.1.1.1.2)))
    | (with_reducible show Calls _ 16 _ _ _; refine (aw_call16 (by have k := K.out _ (Upd.refl _ _); first | exact k.2 | exact k.1.2 | exact k.1.1.2 | exact k.1.1.1.2 | exact k.1.1.1.1.2 | exact k.1.1.1.1.1.2 | exact k.1.1.1.1.1.1.2 | exact k.1.1.1.1.1.1.1.2 | exact k.1.1.1.1.1.1.1.1.2) HZN.out).mono ?_; rintro e vz ⟨A', c', rfl, hu⟩; replace K := Lib.hid (fun W (h : Upd NoF _ W) => K.out W (hu.trans h (fun _ _ f => f))); clear hu))
  go_ret
  exact ⟨rfl, by have k := K.out _ (Upd.refl _ _); exact k.1.1.1.1.1.1.1⟩
end

section
open Go.RowKit

def acycB : Nat → List Oper → Bool
  | _, [] => true
  | k, o :: l => o.after.all (fun e => !Region.binds .any e || decide (e.on < k)) && acycB (k + 1) l
theorem acycB_get : ∀ {r : List Oper} {k : Nat}, acycB k r = true → ∀ {i : Nat} {o : Oper}, r[i]? = some o → ∀ e ∈ o.after, Region.binds .any e = true → e.on < k + i
  | [], _, _, i, o, h => by cases h
  | x :: r, k, h, 0, o, hi => by
    simp at hi
    subst hi
    simp only [acycB, Bool.and_eq_true] at h
    intro e he hb
    have := Array.all_eq_true_iff_forall_mem.1 h.1 e he
    rw [hb] at this
    simpa using this
  | x :: r, k, h, i + 1, o, hi => by
    simp only [acycB, Bool.and_eq_true] at h
    intro e he hb
    have := acycB_get h.2 (i := i) (o := o) (by simpa using hi) e he hb
    omega
theorem not_readyB {l : List Oper} (hac : acycB 0 l = true) {listed : Array Bool} (hs : listed.size = l.length) (h : Region.ready .any l.toArray listed = []) : ∀ i, i < l.length → listed[i]? = some true := by
  intro i
  induction i using Nat.strongRecOn with
  | ind i ih =>
    intro hi
    have hil : i < listed.size := by omega
    rw [Array.getElem?_eq_getElem hil]
    cases hb : listed[i] with
    | true => rfl
    | false =>
      exfalso
      have : i ∈ Region.ready .any l.toArray listed := by
        unfold Region.ready
        refine List.mem_filter.2 ⟨by simpa using hi, ?_⟩
        rw [Array.getD_eq_getD_getElem?, Array.getElem?_eq_getElem hil, hb]
        simp only [List.getElem?_toArray, List.getElem?_eq_getElem hi, Option.map_some, Option.getD_some, Bool.not_false, Bool.true_and]
        refine Array.all_eq_true.2 (fun q hq => ?_)
        cases hbd : Region.binds .any (l[i].after[q]) with
        | false => simp
        | true =>
        have hlt := acycB_get hac (List.getElem?_eq_getElem hi) _ (Array.getElem_mem hq) hbd
        rw [Nat.zero_add] at hlt
        have := ih _ hlt (by omega)
        rw [Array.getD_eq_getD_getElem?, this]
        simp
      rw [h] at this
      cases this

section
variable {P : Program} {l : List Oper} {R : Nat → Value → World → Prop} {St : (Nat → Bool) → World → World → Prop} {W : (Nat → Bool) → World → Prop} {a0 : Act}
theorem RgAt.anyLB (st_refl : ∀ L w, St L w w) (keep : ∀ L i v w w', L i = true → R i v w → St L w w' → R i v w') (hac : acycB 0 l = true) (hdi : distinctB l = true) (hdst : ∀ o ∈ l, ∀ d, o.dst = some d → d < a0.tmps.size) {Q : Exit → Act → World → Prop} (hops : AllOpsL P l R St W a0.eval 0 l) (hend : ∀ (vs : Nat → Value) (w : World) (L : Nat → Bool), (∀ i, i < l.length → L i = true) → W L w → (∀ (i : Nat) o, l[i]? = some o → R i (leftV o (vs i)) w) → Q .normal (putAll l vs 0 a0) w) :
    ∀ (fuel : Nat) (listed : Array Bool) (a : Act) (w : World), unl listed.toList ≤ fuel → RgAt l R W a0 listed a w → wpAny P .any l.toArray Q fuel listed a w := by
  have fin : ∀ (listed : Array Bool) (a : Act) (w : World), RgAt l R W a0 listed a w → Region.ready .any l.toArray listed = [] → Q .normal a w := by
    intro listed a w h hr
    have hn := not_readyB hac h.ls hr
    obtain ⟨vs, rfl, hv⟩ := h.fin hdi (fun b hb => by
      obtain ⟨i, hi⟩ := List.getElem?_of_mem hb
      have hlt : i < l.length := by rw [← h.ls]; have := (List.getElem?_eq_some_iff.1 hi).1; simpa using this
      have := hn i hlt
      have hi' : listed[i]? = some b := by simpa using hi
      rw [hi'] at this
      exact Option.some.inj this)
    exact hend vs w (lst listed) (fun i hi => by unfold lst; rw [beq_iff_eq]; exact hn i hi) h.st hv
  intro fuel
  induction fuel with
  | zero =>
    intro listed a w hu h
    have hz := unl_zero _ (by omega : unl listed.toList = 0)
    have hr : Region.ready .any l.toArray listed = [] := by
      apply List.eq_nil_iff_forall_not_mem.2
      intro i hi
      obtain ⟨o, _, h2, _⟩ := ready_iff h.ls hi
      have := hz false (List.mem_of_getElem? (i := i) (by simpa using h2))
      cases this
    exact ⟨hr, fin listed a w h hr⟩
  | succ fuel ih =>
    intro listed a w hu h
    refine ⟨fun hr => fin listed a w h hr, fun i hi => ?_⟩
    obtain ⟨o, h1, h2, h3⟩ := ready_iff h.ls hi
    have hs := h.stepL st_refl keep hdi hdst (Q := Q) hops h1 h2 h3
    have hun : unl (listed.setIfInBounds i true).toList ≤ fuel := by
      have := unl_set listed.toList i (by simpa using h2)
      rw [Array.toList_setIfInBounds]
      omega
    unfold wpOp
    simp only [List.getElem?_toArray, h1]
    split
    · rename_i hw
      rw [if_pos hw] at hs
      exact .inl (Oper.wp_mono (fun a' w' h' => ih _ a' w' hun h') hs)
    · rename_i hw
      rw [if_neg hw] at hs
      exact ih _ _ _ hun hs
end
theorem wp_region_rglB {P : Program} {l : List Oper} {a0 : Act} {w0 : World} {Q : Exit → Act → World → Prop} {id : Nat} (R : Nat → Value → World → Prop) (St : (Nat → Bool) → World → World → Prop) (W : (Nat → Bool) → World → Prop) (hm : P.follows .mixedOrders = true) (hac : acycB 0 l = true) (hdi : distinctB l = true) (hdst : (l.all fun o => match o.dst with | some d => decide (d < a0.tmps.size) | none => true) = true)
    (st_refl : ∀ L w, St L w w) (keep : ∀ L i v w w', L i = true → R i v w → St L w w' → R i v w') (hW : W (fun _ => false) w0.drew)
    (hops : AllOpsL P l R St W a0.eval 0 l) (hend : ∀ (vs : Nat → Value) (w : World) (L : Nat → Bool), (∀ i, i < l.length → L i = true) → W L w → (∀ (i : Nat) o, l[i]? = some o → R i (leftV o (vs i)) w) → Q .normal (putAll l vs 0 a0) w) : (Code.region id l.toArray true).wp P Q a0 w0 := by
  have hdst' : ∀ o ∈ l, ∀ d, o.dst = some d → d < a0.tmps.size := fun o ho d hd => by
    have := List.all_eq_true.1 hdst o ho
    rw [hd] at this
    simpa using this
  have hl0 : lst (Array.replicate l.length false) = fun _ => false := by
    funext j
    unfold lst
    rw [Array.getElem?_replicate]
    split <;> rfl
  refine wp_region_any hm ?_
  refine RgAt.anyLB (R := R) (St := St) (W := W) (a0 := a0) st_refl keep hac hdi hdst' hops hend _ _ _ _ ?_ ?_
  · simp [unl_replicate]
  · refine ⟨by simp, rfl, rfl, by simp only [List.size_toArray]; rw [hl0]; exact hW, fun j oj _ h => ?_, fun _ _ => rfl, fun j k h => ?_⟩
    · rw [Array.getElem?_replicate] at h
      split at h
      · cases h
      · cases h
    · rw [Array.getElem?_replicate] at h
      split at h
      · cases h
      · cases h
end
end Go.Proofs.YtengcmfdfmnacaaGreat
