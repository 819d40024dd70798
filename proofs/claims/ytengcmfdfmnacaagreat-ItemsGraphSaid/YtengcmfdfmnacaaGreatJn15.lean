/- items.Parents. Conditions: sizes. items.Graph.Item. Conditions: sizes. items.Graph.Closure: the names that are reached. Conditions: sizes. Text on plain data: the least text with a name; it does not depend on the order. No condition. -/
import Derived.Test.YtengcmfdfmnacaaGreatJn14
import Derived.Test.YtengcmfdfmnacaaGreatJn10
import Derived.Test.YtengcmfdfmnacaaGreatJn1
namespace Go.Proofs.YtengcmfdfmnacaaGreat
section
open Go.RowKit Go.Shelf Go.Lib

def zH : Array Value := (choiceC (0, List.replicate 8 0)).toArray
theorem head_alloc (w : World) : (Instr.alloc 78 true (.tuple #[])).run Tryz.prog w = .ok (.pointer (some ⟨w.heap.size, 0, none⟩)) (w.alloc (.cells zH 78)) := by kernel_rfl
theorem zH_size : zH.size = 9 := rfl
theorem head_size : (Tryz.prog.info? 78).map (·.size) = some 9 := by kernel_rfl
theorem head_arr {s : Int × List UInt8} (hs : s.2.length = 8) {za : Array Value} (hz : (choiceC s).toArray = za) : za.size = 9 ∧ za.all (·.oneCell') = true := by
  subst hz
  refine ⟨by simp [choiceC, hs], ?_⟩
  rw [List.all_toArray, List.all_eq_true]
  exact choice_one s.1 s.2
theorem head_name {s : Int × List UInt8} {W : World} {V : Nat} {T : TypeId} {za : Array Value} (hz : (choiceC s).toArray = za) (hb : Blk W V T za) : W.rangeAt V 1 (s.2.map byteV) := fun j v hj => by
  rw [hb.cell, ← hz, List.getElem?_toArray, Nat.add_comm]
  exact hj
/-- Sorted and without repetitions. -/
theorem tail_sort (raw : List (List UInt8)) (h8 : All8 raw) (n : Nat) (hn : raw.length = n) (hm : n ≤ 1000000) : ∀ W A c, Own W 28 8 (.slice A n c) n (rowsN raw) → Calls Tryz.prog 38 #[.slice A n c, (.func (.func 39) #[] #[])] W fun e w' => e = .returned (.tuple #[]) ∧ ∃ m : List (List UInt8), m.Perm raw ∧ m.Pairwise (fun a b => be a ≤ be b) ∧ Own w' 28 8 (.slice A n c) n (rowsN m) ∧ Upd (OwnB (.slice A n c)) W w' :=
  fun _ _ _ h => SortNames_any h8 hn h (by omega)
theorem tail_comp (raw : List (List UInt8)) (h8 : All8 raw) (n : Nat) (hn : raw.length = n) (hm : n ≤ 1000000) : ∀ W A c m, m.Perm raw → m.Pairwise (fun a b => be a ≤ be b) → Own W 28 8 (.slice A n c) n (rowsN m) → Calls Tryz.prog 40 #[.slice A n c] W fun e w' => e = .returned (.slice A (ascSet raw).length c) ∧ Own w' 28 8 (.slice A (ascSet raw).length c) (ascSet raw).length (rowsN (ascSet raw)) ∧ Upd (OwnB (.slice A n c)) W w' := by
  intro W A c m hp hs ho
  have e0 : compL m = ascSet raw := by rw [← compN_eq]; exact compN_sorted h8 hp hs
  have := CompactNames_any (fun y hy => h8 y (hp.mem_iff.1 hy)) (hp.length_eq.trans hn) ho (by omega)
  rw [e0] at this
  exact this
theorem ownB_len {A : Option Addr} {n c m d : Nat} : OwnB (.slice A n c) = OwnB (.slice A m d) := by
  funext k
  cases A <;> rfl
/-- From the list as it was collected to the post. -/
theorem tail_post {w W w8 w9 : World} {A : Option Addr} {n c : Nat} {raw : List (List UInt8)} (hu : Upd NoF w W) (hnew : ∀ k, OwnB (.slice A n c) k → w.heap.size ≤ k) (h8 : Upd (OwnB (.slice A n c)) W w8) (h9 : Upd (OwnB (.slice A n c)) w8 w9) (ho : Own w9 28 8 (.slice A (ascSet raw).length c) (ascSet raw).length (rowsN (ascSet raw))) : AscPost w (ascSet raw) (.returned (.slice A (ascSet raw).length c)) w9 :=
  ⟨A, c, rfl, ⟨ho, fun k hk => hnew k (by rw [ownB_len (m := n) (d := c)] at hk; exact hk)⟩, (hu.trans h8 (fun k hk f => by have := hnew k f; omega)).trans h9 (fun k hk f => by have := hnew k f; omega)⟩

set_option maxRecDepth 100000 in
set_option maxHeartbeats 8000000 in
theorem Parents_none {w : World} {i : ItP} {rest : List Value} (h : ItOk w i rest) (h3 : i.kind ≠ 3) (h4 : i.kind ≠ 4) : Calls Tryz.prog 12 #[.agg (itemC i.name rest).toArray] w (AscPost w (ascSet ([]))) := by
  obtain ⟨kd, hk⟩ : ∃ kd, i.kind = kd := ⟨_, rfl⟩
  obtain ⟨i0, hi0, hz0, hz1, hz2⟩ := info_parts name_info
  have HBS := Lib.hid (fun (n : List UInt8) (hn : n.length = 8) (za : Array Value) (hz : (n.map byteV).toArray = za) w => bs_name hn hz w)
  obtain ⟨ra, hra⟩ : ∃ y, (itemC i.name rest).toArray = y := ⟨_, rfl⟩
  have HRA := Lib.hid hra
  have HOK := Lib.hid h
  have CK := Lib.hid (show ra[8]? = some (.int .i64 kd) from by have := item_cell hra h h.kind; rw [hk] at this; exact this)
  obtain ⟨pb, hpb⟩ : ∃ y, (i.parent.map byteV).toArray = y := ⟨_, rfl⟩
  have HPB := Lib.hid hpb
  have HA8 := Lib.hid (show All8 ([]) from by intro n hn; cases hn)
  have TS := Lib.hid (tail_sort [] HA8.out 0 rfl (by omega))
  have TC := Lib.hid (tail_comp [] HA8.out 0 rfl (by omega))
  have t3 : decide (kd = 3) = false := by rw [hk] at h3; simpa using h3
  have t4 : decide (kd = 4) = false := by rw [hk] at h4; simpa using h4
  have t3' : ¬ kd = 3 := by rw [hk] at h3; exact h3
  have t4' : ¬ kd = 4 := by rw [hk] at h4; exact h4
  rw [hra]
  clear h h3 h4 hk hra hpb
  go_enter Tryz.func12, Tryz.ntmps12
  go_wp2_with (first
    | (refine wl_box rfl 38 (.tmp 0) rfl ra (by rfl) ?_; intro W0 hb0 hu0 hs0; have BX := Lib.hid hb0; have UW := Lib.hid hu0; have SW := Lib.hid hs0; have ck := (hb0.cell 8).trans CK.out; clear hb0 hu0 hs0)
    | (refine (TS.out _ _ _ (Own.nil _ _ _)).mono ?_; rintro e w8 ⟨rfl, q, hp, hsrt, ho, hu⟩; have HQ := Lib.hid hp; have HS := Lib.hid hsrt; have HO := Lib.hid ho; have HU8 := Lib.hid hu; clear hp hsrt ho hu)
    | (refine (TC.out _ _ _ _ HQ.out HS.out HO.out).mono ?_; rintro e w9 ⟨rfl, ho9, hu9⟩; have HO9 := Lib.hid ho9; have HU9 := Lib.hid hu9; clear ho9 hu9))
  go_ret
  exact tail_post UW.out (fun k hk => by simp [OwnB, Value.ownBlock] at hk) HU8.out HU9.out HO9.out

set_option maxRecDepth 100000 in
set_option maxHeartbeats 8000000 in
theorem Parents_block {w : World} {i : ItP} {rest : List Value} (h : ItOk w i rest) (hk : i.kind = 3) : Calls Tryz.prog 12 #[.agg (itemC i.name rest).toArray] w (AscPost w (ascSet ([i.parent]))) := by
  obtain ⟨i0, hi0, hz0, hz1, hz2⟩ := info_parts name_info
  have HBS := Lib.hid (fun (n : List UInt8) (hn : n.length = 8) (za : Array Value) (hz : (n.map byteV).toArray = za) w => bs_name hn hz w)
  obtain ⟨ra, hra⟩ : ∃ y, (itemC i.name rest).toArray = y := ⟨_, rfl⟩
  have HRA := Lib.hid hra
  have HOK := Lib.hid h
  have CK := Lib.hid (show ra[8]? = some (.int .i64 3) from by have := item_cell hra h h.kind; rw [hk] at this; exact this)
  obtain ⟨pb, hpb⟩ : ∃ y, (i.parent.map byteV).toArray = y := ⟨_, rfl⟩
  have HPB := Lib.hid hpb
  have HA8 := Lib.hid (show All8 ([i.parent]) from by intro n hn; rw [List.mem_singleton.1 hn]; exact h.fit.parent)
  have TS := Lib.hid (tail_sort [i.parent] HA8.out 1 rfl (by omega))
  have TC := Lib.hid (tail_comp [i.parent] HA8.out 1 rfl (by omega))
  rw [hra]
  clear h hk hra hpb
  go_enter Tryz.func12, Tryz.ntmps12
  go_wp2_with (first
    | (refine wl_box rfl 38 (.tmp 0) rfl ra (by rfl) ?_; intro W0 hb0 hu0 hs0; have BX := Lib.hid hb0; have UW := Lib.hid hu0; have SW := Lib.hid hs0; have ck := (hb0.cell 8).trans CK.out; clear hb0 hu0 hs0)
    | (refine wl_load rfl 28 (.tmp 11) rfl _ _ rfl (i.parent.map byteV) _ (item_par HRA.out BX.out HOK.out) Tryz.underlying28 rfl (by rw [name_size]; simp [HOK.out.fit.parent]) pb HPB.out ?_)
    | (refine wpList_bsRow rfl 22 28 (.tmp 12) rfl (.agg pb) (by rfl) pb (HBS.out _ HOK.out.fit.parent _ HPB.out _) ?_; intro w6 hb6 hu6 hs6; have B6 := Lib.hid hb6; have U6 := Lib.hid hu6; clear hb6 hu6 hs6)
    | (at_builtin; refine wpList_append_to _ rfl (.tmp 10) (.tmp 13) 22 rfl 28 i0 _ 8 8 Tryz.underlying22 hi0 hz0 hz1 hz2 (by kernel_rfl) (.slice none 0 0) 0 [] (by rfl) (Own.nil _ _ _) _ 1 (i.parent.map byteV) rfl (rd_name HOK.out.fit.parent HPB.out B6.out) (name_ones _) (by unfold maxLen; omega) (by omega) ?_; intro A7 c7 w7 hown hupd hnew; have O7 := Lib.hid (show Own w7 28 8 (.slice A7 1 c7) 1 (rowsN [i.parent]) from by simpa [rowsN] using hown); have D7 := Lib.hid (show Upd NoF W0 w7 from U6.out.trans hupd (fun k hk f => by simp [OwnB, Value.ownBlock] at f)); have N7 := Lib.hid (show ∀ k, OwnB (.slice A7 1 c7) k → w.heap.size + 1 ≤ k from fun k hk => by rcases hnew k hk with f | f; (· simp [OwnB, Value.ownBlock] at f); have := U6.out.size; have := SW.out; omega); clear hown hupd hnew)
    | (refine (TS.out _ _ _ (O7.out)).mono ?_; rintro e w8 ⟨rfl, q, hp, hsrt, ho, hu⟩; have HQ := Lib.hid hp; have HS := Lib.hid hsrt; have HO := Lib.hid ho; have HU8 := Lib.hid hu; clear hp hsrt ho hu)
    | (refine (TC.out _ _ _ _ HQ.out HS.out HO.out).mono ?_; rintro e w9 ⟨rfl, ho9, hu9⟩; have HO9 := Lib.hid ho9; have HU9 := Lib.hid hu9; clear ho9 hu9))
  go_ret
  exact tail_post (UW.out.trans D7.out (fun _ _ f => f)) (fun k hk => by have := N7.out k (by simpa using hk); omega) HU8.out HU9.out HO9.out

set_option maxRecDepth 100000 in
set_option maxHeartbeats 8000000 in
theorem Parents_record {w : World} {i : ItP} {rest : List Value} (h : ItOk w i rest) (hk : i.kind = 4) (hh : i.heads.length ≤ 1000) (ht : i.tips.length ≤ 1000) : Calls Tryz.prog 12 #[.agg (itemC i.name rest).toArray] w (AscPost w (ascSet (i.parent :: i.heads.map (·.2) ++ i.tips))) := by
  obtain ⟨i0, hi0, hz0, hz1, hz2⟩ := info_parts name_info
  have HBS := Lib.hid (fun (n : List UInt8) (hn : n.length = 8) (za : Array Value) (hz : (n.map byteV).toArray = za) w => bs_name hn hz w)
  obtain ⟨ra, hra⟩ : ∃ y, (itemC i.name rest).toArray = y := ⟨_, rfl⟩
  have HRA := Lib.hid hra
  have HOK := Lib.hid h
  have CK := Lib.hid (show ra[8]? = some (.int .i64 4) from by have := item_cell hra h h.kind; rw [hk] at this; exact this)
  obtain ⟨pb, hpb⟩ : ∃ y, (i.parent.map byteV).toArray = y := ⟨_, rfl⟩
  have HPB := Lib.hid hpb
  obtain ⟨H, ch, hh1, hh2⟩ := h.heads
  obtain ⟨T, ct, ht1, ht2⟩ := h.tips
  have CH := Lib.hid (item_cell hra h hh1)
  have CT := Lib.hid (item_cell hra h ht1)
  have HCH := Lib.hid hh2
  have HCT := Lib.hid ht2
  obtain ⟨hn, hhn⟩ : ∃ n, i.heads.length = n := ⟨_, rfl⟩
  obtain ⟨tn, htn⟩ : ∃ n, i.tips.length = n := ⟨_, rfl⟩
  rw [hhn] at CH HCH hh
  rw [htn] at CT HCT ht
  have HHN := Lib.hid hhn
  have HTN := Lib.hid htn
  have HA8 := Lib.hid (show All8 (i.parent :: i.heads.map (·.2) ++ i.tips) from by have := rawPar_all8 h.fit; unfold rawPar at this; rw [if_neg (by rw [hk]; decide), if_pos hk] at this; exact this)
  have TS := Lib.hid (tail_sort (i.parent :: i.heads.map (·.2) ++ i.tips) HA8.out (hn + 1 + tn) (by rw [List.length_append, List.length_cons, List.length_map, hhn, htn]) (by omega))
  have TC := Lib.hid (tail_comp (i.parent :: i.heads.map (·.2) ++ i.tips) HA8.out (hn + 1 + tn) (by rw [List.length_append, List.length_cons, List.length_map, hhn, htn]) (by omega))
  rw [hra]
  clear h hk hra hpb hh1 hh2 ht1 ht2 hhn htn
  go_enter Tryz.func12, Tryz.ntmps12
  go_wp2_with (first
    | (refine wl_box rfl 38 (.tmp 0) rfl ra (by rfl) ?_; intro W0 hb0 hu0 hs0; have BX := Lib.hid hb0; have UW := Lib.hid hu0; have SW := Lib.hid hs0; have ck := (hb0.cell 8).trans CK.out; have HSX := Lib.hid hs0; clear hb0 hu0 hs0)
    | (refine wl_load rfl 28 (.tmp 18) rfl _ _ rfl (i.parent.map byteV) _ (item_par HRA.out BX.out HOK.out) Tryz.underlying28 rfl (by rw [name_size]; simp [HOK.out.fit.parent]) pb HPB.out ?_)
    | (refine wpList_bsRow rfl 22 28 (.tmp 19) rfl (.agg pb) (by rfl) pb (HBS.out _ HOK.out.fit.parent _ HPB.out _) ?_; intro w6 hb6 hu6 hs6; have B6 := Lib.hid hb6; have U6 := Lib.hid hu6; clear hb6 hu6 hs6)
    | (at_builtin; refine wpList_append_to _ rfl (.tmp 17) (.tmp 20) 22 rfl 28 i0 _ 8 8 Tryz.underlying22 hi0 hz0 hz1 hz2 (by kernel_rfl) (.slice none 0 0) 0 [] (by rfl) (Own.nil _ _ _) _ 1 (i.parent.map byteV) rfl (rd_name HOK.out.fit.parent HPB.out B6.out) (name_ones _) (by unfold maxLen; omega) (by omega) ?_; intro A7 c7 w7 hown hupd hnew; have O7 := Lib.hid (show Own w7 28 8 (.slice A7 1 c7) 1 (rowsN [i.parent]) from by simpa [rowsN] using hown); have D7 := Lib.hid (show Upd NoF W0 w7 from U6.out.trans hupd (fun k hk f => by simp [OwnB, Value.ownBlock] at f)); have N7 := Lib.hid (show ∀ k, OwnB (.slice A7 1 c7) k → w.heap.size + 1 ≤ k from fun k hk => by rcases hnew k hk with f | f; (· simp [OwnB, Value.ownBlock] at f); have := U6.out.size; have := SW.out; omega); have ch7 := (hupd.blk (U6.out.blk BX.out (fun f => f)) (fun f => by simp [OwnB, Value.ownBlock] at f)).cell 18 |>.trans CH.out; clear hown hupd hnew))
  obtain ⟨X, hX⟩ : ∃ x, w.heap.size = x := ⟨_, rfl⟩
  rw [hX] at BX SW N7 ⊢
  have HX := Lib.hid hX
  clear hX ck ch7 U6 B6
  go_loopg [3, 25] hn (fun kx s3 s25 wr => ∃ (k : Nat) (A : Option Addr) (c : Nat), s25 = .int .i64 (k : Int) ∧ k ≤ hn ∧ hn - k ≤ kx ∧ s3 = .slice A (k + 1) c ∧ Hid (NwA (X + 1) 28 8 (k + 1) (rowsN (i.parent :: (i.heads.take k).map (·.2))) A c wr) ∧ Hid (Upd NoF W0 wr))
  case atStart => exact ⟨0, A7, c7, rfl, by omega, by omega, rfl, Lib.hid ⟨O7.out, N7.out⟩, D7⟩
  case round =>
    clear O7 N7 D7
    obtain ⟨k, A, c, rfl, hkn, hkx, rfl, HN, HU⟩ := hrel
    have HB1 := Lib.hid (show k + 1 + 1 ≤ maxLen ∧ (k + 1 + 1) * 8 ≤ 140737488355328 from by unfold maxLen; omega)
    by_cases hlt : k < hn
    · have hltz : (k : Int) < (hn : Int) := by omega
      obtain ⟨s, hs⟩ : ∃ s, i.heads[k]? = some s := ⟨_, List.getElem?_eq_getElem (by have := HHN.out; omega)⟩
      obtain ⟨g, oo, rfl, hrg⟩ := ((HCH.out.keep UW.out).keep HU.out).at_ hs hlt
      have HRG := Lib.hid hrg
      have HS := Lib.hid hs
      have HS8 := Lib.hid (HOK.out.fit.heads s (List.mem_of_getElem? hs))
      obtain ⟨ha, hha⟩ : ∃ y, (choiceC s).toArray = y := ⟨_, rfl⟩
      have HHA := Lib.hid hha
      obtain ⟨nb, hnb⟩ : ∃ y, (s.2.map byteV).toArray = y := ⟨_, rfl⟩
      have HNB := Lib.hid hnb
      have e1 : ((k : Int)).toNat = k := by omega
      clear hs hrg hha hnb
      go_wp2_with (first
        | (refine wpList_load_row rfl 78 (.tmp 27) rfl g (oo + k * 9) (by first | rfl | simp) (choiceC s) _ HRG.out Tryz.underlying78 rfl (by rw [head_size]; simp [choiceC, HS8.out]) ha HHA.out ?_)
        | (refine wpList_alloc_row rfl 78 rfl zH head_alloc ?_; intro w3 hb3 hu3 hs3; have B3 := Lib.hid hb3; have U3 := Lib.hid hu3; clear hb3 hu3 hs3)
        | (refine wpList_store_row rfl 78 (.tmp 5) (.tmp 28) rfl _ rfl ha rfl 78 _ B3.out (by rw [(head_arr HS8.out HHA.out).1]; exact zH_size) (by rw [head_size, (head_arr HS8.out HHA.out).1]) (head_arr HS8.out HHA.out).2 ?_; intro w4 hb4 hu4 hs4; have B4 := Lib.hid hb4; have U4 := Lib.hid (U3.out.trans hu4 (F := NoF) (fun j hj e => by have e : j = wr.heap.size := e; omega)); clear hb4 hu4 hs4)
        | (refine wl_load rfl 28 (.tmp 30) rfl _ _ rfl (s.2.map byteV) _ (head_name HHA.out B4.out) Tryz.underlying28 rfl (by rw [name_size]; simp [HS8.out]) nb HNB.out ?_)
        | (refine wpList_bsRow rfl 22 28 (.tmp 31) rfl (.agg nb) (by rfl) nb (HBS.out _ HS8.out _ HNB.out _) ?_; intro w5 hb5 hu5 hs5; have B5 := Lib.hid hb5; have U5 := Lib.hid (U4.out.trans hu5 (fun _ _ f => f)); clear hb5 hu5 hs5)
        | (at_builtin; refine wpList_append_to _ rfl (.tmp 29) (.tmp 32) 22 rfl 28 i0 _ 8 8 Tryz.underlying22 hi0 hz0 hz1 hz2 (by kernel_rfl) (.slice A (k + 1) c) (k + 1) (rowsN (i.parent :: (i.heads.take k).map (·.2))) (by rfl) ((HN.out.keep U5.out).1) _ 1 (s.2.map byteV) rfl (rd_name HS8.out HNB.out B5.out) (name_ones _) HB1.out.1 HB1.out.2 ?_; intro A7 c7 w7 hown hupd hnew; have N7 := Lib.hid (NwA.app HN.out U5.out (by have := HU.out.size; have := SW.out; omega) hown hupd hnew); clear hown hupd hnew))
      go_roundg (hn - (k + 1))
      case measure => omega
      case rel =>
        have e : rowsN (i.parent :: (i.heads.take (k + 1)).map (·.2)) = rowsN (i.parent :: (i.heads.take k).map (·.2)) ++ s.2.map byteV := by
          obtain ⟨hlt', rfl⟩ := List.getElem?_eq_some_iff.1 HS.out
          rw [List.take_succ_eq_append_getElem hlt', List.map_append, ← List.cons_append, rowsN_append]
          simp [rowsN]
        exact ⟨k + 1, A7, c7, by first | rfl | go_num, by omega, by omega, by first | rfl | (congr 1; done), Lib.hid (by rw [e]; exact N7.out.1), Lib.hid (N7.out.2 (w := W0) (by have := SW.out; omega) HU.out)⟩
    · have hltz : ¬ (k : Int) < (hn : Int) := by omega
      obtain rfl : k = hn := by omega
      have ct1 : wr.cell? ⟨X, 19, none⟩ = some (.slice T tn ct) := ((HU.out.blk BX.out (fun f => f)).cell 19).trans CT.out
      have HB2 := Lib.hid (show k + 1 + tn ≤ maxLen ∧ (k + 1 + tn) * 8 ≤ 140737488355328 from by unfold maxLen; omega)
      have HTR := Lib.hid (show Rd wr 8 (.slice T tn ct) tn (rowsN i.tips) from by have := ((HCT.out.keep UW.out).keep HU.out).2; rw [HTN.out] at this; exact this)
      go_wp2_with (first
        | (at_builtin; refine wpList_append_to _ rfl (.tmp 35) (.tmp 37) 22 rfl 28 i0 _ 8 8 Tryz.underlying22 hi0 hz0 hz1 hz2 (by kernel_rfl) (.slice A (k + 1) c) (k + 1) (rowsN (i.parent :: (i.heads.take k).map (·.2))) (by rfl) HN.out.1 _ tn (rowsN i.tips) rfl HTR.out (rowsN_one _) HB2.out.1 HB2.out.2 ?_; intro A7 c7 w7 hown hupd hnew; have O7 := Lib.hid (show Own w7 28 8 (.slice A7 (k + 1 + tn) c7) (k + 1 + tn) (rowsN (i.parent :: i.heads.map (·.2) ++ i.tips)) from by rw [rowsN_append]; have e := hown; rw [List.take_of_length_le (by have := HHN.out; omega)] at e; exact e); have D7 := Lib.hid (show Upd NoF W0 w7 from HU.out.trans hupd (fun j hj f => by have := HN.out.2 j f; have := SW.out; omega)); have N7 := Lib.hid (show ∀ j, OwnB (.slice A7 (k + 1 + tn) c7) j → X ≤ j from fun j hj => by rcases hnew j hj with f | f; (· have := HN.out.2 j f; omega); have := HU.out.size; have := SW.out; omega); clear hown hupd hnew)
        | (refine (TS.out _ _ _ (O7.out)).mono ?_; rintro e w8 ⟨rfl, q, hp, hsrt, ho, hu⟩; have HQ := Lib.hid hp; have HS := Lib.hid hsrt; have HO := Lib.hid ho; have HU8 := Lib.hid hu; clear hp hsrt ho hu)
        | (refine (TC.out _ _ _ _ HQ.out HS.out HO.out).mono ?_; rintro e w9 ⟨rfl, ho9, hu9⟩; have HO9 := Lib.hid ho9; have HU9 := Lib.hid hu9; clear ho9 hu9))
      go_ret
      exact tail_post (UW.out.trans D7.out (fun _ _ f => f)) (fun j hj => by have := N7.out j hj; have := HX.out; omega) HU8.out HU9.out HO9.out
/-- items.Parents, whatever the kind. -/
theorem Parents_any {w : World} {i : ItP} {rest : List Value} (h : ItOk w i rest) (hh : i.heads.length ≤ 1000) (ht : i.tips.length ≤ 1000) : Calls Tryz.prog 12 #[.agg (itemC i.name rest).toArray] w (AscPost w (parents i)) := by
  unfold parents rawPar
  by_cases h3 : i.kind = 3
  · rw [if_pos h3]; exact Parents_block h h3
  · rw [if_neg h3]
    by_cases h4 : i.kind = 4
    · rw [if_pos h4]; exact Parents_record h h4 hh ht
    · rw [if_neg h4]; exact Parents_none h h3 h4
end

section
open Go.RowKit Go.Shelf Go.Lib

set_option maxRecDepth 100000 in
set_option maxHeartbeats 8000000 in
theorem grItem_hit {w : World} {A : Option Addr} {n c r k : Nat} {its : List (ItP × List Value)} {x : ItP × List Value} {nm : List UInt8} (hn : its.length = n) (h : GrR w (.slice A n c) its) (hr : NmI w r (its.map (·.1.name))) (hk : its[k]? = some x) (hf : (its.map (·.1.name)).findIdx? (fun y => y = nm) = some k) (h8 : nm.length = 8) :
    Calls Tryz.prog 79 #[.agg #[.slice A n c, .map (some r)], nameV nm] w fun e w' => e = .returned (.tuple #[.agg (itemC x.1.name x.2).toArray, .bool true]) ∧ Upd NoF w w' := by
  have hlt : k < n := by rw [← hn]; exact (List.getElem?_eq_some_iff.1 hk).1
  obtain ⟨g, o, rfl, hrg⟩ := h.at_ hn hk
  obtain ⟨es, he1, he2⟩ := hr
  have HE := Lib.hid he1
  have HGT := Lib.hid (show getT es nm = some (.int .i64 (k : Int)) from by rw [he2, hf]; rfl)
  have HOK := Lib.hid (h.ok x (List.mem_of_getElem? hk))
  obtain ⟨kk, hkk⟩ : ∃ k, k = 28 := ⟨_, rfl⟩
  have HK := Lib.hid hkk
  rw [← hkk] at hrg
  have HRG := Lib.hid hrg
  have aE : ∀ w, (isAgg 38).run Tryz.prog w = .ok true w := fun w => by kernel_rfl
  have zE : ∀ w, (Go.sizeOf 38).run Tryz.prog w = .ok 28 w := fun w => by kernel_rfl
  rw [← hkk] at zE
  obtain ⟨ra, hra⟩ : ∃ y, (itemC x.1.name x.2).toArray = y := ⟨_, rfl⟩
  have HRA := Lib.hid hra
  have HR8 := Lib.hid (show ra.size = 28 from by rw [← hra]; simpa using itemC_len HOK.out)
  have HRO := Lib.hid (show ra.all (·.oneCell') = true from by rw [← hra]; exact itemC_one HOK.out)
  obtain ⟨nb, hnb⟩ : ∃ y, (nm.map byteV).toArray = y := ⟨_, rfl⟩
  have HNB := Lib.hid hnb
  rw [show nameV nm = .agg nb from congrArg Value.agg hnb, hra]
  have H8 := Lib.hid h8
  have IA := Lib.hid item_alloc
  obtain ⟨iz, hiz⟩ : ∃ x, itZ = x := ⟨_, rfl⟩
  rw [hiz] at IA
  have HI8 := Lib.hid (show iz.size = 28 from by rw [← hiz]; exact itZ_size)
  have e1 : ((k : Int)).toNat = k := by omega
  have hltz : (k : Int) < (n : Int) := by omega
  have hge : (0 : Int) ≤ (k : Int) := by omega
  have U0 := Lib.hid (((Upd.refl NoF w).alloc (.cells #[.slice (some ⟨g, o, none⟩) n c, .map (some r)] 89)).alloc (.cells nb 28))
  have BG0 := Lib.hid ((Blk.new w 89 #[.slice (some ⟨g, o, none⟩) n c, .map (some r)]).alloc (.cells nb 28))
  have BN0 := Lib.hid (show Blk ((w.alloc (.cells #[.slice (some ⟨g, o, none⟩) n c, .map (some r)] 89)).alloc (.cells nb 28)) (w.heap.size + 1) 28 nb from by
    have := Blk.new (w.alloc (.cells #[.slice (some ⟨g, o, none⟩) n c, .map (some r)] 89)) 28 nb
    rw [World.size_alloc] at this; exact this)
  clear hn h hk hf h8 he1 he2 hkk hra hnb hiz hrg
  go_enter Tryz.func79, Tryz.ntmps79
  go_wp2_with (first
    | (refine wpList_alloc_row rfl 38 rfl iz IA.out ?_; intro w1 hb1 hu1 hs1; have B1 := Lib.hid hb1; have BG := hu1.blk BG0.out (fun f => f); have c0 := BG.cell 0; have c1 := BG.cell 1; have BN := Lib.hid (hu1.blk BN0.out (fun f => f)); have V1 := Lib.hid (U0.out.trans hu1 (fun _ _ f => f)); have HBG := Lib.hid BG; clear hb1 hu1 hs1 BG)
    | (refine wl_load rfl 28 (.tmp 3) rfl _ _ rfl (nm.map byteV) _ (name_cells HNB.out BN.out) Tryz.underlying28 rfl (by rw [name_size]; simp [H8.out]) nb HNB.out ?_)
    | (refine wl_lookup rfl 87 _ (.tmp 10) (.tmp 11) true rfl rfl rfl HNB.out H8.out (HE.out.keep V1.out) Tryz.underlying87 (.int .i64 0) (fun w => by kernel_rfl) (.tuple #[.int .i64 (k : Int), .bool true]) (by rw [HGT.out]; rfl) ?_)
    | (refine wpList_load_row rfl 38 (.tmp 21) rfl g (o + k * kk) rfl (itemC x.1.name x.2) _ (fun j u hj => V1.out.cell (HRG.out j u hj) (fun f => f)) Tryz.underlying38 rfl (by rw [item_size, itemC_len HOK.out]) ra HRA.out ?_)
    | (refine wpList_store_row rfl 38 (.tmp 4) (.tmp 22) rfl _ rfl ra rfl 38 _ (by first | exact B1.out | simpa only [World.size_alloc] using B1.out) (by rw [HI8.out, HR8.out]) (by rw [item_size, HR8.out]) HRO.out ?_; intro w9 hb9 hu9 hs9))
  refine bodyPost_ret (results_cell_tmp Tryz.results79 _ _ _ ra.toList _ rfl (range_blk (by rw [Array.toArray_toList]; exact hb9)) Tryz.underlying38 rfl (by rw [Array.length_toList, HR8.out]; exact item_size)) rfl ?_
  exact ⟨by simp, V1.out.trans hu9 (fun j hj f => by have f : j = _ := f; exfalso; first | omega | (simp at f; omega))⟩
set_option maxRecDepth 100000 in
set_option maxHeartbeats 8000000 in
theorem grItem_miss {w : World} {A : Option Addr} {n c r : Nat} {names : List (List UInt8)} {nm : List UInt8} (hr : NmI w r names) (hf : names.findIdx? (fun y => y = nm) = none) (h8 : nm.length = 8) :
    Calls Tryz.prog 79 #[.agg #[.slice A n c, .map (some r)], nameV nm] w fun e w' => e = .returned (.tuple #[.agg itZ, .bool false]) ∧ Upd NoF w w' := by
  obtain ⟨es, he1, he2⟩ := hr
  have HE := Lib.hid he1
  have HGT := Lib.hid (show getT es nm = none from by rw [he2, hf]; rfl)
  obtain ⟨nb, hnb⟩ : ∃ y, (nm.map byteV).toArray = y := ⟨_, rfl⟩
  have HNB := Lib.hid hnb
  rw [show nameV nm = .agg nb from congrArg Value.agg hnb]
  have H8 := Lib.hid h8
  have IA := Lib.hid item_alloc
  have IO := Lib.hid itZ_one
  have IS := Lib.hid (show (Tryz.prog.info? 38).map (·.size) = some itZ.size from by rw [itZ_size, item_size])
  obtain ⟨iz, hiz⟩ : ∃ x, itZ = x := ⟨_, rfl⟩
  rw [hiz] at IA IO IS ⊢
  have HIZ := Lib.hid hiz
  have U0 := Lib.hid (((Upd.refl NoF w).alloc (.cells #[.slice A n c, .map (some r)] 89)).alloc (.cells nb 28))
  have BG0 := Lib.hid ((Blk.new w 89 #[.slice A n c, .map (some r)]).alloc (.cells nb 28))
  have BN0 := Lib.hid (show Blk ((w.alloc (.cells #[.slice A n c, .map (some r)] 89)).alloc (.cells nb 28)) (w.heap.size + 1) 28 nb from by
    have := Blk.new (w.alloc (.cells #[.slice A n c, .map (some r)] 89)) 28 nb
    rw [World.size_alloc] at this; exact this)
  clear hf h8 he1 he2 hnb hiz
  go_enter Tryz.func79, Tryz.ntmps79
  go_wp2_with (first
    | (refine wpList_alloc_row rfl 38 rfl iz IA.out ?_; intro w1 hb1 hu1 hs1; have B1 := Lib.hid hb1; have BG := hu1.blk BG0.out (fun f => f); have c0 := BG.cell 0; have c1 := BG.cell 1; have BN := Lib.hid (hu1.blk BN0.out (fun f => f)); have V1 := Lib.hid (U0.out.trans hu1 (fun _ _ f => f)); clear hb1 hu1 hs1 BG)
    | (refine wl_load rfl 28 (.tmp 3) rfl _ _ rfl (nm.map byteV) _ (name_cells HNB.out BN.out) Tryz.underlying28 rfl (by rw [name_size]; simp [H8.out]) nb HNB.out ?_)
    | (refine wl_lookup rfl 87 _ (.tmp 10) (.tmp 11) true rfl rfl rfl HNB.out H8.out (HE.out.keep V1.out) Tryz.underlying87 (.int .i64 0) (fun w => by kernel_rfl) (.tuple #[.int .i64 0, .bool false]) (by rw [HGT.out]; rfl) ?_)
    | (refine wpList_store_row rfl 38 (.tmp 4) (.tmp 17) rfl _ rfl iz (by rw [← HIZ.out]; kernel_rfl) 38 _ (by first | exact B1.out | simpa only [World.size_alloc] using B1.out) rfl IS.out IO.out ?_; intro w9 hb9 hu9 hs9))
  refine bodyPost_ret (results_cell_tmp Tryz.results79 _ _ _ iz.toList _ rfl (range_blk (by rw [Array.toArray_toList]; exact hb9)) Tryz.underlying38 rfl (by rw [Array.length_toList]; exact IS.out)) rfl ?_
  exact ⟨by simp, V1.out.trans hu9 (fun j hj f => by have f : j = _ := f; exfalso; first | omega | (simp at f; omega))⟩
end

section
open Go.RowKit Go.Shelf Go.Lib

/-- The items are few and refer to few. -/
def Few (its : List (ItP × List Value)) : Prop := its.length ≤ 1000 ∧ ∀ x ∈ its, x.1.heads.length ≤ 1000 ∧ x.1.tips.length ≤ 1000
theorem rowsN_len {l : List (List UInt8)} {n : Nat} (h8 : All8 l) (hn : l.length = n) : (rowsN l).length = n * 8 := by
  subst hn
  induction l with
  | nil => rfl
  | cons x l ih =>
    have h1 := ih (fun y hy => h8 y (List.mem_cons_of_mem _ hy))
    have h2 := h8 x List.mem_cons_self
    unfold rowsN at h1 ⊢
    rw [List.map_cons, List.flatten_cons, List.length_append, List.length_map, h1, h2, List.length_cons]
    omega
set_option maxRecDepth 100000 in
set_option maxHeartbeats 8000000 in
theorem Closure_any {w : World} {A A1 : Option Addr} {n c r m0 c1 : Nat} {its : List (ItP × List Value)} {fr : List (List UInt8)} (hn : its.length = n) (h : GrR w (.slice A n c) its) (hr : NmI w r (its.map (·.1.name))) (hfew : Few its) (hm0 : fr.length = m0) (hf : NmR w (.slice A1 m0 c1) fr) (hs : m0 ≤ 10000) :
    Calls Tryz.prog 80 #[.agg #[.slice A n c, .map (some r)], .slice A1 m0 c1] w fun e w' => ∃ R seen, e = .returned (.map (some R)) ∧ MapN w' R (setE seen) ∧ w.heap.size ≤ R ∧ Clo (its.map (·.1)) fr [] seen ∧ Upd NoF w w' := by
  obtain ⟨i0, hi0, hz0, hz1, hz2⟩ := info_parts name_info
  have HNI := Lib.hid hn
  have HG := Lib.hid h
  have HNM := Lib.hid hr
  have HFEW := Lib.hid hfew
  have HFR8 := Lib.hid (show All8 fr from hf.1)
  have HFR := Lib.hid (show Rd w 8 (.slice A1 m0 c1) m0 (rowsN fr) from by have := hf.2; rw [hm0] at this; exact this)
  have HM0 := Lib.hid hm0
  have HS := Lib.hid hs
  have IA := Lib.hid item_alloc
  have IO := Lib.hid itZ_one
  have IS := Lib.hid (show (Tryz.prog.info? 38).map (·.size) = some itZ.size from by rw [itZ_size, item_size])
  have CGM := Lib.hid (fun W nm (hu : Upd NoF w W) (hf : (its.map (·.1.name)).findIdx? (fun y => y = nm) = none) (h8 : nm.length = 8) => grItem_miss (w := W) (A := A) (n := n) (c := c) (hr.keep hu) hf h8)
  obtain ⟨iz, hiz⟩ : ∃ x, itZ = x := ⟨_, rfl⟩
  rw [hiz] at IA IO IS CGM
  have HI8 := Lib.hid (show iz.size = 28 from by rw [← hiz]; exact itZ_size)
  have CGH := Lib.hid (fun W nm k x (hu : Upd NoF w W) (hk : its[k]? = some x) (hf : (its.map (·.1.name)).findIdx? (fun y => y = nm) = some k) (h8 : nm.length = 8) => grItem_hit (w := W) hn (h.keep hu) (hr.keep hu) hk hf h8)
  have HBS := Lib.hid (fun (n : List UInt8) (hn : n.length = 8) (za : Array Value) (hz : (n.map byteV).toArray = za) w => bs_name hn hz w)
  have HBM := Lib.hid (show 0 + m0 ≤ maxLen ∧ (0 + m0) * 8 ≤ 140737488355328 from by unfold maxLen; omega)
  clear hn h hr hfew hf hm0 hiz
  go_enter Tryz.func80, Tryz.ntmps80
  go_wp2_with (first
    | (refine wl_box rfl 89 (.tmp 0) rfl #[.slice A n c, .map (some r)] (by rfl) ?_; intro w0 hb0 hu0 hs0; have BG := Lib.hid hb0; have V0 := Lib.hid hu0; have S0 := Lib.hid hs0; clear hb0 hu0 hs0)
    | (refine wl_makeMap0 rfl 86 rfl ?_; intro w1 hm1 hu1 hs1; have M1 := Lib.hid hm1; have S1 := Lib.hid hs1; replace BG := Lib.hid (hu1.blk BG.out (fun f => f)); have V1 := Lib.hid (V0.out.trans hu1 (fun _ _ f => f)); clear hm1 hu1 hs1)
    | (refine wl_names0 rfl rfl ?_; intro w2 ho2 hu2 hs2; have O2 := Lib.hid ho2; have S2 := Lib.hid hs2; replace BG := Lib.hid (hu2.blk BG.out (fun f => f)); replace M1 := Lib.hid (M1.out.keep hu2); have V2 := Lib.hid (V1.out.trans hu2 (fun _ _ f => f)); clear ho2 hu2 hs2)
    | (at_builtin; refine wpList_append_to _ rfl (.tmp 10) (.tmp 11) 22 rfl 28 i0 _ 8 8 Tryz.underlying22 hi0 hz0 hz1 hz2 (by kernel_rfl) (.slice (some ⟨w1.heap.size, 0, none⟩) 0 0) 0 [] (by rfl) O2.out (.slice A1 m0 c1) m0 (rowsN fr) (by rfl) (HFR.out.keep V2.out) (rowsN_one _) HBM.out.1 HBM.out.2 ?_; intro A3 c3 w3 hown hupd hnew; have O3 := Lib.hid (show Own w3 28 8 (.slice A3 m0 c3) m0 (rowsN fr) from by simpa using hown); have D3 := Lib.hid hupd; have N3 := Lib.hid hnew; clear hown hupd hnew))
  obtain ⟨X, hX⟩ : ∃ x, w.heap.size = x := ⟨_, rfl⟩
  obtain ⟨R, hR⟩ : ∃ x, w0.heap.size = x := ⟨_, rfl⟩
  rw [hX] at BG S0 ⊢
  rw [hR] at M1 S1 S0 ⊢
  have HX := Lib.hid hX
  have HRX := Lib.hid (show R = X + 1 from S0.out)
  have hD : ∀ j, OwnB (.slice (some ⟨w1.heap.size, 0, none⟩) 0 0) j → X + 2 ≤ j := fun j hj => by have : w1.heap.size = j := (by simpa [OwnB, Value.ownBlock] using hj); have := S1.out; have := HRX.out; omega
  have U3 := Lib.hid (show Upd NoF w w3 from V2.out.trans D3.out (fun j hj f => by have := hD j f; omega))
  have HB3 := Lib.hid (show Blk w3 X 89 #[.slice A n c, .map (some r)] from D3.out.blk BG.out (fun f => by have := hD X f; omega))
  have M3 := Lib.hid (show MapN w3 R (setE []) from M1.out.upd D3.out (fun f => by have := hD R f; have := HRX.out; omega))
  have N4 := Lib.hid (show NwA (X + 2) 28 8 m0 (rowsN fr) A3 c3 w3 from ⟨O3.out, fun j hj => by
    rcases N3.out j (by simpa using hj) with f | f
    · exact hD j f
    · have := S2.out; have := S1.out; have := HRX.out; omega⟩)
  clear hX hR hD D3 N3 O3 M1 BG V0 V1 V2 S0 S1 S2 O2
  go_loopg [1] (m0 + 2001 * its.length) (fun kx s1 wr => ∃ (todo seen : List (List UInt8)) (A' : Option Addr) (m cc : Nat), s1 = .slice A' m cc ∧ m + 2001 * unseen (its.map (·.1)) seen ≤ kx ∧ Hid (kx ≤ m0 + 2001 * its.length) ∧ Hid (todo.length = m) ∧ Hid (NwA (X + 2) 28 8 m (rowsN todo) A' cc wr) ∧ Hid (MapN wr R (setE seen)) ∧ Hid (Blk wr X 89 #[.slice A n c, .map (some r)]) ∧ Hid (Upd NoF w wr) ∧ Hid (All8 todo) ∧ Hid (∀ fin, Clo (its.map (·.1)) todo seen fin → Clo (its.map (·.1)) fr [] fin))
  case atStart => exact ⟨fr, [], A3, m0, c3, rfl, by have := unseen_le (its.map (·.1)) []; rw [List.length_map] at this; omega, Lib.hid (Nat.le_refl _), HM0, N4, M3, HB3, U3, HFR8, Lib.hid (fun _ h => h)⟩
  case round =>
    clear N4 M3 HB3 U3
    obtain ⟨todo0, seen, A', m, cc, rfl, hkx, HKX, HTL, HN, HM, HBG, HU, HT8, HCL⟩ := hrel
    have hnn := HNI.out
    rcases Nat.eq_zero_or_pos m with h0 | h0
    · subst h0
      have t1 : ¬ (0 : Int) < ((0 : Nat) : Int) := by omega
      have htd : todo0 = [] := List.eq_nil_of_length_eq_zero HTL.out
      subst htd
      go_wp2
      go_ret
      exact ⟨R, rfl, seen, HM.out, by have := HRX.out; have := HX.out; omega, HCL.out _ (Clo.done _), HU.out⟩
    · obtain ⟨k, rfl⟩ : ∃ k, m = k + 1 := ⟨m - 1, by omega⟩
      have t1 : (0 : Int) < (k : Int) + 1 := by omega
      have t1' : decide (0 < k + 1) = true := by simp
      have hk8 : k ≤ 3000000 := by have := HKX.out; have := HFEW.out.1; have := HS.out; omega
      have ww : IntKind.i64.wrap (k : Int) = k := IntWalk.i64_in _ (by omega)
      have q0 : (0 : Int) ≤ (k : Int) := by omega
      have q1 : (k : Int) < (k : Int) + 1 := by omega
      have q3 : ((k : Int)).toNat = k := by omega
      obtain ⟨nm, todo, htd⟩ : ∃ nm todo, todo0 = todo ++ [nm] := by
        rcases List.eq_nil_or_concat todo0 with h | ⟨t, x, h⟩
        · have := HTL.out; rw [h] at this; simp at this
        · exact ⟨x, t, by rw [h]; simp⟩
      subst htd
      have HTK := Lib.hid (show todo.length = k from by have := HTL.out; simpa using this)
      rcases HN.out.1.2 with ⟨_, hz⟩ | ⟨g, cap, cur, hv, hb, hle, hcm, hcs, hx⟩
      · omega
      injection hv with hA _ hc
      subst hA
      subst hc
      have H8N := Lib.hid (HT8.out nm (by simp))
      have HRN := Lib.hid (show wr.rangeAt g (k * 8) (nm.map byteV) from (rows_own (w := wr) (g := g) (c := cc) (e := 28) HT8.out hx (i := k) (by rw [List.getElem?_append_right (by have := HTK.out; omega)]; have := HTK.out; simp [this])).range hb)
      have HTD := Lib.hid (show True ∧ (rowsN (todo ++ [nm])).take (k * 8) = rowsN todo from ⟨trivial, by
        rw [rowsN_snoc, List.take_append_of_le_length (Nat.le_of_eq ?_)]
        · refine List.take_of_length_le (Nat.le_of_eq ?_)
          exact rowsN_len (fun y hy => HT8.out y (by simp [hy])) HTK.out
        · exact (rowsN_len (fun y hy => HT8.out y (by simp [hy])) HTK.out).symm⟩)
      obtain ⟨nb, hnb⟩ : ∃ y, (nm.map byteV).toArray = y := ⟨_, rfl⟩
      have HNB := Lib.hid hnb
      have HT8' := Lib.hid (show All8 todo from fun y hy => HT8.out y (by simp [hy]))
      have HXL := Lib.hid HBG.out.lt
      have HRL := Lib.hid HM.out.lt
      clear hb hx hcs
      cases hfi : (its.map (·.1.name)).findIdx? (fun y => y = nm) with
      | none =>
        have HIO := Lib.hid (itemOf_miss hfi)
        have CG := Lib.hid (show ∀ W, Upd NoF wr W → Calls Tryz.prog 79 #[.agg #[.slice A n c, .map (some r)], .agg nb] W (fun e w' => e = .returned (.tuple #[.agg iz, .bool false]) ∧ Upd NoF W w') from fun W hu => by have := CGM.out W nm (HU.out.trans hu (fun _ _ f => f)) hfi H8N.out; rw [show nameV nm = .agg nb from congrArg Value.agg HNB.out] at this; exact this)
        clear hfi hnb
        go_wp2_with (first
        | (refine wl_load rfl 28 (.tmp 20) rfl g (k * 8) (by first | rfl | simp) (nm.map byteV) _ HRN.out Tryz.underlying28 rfl (by rw [name_size]; simp [H8N.out]) nb HNB.out ?_)
        | (refine wpList_alloc_row rfl 28 rfl zN name_alloc ?_; intro w3 hb3 hu3 hs3; have B3 := Lib.hid hb3; have U3 := Lib.hid hu3; have S3 := Lib.hid hs3; clear hb3 hu3 hs3)
        | (refine wpList_store_row rfl 28 (.tmp 6) (.tmp 21) rfl wr.heap.size (by rfl) nb (by rfl) 28 _ B3.out (by rw [(name_arr H8N.out HNB.out).1]; exact zN_size) (by rw [name_size, (name_arr H8N.out HNB.out).1]) (name_arr H8N.out HNB.out).2 ?_; intro w4 hb4 hu4 hs4; have B4 := Lib.hid hb4; have U4 := Lib.hid (U3.out.trans hu4 (F := NoF) (fun j hj e => by have e : j = wr.heap.size := e; omega)); have S4 := Lib.hid hs4; have O4 := Lib.hid (HN.out.1.upd U4.out (fun _ _ f => f)); clear hb4 hu4 hs4)
        | (refine wl_cutOwn rfl 22 28 (k := k) (.tmp 22) (.tmp 25) rfl (by rfl) (by rfl) O4.out Tryz.underlying22 (fun w => by kernel_rfl) (Nat.le_succ k) ?_; intro hcut; have OC := Lib.hid (show Own w4 28 8 (.slice (some ⟨g, 0, none⟩) k cc) k (rowsN todo) from by rw [HTD.out.2] at hcut; exact hcut); clear hcut)
        | (refine wl_load rfl 89 (.tmp 2) rfl X 0 (by rfl) [.slice A n c, .map (some r)] _ (range_blk (U4.out.blk HBG.out (fun f => f))) Tryz.underlying89 rfl graph_size _ rfl ?_)
        | (refine wl_load rfl 28 (.tmp 6) rfl wr.heap.size 0 (by rfl) (nm.map byteV) _ (name_cells HNB.out B4.out) Tryz.underlying28 rfl (by rw [name_size]; simp [H8N.out]) nb HNB.out ?_)
        | (refine (CG.out w4 U4.out).mono ?_; rintro e w5 ⟨rfl, hu5⟩; have E5 := Lib.hid hu5; have U5 := Lib.hid (U4.out.trans hu5 (fun _ _ f => f)); have B5 := Lib.hid (hu5.blk B4.out (fun f => f)); have SZ5 := Lib.hid (show wr.heap.size + 1 ≤ w5.heap.size from by have := hu5.size; have := S3.out; have := S4.out; omega); clear hu5)
        | (refine wpList_alloc_row rfl 38 rfl iz IA.out ?_; intro w6 hb6 hu6 hs6; have B6 := Lib.hid hb6; have E6 := Lib.hid (E5.out.trans hu6 (fun _ _ f => f)); have U6 := Lib.hid (U5.out.trans hu6 (fun _ _ f => f)); have C6 := Lib.hid (hu6.blk B5.out (fun f => f)); clear hb6 hu6 hs6)
        | (refine wpList_store_row rfl 38 (.tmp 7) (.tmp 31) rfl w5.heap.size (by rfl) iz (by rfl) 38 _ B6.out rfl IS.out IO.out ?_; intro w7 hb7 hu7 hs7; have B7 := Lib.hid hb7; have E7 := Lib.hid (E6.out.trans hu7 (F := NoF) (fun j hj e => by have e : j = w5.heap.size := e; have := E5.out.size; omega)); have U7 := Lib.hid (U6.out.trans hu7 (F := NoF) (fun j hj e => by have e : j = w5.heap.size := e; have := SZ5.out; omega)); have C7 := Lib.hid (hu7.blk C6.out (fun e => by have e : wr.heap.size = w5.heap.size := e; have := SZ5.out; omega)); clear hb7 hu7 hs7))
        go_roundg (k + 2001 * unseen (its.map (·.1)) seen)
        case measure => omega
        case rel => exact ⟨todo, seen, _, k, cc, by first | rfl | (congr 1; done), Nat.le_refl _, Lib.hid (by have := HKX.out; omega), HTK, Lib.hid ⟨OC.out.upd E7.out (fun _ _ f => f), fun j hj => HN.out.2 j (by rw [ownB_len (m := k) (d := cc)]; exact hj)⟩, Lib.hid (HM.out.keep U7.out), Lib.hid (U7.out.blk HBG.out (fun f => f)), Lib.hid (HU.out.trans U7.out (fun _ _ f => f)), HT8', Lib.hid (fun fin hc => HCL.out fin (Clo.skip (.inl HIO.out) hc))⟩
      | some ki =>
        obtain ⟨x, hxk, hxn, hio⟩ := itemOf_hit hfi
        have HIO := Lib.hid hio
        have HXM := Lib.hid (List.mem_of_getElem? hxk)
        have HOK := Lib.hid (HG.out.ok x HXM.out)
        obtain ⟨ra, hra⟩ : ∃ y, (itemC x.1.name x.2).toArray = y := ⟨_, rfl⟩
        have HRA := Lib.hid hra
        have HR8 := Lib.hid (show ra.size = 28 from by rw [← hra]; simpa using itemC_len HOK.out)
        have HRO := Lib.hid (show ra.all (·.oneCell') = true from by rw [← hra]; exact itemC_one HOK.out)
        have CG := Lib.hid (show ∀ W, Upd NoF wr W → Calls Tryz.prog 79 #[.agg #[.slice A n c, .map (some r)], .agg nb] W (fun e w' => e = .returned (.tuple #[.agg ra, .bool true]) ∧ Upd NoF W w') from fun W hu => by have := CGH.out W nm ki x (HU.out.trans hu (fun _ _ f => f)) hxk hfi H8N.out; rw [show nameV nm = .agg nb from congrArg Value.agg HNB.out, HRA.out] at this; exact this)
        clear hfi hnb hxk hio hra
        by_cases hse : nm ∈ seen
        · have HSE := Lib.hid hse
          have HGT := Lib.hid (setE_in hse)
          clear hse
          go_wp2_with (first
        | (refine wl_load rfl 28 (.tmp 20) rfl g (k * 8) (by first | rfl | simp) (nm.map byteV) _ HRN.out Tryz.underlying28 rfl (by rw [name_size]; simp [H8N.out]) nb HNB.out ?_)
        | (refine wpList_alloc_row rfl 28 rfl zN name_alloc ?_; intro w3 hb3 hu3 hs3; have B3 := Lib.hid hb3; have U3 := Lib.hid hu3; have S3 := Lib.hid hs3; clear hb3 hu3 hs3)
        | (refine wpList_store_row rfl 28 (.tmp 6) (.tmp 21) rfl wr.heap.size (by rfl) nb (by rfl) 28 _ B3.out (by rw [(name_arr H8N.out HNB.out).1]; exact zN_size) (by rw [name_size, (name_arr H8N.out HNB.out).1]) (name_arr H8N.out HNB.out).2 ?_; intro w4 hb4 hu4 hs4; have B4 := Lib.hid hb4; have U4 := Lib.hid (U3.out.trans hu4 (F := NoF) (fun j hj e => by have e : j = wr.heap.size := e; omega)); have S4 := Lib.hid hs4; have O4 := Lib.hid (HN.out.1.upd U4.out (fun _ _ f => f)); clear hb4 hu4 hs4)
        | (refine wl_cutOwn rfl 22 28 (k := k) (.tmp 22) (.tmp 25) rfl (by rfl) (by rfl) O4.out Tryz.underlying22 (fun w => by kernel_rfl) (Nat.le_succ k) ?_; intro hcut; have OC := Lib.hid (show Own w4 28 8 (.slice (some ⟨g, 0, none⟩) k cc) k (rowsN todo) from by rw [HTD.out.2] at hcut; exact hcut); clear hcut)
        | (refine wl_load rfl 89 (.tmp 2) rfl X 0 (by rfl) [.slice A n c, .map (some r)] _ (range_blk (U4.out.blk HBG.out (fun f => f))) Tryz.underlying89 rfl graph_size _ rfl ?_)
        | (refine wl_load rfl 28 (.tmp 6) rfl wr.heap.size 0 (by rfl) (nm.map byteV) _ (name_cells HNB.out B4.out) Tryz.underlying28 rfl (by rw [name_size]; simp [H8N.out]) nb HNB.out ?_)
        | (refine (CG.out w4 U4.out).mono ?_; rintro e w5 ⟨rfl, hu5⟩; have E5 := Lib.hid hu5; have U5 := Lib.hid (U4.out.trans hu5 (fun _ _ f => f)); have B5 := Lib.hid (hu5.blk B4.out (fun f => f)); have SZ5 := Lib.hid (show wr.heap.size + 1 ≤ w5.heap.size from by have := hu5.size; have := S3.out; have := S4.out; omega); clear hu5)
        | (refine wpList_alloc_row rfl 38 rfl iz IA.out ?_; intro w6 hb6 hu6 hs6; have B6 := Lib.hid hb6; have E6 := Lib.hid (E5.out.trans hu6 (fun _ _ f => f)); have U6 := Lib.hid (U5.out.trans hu6 (fun _ _ f => f)); have C6 := Lib.hid (hu6.blk B5.out (fun f => f)); clear hb6 hu6 hs6)
        | (refine wpList_store_row rfl 38 (.tmp 7) (.tmp 31) rfl w5.heap.size (by rfl) ra (by rfl) 38 _ B6.out (by rw [HI8.out, HR8.out]) (by rw [item_size, HR8.out]) HRO.out ?_; intro w7 hb7 hu7 hs7; have B7 := Lib.hid hb7; have E7 := Lib.hid (E6.out.trans hu7 (F := NoF) (fun j hj e => by have e : j = w5.heap.size := e; have := E5.out.size; omega)); have U7 := Lib.hid (U6.out.trans hu7 (F := NoF) (fun j hj e => by have e : j = w5.heap.size := e; have := SZ5.out; omega)); have C7 := Lib.hid (hu7.blk C6.out (fun e => by have e : wr.heap.size = w5.heap.size := e; have := SZ5.out; omega)); clear hb7 hu7 hs7)
        | (refine wl_load rfl 28 (.tmp 6) rfl wr.heap.size 0 (by rfl) (nm.map byteV) _ (name_cells HNB.out C7.out) Tryz.underlying28 rfl (by rw [name_size]; simp [H8N.out]) nb HNB.out ?_)
        | (refine wl_lookup rfl 86 _ (.tmp 36) (.tmp 37) false rfl (by rfl) (by rfl) HNB.out H8N.out (HM.out.keep U7.out) Tryz.underlying86 (.bool false) (fun w => by kernel_rfl) (.bool true) (by rw [HGT.out]; rfl) ?_))
          go_roundg (k + 2001 * unseen (its.map (·.1)) seen)
          case measure => omega
          case rel => exact ⟨todo, seen, _, k, cc, by first | rfl | (congr 1; done), Nat.le_refl _, Lib.hid (by have := HKX.out; omega), HTK, Lib.hid ⟨OC.out.upd E7.out (fun _ _ f => f), fun j hj => HN.out.2 j (by rw [ownB_len (m := k) (d := cc)]; exact hj)⟩, Lib.hid (HM.out.keep U7.out), Lib.hid (U7.out.blk HBG.out (fun f => f)), Lib.hid (HU.out.trans U7.out (fun _ _ f => f)), HT8', Lib.hid (fun fin hc => HCL.out fin (Clo.skip (.inr HSE.out) hc))⟩
        · have HSE := Lib.hid hse
          have HGT := Lib.hid (setE_out hse)
          obtain ⟨PL, hPL⟩ : ∃ y, parents x.1 = y := ⟨_, rfl⟩
          have HPL := Lib.hid hPL
          have HPB := Lib.hid (show PL.length ≤ 2001 from by have := parents_len x.1; have := HFEW.out.2 x HXM.out; rw [← hPL]; omega)
          have HP8 := Lib.hid (show All8 PL from by rw [← hPL]; exact ascSet_all8 (rawPar_all8 HOK.out.fit))
          have HUS := Lib.hid (unseen_take HIO.out hse)
          have HB1 := Lib.hid (show k + PL.length ≤ maxLen ∧ (k + PL.length) * 8 ≤ 140737488355328 from by have := HPB.out; unfold maxLen; omega)
          have CP := Lib.hid (fun W (hu : Upd NoF w W) => show Calls Tryz.prog 12 #[.agg ra] W (AscPost W PL) from by rw [← HRA.out, ← HPL.out]; exact Parents_any (HOK.out.keep hu) (HFEW.out.2 x HXM.out).1 (HFEW.out.2 x HXM.out).2)
          clear hse hPL
          go_wp2_with (first
        | (refine wl_load rfl 28 (.tmp 20) rfl g (k * 8) (by first | rfl | simp) (nm.map byteV) _ HRN.out Tryz.underlying28 rfl (by rw [name_size]; simp [H8N.out]) nb HNB.out ?_)
        | (refine wpList_alloc_row rfl 28 rfl zN name_alloc ?_; intro w3 hb3 hu3 hs3; have B3 := Lib.hid hb3; have U3 := Lib.hid hu3; have S3 := Lib.hid hs3; clear hb3 hu3 hs3)
        | (refine wpList_store_row rfl 28 (.tmp 6) (.tmp 21) rfl wr.heap.size (by rfl) nb (by rfl) 28 _ B3.out (by rw [(name_arr H8N.out HNB.out).1]; exact zN_size) (by rw [name_size, (name_arr H8N.out HNB.out).1]) (name_arr H8N.out HNB.out).2 ?_; intro w4 hb4 hu4 hs4; have B4 := Lib.hid hb4; have U4 := Lib.hid (U3.out.trans hu4 (F := NoF) (fun j hj e => by have e : j = wr.heap.size := e; omega)); have S4 := Lib.hid hs4; have O4 := Lib.hid (HN.out.1.upd U4.out (fun _ _ f => f)); clear hb4 hu4 hs4)
        | (refine wl_cutOwn rfl 22 28 (k := k) (.tmp 22) (.tmp 25) rfl (by rfl) (by rfl) O4.out Tryz.underlying22 (fun w => by kernel_rfl) (Nat.le_succ k) ?_; intro hcut; have OC := Lib.hid (show Own w4 28 8 (.slice (some ⟨g, 0, none⟩) k cc) k (rowsN todo) from by rw [HTD.out.2] at hcut; exact hcut); clear hcut)
        | (refine wl_load rfl 89 (.tmp 2) rfl X 0 (by rfl) [.slice A n c, .map (some r)] _ (range_blk (U4.out.blk HBG.out (fun f => f))) Tryz.underlying89 rfl graph_size _ rfl ?_)
        | (refine wl_load rfl 28 (.tmp 6) rfl wr.heap.size 0 (by rfl) (nm.map byteV) _ (name_cells HNB.out B4.out) Tryz.underlying28 rfl (by rw [name_size]; simp [H8N.out]) nb HNB.out ?_)
        | (refine (CG.out w4 U4.out).mono ?_; rintro e w5 ⟨rfl, hu5⟩; have E5 := Lib.hid hu5; have U5 := Lib.hid (U4.out.trans hu5 (fun _ _ f => f)); have B5 := Lib.hid (hu5.blk B4.out (fun f => f)); have SZ5 := Lib.hid (show wr.heap.size + 1 ≤ w5.heap.size from by have := hu5.size; have := S3.out; have := S4.out; omega); clear hu5)
        | (refine wpList_alloc_row rfl 38 rfl iz IA.out ?_; intro w6 hb6 hu6 hs6; have B6 := Lib.hid hb6; have E6 := Lib.hid (E5.out.trans hu6 (fun _ _ f => f)); have U6 := Lib.hid (U5.out.trans hu6 (fun _ _ f => f)); have C6 := Lib.hid (hu6.blk B5.out (fun f => f)); clear hb6 hu6 hs6)
        | (refine wpList_store_row rfl 38 (.tmp 7) (.tmp 31) rfl w5.heap.size (by rfl) ra (by rfl) 38 _ B6.out (by rw [HI8.out, HR8.out]) (by rw [item_size, HR8.out]) HRO.out ?_; intro w7 hb7 hu7 hs7; have B7 := Lib.hid hb7; have E7 := Lib.hid (E6.out.trans hu7 (F := NoF) (fun j hj e => by have e : j = w5.heap.size := e; have := E5.out.size; omega)); have U7 := Lib.hid (U6.out.trans hu7 (F := NoF) (fun j hj e => by have e : j = w5.heap.size := e; have := SZ5.out; omega)); have C7 := Lib.hid (hu7.blk C6.out (fun e => by have e : wr.heap.size = w5.heap.size := e; have := SZ5.out; omega)); clear hb7 hu7 hs7)
        | (refine wl_load rfl 28 (.tmp 6) rfl wr.heap.size 0 (by rfl) (nm.map byteV) _ (name_cells HNB.out C7.out) Tryz.underlying28 rfl (by rw [name_size]; simp [H8N.out]) nb HNB.out ?_)
        | (refine wl_lookup rfl 86 _ (.tmp 36) (.tmp 37) false rfl (by rfl) (by rfl) HNB.out H8N.out (HM.out.keep U7.out) Tryz.underlying86 (.bool false) (fun w => by kernel_rfl) (.bool false) (by rw [HGT.out]; rfl) ?_)
        | (refine wl_insert rfl 86 _ (.tmp 40) (.tmp 41) (.const (.bool true)) rfl (by rfl) (by rfl) HNB.out (by rfl) H8N.out (HM.out.keep U7.out) Tryz.underlying86 HGT.out ?_; intro w8 hm8 hu8 hs8; have M8 := Lib.hid hm8; have D8 := Lib.hid hu8; have Z8 := Lib.hid hs8; have B8 := Lib.hid (hu8.blk B7.out (fun f => by have f : w5.heap.size = R := f; have := SZ5.out; have := HRL.out; omega)); have U8 := Lib.hid ((HU.out.trans U7.out (fun _ _ f => f)).trans hu8 (F := NoF) (fun j hj f => by have f : j = R := f; have := HRX.out; have := HX.out; omega)); clear hm8 hu8 hs8)
        | (refine wl_load rfl 38 (.tmp 7) rfl w5.heap.size 0 (by rfl) ra.toList _ (range_blk (by rw [Array.toArray_toList]; exact B8.out)) Tryz.underlying38 rfl (by rw [Array.length_toList, HR8.out]; exact item_size) ra (by simp) ?_)
        | (refine (CP.out w8 U8.out).mono ?_; rintro e w9 ⟨A9, c9, rfl, hn9, hu9⟩; have N9 := Lib.hid hn9; have U9 := Lib.hid (U8.out.trans hu9 (fun _ _ f => f)); have M9 := Lib.hid (M8.out.keep hu9); have G9 := Lib.hid hu9; clear hn9 hu9)
        | (at_builtin; refine wpList_append_to _ rfl (.tmp 42) (.tmp 44) 22 rfl 28 i0 _ 8 8 Tryz.underlying22 hi0 hz0 hz1 hz2 (by kernel_rfl) (.slice (some ⟨g, 0, none⟩) k cc) k (rowsN todo) (by rfl) ((((OC.out.upd E7.out (fun _ _ f => f)).upd D8.out (fun j hj f => by have := HN.out.2 j (by rw [ownB_len (m := k) (d := cc)]; exact hj); have f : j = R := f; have := HRX.out; omega)).upd G9.out (fun _ _ f => f))) (.slice A9 PL.length c9) PL.length (rowsN PL) (by rfl) N9.out.1.rd (rowsN_one _) HB1.out.1 HB1.out.2 ?_; intro A10 c10 w10 hown hupd hnew; have O10 := Lib.hid hown; have D10 := Lib.hid hupd; have N10 := Lib.hid hnew; clear hown hupd hnew))
          go_roundg (k + PL.length + 2001 * unseen (its.map (·.1)) (seen ++ [nm]))
          case measure => have := HUS.out; have := HPB.out; omega
          case rel =>
            have hg : ∀ j, OwnB (.slice (some ⟨g, 0, none⟩) k cc) j → X + 2 ≤ j := fun j hj => HN.out.2 j (by rw [ownB_len (m := k) (d := cc)]; exact hj)
            have h9 := U9.out.size
            refine ⟨todo ++ PL, seen ++ [nm], A10, k + PL.length, c10, rfl, Nat.le_refl _, Lib.hid (by have := HKX.out; have := HUS.out; have := HPB.out; omega), Lib.hid (by rw [List.length_append, HTK.out]), Lib.hid ⟨by rw [rowsN_append]; exact O10.out, fun j hj => ?_⟩, Lib.hid ?_, Lib.hid ?_, Lib.hid (U9.out.trans D10.out (fun j hj f => by have := hg j f; have := HX.out; omega)), Lib.hid (fun y hy => by rcases List.mem_append.1 hy with hy | hy; (· exact HT8'.out y hy); exact HP8.out y hy), Lib.hid (fun fin hc => HCL.out fin (Clo.take HIO.out HSE.out (by rw [HPL.out]; exact hc)))⟩
            · rcases N10.out j hj with f | f
              · exact hg j f
              · have := HU.out.size
                have := U7.out.size
                have := Z8.out
                have := G9.out.size
                have := HRX.out
                have := HRL.out
                omega
            · rw [setE_snoc]
              exact M9.out.upd D10.out (fun f => by have := hg R f; have := HRX.out; omega)
            · refine ((G9.out.blk (D8.out.blk (U7.out.blk HBG.out (fun f => f)) (fun f => ?_)) (fun f => f))) |> fun hh => D10.out.blk hh (fun f => ?_)
              · have := hg X f; omega
              · have f : X = R := f; have := HRX.out; omega
end

section
open Go

/-- One round: the text t is taken if it has the name and is less than what was taken so far. -/
def pickStep (n : List UInt8) (o : Option (List UInt8)) (t : List UInt8) : Option (List UInt8) :=
  if hsum t = n then (match o with | none => some t | some u => if lessT t u = true then some t else some u) else o
def pickT (n : List UInt8) (l : List (List UInt8)) : Option (List UInt8) := l.foldl (pickStep n) none
/-- What 'o' is the least of. -/
def Least (n : List UInt8) (l : List (List UInt8)) (o : Option (List UInt8)) : Prop :=
  match o with
  | none => ∀ t ∈ l, hsum t ≠ n
  | some u => u ∈ l ∧ hsum u = n ∧ ∀ t ∈ l, hsum t = n → lessT t u = false
theorem Least.step {n : List UInt8} {l : List (List UInt8)} {o : Option (List UInt8)} (h : Least n l o) (t : List UInt8) : Least n (l ++ [t]) (pickStep n o t) := by
  unfold pickStep
  by_cases ht : hsum t = n
  · rw [if_pos ht]
    cases o with
    | none =>
      refine ⟨by simp, ht, fun u hu hn => ?_⟩
      rcases List.mem_append.1 hu with hu | hu
      · exact absurd hn (h u hu)
      · simp at hu
        subst hu
        exact lessT_irrefl _
    | some v =>
      obtain ⟨h1, h2, h3⟩ := h
      by_cases hl : lessT t v = true
      · simp only [if_pos hl]
        refine ⟨by simp, ht, fun u hu hn => ?_⟩
        rcases List.mem_append.1 hu with hu | hu
        · exact lessT_ntrans u v t (h3 u hu hn) (lessT_asymm hl)
        · simp at hu
          subst hu
          exact lessT_irrefl _
      · simp only [if_neg hl]
        refine ⟨by simp [h1], h2, fun u hu hn => ?_⟩
        rcases List.mem_append.1 hu with hu | hu
        · exact h3 u hu hn
        · simp at hu
          subst hu
          simpa using hl
  · rw [if_neg ht]
    cases o with
    | none =>
      intro u hu
      rcases List.mem_append.1 hu with hu | hu
      · exact h u hu
      · simp at hu
        subst hu
        exact ht
    | some v =>
      obtain ⟨h1, h2, h3⟩ := h
      refine ⟨by simp [h1], h2, fun u hu hn => ?_⟩
      rcases List.mem_append.1 hu with hu | hu
      · exact h3 u hu hn
      · simp at hu
        subst hu
        exact absurd hn ht
end
end Go.Proofs.YtengcmfdfmnacaaGreat
