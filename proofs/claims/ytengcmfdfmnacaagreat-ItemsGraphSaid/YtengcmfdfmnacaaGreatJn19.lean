/- The reference's Parents. Conditions: sizes. The reference's HasName, has, SameNames, Find. No condition but the names' lengths. -/
import Derived.Test.YtengcmfdfmnacaaGreatIns
import Derived.Test.YtengcmfdfmnacaaGreatJn17
import Derived.WalkSpells
namespace Go.Proofs.YtengcmfdfmnacaaGreat
section
open Go.RowKit Go.Shelf Go.Lib

/-- These names come back, in a slice. -/
def NmPost (w : World) (l : List (List UInt8)) (e : Ending) (w' : World) : Prop := ∃ A m c, e = .returned (.slice A m c) ∧ l.length = m ∧ NmR w' (.slice A m c) l ∧ Upd NoF w w'
theorem insS {W : World} {A : Option Addr} {n c : Nat} {raw : List (List UInt8)} {nm : List UInt8} {zn : Array Value} (hz : (nm.map byteV).toArray = zn) (hr : raw.length ≤ 1000000) (hl : (ascSet raw).length = n) (h : NmR W (.slice A n c) (ascSet raw)) (h8 : nm.length = 8) :
    Calls Tryz.prog 41 #[.slice A n c, .agg zn] W (NmPost W (ascSet (raw ++ [nm]))) := by
  have q := r25insert_any (w := W) hl h h8 (by have := ascSet_len raw; omega)
  rw [show nameV nm = .agg zn from congrArg Value.agg hz, ← ascSet_snoc] at q
  exact q.mono (fun e w' ⟨A', c', h1, h2, h3⟩ => ⟨A', _, c', h1, rfl, h2, h3⟩)

set_option maxRecDepth 100000 in
set_option maxHeartbeats 8000000 in
theorem rParents_none {w : World} {i : ItP} {rest : List Value} (h : ItOk w i rest) (h3 : i.kind ≠ 3) (h4 : i.kind ≠ 4) : Calls Tryz.prog 13 #[.agg (itemC i.name rest).toArray] w (NmPost w (ascSet ([]))) := by
  obtain ⟨kd, hk⟩ : ∃ kd, i.kind = kd := ⟨_, rfl⟩
  obtain ⟨ra, hra⟩ : ∃ y, (itemC i.name rest).toArray = y := ⟨_, rfl⟩
  have HRA := Lib.hid hra
  have HOK := Lib.hid h
  have CK := Lib.hid (show ra[8]? = some (.int .i64 kd) from by have := item_cell hra h h.kind; rw [hk] at this; exact this)
  obtain ⟨pb, hpb⟩ : ∃ y, (i.parent.map byteV).toArray = y := ⟨_, rfl⟩
  have HPB := Lib.hid hpb
  have t3 : decide (kd = 3) = false := by rw [hk] at h3; simpa using h3
  have t4 : decide (kd = 4) = false := by rw [hk] at h4; simpa using h4
  have t3' : ¬ kd = 3 := by rw [hk] at h3; exact h3
  have t4' : ¬ kd = 4 := by rw [hk] at h4; exact h4
  rw [hra]
  clear h h3 h4 hk hra hpb
  go_enter Tryz.func13, Tryz.ntmps13
  go_wp2_with (first
    | (refine wl_box rfl 38 (.tmp 0) rfl ra (by rfl) ?_; intro W0 hb0 hu0 hs0; have BX := Lib.hid hb0; have UW := Lib.hid hu0; have ck := (hb0.cell 8).trans CK.out; clear hb0 hu0 hs0))
  go_ret
  exact ⟨none, 0, 0, rfl, rfl, NmR.nil _, UW.out⟩

set_option maxRecDepth 100000 in
set_option maxHeartbeats 8000000 in
theorem rParents_block {w : World} {i : ItP} {rest : List Value} (h : ItOk w i rest) (hk : i.kind = 3) : Calls Tryz.prog 13 #[.agg (itemC i.name rest).toArray] w (NmPost w (ascSet ([i.parent]))) := by
  obtain ⟨ra, hra⟩ : ∃ y, (itemC i.name rest).toArray = y := ⟨_, rfl⟩
  have HRA := Lib.hid hra
  have HOK := Lib.hid h
  have CK := Lib.hid (show ra[8]? = some (.int .i64 3) from by have := item_cell hra h h.kind; rw [hk] at this; exact this)
  obtain ⟨pb, hpb⟩ : ∃ y, (i.parent.map byteV).toArray = y := ⟨_, rfl⟩
  have HPB := Lib.hid hpb
  rw [hra]
  clear h hk hra hpb
  go_enter Tryz.func13, Tryz.ntmps13
  go_wp2_with (first
    | (refine wl_box rfl 38 (.tmp 0) rfl ra (by rfl) ?_; intro W0 hb0 hu0 hs0; have BX := Lib.hid hb0; have UW := Lib.hid hu0; have ck := (hb0.cell 8).trans CK.out; clear hb0 hu0 hs0)
    | (refine wl_load rfl 28 (.tmp 11) rfl _ _ rfl (i.parent.map byteV) _ (item_par HRA.out BX.out HOK.out) Tryz.underlying28 rfl (by rw [name_size]; simp [HOK.out.fit.parent]) pb HPB.out ?_)
    | (refine (insS (raw := []) HPB.out (by simp) rfl (NmR.nil _) HOK.out.fit.parent).mono ?_; rintro e w1 ⟨A1, m1, c1, rfl, hl1, hn1, hu1⟩; have L1 := Lib.hid hl1; have N1 := Lib.hid hn1; have U1 := Lib.hid (UW.out.trans hu1 (fun _ _ f => f)); have Y1 := Lib.hid hu1; clear hl1 hn1 hu1))
  go_ret
  exact ⟨A1, m1, c1, rfl, L1.out, N1.out, U1.out⟩

set_option maxRecDepth 100000 in
set_option maxHeartbeats 8000000 in
theorem rParents_record {w : World} {i : ItP} {rest : List Value} (h : ItOk w i rest) (hk : i.kind = 4) (hh : i.heads.length ≤ 1000) (ht : i.tips.length ≤ 1000) : Calls Tryz.prog 13 #[.agg (itemC i.name rest).toArray] w (NmPost w (ascSet (i.parent :: i.heads.map (·.2) ++ i.tips))) := by
  obtain ⟨ra, hra⟩ : ∃ y, (itemC i.name rest).toArray = y := ⟨_, rfl⟩
  have HRA := Lib.hid hra
  have HOK := Lib.hid h
  have CK := Lib.hid (show ra[8]? = some (.int .i64 4) from by have := item_cell hra h h.kind; rw [hk] at this; exact this)
  obtain ⟨pb, hpb⟩ : ∃ y, (i.parent.map byteV).toArray = y := ⟨_, rfl⟩
  have HPB := Lib.hid hpb
  obtain ⟨H, ch, hh1, hh2⟩ := h.heads
  obtain ⟨T, ct, ht1, ht2⟩ := h.tips
  have CH := Lib.hid (item_cell hra h hh1)
  have CT := Lib.hid (item_cell hra h ht1)
  have HCH := Lib.hid hh2
  have HCT := Lib.hid ht2
  obtain ⟨hn, hhn⟩ : ∃ n, i.heads.length = n := ⟨_, rfl⟩
  obtain ⟨tn, htn⟩ : ∃ n, i.tips.length = n := ⟨_, rfl⟩
  rw [hhn] at CH HCH hh
  rw [htn] at CT HCT ht
  have HHN := Lib.hid hhn
  have HTN := Lib.hid htn
  rw [hra]
  clear h hk hra hpb hh1 hh2 ht1 ht2 hhn htn
  go_enter Tryz.func13, Tryz.ntmps13
  go_wp2_with (first
    | (refine wl_box rfl 38 (.tmp 0) rfl ra (by rfl) ?_; intro W0 hb0 hu0 hs0; have BX := Lib.hid hb0; have UW := Lib.hid hu0; have ck := (hb0.cell 8).trans CK.out; clear hb0 hu0 hs0)
    | (refine wl_load rfl 28 (.tmp 17) rfl _ _ rfl (i.parent.map byteV) _ (item_par HRA.out BX.out HOK.out) Tryz.underlying28 rfl (by rw [name_size]; simp [HOK.out.fit.parent]) pb HPB.out ?_)
    | (refine (insS (raw := []) HPB.out (by simp) rfl (NmR.nil _) HOK.out.fit.parent).mono ?_; rintro e w1 ⟨A1, m1, c1, rfl, hl1, hn1, hu1⟩; have L1 := Lib.hid hl1; have N1 := Lib.hid hn1; have U1 := Lib.hid (UW.out.trans hu1 (fun _ _ f => f)); have Y1 := Lib.hid hu1; clear hl1 hn1 hu1))
  obtain ⟨X, hX⟩ : ∃ x, w.heap.size = x := ⟨_, rfl⟩
  rw [hX] at BX ⊢
  clear hX ck
  have BX1 := Lib.hid (show Blk w1 X 38 ra from Y1.out.blk BX.out (fun f => f))
  clear BX Y1
  go_loopg [3, 4] hn (fun kx s3 s4 wr => ∃ (k : Nat) (A : Option Addr) (m c : Nat), s4 = .int .i64 (k : Int) ∧ k ≤ hn ∧ hn - k ≤ kx ∧ s3 = .slice A m c ∧ Hid ((ascSet (i.parent :: (i.heads.take k).map (·.2))).length = m) ∧ Hid (NmR wr (.slice A m c) (ascSet (i.parent :: (i.heads.take k).map (·.2)))) ∧ Hid (Upd NoF w1 wr))
  case atStart => exact ⟨0, A1, m1, c1, rfl, by omega, by omega, rfl, L1, N1, Lib.hid (Upd.refl _ _)⟩
  case round =>
    obtain ⟨k, A, m, c, rfl, hkn, hkx, rfl, HL, HN, HU⟩ := hrel
    have ch0 := ((HU.out.blk BX1.out (fun f => f)).cell 18).trans CH.out
    by_cases hlt : k < hn
    · have t1 : decide ((k : Int) < (hn : Int)) = true := by simp; omega
      obtain ⟨s, hs⟩ : ∃ s, i.heads[k]? = some s := ⟨_, List.getElem?_eq_getElem (by have := HHN.out; omega)⟩
      obtain ⟨g, oo, rfl, hrg⟩ := (HCH.out.keep (U1.out.trans HU.out (fun _ _ f => f))).at_ hs hlt
      have HRG := Lib.hid (show wr.rangeAt g (oo + k * 9 + 1) (s.2.map byteV) from fun j v hj => by have := hrg (1 + j) v (by rw [show 1 + j = j + 1 from Nat.add_comm _ _]; exact hj); rw [← this]; congr 2; omega)
      have HSK := Lib.hid hs
      have HS8 := Lib.hid (HOK.out.fit.heads s (List.mem_of_getElem? hs))
      obtain ⟨nb, hnb⟩ : ∃ y, (s.2.map byteV).toArray = y := ⟨_, rfl⟩
      have HNB := Lib.hid hnb
      have q0 : (0 : Int) ≤ (k : Int) := by omega
      have q1 : (k : Int) < (hn : Int) := by omega
      have q2 : k < hn := hlt
      have e1 : ((k : Int)).toNat = k := by omega
      have HRL := Lib.hid (show (i.parent :: (i.heads.take k).map (·.2)).length ≤ 1000000 from by rw [List.length_cons, List.length_map, List.length_take]; omega)
      clear hs hrg hnb
      go_wp2_with (first
        | (refine wl_load rfl 28 (.tmp 32) rfl g (oo + k * 9 + 1) (by first | rfl | simp) (s.2.map byteV) _ HRG.out Tryz.underlying28 rfl (by rw [name_size]; simp [HS8.out]) nb HNB.out ?_)
        | (refine (insS HNB.out HRL.out HL.out HN.out HS8.out).mono ?_; rintro e w2 ⟨A2, m2, c2, rfl, hl2, hn2, hu2⟩; have L2 := Lib.hid hl2; have N2 := Lib.hid hn2; have U2 := Lib.hid (HU.out.trans hu2 (fun _ _ f => f)); clear hl2 hn2 hu2))
      go_roundg (hn - (k + 1))
      case measure => omega
      case rel =>
        have e : i.parent :: (i.heads.take (k + 1)).map (·.2) = (i.parent :: (i.heads.take k).map (·.2)) ++ [s.2] := by
          obtain ⟨hlt', rfl⟩ := List.getElem?_eq_some_iff.1 HSK.out
          rw [List.take_succ_eq_append_getElem hlt', List.map_append, List.cons_append]
          rfl
        exact ⟨k + 1, A2, m2, c2, by first | rfl | go_num, by omega, by omega, rfl, Lib.hid (by rw [e]; exact L2.out), Lib.hid (by rw [e]; exact N2.out), U2⟩
    · have t1 : decide ((k : Int) < (hn : Int)) = false := by simp; omega
      obtain rfl : k = hn := by omega
      have HRW := Lib.hid (show i.parent :: (i.heads.take k).map (·.2) = i.parent :: i.heads.map (·.2) from by rw [List.take_of_length_le (by have := HHN.out; omega)])
      have L3 := Lib.hid (show (ascSet (i.parent :: i.heads.map (·.2) ++ i.tips.take 0)).length = m from by rw [List.take_zero, List.append_nil, ← HRW.out]; exact HL.out)
      have N3 := Lib.hid (show NmR wr (.slice A m c) (ascSet (i.parent :: i.heads.map (·.2) ++ i.tips.take 0)) from by rw [List.take_zero, List.append_nil, ← HRW.out]; exact HN.out)
      have BX3 := Lib.hid (HU.out.blk BX1.out (fun f => f))
      have U3 := Lib.hid (U1.out.trans HU.out (fun _ _ f => f))
      clear HL HN HU BX1 U1 L1 N1 HRW
      go_wp2
      go_loopg [3, 5] tn (fun kx s3 s5 wq => ∃ (j : Nat) (A : Option Addr) (m c : Nat), s5 = .int .i64 (j : Int) ∧ j ≤ tn ∧ tn - j ≤ kx ∧ s3 = .slice A m c ∧ Hid ((ascSet (i.parent :: i.heads.map (·.2) ++ i.tips.take j)).length = m) ∧ Hid (NmR wq (.slice A m c) (ascSet (i.parent :: i.heads.map (·.2) ++ i.tips.take j))) ∧ Hid (Upd NoF wr wq))
      case atStart => exact ⟨0, A, m, c, rfl, by omega, by omega, rfl, L3, N3, Lib.hid (Upd.refl _ _)⟩
      case round =>
        obtain ⟨j, A, m, c, rfl, hjn, hjx, rfl, HL, HN, HU⟩ := hrel
        have ct0 := ((HU.out.blk BX3.out (fun f => f)).cell 19).trans CT.out
        by_cases hlt : j < tn
        · have t1 : decide ((j : Int) < (tn : Int)) = true := by simp; omega
          obtain ⟨s, hs⟩ : ∃ s, i.tips[j]? = some s := ⟨_, List.getElem?_eq_getElem (by have := HTN.out; omega)⟩
          obtain ⟨g, oo, rfl, hrg⟩ := (HCT.out.keep (U3.out.trans HU.out (fun _ _ f => f))).at_ hs
          have HRG := Lib.hid hrg
          have HSK := Lib.hid hs
          have HS8 := Lib.hid (HOK.out.fit.tips s (List.mem_of_getElem? hs))
          obtain ⟨nb, hnb⟩ : ∃ y, (s.map byteV).toArray = y := ⟨_, rfl⟩
          have HNB := Lib.hid hnb
          have q0 : (0 : Int) ≤ (j : Int) := by omega
          have q1 : (j : Int) < (tn : Int) := by omega
          have q2 : j < tn := hlt
          have e1 : ((j : Int)).toNat = j := by omega
          have HRL := Lib.hid (show (i.parent :: i.heads.map (·.2) ++ i.tips.take j).length ≤ 1000000 from by rw [List.length_append, List.length_cons, List.length_map, List.length_take, HHN.out]; omega)
          clear hs hrg hnb
          go_wp2_with (first
            | (refine wl_load rfl 28 (.tmp 46) rfl g (oo + j * 8) (by first | rfl | simp) (s.map byteV) _ HRG.out Tryz.underlying28 rfl (by rw [name_size]; simp [HS8.out]) nb HNB.out ?_)
            | (refine (insS HNB.out HRL.out HL.out HN.out HS8.out).mono ?_; rintro e w2 ⟨A2, m2, c2, rfl, hl2, hn2, hu2⟩; have L2 := Lib.hid hl2; have N2 := Lib.hid hn2; have U2 := Lib.hid (HU.out.trans hu2 (fun _ _ f => f)); clear hl2 hn2 hu2))
          go_roundg (tn - (j + 1))
          case measure => omega
          case rel =>
            have e : i.parent :: i.heads.map (·.2) ++ i.tips.take (j + 1) = (i.parent :: i.heads.map (·.2) ++ i.tips.take j) ++ [s] := by
              obtain ⟨hlt', rfl⟩ := List.getElem?_eq_some_iff.1 HSK.out
              rw [List.take_succ_eq_append_getElem hlt', List.append_assoc]
            exact ⟨j + 1, A2, m2, c2, by first | rfl | go_num, by omega, by omega, rfl, Lib.hid (by rw [e]; exact L2.out), Lib.hid (by rw [e]; exact N2.out), U2⟩
        · have t1 : decide ((j : Int) < (tn : Int)) = false := by simp; omega
          obtain rfl : j = tn := by omega
          have HRW := Lib.hid (show i.tips.take j = i.tips from List.take_of_length_le (by have := HTN.out; omega))
          go_wp2
          go_ret
          rw [HRW.out] at HL HN
          exact ⟨A, m, c, rfl, HL.out, HN.out, U3.out.trans HU.out (fun _ _ f => f)⟩
theorem rParents_any {w : World} {i : ItP} {rest : List Value} (h : ItOk w i rest) (hh : i.heads.length ≤ 1000) (ht : i.tips.length ≤ 1000) : Calls Tryz.prog 13 #[.agg (itemC i.name rest).toArray] w (NmPost w (parents i)) := by
  unfold parents rawPar
  by_cases h3 : i.kind = 3
  · rw [if_pos h3]; exact rParents_block h h3
  · rw [if_neg h3]
    by_cases h4 : i.kind = 4
    · rw [if_pos h4]; exact rParents_record h h4 hh ht
    · rw [if_neg h4]; exact rParents_none h h3 h4
end

section
open Go.RowKit Go.Shelf Go.Lib

theorem findS_hit {l : List (List UInt8)} {n : List UInt8} {k : Nat} (hk : l[k]? = some n) (hb : ∀ (j : Nat) x, j < k → l[j]? = some x → x ≠ n) : findS l n = (k : Int) :=
  firstI_hit (List.getElem?_eq_some_iff.1 hk).1 (by simp [hk]) (fun j hj => by
    have hlt : j < l.length := by have := (List.getElem?_eq_some_iff.1 hk).1; omega
    have := hb j _ hj (List.getElem?_eq_getElem hlt)
    simp [List.getElem?_eq_getElem hlt, this])
theorem findS_no {l : List (List UInt8)} {n : List UInt8} (hb : ∀ (j : Nat) x, l[j]? = some x → x ≠ n) : findS l n = -1 :=
  firstI_no (fun j hj => by
    have := hb j _ (List.getElem?_eq_getElem hj)
    simp [List.getElem?_eq_getElem hj, this])

set_option maxRecDepth 100000 in
set_option maxHeartbeats 8000000 in
theorem r20HasName_any {w : World} {A : Option Addr} {c n : Nat} {nm : List UInt8} {l : List (List UInt8)} (hl : l.length = n) (h : NmR w (.slice A n c) l) (h8 : nm.length = 8) :
    Calls Tryz.prog 81 #[.slice A n c, nameV nm] w fun e w' => e = .returned (.bool (decide (nm ∈ l))) ∧ Upd NoF w w' := by
  obtain ⟨zn, hzn⟩ : ∃ y, (nm.map byteV).toArray = y := ⟨_, rfl⟩
  have HZN := Lib.hid hzn
  have H8N := Lib.hid h8
  have HR := Lib.hid h
  have HN := Lib.hid hl
  have HML := Lib.hid (show n ≤ maxLen from by have q := h.2.le; omega)
  rw [show nameV nm = .agg zn from congrArg Value.agg hzn]
  obtain ⟨rv, hrv⟩ : ∃ x : Value, ((.bool (decide (nm ∈ l))) : Value) = x := ⟨_, rfl⟩
  rw [hrv]
  have HPOS := Lib.hid (fun k (hk : l[k]? = some nm) => show rv = .bool true from by rw [← hrv, decide_eq_true (List.mem_of_getElem? hk)])
  have HNEG := Lib.hid (fun (hb : ∀ (j : Nat) x, j < n → l[j]? = some x → x ≠ nm) => show rv = .bool false from by rw [← hrv, decide_eq_false (fun hm => by obtain ⟨j, hj⟩ := List.mem_iff_getElem?.1 hm; exact hb j nm (by rw [← hl]; exact (List.getElem?_eq_some_iff.1 hj).1) hj rfl)])
  clear hl h h8 hzn hrv
  go_enter Tryz.func81, Tryz.ntmps81
  go_wp2_with (first
    | (refine wl_box rfl 28 (.tmp 1) rfl zn (by rfl) ?_; intro v0 hb0 hu0 hs0; have BX0 := Lib.hid hb0; have V0 := Lib.hid hu0; clear hb0 hu0 hs0))
  obtain ⟨X, hX⟩ : ∃ x, w.heap.size = x := ⟨_, rfl⟩
  rw [hX] at BX0 ⊢
  clear hX
  go_loopw [5] (fun s5 wr => ∃ k : Nat, s5 = .int .i64 (k : Int) ∧ k ≤ n ∧ (∀ (j : Nat) x, j < k → l[j]? = some x → x ≠ nm) ∧ Upd NoF v0 wr) (fun i _ => n - (intOf i).toNat)
  case atStart => exact ⟨0, rfl, Nat.zero_le _, fun j x hj => by omega, Upd.refl _ _⟩
  case round =>
    obtain ⟨k, rfl, hk, hno, hu⟩ := hrel
    have HNO := Lib.hid hno
    have HU := Lib.hid hu
    clear hno hu
    have hmx : n ≤ 9223372036854775807 := by have := HML.out; unfold maxLen at this; omega
    by_cases hlt : k < n
    · have t1 : decide ((k : Int) < (n : Int)) = true := by simp; omega
      obtain ⟨s, hs⟩ : ∃ y, l[k]? = some y := ⟨_, List.getElem?_eq_getElem (by rw [HN.out]; exact hlt)⟩
      have H8S := Lib.hid (HR.out.1 s (List.mem_of_getElem? hs))
      obtain ⟨g, o, rfl, hrow⟩ := HR.out.at_ hs
      have XS := Lib.hid (show ∀ wq, Upd NoF wr.drew wq → wq.rangeAt g (o + k * 8) (s.map byteV) from fun wq hq j v hv => ((V0.out.trans HU.out (fun _ _ f => f)).drew.trans hq (fun _ _ f => f)).cell (hrow j v hv) (fun f => f))
      have HLK := Lib.hid hs
      clear hs hrow
      obtain ⟨zs, hzs⟩ : ∃ y, (s.map byteV).toArray = y := ⟨_, rfl⟩
      have HZS := Lib.hid hzs
      have HBX := Lib.hid (show Blk wr.drew X 28 zn from (HU.out.blk BX0.out (fun f => f)).drew)
      have HE := Lib.hid (show ∀ w, (binOp .eql 28 (.agg zs) (.agg zn)).run Tryz.prog w = .ok (.bool (decide (s = nm))) w from fun w => by
        have q := eql_name' H8S.out H8N.out w
        rw [← HZS.out, ← HZN.out]
        exact q)
      have ww : IntKind.i64.wrap ((k : Int) + 1) = (k : Int) + 1 := IntWalk.i64_in _ (by omega)
      clear hzs
      go_wp2_with fail
      refine wp_region_rgw (rgR [isV (.slice (some ⟨g, o, none⟩) n c), isV (.int .i64 (k : Int)), isV (.pointer (some ⟨g, o + k * 8, none⟩)), isV (.agg zs), isV (.agg zn), isV (.bool (decide (s = nm)))]) (fun w w' => Upd NoF w w') (fun _ wq => Upd NoF wr.drew wq) (by kernel_rfl) (by kernel_rfl) (by kernel_rfl) (by rfl) (fun w => Upd.refl _ _) (rgR_keep (by
        intro p hp; simp only [List.mem_cons, List.not_mem_nil, or_false] at hp; rcases hp with rfl | rfl | rfl | rfl | rfl | rfl <;> first | exact stb_isV _ | exact stb_any)) (Upd.refl _ _) ?_ ?_
      · refine ⟨?_, ?_, ?_, ?_, ?_, ?_, trivial⟩
        · refine fun ρ w' L hW hLi hcl hd hdep hext hc hg hf => ?_
          rw [if_pos (show wantedR _ _ _ = true from rfl)]
          have e0 : ρ (.tmp 0) = .slice (some ⟨g, o, none⟩) n c := hext 0 (by kernel_rfl)
          clear hdep hext hcl
          have HW := Lib.hid hW
          clear hW
          unfold OpDone
          go_simp
          exact ⟨rfl, Upd.refl _ _, HW.out⟩
        · refine fun ρ w' L hW hLi hcl hd hdep hext hc hg hf => ?_
          rw [if_pos (show wantedR _ _ _ = true from rfl)]
          have e5 : ρ (.tmp 5) = .int .i64 (k : Int) := hext 5 (by kernel_rfl)
          clear hdep hext hcl
          have HW := Lib.hid hW
          clear hW
          unfold OpDone
          go_simp
          exact ⟨rfl, Upd.refl _ _, HW.out⟩
        · refine fun ρ w' L hW hLi hcl hd hdep hext hc hg hf => ?_
          rw [if_pos (show wantedR _ _ _ = true from rfl)]
          have e12 : ρ (.tmp 12) = .slice (some ⟨g, o, none⟩) n c := hdep 0 _ rfl (by kernel_rfl)
          have e13 : ρ (.tmp 13) = .int .i64 (k : Int) := hdep 1 _ rfl (by kernel_rfl)
          have q0 : (0 : Int) ≤ (k : Int) := by omega
          have q1 : (k : Int) < (n : Int) := by omega
          have q2 : k < n := by omega
          clear hdep hext hcl
          have HW := Lib.hid hW
          clear hW
          unfold OpDone
          go_simp
          exact ⟨rfl, Upd.refl _ _, HW.out⟩
        · refine fun ρ w' L hW hLi hcl hd hdep hext hc hg hf => ?_
          rw [if_pos (show wantedR _ _ _ = true from rfl)]
          have e14 : ρ (.tmp 14) = .pointer (some ⟨g, o + k * 8, none⟩) := hdep 2 _ rfl (by kernel_rfl)
          clear hdep hext
          refine od_load_row 28 (.tmp 14) rfl _ _ e14 (s.map byteV) _ (XS.out w' hW) Tryz.underlying28 rfl (by rw [name_size]; simp [H8S.out]) ?_
          rw [HZS.out]
          exact ⟨rfl, Upd.refl _ _, hW⟩
        · refine fun ρ w' L hW hLi hcl hd hdep hext hc hg hf => ?_
          rw [if_pos (show wantedR _ _ _ = true from rfl)]
          have e3 : ρ (.tmp 3) = .pointer (some ⟨X, 0, none⟩) := hext 3 (by kernel_rfl)
          clear hdep hext
          refine od_load_row 28 (.tmp 3) rfl _ _ e3 (nm.map byteV) _ (name_cells HZN.out (hW.blk HBX.out (fun f => f))) Tryz.underlying28 rfl (by rw [name_size]; simp [H8N.out]) ?_
          rw [HZN.out]
          exact ⟨rfl, Upd.refl _ _, hW⟩
        · refine fun ρ w' L hW hLi hcl hd hdep hext hc hg hf => ?_
          rw [if_pos (show wantedR _ _ _ = true from rfl)]
          have e15 : ρ (.tmp 15) = .agg zs := hdep 3 _ rfl (by kernel_rfl)
          have e16 : ρ (.tmp 16) = .agg zn := hdep 4 _ rfl (by kernel_rfl)
          clear hdep hext
          have hE : ∀ w, (binOp .eql 28 (.agg zs) (.agg zn)).run Tryz.prog w = .ok (.bool (decide (s = nm))) w := fun w => HE.out w
          have HW := Lib.hid hW
          clear hW
          unfold OpDone
          go_simp
          exact ⟨rfl, Upd.refl _ _, HW.out⟩
      intro vs W8 L8 hL8 hW8 hR
      have hv0 : vs 0 = .slice (some ⟨g, o, none⟩) n c := hR 0 _ rfl
      have hv1 : vs 1 = .int .i64 (k : Int) := hR 1 _ rfl
      have hv2 : vs 2 = .pointer (some ⟨g, o + k * 8, none⟩) := hR 2 _ rfl
      have hv3 : vs 3 = .agg zs := hR 3 _ rfl
      have hv4 : vs 4 = .agg zn := hR 4 _ rfl
      have hv5 : vs 5 = .bool (decide (s = nm)) := hR 5 _ rfl
      simp only [putAll, Act.put, List.setIfInBounds_toArray, List.set_cons_zero, List.set_cons_succ, hv0, hv1, hv2, hv3, hv4, hv5]
      clear hR hv0 hv1 hv2 hv3 hv4 hv5
      have HU8 := Lib.hid (show Upd NoF v0 W8 from HU.out.trans (((Upd.refl NoF wr).drew).trans hW8 (fun _ _ f => f)) (fun _ _ f => f))
      clear hW8
      cases hst : decide (s = nm) with
      | true =>
        have HEQ := Lib.hid (show s = nm from of_decide_eq_true hst)
        have HLK2 := Lib.hid (show l[k]? = some nm from by rw [HLK.out, HEQ.out])
        clear hst
        go_wp2
        go_ret
        exact ⟨by rw [HPOS.out k HLK2.out]; rfl, V0.out.trans HU8.out (fun _ _ f => f)⟩
      | false =>
        have HNE := Lib.hid (show s ≠ nm from fun e => by rw [e] at hst; simp at hst)
        clear hst
        go_wp2
        go_roundw
        case rel =>
          refine ⟨k + 1, by go_num, by omega, fun j x hj hx => ?_, HU8.out⟩
          rcases Nat.lt_succ_iff_lt_or_eq.1 hj with h | rfl
          · exact HNO.out j x h hx
          · rw [HLK.out] at hx; cases hx; exact HNE.out
        case measure => simp [intOf]; omega
    · obtain rfl : k = n := by omega
      have t1 : decide ((k : Int) < (k : Int)) = false := by simp
      go_wp2
      go_ret
      exact ⟨by rw [HNEG.out HNO.out]; rfl, V0.out.trans HU.out (fun _ _ f => f)⟩

set_option maxRecDepth 100000 in
set_option maxHeartbeats 8000000 in
theorem r25Find_any {w : World} {A : Option Addr} {c n : Nat} {nm : List UInt8} {its : List (List UInt8 × List Value)} (hl : its.length = n) (h : ItR w (.slice A n c) its) (h8 : nm.length = 8) :
    Calls Tryz.prog 15 #[.slice A n c, nameV nm] w fun e w' => e = .returned (.int .i64 (findS (its.map (·.1)) nm)) ∧ Upd NoF w w' := by
  obtain ⟨zn, hzn⟩ : ∃ y, (nm.map byteV).toArray = y := ⟨_, rfl⟩
  have HZN := Lib.hid hzn
  have H8N := Lib.hid h8
  have HR := Lib.hid h
  have HN := Lib.hid hl
  have HML := Lib.hid (show n ≤ maxLen from by have q := h.rd.le; omega)
  rw [show nameV nm = .agg zn from congrArg Value.agg hzn]
  obtain ⟨rv, hrv⟩ : ∃ x : Value, ((.int .i64 (findS (its.map (·.1)) nm)) : Value) = x := ⟨_, rfl⟩
  rw [hrv]
  have HPOS := Lib.hid (fun k (hk : (its.map (·.1))[k]? = some nm) (hb : ∀ (j : Nat) x, j < k → (its.map (·.1))[j]? = some x → x ≠ nm) => show rv = .int .i64 (k : Int) from by rw [← hrv, findS_hit hk hb])
  have HNEG := Lib.hid (fun (hb : ∀ (j : Nat) x, j < n → (its.map (·.1))[j]? = some x → x ≠ nm) => show rv = .int .i64 (-1) from by rw [← hrv, findS_no (fun j x hx => hb j x (by rw [← hl]; simpa using (List.getElem?_eq_some_iff.1 hx).1) hx)])
  clear hl h h8 hzn hrv
  go_enter Tryz.func15, Tryz.ntmps15
  go_wp2_with (first
    | (refine wl_box rfl 28 (.tmp 1) rfl zn (by rfl) ?_; intro v0 hb0 hu0 hs0; have BX0 := Lib.hid hb0; have V0 := Lib.hid hu0; clear hb0 hu0 hs0))
  obtain ⟨X, hX⟩ : ∃ x, w.heap.size = x := ⟨_, rfl⟩
  rw [hX] at BX0 ⊢
  clear hX
  go_loopw [5] (fun s5 wr => ∃ k : Nat, s5 = .int .i64 (k : Int) ∧ k ≤ n ∧ (∀ (j : Nat) x, j < k → (its.map (·.1))[j]? = some x → x ≠ nm) ∧ Upd NoF v0 wr) (fun i _ => n - (intOf i).toNat)
  case atStart => exact ⟨0, rfl, Nat.zero_le _, fun j x hj => by omega, Upd.refl _ _⟩
  case round =>
    obtain ⟨k, rfl, hk, hno, hu⟩ := hrel
    have HNO := Lib.hid hno
    have HU := Lib.hid hu
    clear hno hu
    have hmx : n ≤ 9223372036854775807 := by have := HML.out; unfold maxLen at this; omega
    by_cases hlt : k < n
    · have t1 : decide ((k : Int) < (n : Int)) = true := by simp; omega
      obtain ⟨y, hy⟩ : ∃ y, its[k]? = some y := ⟨_, List.getElem?_eq_getElem (by rw [HN.out]; exact hlt)⟩
      obtain ⟨s, hs⟩ : ∃ s, y.1 = s := ⟨_, rfl⟩
      have HLK := Lib.hid (show (its.map (·.1))[k]? = some s from by rw [List.getElem?_map, hy, ← hs]; rfl)
      have H8S := Lib.hid (show s.length = 8 from by rw [← hs]; exact (HR.out.nm y (List.mem_of_getElem? hy)).1)
      obtain ⟨g, o, rfl, hrow⟩ := rows_at (i := k) (r := itemC y.1 y.2) (rows := its.map fun x => itemC x.1 x.2) (K := 28) (fun r hr => by
        obtain ⟨x, hx, rfl⟩ := List.mem_map.1 hr
        have := HR.out.nm x hx
        simp [itemC, this.1, this.2]) (by have q := HR.out.rd; rw [HN.out] at q; exact q) (by rw [List.getElem?_map, hy]; rfl) hlt
      have XS := Lib.hid (show ∀ wq, Upd NoF wr.drew wq → wq.rangeAt g (o + k * 28) (s.map byteV) from fun wq hq j v hv => by
        have hj := (List.getElem?_eq_some_iff.1 hv).1
        exact ((V0.out.trans HU.out (fun _ _ f => f)).drew.trans hq (fun _ _ f => f)).cell (hrow j v (by unfold itemC; rw [hs, List.getElem?_append_left hj]; exact hv)) (fun f => f))
      clear hy hs hrow
      obtain ⟨zs, hzs⟩ : ∃ y, (s.map byteV).toArray = y := ⟨_, rfl⟩
      have HZS := Lib.hid hzs
      have HBX := Lib.hid (show Blk wr.drew X 28 zn from (HU.out.blk BX0.out (fun f => f)).drew)
      have HE := Lib.hid (show ∀ w, (binOp .eql 28 (.agg zs) (.agg zn)).run Tryz.prog w = .ok (.bool (decide (s = nm))) w from fun w => by
        have q := eql_name' H8S.out H8N.out w
        rw [← HZS.out, ← HZN.out]
        exact q)
      have ww : IntKind.i64.wrap ((k : Int) + 1) = (k : Int) + 1 := IntWalk.i64_in _ (by omega)
      clear hzs
      go_wp2_with fail
      refine wp_region_rgw (rgR [isV (.slice (some ⟨g, o, none⟩) n c), isV (.int .i64 (k : Int)), isV (.pointer (some ⟨g, o + k * 28, none⟩)), isV (.pointer (some ⟨g, o + k * 28, none⟩)), isV (.agg zs), isV (.agg zn), isV (.bool (decide (s = nm)))]) (fun w w' => Upd NoF w w') (fun _ wq => Upd NoF wr.drew wq) (by kernel_rfl) (by kernel_rfl) (by kernel_rfl) (by rfl) (fun w => Upd.refl _ _) (rgR_keep (by
        intro p hp; simp only [List.mem_cons, List.not_mem_nil, or_false] at hp; rcases hp with rfl | rfl | rfl | rfl | rfl | rfl | rfl <;> first | exact stb_isV _ | exact stb_any)) (Upd.refl _ _) ?_ ?_
      · refine ⟨?_, ?_, ?_, ?_, ?_, ?_, ?_, trivial⟩
        · refine fun ρ w' L hW hLi hcl hd hdep hext hc hg hf => ?_
          rw [if_pos (show wantedR _ _ _ = true from rfl)]
          have e0 : ρ (.tmp 0) = .slice (some ⟨g, o, none⟩) n c := hext 0 (by kernel_rfl)
          clear hdep hext hcl
          have HW := Lib.hid hW
          clear hW
          unfold OpDone
          go_simp
          exact ⟨rfl, Upd.refl _ _, HW.out⟩
        · refine fun ρ w' L hW hLi hcl hd hdep hext hc hg hf => ?_
          rw [if_pos (show wantedR _ _ _ = true from rfl)]
          have e5 : ρ (.tmp 5) = .int .i64 (k : Int) := hext 5 (by kernel_rfl)
          clear hdep hext hcl
          have HW := Lib.hid hW
          clear hW
          unfold OpDone
          go_simp
          exact ⟨rfl, Upd.refl _ _, HW.out⟩
        · refine fun ρ w' L hW hLi hcl hd hdep hext hc hg hf => ?_
          rw [if_pos (show wantedR _ _ _ = true from rfl)]
          have e12 : ρ (.tmp 12) = .slice (some ⟨g, o, none⟩) n c := hdep 0 _ rfl (by kernel_rfl)
          have e13 : ρ (.tmp 13) = .int .i64 (k : Int) := hdep 1 _ rfl (by kernel_rfl)
          have q0 : (0 : Int) ≤ (k : Int) := by omega
          have q1 : (k : Int) < (n : Int) := by omega
          have q2 : k < n := by omega
          clear hdep hext hcl
          have HW := Lib.hid hW
          clear hW
          unfold OpDone
          go_simp
          exact ⟨rfl, Upd.refl _ _, HW.out⟩
        · refine fun ρ w' L hW hLi hcl hd hdep hext hc hg hf => ?_
          rw [if_pos (show wantedR _ _ _ = true from rfl)]
          have e14 : ρ (.tmp 14) = .pointer (some ⟨g, o + k * 28, none⟩) := hdep 2 _ rfl (by kernel_rfl)
          clear hdep hext hcl
          have HW := Lib.hid hW
          clear hW
          unfold OpDone
          go_simp
          exact ⟨rfl, Upd.refl _ _, HW.out⟩
        · refine fun ρ w' L hW hLi hcl hd hdep hext hc hg hf => ?_
          rw [if_pos (show wantedR _ _ _ = true from rfl)]
          have e15 : ρ (.tmp 15) = .pointer (some ⟨g, o + k * 28, none⟩) := hdep 3 _ rfl (by kernel_rfl)
          clear hdep hext
          refine od_load_row 28 (.tmp 15) rfl _ _ e15 (s.map byteV) _ (XS.out w' hW) Tryz.underlying28 rfl (by rw [name_size]; simp [H8S.out]) ?_
          rw [HZS.out]
          exact ⟨rfl, Upd.refl _ _, hW⟩
        · refine fun ρ w' L hW hLi hcl hd hdep hext hc hg hf => ?_
          rw [if_pos (show wantedR _ _ _ = true from rfl)]
          have e3 : ρ (.tmp 3) = .pointer (some ⟨X, 0, none⟩) := hext 3 (by kernel_rfl)
          clear hdep hext
          refine od_load_row 28 (.tmp 3) rfl _ _ e3 (nm.map byteV) _ (name_cells HZN.out (hW.blk HBX.out (fun f => f))) Tryz.underlying28 rfl (by rw [name_size]; simp [H8N.out]) ?_
          rw [HZN.out]
          exact ⟨rfl, Upd.refl _ _, hW⟩
        · refine fun ρ w' L hW hLi hcl hd hdep hext hc hg hf => ?_
          rw [if_pos (show wantedR _ _ _ = true from rfl)]
          have e16 : ρ (.tmp 16) = .agg zs := hdep 4 _ rfl (by kernel_rfl)
          have e17 : ρ (.tmp 17) = .agg zn := hdep 5 _ rfl (by kernel_rfl)
          clear hdep hext
          have hE : ∀ w, (binOp .eql 28 (.agg zs) (.agg zn)).run Tryz.prog w = .ok (.bool (decide (s = nm))) w := fun w => HE.out w
          have HW := Lib.hid hW
          clear hW
          unfold OpDone
          go_simp
          exact ⟨rfl, Upd.refl _ _, HW.out⟩
      intro vs W8 L8 hL8 hW8 hR
      have hv0 : vs 0 = .slice (some ⟨g, o, none⟩) n c := hR 0 _ rfl
      have hv1 : vs 1 = .int .i64 (k : Int) := hR 1 _ rfl
      have hv2 : vs 2 = .pointer (some ⟨g, o + k * 28, none⟩) := hR 2 _ rfl
      have hv3 : vs 3 = .pointer (some ⟨g, o + k * 28, none⟩) := hR 3 _ rfl
      have hv4 : vs 4 = .agg zs := hR 4 _ rfl
      have hv5 : vs 5 = .agg zn := hR 5 _ rfl
      have hv6 : vs 6 = .bool (decide (s = nm)) := hR 6 _ rfl
      simp only [putAll, Act.put, List.setIfInBounds_toArray, List.set_cons_zero, List.set_cons_succ, hv0, hv1, hv2, hv3, hv4, hv5, hv6]
      clear hR hv0 hv1 hv2 hv3 hv4 hv5 hv6
      have HU8 := Lib.hid (show Upd NoF v0 W8 from HU.out.trans (((Upd.refl NoF wr).drew).trans hW8 (fun _ _ f => f)) (fun _ _ f => f))
      clear hW8
      cases hst : decide (s = nm) with
      | true =>
        have HEQ := Lib.hid (show s = nm from of_decide_eq_true hst)
        have HLK2 := Lib.hid (show (its.map (·.1))[k]? = some nm from by rw [HLK.out, HEQ.out])
        clear hst
        go_wp2
        go_ret
        exact ⟨by rw [HPOS.out k HLK2.out HNO.out]; rfl, V0.out.trans HU8.out (fun _ _ f => f)⟩
      | false =>
        have HNE := Lib.hid (show s ≠ nm from fun e => by rw [e] at hst; simp at hst)
        clear hst
        go_wp2
        go_roundw
        case rel =>
          refine ⟨k + 1, by go_num, by omega, fun j x hj hx => ?_, HU8.out⟩
          rcases Nat.lt_succ_iff_lt_or_eq.1 hj with h | rfl
          · exact HNO.out j x h hx
          · rw [HLK.out] at hx; cases hx; exact HNE.out
        case measure => simp [intOf]; omega
    · obtain rfl : k = n := by omega
      have t1 : decide ((k : Int) < (k : Int)) = false := by simp
      go_wp2
      go_ret
      exact ⟨by rw [HNEG.out HNO.out]; rfl, V0.out.trans HU.out (fun _ _ f => f)⟩

set_option maxRecDepth 100000 in
set_option maxHeartbeats 8000000 in
theorem r20SameNames_any {w : World} {A A2 : Option Addr} {c n c2 n2 : Nat} {l m : List (List UInt8)} (hl : l.length = n) (h : NmR w (.slice A n c) l) (hm : m.length = n2) (h2 : NmR w (.slice A2 n2 c2) m) :
    Calls Tryz.prog 11 #[.slice A n c, .slice A2 n2 c2] w fun e w' => e = .returned (.bool (decide (l = m))) ∧ Upd NoF w w' := by
  have HML := Lib.hid (show n ≤ maxLen ∧ n2 ≤ maxLen from by
    have q1 := h.2.le
    have q2 := h2.2.le
    omega)
  have HR := Lib.hid h
  have HR2 := Lib.hid h2
  have HN := Lib.hid hl
  have HN2 := Lib.hid hm
  obtain ⟨rv, hrv⟩ : ∃ x, decide (l = m) = x := ⟨_, rfl⟩
  rw [hrv]
  have HNEG := Lib.hid (show l ≠ m → rv = false from fun e => by rw [← hrv]; exact decide_eq_false e)
  have HPOS := Lib.hid (show l = m → rv = true from fun e => by rw [← hrv]; exact decide_eq_true e)
  clear h h2 hl hm hrv
  by_cases hnn : n = n2
  · subst hnn
    have t0 : decide ((n : Int) = (n : Int)) = true := by simp
    go_enter Tryz.func11, Tryz.ntmps11
    go_wp2
    go_loopw [5] (fun s5 wr => ∃ k : Nat, s5 = .int .i64 (k : Int) ∧ k ≤ n ∧ (∀ j, j < k → l[j]? = m[j]?) ∧ Upd NoF w wr) (fun i _ => n - (intOf i).toNat)
    case atStart => exact ⟨0, rfl, Nat.zero_le _, fun j hj => by omega, Upd.refl _ _⟩
    case round =>
      obtain ⟨k, rfl, hk, hno, hu⟩ := hrel
      have HNO := Lib.hid hno
      have HU := Lib.hid hu
      clear hno hu
      have hmx : n ≤ 9223372036854775807 := by have := HML.out.1; unfold maxLen at this; omega
      by_cases hlt : k < n
      · have t1 : decide ((k : Int) < (n : Int)) = true := by simp; omega
        obtain ⟨s, hs⟩ : ∃ y, l[k]? = some y := ⟨_, List.getElem?_eq_getElem (by rw [HN.out]; exact hlt)⟩
        obtain ⟨t, ht⟩ : ∃ y, m[k]? = some y := ⟨_, List.getElem?_eq_getElem (by rw [HN2.out]; exact hlt)⟩
        have H8S := Lib.hid (HR.out.1 s (List.mem_of_getElem? hs))
        have H8T := Lib.hid (HR2.out.1 t (List.mem_of_getElem? ht))
        obtain ⟨g, o, rfl, hrow⟩ := HR.out.at_ hs
        obtain ⟨g2, o2, rfl, hrow2⟩ := HR2.out.at_ ht
        have XS := Lib.hid (show ∀ wq, Upd NoF wr.drew wq → wq.rangeAt g (o + k * 8) (s.map byteV) from fun wq hq j v hv => (HU.out.drew.trans hq (fun _ _ f => f)).cell (hrow j v hv) (fun f => f))
        have XT := Lib.hid (show ∀ wq, Upd NoF wr.drew wq → wq.rangeAt g2 (o2 + k * 8) (t.map byteV) from fun wq hq j v hv => (HU.out.drew.trans hq (fun _ _ f => f)).cell (hrow2 j v hv) (fun f => f))
        have HLK := Lib.hid hs
        have HMK := Lib.hid ht
        obtain ⟨zs, hzs⟩ : ∃ y, (s.map byteV).toArray = y := ⟨_, rfl⟩
        have HZS := Lib.hid hzs
        obtain ⟨zt, hzt⟩ : ∃ y, (t.map byteV).toArray = y := ⟨_, rfl⟩
        have HZT := Lib.hid hzt
        have HE := Lib.hid (show ∀ w, (binOp .neq 28 (.agg zs) (.agg zt)).run Tryz.prog w = .ok (.bool (!(decide (s = t)))) w from fun w => by
          have q := neq_name' H8S.out H8T.out w
          rw [← HZS.out, ← HZT.out]
          exact q)
        have ww : IntKind.i64.wrap ((k : Int) + 1) = (k : Int) + 1 := IntWalk.i64_in _ (by omega)
        clear hzs hzt hs ht hrow hrow2
        go_wp2_with fail
        refine wp_region_rgw (rgR [isV (.slice (some ⟨g, o, none⟩) n c), isV (.int .i64 (k : Int)), isV (.pointer (some ⟨g, o + k * 8, none⟩)), isV (.agg zs), isV (.slice (some ⟨g2, o2, none⟩) n c2), isV (.int .i64 (k : Int)), isV (.pointer (some ⟨g2, o2 + k * 8, none⟩)), isV (.agg zt), isV (.bool (!(decide (s = t))))]) (fun w w' => Upd NoF w w') (fun _ wq => Upd NoF wr.drew wq) (by kernel_rfl) (by kernel_rfl) (by kernel_rfl) (by rfl) (fun w => Upd.refl _ _) (rgR_keep (by
          intro p hp; simp only [List.mem_cons, List.not_mem_nil, or_false] at hp; rcases hp with rfl | rfl | rfl | rfl | rfl | rfl | rfl | rfl | rfl <;> first | exact stb_isV _ | exact stb_any)) (Upd.refl _ _) ?_ ?_
        · refine ⟨?_, ?_, ?_, ?_, ?_, ?_, ?_, ?_, ?_, trivial⟩
          · refine fun ρ w' L hW hLi hcl hd hdep hext hc hg hf => ?_
            rw [if_pos (show wantedR _ _ _ = true from rfl)]
            have e0 : ρ (.tmp 0) = .slice (some ⟨g, o, none⟩) n c := hext 0 (by kernel_rfl)
            clear hdep hext hcl
            have HW := Lib.hid hW
            clear hW
            unfold OpDone
            go_simp
            exact ⟨rfl, Upd.refl _ _, HW.out⟩
          · refine fun ρ w' L hW hLi hcl hd hdep hext hc hg hf => ?_
            rw [if_pos (show wantedR _ _ _ = true from rfl)]
            have e5 : ρ (.tmp 5) = .int .i64 (k : Int) := hext 5 (by kernel_rfl)
            clear hdep hext hcl
            have HW := Lib.hid hW
            clear hW
            unfold OpDone
            go_simp
            exact ⟨rfl, Upd.refl _ _, HW.out⟩
          · refine fun ρ w' L hW hLi hcl hd hdep hext hc hg hf => ?_
            rw [if_pos (show wantedR _ _ _ = true from rfl)]
            have e17 : ρ (.tmp 17) = .slice (some ⟨g, o, none⟩) n c := hdep 0 _ rfl (by kernel_rfl)
            have e18 : ρ (.tmp 18) = .int .i64 (k : Int) := hdep 1 _ rfl (by kernel_rfl)
            have q0 : (0 : Int) ≤ (k : Int) := by omega
            have q1 : (k : Int) < (n : Int) := by omega
            have q2 : k < n := by omega
            clear hdep hext hcl
            have HW := Lib.hid hW
            clear hW
            unfold OpDone
            go_simp
            exact ⟨rfl, Upd.refl _ _, HW.out⟩
          · refine fun ρ w' L hW hLi hcl hd hdep hext hc hg hf => ?_
            rw [if_pos (show wantedR _ _ _ = true from rfl)]
            have e19 : ρ (.tmp 19) = .pointer (some ⟨g, o + k * 8, none⟩) := hdep 2 _ rfl (by kernel_rfl)
            clear hdep hext
            refine od_load_row 28 (.tmp 19) rfl _ _ e19 (s.map byteV) _ (XS.out w' hW) Tryz.underlying28 rfl (by rw [name_size]; simp [H8S.out]) ?_
            rw [HZS.out]
            exact ⟨rfl, Upd.refl _ _, hW⟩
          · refine fun ρ w' L hW hLi hcl hd hdep hext hc hg hf => ?_
            rw [if_pos (show wantedR _ _ _ = true from rfl)]
            have e1 : ρ (.tmp 1) = .slice (some ⟨g2, o2, none⟩) n c2 := hext 1 (by kernel_rfl)
            clear hdep hext hcl
            have HW := Lib.hid hW
            clear hW
            unfold OpDone
            go_simp
            exact ⟨rfl, Upd.refl _ _, HW.out⟩
          · refine fun ρ w' L hW hLi hcl hd hdep hext hc hg hf => ?_
            rw [if_pos (show wantedR _ _ _ = true from rfl)]
            have e5 : ρ (.tmp 5) = .int .i64 (k : Int) := hext 5 (by kernel_rfl)
            clear hdep hext hcl
            have HW := Lib.hid hW
            clear hW
            unfold OpDone
            go_simp
            exact ⟨rfl, Upd.refl _ _, HW.out⟩
          · refine fun ρ w' L hW hLi hcl hd hdep hext hc hg hf => ?_
            rw [if_pos (show wantedR _ _ _ = true from rfl)]
            have e21 : ρ (.tmp 21) = .slice (some ⟨g2, o2, none⟩) n c2 := hdep 4 _ rfl (by kernel_rfl)
            have e22 : ρ (.tmp 22) = .int .i64 (k : Int) := hdep 5 _ rfl (by kernel_rfl)
            have q0 : (0 : Int) ≤ (k : Int) := by omega
            have q1 : (k : Int) < (n : Int) := by omega
            have q2 : k < n := by omega
            clear hdep hext hcl
            have HW := Lib.hid hW
            clear hW
            unfold OpDone
            go_simp
            exact ⟨rfl, Upd.refl _ _, HW.out⟩
          · refine fun ρ w' L hW hLi hcl hd hdep hext hc hg hf => ?_
            rw [if_pos (show wantedR _ _ _ = true from rfl)]
            have e23 : ρ (.tmp 23) = .pointer (some ⟨g2, o2 + k * 8, none⟩) := hdep 6 _ rfl (by kernel_rfl)
            clear hdep hext
            refine od_load_row 28 (.tmp 23) rfl _ _ e23 (t.map byteV) _ (XT.out w' hW) Tryz.underlying28 rfl (by rw [name_size]; simp [H8T.out]) ?_
            rw [HZT.out]
            exact ⟨rfl, Upd.refl _ _, hW⟩
          · refine fun ρ w' L hW hLi hcl hd hdep hext hc hg hf => ?_
            rw [if_pos (show wantedR _ _ _ = true from rfl)]
            have e20 : ρ (.tmp 20) = .agg zs := hdep 3 _ rfl (by kernel_rfl)
            have e24 : ρ (.tmp 24) = .agg zt := hdep 7 _ rfl (by kernel_rfl)
            clear hdep hext
            have hE : ∀ w, (binOp .neq 28 (.agg zs) (.agg zt)).run Tryz.prog w = .ok (.bool (!(decide (s = t)))) w := fun w => HE.out w
            have HW := Lib.hid hW
            clear hW
            unfold OpDone
            go_simp
            exact ⟨rfl, Upd.refl _ _, HW.out⟩
        intro vs W8 L8 hL8 hW8 hR
        have hv0 : vs 0 = .slice (some ⟨g, o, none⟩) n c := hR 0 _ rfl
        have hv1 : vs 1 = .int .i64 (k : Int) := hR 1 _ rfl
        have hv2 : vs 2 = .pointer (some ⟨g, o + k * 8, none⟩) := hR 2 _ rfl
        have hv3 : vs 3 = .agg zs := hR 3 _ rfl
        have hv4 : vs 4 = .slice (some ⟨g2, o2, none⟩) n c2 := hR 4 _ rfl
        have hv5 : vs 5 = .int .i64 (k : Int) := hR 5 _ rfl
        have hv6 : vs 6 = .pointer (some ⟨g2, o2 + k * 8, none⟩) := hR 6 _ rfl
        have hv7 : vs 7 = .agg zt := hR 7 _ rfl
        have hv8 : vs 8 = .bool (!(decide (s = t))) := hR 8 _ rfl
        simp only [putAll, Act.put, List.setIfInBounds_toArray, List.set_cons_zero, List.set_cons_succ, hv0, hv1, hv2, hv3, hv4, hv5, hv6, hv7, hv8]
        clear hR hv0 hv1 hv2 hv3 hv4 hv5 hv6 hv7 hv8
        have HU8 := Lib.hid (show Upd NoF w W8 from HU.out.trans (((Upd.refl NoF wr).drew).trans hW8 (fun _ _ f => f)) (fun _ _ f => f))
        clear hW8
        cases hst : decide (s = t) with
        | false =>
          have HNE := Lib.hid (show l ≠ m from fun e => by
            have h1 := HLK.out
            rw [e, HMK.out] at h1
            cases h1
            simp at hst)
          clear hst
          rw [show (!false) = true from rfl]
          go_wp2
          go_ret
          exact ⟨by rw [HNEG.out HNE.out]; rfl, HU8.out⟩
        | true =>
          have HEQ := Lib.hid (show s = t from of_decide_eq_true hst)
          clear hst
          rw [show (!true) = false from rfl]
          go_wp2
          go_roundw
          case rel =>
            refine ⟨k + 1, by go_num, by omega, fun j hj => ?_, HU8.out⟩
            rcases Nat.lt_succ_iff_lt_or_eq.1 hj with h | rfl
            · exact HNO.out j h
            · rw [HLK.out, HMK.out, HEQ.out]
          case measure => simp [intOf]; omega
      · obtain rfl : k = n := by omega
        have t1 : decide ((k : Int) < (k : Int)) = false := by simp
        have HF := Lib.hid (show l = m from List.ext_getElem? (fun j => by
          rcases Nat.lt_or_ge j k with h | h
          · exact HNO.out j h
          · rw [List.getElem?_eq_none (by rw [HN.out]; exact h), List.getElem?_eq_none (by rw [HN2.out]; exact h)]))
        go_wp2
        go_ret
        exact ⟨by rw [HPOS.out HF.out]; rfl, HU.out⟩
  · have HF := Lib.hid (show l ≠ m from fun e => hnn (by rw [← HN.out, ← HN2.out, e]))
    have t0 : decide ((n : Int) = (n2 : Int)) = false := by simp; omega
    have t0' : decide (n = n2) = false := by simp; omega
    go_enter Tryz.func11, Tryz.ntmps11
    go_wp2
    go_ret
    exact ⟨by rw [HNEG.out HF.out]; rfl, Upd.refl _ _⟩

set_option maxRecDepth 100000 in
set_option maxHeartbeats 2000000 in
theorem r25has_any {w : World} {A : Option Addr} {c n : Nat} {nm : List UInt8} {l : List (List UInt8)} (hl : l.length = n) (h : NmR w (.slice A n c) l) (h8 : nm.length = 8) :
    Calls Tryz.prog 48 #[.slice A n c, nameV nm] w fun e w' => e = .returned (.bool (decide (nm ∈ l))) ∧ Upd NoF w w' := by
  obtain ⟨zn, hzn⟩ : ∃ y, (nm.map byteV).toArray = y := ⟨_, rfl⟩
  have HZN := Lib.hid hzn
  have H8N := Lib.hid h8
  have C := Lib.hid (fun W (hu : Upd NoF w W) => show Calls Tryz.prog 81 #[.slice A n c, .agg zn] W _ from by have q := r20HasName_any (w := W) hl (h.keep hu) h8; rw [show nameV nm = .agg zn from congrArg Value.agg hzn] at q; exact q)
  rw [show nameV nm = .agg zn from congrArg Value.agg hzn]
  obtain ⟨rv, hrv⟩ : ∃ x, decide (nm ∈ l) = x := ⟨_, rfl⟩
  rw [hrv] at C ⊢
  clear hl h h8 hzn hrv
  go_enter Tryz.func48, Tryz.ntmps48
  go_wp2_with (first
    | (refine wl_box rfl 28 (.tmp 1) rfl zn (by rfl) ?_; intro v0 hb0 hu0 hs0; have BX0 := Lib.hid hb0; have V0 := Lib.hid hu0; clear hb0 hu0 hs0)
    | (refine wl_load rfl 28 (.tmp 3) rfl w.heap.size 0 (by rfl) (nm.map byteV) _ (name_cells HZN.out BX0.out) Tryz.underlying28 rfl (by rw [name_size]; simp [H8N.out]) zn HZN.out ?_)
    | (refine (C.out _ V0.out).mono ?_; rintro e w1 ⟨rfl, hu1⟩; have U1 := Lib.hid hu1; clear hu1))
  go_ret
  exact ⟨rfl, V0.out.trans U1.out (fun _ _ f => f)⟩
end
end Go.Proofs.YtengcmfdfmnacaaGreat
