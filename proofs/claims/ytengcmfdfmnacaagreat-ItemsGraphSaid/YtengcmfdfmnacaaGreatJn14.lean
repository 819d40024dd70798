/- state.ValidateGenesis, whole. No condition. state.Genesis of a valid genesis. No condition. items.Sorted: the keys of a set, ascending. Conditions: sizes. Rows of names within a block: stores in the middle, clear, slices that own what they read. No condition. slices.Compact of names. Conditions: sizes. -/
import Derived.Test.YtengcmfdfmnacaaGreatJn13
import Derived.Test.YtengcmfdfmnacaaGreatJn10
import Derived.Test.YtengcmfdfmnacaaGreatJn11
import Derived.Test.YtengcmfdfmnacaaGreatJn12
import Derived.Test.YtengcmfdfmnacaaGreatJn8
import Derived.Test.YtengcmfdfmnacaaGreatJn1
namespace Go.Proofs.YtengcmfdfmnacaaGreat
section
open Go.RowKit

set_option maxRecDepth 100000 in
set_option maxHeartbeats 8000000 in
theorem vgen_loop {w : World} {A B C : Option Addr} {a b c : Nat} {n s : Int} {v m q : Nat} {l : List Int} (f1 : 1 ≤ n) (f2 : n ≤ 7) (f3 : 1 ≤ v) (f4 : v ≤ 10) (f5 : n ≤ (v : Int)) (f6 : 1 ≤ m) (f7 : m ≤ 16) (f8 : q = m) (f9 : amtB s = true) (hl : l.length = q) (hr : InR w (.slice C q c) l) : Calls Tryz.prog 58 #[.agg #[.int .i64 n, .int .i64 s, .slice A v a, .slice B m b, .slice C q c]] w fun e w' => e = .returned (.int .i64 (if l.all amtB then 0 else 1)) ∧ Upd NoF w w' := by
  have t1 : decide (n < 1) = false := by simp; omega
  have t2 : decide (7 < n) = false := by simp; omega
  have t3 : decide ((v : Int) < 1) = false := by simp; omega
  have t3' : decide (v < 1) = false := by simp; omega
  have t3'' : ¬ v = 0 := by omega
  have t4 : decide ((10 : Int) < (v : Int)) = false := by simp; omega
  have t4' : decide (10 < v) = false := by simp; omega
  have t5 : decide ((v : Int) < n) = false := by simp; omega
  have t6 : decide ((m : Int) < 1) = false := by simp; omega
  have t6' : decide (m < 1) = false := by simp; omega
  have t6'' : ¬ m = 0 := by omega
  have t7 : decide ((16 : Int) < (m : Int)) = false := by simp; omega
  have t7' : decide (16 < m) = false := by simp; omega
  subst f8
  have CA := Lib.hid (fun W => stAmount_any s W)
  rw [f9] at CA
  have HL := Lib.hid hl
  have HR := Lib.hid hr
  have HQ := Lib.hid f7
  obtain ⟨R, hR⟩ : ∃ R : Int, R = (if l.all amtB then 0 else 1) := ⟨_, rfl⟩
  have HRE := Lib.hid hR
  rw [← hR]
  clear hR
  have HU := Lib.hid ((Upd.refl NoF w).alloc (.cells #[.int .i64 n, .int .i64 s, .slice A v a, .slice B q b, .slice C q c] 25))
  clear f1 f2 f3 f4 f5 f6 f7 f9 hl hr
  go_enter Tryz.func58, Tryz.ntmps58
  go_wp2
  go_quiet (fail)
  go_wp2_with (refine (CA.out _).mono ?_; rintro e w5 ⟨rfl, rfl⟩)
  clear t1 t2 t3 t3' t3'' t4 t4' t5 t6 t6' t6'' t7 t7'
  have hq16 := HQ.out
  go_loopg [59] q (fun kx s59 wr => ∃ k : Nat, s59 = .int .i64 (k : Int) ∧ k ≤ q ∧ q - k ≤ kx ∧ Hid (∀ (j : Nat) z, j < k → l[j]? = some z → amtB z = true) ∧ Hid (Upd NoF w wr))
  case atStart => exact ⟨0, rfl, by omega, by omega, Lib.hid (fun j z hj => by omega), Lib.hid (HU.out.drewN _)⟩
  case round =>
    obtain ⟨k, rfl, hkq, hkx, HF, HW⟩ := hrel
    by_cases hlt : k < q
    · have hltz : (k : Int) < (q : Int) := by omega
      obtain ⟨z, hz⟩ : ∃ z, l[k]? = some z := ⟨_, List.getElem?_eq_getElem (by have := HL.out; omega)⟩
      obtain ⟨g, o, rfl, c0⟩ := (HR.out.keep HW.out).at_ hz
      have CZ := Lib.hid (fun W => stAmount_any z W)
      have HZ := Lib.hid hz
      have e1 : ((k : Int)).toNat = k := by omega
      clear hz
      cases hb : amtB z with
      | true =>
        have HB := Lib.hid hb
        rw [hb] at CZ
        clear hb
        go_wp2_with (refine (CZ.out _).mono ?_; rintro e w5 ⟨rfl, rfl⟩)
        go_roundg (q - (k + 1))
        case measure => omega
        case rel => exact ⟨k + 1, by first | rfl | go_num, by omega, by omega, Lib.hid (fun j y hj hy => by
          rcases Nat.lt_or_ge j k with h1 | h1
          · exact HF.out j y h1 hy
          · rw [show j = k by omega, HZ.out] at hy; cases hy; exact HB.out), HW⟩
      | false =>
        have HB := Lib.hid hb
        rw [hb] at CZ
        clear hb
        go_wp2_with (refine (CZ.out _).mono ?_; rintro e w5 ⟨rfl, rfl⟩)
        go_ret
        have : l.all amtB = false := by
          rw [List.all_eq_false]
          exact ⟨z, List.mem_of_getElem? HZ.out, by rw [HB.out]; decide⟩
        exact ⟨congrArg (fun z => Ending.returned (.int .i64 z)) (show (1 : Int) = R by rw [HRE.out, this]; rfl), HW.out⟩
    · have hltz : ¬ (k : Int) < (q : Int) := by omega
      go_wp2
      go_ret
      have : l.all amtB = true := by
        rw [List.all_eq_true]
        intro z hz
        obtain ⟨i, hi⟩ := List.getElem?_of_mem hz
        exact HF.out i z (by have := (List.getElem?_eq_some_iff.1 hi).1; have := HL.out; omega) hi
      exact ⟨congrArg (fun z => Ending.returned (.int .i64 z)) (show (0 : Int) = R by rw [HRE.out, this]; rfl), HW.out⟩

theorem stValidateGenesis_any {w : World} {A B C : Option Addr} {a b c : Nat} {g : GenS} (h : GenR w A B C a b c g) : Calls Tryz.prog 58 #[genV A B C a b c g] w fun e w' => e = .returned (.int .i64 (if validG g then 0 else 1)) ∧ Upd NoF w w' := by
  have no : ∀ {P : Prop}, validG g = false → (Calls Tryz.prog 58 #[genV A B C a b c g] w fun e w' => e = .returned (.int .i64 1) ∧ Upd NoF w w') → Calls Tryz.prog 58 #[genV A B C a b c g] w fun e w' => e = .returned (.int .i64 (if validG g then 0 else 1)) ∧ Upd NoF w w' := fun hv hc => by rw [hv]; exact hc
  have nv : ∀ {p : Prop} [Decidable p], ¬ p → (validG g = true → p) → validG g = false := fun hp hi => by
    cases hv : validG g with
    | false => rfl
    | true => exact absurd (hi hv) hp
  have hval : validG g = true ↔ 1 ≤ g.n ∧ g.n ≤ 7 ∧ 1 ≤ g.vals.length ∧ g.vals.length ≤ 10 ∧ g.n ≤ g.vals.length ∧ 1 ≤ g.accs.length ∧ g.accs.length ≤ 16 ∧ g.bals.length = g.accs.length ∧ amtB g.stake = true ∧ g.bals.all amtB = true := by
    unfold validG
    simp only [Bool.and_eq_true, decide_eq_true_eq, and_assoc]
  by_cases f1 : 1 ≤ g.n
  · by_cases f2 : g.n ≤ 7
    · by_cases f3 : 1 ≤ g.vals.length
      · by_cases f4 : g.vals.length ≤ 10
        · by_cases f5 : g.n ≤ (g.vals.length : Int)
          · by_cases f6 : 1 ≤ g.accs.length
            · by_cases f7 : g.accs.length ≤ 16
              · by_cases f8 : g.bals.length = g.accs.length
                · cases f9 : amtB g.stake with
                  | true =>
                    have hl := vgen_loop (s := g.stake) (A := A) (B := B) (a := a) (b := b) f1 f2 f3 f4 f5 f6 f7 f8 f9 rfl h.bals
                    have e : validG g = g.bals.all amtB := by
                      cases hb : g.bals.all amtB with
                      | true => exact hval.2 ⟨f1, f2, f3, f4, f5, f6, f7, f8, f9, hb⟩
                      | false => exact nv (p := g.bals.all amtB = true) (by rw [hb]; decide) (fun x => (hval.1 x).2.2.2.2.2.2.2.2.2)
                    rw [e]
                    exact hl
                  | false => exact no (P := True) (nv (p := amtB g.stake = true) (by rw [f9]; decide) (fun x => (hval.1 x).2.2.2.2.2.2.2.2.1)) (vgen_9 f1 f2 f3 f4 f5 f6 f7 f8 f9)
                · exact no (P := True) (nv f8 (fun x => (hval.1 x).2.2.2.2.2.2.2.1)) (vgen_8 f1 f2 f3 f4 f5 f6 f7 f8)
              · exact no (P := True) (nv f7 (fun x => (hval.1 x).2.2.2.2.2.2.1)) (vgen_7 f1 f2 f3 f4 f5 f6 (by omega))
            · exact no (P := True) (nv f6 (fun x => (hval.1 x).2.2.2.2.2.1)) (vgen_6 f1 f2 f3 f4 f5 (by omega))
          · exact no (P := True) (nv f5 (fun x => (hval.1 x).2.2.2.2.1)) (vgen_5 f1 f2 f3 f4 (by omega))
        · exact no (P := True) (nv f4 (fun x => (hval.1 x).2.2.2.1)) (vgen_4 f1 f2 f3 (by omega))
      · exact no (P := True) (nv f3 (fun x => (hval.1 x).2.2.1)) (vgen_3 f1 f2 (by omega))
    · exact no (P := True) (nv f2 (fun x => (hval.1 x).2.1)) (vgen_2 f1 (by omega))
  · exact no (P := True) (nv f1 (fun x => (hval.1 x).1)) (vgen_1 (by omega))
end

section
open Go.RowKit

theorem wpList_bsRow {ops : Array Oper} {rest : List Oper} {o : Oper} {a : Act} {w : World} {Q : Exit → Act → World → Prop} (hgd : o.guard = none) (ty e : TypeId) (x : Operand) (ho : o.op = .buildSlice ty 1 #[(0, x)]) (v : Value) (hx : a.eval x = v) (cells : Array Value) (hr : (Instr.buildSlice ty 1 #[(0, v)]).run Tryz.prog w = .ok (.slice (some ⟨w.heap.size, 0, none⟩) 1 1) (w.alloc (.cells cells e)))
    (hk : ∀ w', Blk w' w.heap.size e cells → Upd NoF w w' → w'.heap.size = w.heap.size + 1 → wpList Tryz.prog ops Q rest (a.put o.dst (.slice (some ⟨w.heap.size, 0, none⟩) 1 1)) w') : wpList Tryz.prog ops Q (o :: rest) a w :=
  wpList_od (post := fun v w' => wpList Tryz.prog ops Q rest (a.put o.dst v) w') hgd (od_buildSlice_row9 ty e x ho v hx cells hr (hk _ (Blk.new w _ _) ((Upd.refl NoF w).alloc _) (by simp))) (fun _ _ h => h)
theorem genD_len (g : GenS) : (genD g).length = g.bals.length + g.vals.length := by simp [genD, balD, stkD]
theorem genD_bal {g : GenS} {k : Nat} {z : Int} (h : g.bals[k]? = some z) : (genD g)[k]? = some ⟨1, (k : Int), nm0, z⟩ := by
  have hlt := (List.getElem?_eq_some_iff.1 h).1
  unfold genD
  rw [List.getElem?_append_left (by simp [balD]; exact hlt)]
  simp [balD, List.getElem?_map, List.getElem?_range hlt, h]
theorem genD_stk {g : GenS} {j : Nat} (h : j < g.vals.length) : (genD g)[g.bals.length + j]? = some ⟨3, (j : Int), nm0, g.stake⟩ := by
  unfold genD
  rw [List.getElem?_append_right (by simp [balD])]
  simp [balD, stkD, List.getElem?_map, List.getElem?_range h]
theorem genD_fit {g : GenS} (hs : In64 g.stake) (hb : ∀ z ∈ g.bals, In64 z) (h1 : g.bals.length ≤ 1000000) (h2 : g.vals.length ≤ 1000000) : ∀ d ∈ genD g, d.Fit := by
  intro d hd
  unfold genD at hd
  rcases List.mem_append.1 hd with h | h
  · unfold balD at h
    obtain ⟨i, hi, rfl⟩ := List.mem_map.1 h
    have hi := List.mem_range.1 hi
    refine ⟨by unfold In64; dsimp only; omega, by unfold In64; dsimp only; omega, rfl, ?_⟩
    show In64 (g.bals.getD i 0)
    rw [List.getD_eq_getElem?_getD, List.getElem?_eq_getElem hi]
    exact hb _ (List.getElem_mem hi)
  · unfold stkD at h
    obtain ⟨i, hi, rfl⟩ := List.mem_map.1 h
    have hi := List.mem_range.1 hi
    exact ⟨by unfold In64; dsimp only; omega, by unfold In64; dsimp only; omega, rfl, hs⟩
def genRows (g : GenS) (k : Nat) : List Value := (((genD g).take k).map rowD).flatten
theorem genRows_next {g : GenS} {k : Nat} {d : DelS} (h : (genD g)[k]? = some d) : genRows g (k + 1) = genRows g k ++ rowD d := by
  unfold genRows
  exact take_map_snoc rowD h
theorem NwA.nil (S0 : Nat) (e : TypeId) (size : Nat) (w : World) : NwA S0 e size 0 [] none 0 w := ⟨Own.nil _ _ _, fun k hk => by simp [OwnB, Value.ownBlock] at hk⟩
theorem NwA.app {S0 : Nat} {e : TypeId} {size n : Nat} {xs ys : List Value} {A A' : Option Addr} {c c' : Nat} {wr w5 w6 : World} (h : NwA S0 e size n xs A c wr) (hu0 : Upd NoF wr w5) (hS : S0 ≤ wr.heap.size) (ho : Own w6 e size (.slice A' (n + 1) c') (n + 1) (xs ++ ys)) (hu : Upd (OwnB (.slice A n c)) w5 w6) (hn : ∀ k, OwnB (.slice A' (n + 1) c') k → OwnB (.slice A n c) k ∨ w5.heap.size ≤ k) : NwA S0 e size (n + 1) (xs ++ ys) A' c' w6 ∧ ∀ {w : World}, w.heap.size ≤ S0 → Upd NoF w wr → Upd NoF w w6 := by
  have h5 := hu0.size
  refine ⟨⟨ho, fun k hk => ?_⟩, fun hw hu1 => (hu1.trans hu0 (fun _ _ f => f)).trans hu (fun k hk f => by have := h.2 k f; omega)⟩
  rcases hn k hk with f | f
  · exact h.2 k f
  · omega
end

section
open Go.RowKit Go.Shelf Go.Lib

/-- A list of names as cells. -/
def rowsN (l : List (List UInt8)) : List Value := (l.map (·.map byteV)).flatten
theorem rowsN_snoc (l : List (List UInt8)) (n : List UInt8) : rowsN (l ++ [n]) = rowsN l ++ n.map byteV := by simp [rowsN]
theorem rowsN_append (l m : List (List UInt8)) : rowsN (l ++ m) = rowsN l ++ rowsN m := by simp [rowsN]
theorem rowsN_one (l : List (List UInt8)) : ∀ u ∈ rowsN l, u.oneCell' = true := by
  intro u hu
  obtain ⟨r, hr, hu⟩ := List.mem_flatten.1 hu
  obtain ⟨n, -, rfl⟩ := List.mem_map.1 hr
  exact name_ones n u hu
/-- A set of names in memory: nil, or a map. -/
def SetV (w : World) (v : Value) (l : List (List UInt8)) : Prop := (v = .map none ∧ l = []) ∨ ∃ r, v = .map (some r) ∧ MapN w r (l.map fun n => (n, Value.bool true))
theorem SetV.keep {w w' : World} {v : Value} {l : List (List UInt8)} (h : SetV w v l) (hu : Upd NoF w w') : SetV w' v l := by
  rcases h with h | ⟨r, h1, h2⟩
  · exact .inl h
  · exact .inr ⟨r, h1, h2.keep hu⟩
/-- New names, ascending. -/
def AscPost (w : World) (l : List (List UInt8)) (e : Ending) (w' : World) : Prop := ∃ A c, e = .returned (.slice A l.length c) ∧ NwA w.heap.size 28 8 l.length (rowsN l) A c w' ∧ Upd NoF w w'
set_option maxRecDepth 100000 in
set_option maxHeartbeats 8000000 in
theorem Sorted_nil (w : World) : Calls Tryz.prog 44 #[.map none] w (AscPost w []) := by
  have HS := Lib.hid (fun W => SortNames_any (w := W) (A := none) (c := 0) (n := 0) (l := []) (by intro n hn; cases hn) rfl (Own.nil _ _ _) (by omega))
  have HI := Lib.hid (heap_alloc_new w (.mapIter none 0 #[] 0))
  have HU := Lib.hid ((Upd.refl NoF w).alloc (.mapIter none 0 #[] 0))
  go_enter Tryz.func44, Tryz.ntmps44
  go_wp2_with (refine wl_range_nil rfl 86 _ _ (.tmp 5) rfl rfl Tryz.underlying86 ?_)
  go_frame
  go_loopg [3] 0 (fun kx s3 wr => s3 = .slice none 0 0 ∧ Hid (wr = w.alloc (.mapIter none 0 #[] 0)))
  case atStart => exact ⟨rfl, Lib.hid rfl⟩
  case round =>
    obtain ⟨rfl, HW⟩ := hrel
    obtain rfl := HW.out
    go_wp2_with (first
      | (refine wl_next_nil rfl (.tmp 6) rfl w.heap.size rfl HI.out ?_)
      | (refine (HS.out _).mono ?_; rintro e w2 ⟨rfl, m, hp, -, ho, hu⟩; have HP := Lib.hid hp; have HO := Lib.hid ho; have HU2 := Lib.hid hu; clear hp ho hu))
    go_ret
    have hm : ([] : List (List UInt8)) = [] := rfl
    exact ⟨none, 0, rfl, ⟨Own.nil _ _ _, fun k hk => by simp [OwnB, Value.ownBlock] at hk⟩, HU.out.trans HU2.out (fun k hk f => by simp [OwnB, Value.ownBlock] at f)⟩
set_option maxRecDepth 100000 in
set_option maxHeartbeats 8000000 in
theorem Sorted_map {w : World} {r : Nat} {l : List (List UInt8 × Value)} (h : MapN w r l) (hm : l.length ≤ 1000000) : Calls Tryz.prog 44 #[.map (some r)] w (AscPost w (ascSet (l.map (·.1)))) := by
  obtain ⟨i0, hi0, hz0, hz1, hz2⟩ := info_parts name_info
  have H := Lib.hid h
  have HM := Lib.hid hm
  have HRL := Lib.hid h.lt
  have H8 := Lib.hid (show All8 (l.map (·.1)) from fun n hn => by obtain ⟨p, hp, rfl⟩ := List.mem_map.1 hn; exact h.k8 p hp)
  have HND := Lib.hid h.nd
  have HBS := Lib.hid (fun (n : List UInt8) (hn : n.length = 8) (za : Array Value) (hz : (n.map byteV).toArray = za) w => bs_name hn hz w)
  clear h hm
  go_enter Tryz.func44, Tryz.ntmps44
  go_wp2_with (refine wl_range rfl 86 _ (.tmp 5) rfl rfl H.out Tryz.underlying86 ?_; intro w1 hr1 hu1 hs1; have R1 := Lib.hid hr1; have U1 := Lib.hid hu1; have S1 := Lib.hid hs1; clear hr1 hu1 hs1)
  obtain ⟨X, hX⟩ : ∃ x, w.heap.size = x := ⟨_, rfl⟩
  rw [hX] at R1 S1 ⊢
  have HX := Lib.hid hX
  clear hX
  go_frame
  go_loopg [3] l.length (fun kx s3 wr => ∃ (got : List (List UInt8)) (left : List (List UInt8 × Value)) (A : Option Addr) (c m : Nat), s3 = .slice A m c ∧ left.length ≤ kx ∧ Hid (got.length = m) ∧ Hid (NwA (X + 1) 28 8 m (rowsN got) A c wr) ∧ Hid (RngN wr r X l left) ∧ Hid ((got ++ left.map (·.1)).Perm (l.map (·.1))) ∧ Hid (Upd NoF w wr))
  case atStart => exact ⟨[], l, none, 0, 0, rfl, Nat.le_refl _, Lib.hid rfl, Lib.hid ⟨Own.nil _ _ _, fun k hk => by simp [OwnB, Value.ownBlock] at hk⟩, R1, Lib.hid (by simp), U1⟩
  case round =>
    clear R1 U1
    obtain ⟨got, left, A, c, m, rfl, hkx, HG, HN, HR, HP, HU⟩ := hrel
    have HG8 := Lib.hid (show All8 got from fun n hn => H8.out n (HP.out.mem_iff.1 (List.mem_append_left _ hn)))
    have HML := Lib.hid (show m + left.length = l.length from by have := HP.out.length_eq; rw [List.length_append, List.length_map, List.length_map] at this; have := HG.out; omega)
    have HSN := Lib.hid (fun W (h : Own W 28 8 (.slice A m c) m ((got.map (·.map byteV)).flatten)) => SortNames_any (w := W) HG8.out HG.out h (by have := HML.out; have := HM.out; omega))
    have HB1 := Lib.hid (show m + 1 ≤ maxLen ∧ (m + 1) * 8 ≤ 140737488355328 from by have := HML.out; have := HM.out; unfold maxLen; omega)
    go_wp2_with (first
      | (refine wl_next rfl (.tmp 6) rfl rfl HR.out (fun hl0 => ?_) (fun p left' w3 hp3 hr3 hu3 hs3 hen => ?_))
      | (refine (HSN.out wr HN.out.1).mono ?_; rintro e w2 ⟨rfl, q, hp, hsrt, ho, hu⟩; have HQ := Lib.hid hp; have HS := Lib.hid hsrt; have HO := Lib.hid ho; have HU2 := Lib.hid hu; clear hp hsrt ho hu)
      | (obtain ⟨nb, hnb⟩ : ∃ y, (p.1.map byteV).toArray = y := ⟨_, rfl⟩; have HNB := Lib.hid hnb; refine wl_entry rfl (.tmp 6) rfl rfl (v := .tuple #[.agg nb, p.2]) (by rw [← hnb]; exact hen) ?_; have HP3 := Lib.hid hp3; have HR3 := Lib.hid hr3; have HU3 := Lib.hid hu3; have HP8 := Lib.hid (show p.1.length = 8 from H8.out _ (HP.out.mem_iff.1 (List.mem_append_right _ (List.mem_map.2 ⟨p, hp3.mem_iff.2 List.mem_cons_self, rfl⟩)))); have HS3 := Lib.hid hs3; clear hp3 hr3 hu3 hs3 hen hnb)
      | (refine wpList_alloc_row rfl 28 rfl zN name_alloc ?_; intro w4 hb4 hu4 hs4; have B4 := Lib.hid hb4; have U4 := Lib.hid hu4; clear hb4 hu4 hs4)
      | (refine wpList_store_row rfl 28 (.tmp 4) (.tmp 10) rfl _ rfl nb rfl 28 _ B4.out (by rw [(name_arr HP8.out HNB.out).1]; exact zN_size) (by rw [name_size, (name_arr HP8.out HNB.out).1]) (name_arr HP8.out HNB.out).2 ?_; intro w5 hb5 hu5 hs5; have B5 := Lib.hid hb5; have U5 := Lib.hid (U4.out.trans hu5 (F := NoF) (fun j hj e => by have e : j = w3.heap.size := e; omega)); clear hb5 hu5 hs5)
      | (refine wl_load rfl 28 (.tmp 4) rfl _ _ rfl (p.1.map byteV) _ (name_cells HNB.out B5.out) Tryz.underlying28 rfl (by rw [name_size]; simp [HP8.out]) nb HNB.out ?_)
      | (refine wpList_bsRow rfl 22 28 (.tmp 12) rfl (.agg nb) (by rfl) nb (HBS.out _ HP8.out _ HNB.out _) ?_; intro w6 hb6 hu6 hs6; have B6 := Lib.hid hb6; have U6 := Lib.hid (U5.out.trans hu6 (fun _ _ f => f)); clear hb6 hu6 hs6)
      | (at_builtin; refine wpList_append_to _ rfl (.tmp 11) (.tmp 13) 22 rfl 28 i0 _ 8 8 Tryz.underlying22 hi0 hz0 hz1 hz2 (by kernel_rfl) _ m (rowsN got) rfl (((HN.out.1.upd HU3.out (fun k hk f => by have := HN.out.2 k hk; have f : k = X := f; omega)).upd U6.out (fun _ _ f => f))) _ 1 (p.1.map byteV) rfl (rd_name HP8.out HNB.out B6.out) (name_ones _) HB1.out.1 HB1.out.2 ?_; intro A7 c7 w7 hown hupd hnew; have O7 := Lib.hid hown; have D7 := Lib.hid hupd; have N7 := Lib.hid hnew; clear hown hupd hnew))
    · go_ret
      have e0 : q = ascSet (l.map (·.1)) := by
        have hp2 := HP.out
        rw [hl0] at hp2
        simp only [List.map_nil, List.append_nil] at hp2
        exact sorted_nodup H8.out (HQ.out.trans hp2) HND.out HS.out
      have hlen : (ascSet (l.map (·.1))).length = m := by rw [← e0, HQ.out.length_eq, HG.out]
      refine ⟨A, c, by rw [hlen]; rfl, ?_, ?_⟩
      · rw [hlen, ← e0]
        exact ⟨HO.out, fun k hk => by have := HN.out.2 k hk; have := HX.out; omega⟩
      · exact HU.out.trans HU2.out (fun k hk f => by have := HN.out.2 k f; have := HX.out; omega)
    · go_roundg left'.length
      case measure => have := HP3.out.length_eq; simp at this; omega
      case rel =>
        have h3 : Upd NoF w w3 := HU.out.trans HU3.out (fun k hk f => by have f : k = X := f; have := HX.out; omega)
        have h6 : Upd NoF w w6 := h3.trans U6.out (fun _ _ f => f)
        have hwr := HU.out.size
        have h36 := U6.out.size
        have hs3 := HS3.out
        refine ⟨got ++ [p.1], left', A7, c7, m + 1, rfl, Nat.le_refl _, Lib.hid (by simp [HG.out]), Lib.hid ⟨by rw [rowsN_snoc]; exact O7.out, fun k hk => ?_⟩, Lib.hid ((HR3.out.upd U6.out (fun f => f) (fun f => f)).upd D7.out (fun f => by have := HN.out.2 _ f; have := HRL.out; have := HX.out; omega) (fun f => by have := HN.out.2 _ f; omega)), Lib.hid ?_, Lib.hid (h6.trans D7.out (fun k hk f => by have := HN.out.2 k f; have := HX.out; omega))⟩
        · rcases N7.out k hk with f | f
          · exact HN.out.2 k f
          · have := HX.out
            have := HR.out.lt.2.1
            omega
        · have h1 := (HP3.out.map (·.1))
          rw [List.map_cons] at h1
          have h2 := (List.Perm.append_left got h1).symm.trans HP.out
          rw [List.append_assoc]
          exact h2
end

section
open Go.RowKit Go.Shelf Go.Lib

/-- Row i of a block is the name t. -/
def RowIn (cur : Array Value) (i : Nat) (t : List UInt8) : Prop := ∀ j v, (t.map byteV)[j]? = some v → cur[i * 8 + j]? = some v
/-- Row q has been written. -/
def RowSet (cur cur' : Array Value) (q : Nat) (cells : Array Value) : Prop := cur'.size = cur.size ∧ ∀ j, cur'[j]? = if q * 8 ≤ j ∧ j < q * 8 + cells.size then cells[j - q * 8]? else cur[j]?
theorem RowIn.range {w : World} {g i : Nat} {ty : TypeId} {cur : Array Value} {t : List UInt8} (h : RowIn cur i t) (hb : Blk w g ty cur) : w.rangeAt g (i * 8) (t.map byteV) := fun j v hj => by
  rw [hb.cell]
  exact h j v hj
theorem RowSet.same {cur cur' : Array Value} {q : Nat} {t : List UInt8} (h : RowSet cur cur' q (t.map byteV).toArray) : RowIn cur' q t := fun j v hj => by
  have hlt := (List.getElem?_eq_some_iff.1 hj).1
  rw [h.2, if_pos (by simp at hlt ⊢; omega), show q * 8 + j - q * 8 = j by omega, List.getElem?_toArray]
  exact hj
theorem RowSet.other {cur cur' : Array Value} {q i : Nat} {t s : List UInt8} (h : RowSet cur cur' q (t.map byteV).toArray) (ht : t.length = 8) (hs : s.length = 8) (hne : i ≠ q) (hi : RowIn cur i s) : RowIn cur' i s := fun j v hj => by
  have hlt := (List.getElem?_eq_some_iff.1 hj).1
  rw [h.2, if_neg (by simp at hlt ⊢; rcases Nat.lt_or_ge i q with h1 | h1 <;> omega)]
  exact hi j v hj
theorem own_rows {w : World} {g q c : Nat} {e : TypeId} {cur : Array Value} {m : List (List UInt8)} (hb : Blk w g e cur) (h8 : All8 m) (hq : m.length = q) (hr : ∀ (i : Nat) t, m[i]? = some t → RowIn cur i t) (hc : q ≤ c) (hm : c ≤ maxLen) (hs : c * 8 ≤ cur.size) : Own w e 8 (.slice (some ⟨g, 0, none⟩) q c) q ((m.map (·.map byteV)).flatten) := by
  have hl : ((m.map (·.map byteV)).flatten).length = q * 8 := by
    rw [List.length_flatten, List.map_map]
    have : (m.map (List.length ∘ fun x => x.map byteV)) = List.replicate q 8 := by
      rw [List.eq_replicate_iff]
      refine ⟨by simp [hq], fun b hb => ?_⟩
      obtain ⟨x, hx, rfl⟩ := List.mem_map.1 hb
      simp [h8 x hx]
    rw [this, List.sum_replicate_nat]
  refine ⟨hl, .inr ⟨g, c, cur, rfl, hb, hc, hm, hs, ?_⟩⟩
  apply List.ext_getElem?
  intro t
  rw [List.getElem?_take]
  by_cases ht : t < q * 8
  · rw [if_pos ht]
    have hi : t / 8 < m.length := by omega
    have hj : t % 8 < 8 := Nat.mod_lt _ (by omega)
    have hrow : (m.map (·.map byteV))[t / 8]? = some (m[t / 8].map byteV) := by rw [List.getElem?_map, List.getElem?_eq_getElem hi]; rfl
    have h1 := flatten_at (k := 8) (rows := m.map (·.map byteV)) (fun r hr => by obtain ⟨x, hx, rfl⟩ := List.mem_map.1 hr; simp [h8 x hx]) hrow hj
    rw [show t / 8 * 8 + t % 8 = t from by omega] at h1
    have hlen : (m[t / 8].map byteV).length = 8 := by simp [h8 _ (List.getElem_mem hi)]
    have h2 := hr (t / 8) _ (List.getElem?_eq_getElem hi) (t % 8) _ (List.getElem?_eq_getElem (by rw [hlen]; exact hj))
    rw [h1, Array.getElem?_toList, List.getElem?_eq_getElem (by rw [hlen]; exact hj)]
    rw [show t / 8 * 8 + t % 8 = t from by omega] at h2
    exact h2
  · rw [if_neg ht, List.getElem?_eq_none (by omega)]
set_option linter.unusedVariables false in
theorem rows_own {w : World} {g n c : Nat} {e : TypeId} {cur : Array Value} {l : List (List UInt8)} (h8 : All8 l) (hx : cur.toList.take (n * 8) = (l.map (·.map byteV)).flatten) {i : Nat} {t : List UInt8} (hi : l[i]? = some t) : RowIn cur i t := fun j v hj => by
  have h8t := h8 t (List.mem_of_getElem? hi)
  have hj8 : j < 8 := by have := (List.getElem?_eq_some_iff.1 hj).1; simpa [h8t] using this
  have h1 := flatten_at (k := 8) (rows := l.map (·.map byteV)) (i := i) (r := t.map byteV) (fun r hr => by obtain ⟨x, hx, rfl⟩ := List.mem_map.1 hr; simp [h8 x hx]) (by rw [List.getElem?_map, hi]; rfl) hj8
  rw [← hx, List.getElem?_take, hj] at h1
  split at h1
  · rw [← Array.getElem?_toList]; exact h1
  · cases h1
section
variable {P : Program} {ops : Array Oper} {rest : List Oper} {o : Oper} {a : Act} {w : World} {Q : Exit → Act → World → Prop} {post : Value → World → Prop}
/-- A row stored into the middle of a block. -/
theorem wl_storeAt (hw : Region.wanted o (yielded ops a.tmps) = true) (ty : TypeId) (x y : Operand) (ho : o.op = .store ty x y) (g q : Nat) (hx : a.eval x = .pointer (some ⟨g, q * 8, none⟩)) (cells : Array Value) (hy : a.eval y = .agg cells) (t : TypeId) (cur : Array Value) (hb : Blk w g t cur) (hs : q * 8 + cells.size ≤ cur.size) (hi : (P.info? ty).map (·.size) = some cells.size) (h1 : cells.all (·.oneCell') = true)
    (hk : ∀ w' cur', Blk w' g t cur' → RowSet cur cur' q cells → Upd (fun k => k = g) w w' → w'.heap.size = w.heap.size → wpList P ops Q rest (a.put o.dst undef) w') : wpList P ops Q (o :: rest) a w := by
  have hth := hb.there (o := q * 8) (n := cells.size) hs
  refine wl_skip hw (w' := w.setCells g (q * 8) cells.toList) ?_ ?_
  · unfold execOp
    simp only [ho, hx, hy, Instr.storeAt, Instr.sureAddr, Sem.run_bind, Sem.run_pure, Result.andThen_ok, run_storeVar_mid w g (q * 8) ty cells hth hi h1]
  · obtain ⟨cs', hb', hsz⟩ := hb.setCells (vs := cells.toList) (o := q * 8)
    refine hk _ cs' hb' ⟨hsz, fun j => ?_⟩ ((Upd.refl (fun k => k = g) w).setCells (g := g) _ _ (.inl rfl)) (heap_setCells _ _ _)
    rw [← hb'.cell j]
    by_cases hj : q * 8 ≤ j ∧ j < q * 8 + cells.size
    · rw [if_pos hj]
      have := World.cell?_setCells_in g cells.toList (q * 8) w (fun j hj => (hb.there (o := q * 8) (n := cells.toList.length) (by simpa using hs) j hj).1) (j - q * 8) (by simp; omega)
      rw [show q * 8 + (j - q * 8) = j by omega] at this
      rw [this]
      simp only [Array.getElem_toList]
      rw [Array.getElem?_eq_getElem (show j - q * 8 < cells.size by omega)]
    · rw [if_neg hj, ← hb.cell j]
      exact World.cell?_setCells_out g _ _ _ _ (fun _ => by simp only [Array.length_toList]; omega)
end
/-- 'clear' of the rows from q on. -/
theorem run_clearN {w : World} {g q n : Nat} (hn : 0 < n) {cur : Array Value} (hb : Blk w g 28 cur) (hs : q * 8 + n * 8 ≤ cur.size) : ∃ w' cur', (∀ ty c, (Builtin.clear_ #[22] ty #[.slice (some ⟨g, q * 8, none⟩) n c]).run Tryz.prog w = .ok (.tuple #[]) w') ∧ Blk w' g 28 cur' ∧ cur'.size = cur.size ∧ (∀ j, j < q * 8 → cur'[j]? = cur[j]?) ∧ Upd (fun k => k = g) w w' := by
  obtain ⟨z, hz, hz8, hzo⟩ : ∃ z : Value, (∀ w, (zeroValue 28).run Tryz.prog w = .ok z w) ∧ z.cells.size = 8 ∧ ∀ v ∈ z.cells, v.oneCell' = true := ⟨nameV (List.replicate 8 0), fun w => by kernel_rfl, rfl, fun v hv => by
    have : v ∈ (List.replicate 8 (0 : UInt8)).map byteV := by simpa [Value.cells] using hv
    obtain ⟨b, -, rfl⟩ := List.mem_map.1 this
    rfl⟩
  obtain ⟨L, hL⟩ : ∃ L, L = (Builtin.zeroCells z.cells n).toList := ⟨_, rfl⟩
  have hLl : L.length = n * 8 := by rw [hL]; simp [Builtin.zeroCells, hz8]
  have hLo : ∀ v ∈ L, v.oneCell' = true := by
    intro v hv
    rw [hL] at hv
    unfold Builtin.zeroCells at hv
    have hv := Array.mem_toList_iff.1 hv
    obtain ⟨i, hi, rfl⟩ := Array.mem_iff_getElem.1 hv
    simp only [Array.getElem_map, Array.getElem_range]
    apply hzo
    rw [getElem!_pos z.cells (i % z.cells.size) (Nat.mod_lt _ (by omega))]
    exact Array.getElem_mem _
  have hst := run_storeCells_at Tryz.prog g (q * 8) 28 L 0 cur w hb (by rw [hLl]; simpa using hs) hLo
  simp only [Nat.add_zero] at hst
  obtain ⟨CC, hCC⟩ : ∃ x, x = (cur.toList.take (q * 8) ++ L ++ cur.toList.drop (q * 8 + L.length)).toArray := ⟨_, rfl⟩
  rw [← hCC] at hst
  refine ⟨w.setRow g CC, CC, fun ty c => ?_, hb.row _, ?_, fun j hj => ?_, (Upd.refl (fun k => k = g) w).setRow (.inl rfl) _⟩
  · obtain ⟨m, rfl⟩ : ∃ m, n = m + 1 := ⟨n - 1, by omega⟩
    simp [Builtin.clear_, run_underlying Tryz.underlying22, hz, ← hL, hst]
  · rw [hCC]; simp [hLl]; omega
  · rw [hCC, List.getElem?_toArray, List.append_assoc, List.getElem?_append_left (by simp; omega), List.getElem?_take, if_pos hj]
    simp
end

section
open Go.RowKit Go.Shelf Go.Lib

theorem neq_name' {a b : List UInt8} (ha : a.length = 8) (hb : b.length = 8) (w : World) : (binOp .neq 28 (nameV a) (nameV b)).run Tryz.prog w = .ok (.bool (!(decide (a = b)))) w := by
  rw [name_neq a b ha hb, show (a == b) = decide (a = b) from by by_cases h : a = b <;> simp [h]]
/-- The block while it is compacted: the first rows hold what was kept, the rows from p on are as they were. -/
structure CpN (l : List (List UInt8)) (size p q : Nat) (cur : Array Value) : Prop where
  size : cur.size = size
  len : (compL (l.take (p + 1))).length = q
  le : q ≤ p
  cells : ∀ (i : Nat) t, (compL (l.take (p + 1)))[i]? = some t → RowIn cur i t
  rest : ∀ (i : Nat) t, p ≤ i → l[i]? = some t → RowIn cur i t
section
variable {l : List (List UInt8)} {size p q : Nat} {cur cur' : Array Value} {s t : List UInt8}
theorem comp_mem {m : List (List UInt8)} {x : List UInt8} (h : x ∈ compL m) : x ∈ m := by rw [← compN_eq] at h; exact (mem_compN x m).1 h
theorem CpN.skip (h : CpN l size p q cur) (h1 : l[p]? = some s) (h2 : l[p + 1]? = some t) (he : s = t) : CpN l size (p + 1) q cur := by
  have e : compL (l.take (p + 1 + 1)) = compL (l.take (p + 1)) := by rw [comp_next h1 h2, if_pos he]
  exact ⟨h.size, by rw [e]; exact h.len, Nat.le_succ_of_le h.le, by rw [e]; exact h.cells, fun i x hi => h.rest i x (by omega)⟩
theorem CpN.keep (h : CpN l size p q cur) (h8 : All8 l) (h1 : l[p]? = some s) (h2 : l[p + 1]? = some t) (he : s ≠ t) (hr : RowSet cur cur' q (t.map byteV).toArray) : CpN l size (p + 1) (q + 1) cur' := by
  have e : compL (l.take (p + 1 + 1)) = compL (l.take (p + 1)) ++ [t] := by rw [comp_next h1 h2, if_neg he]
  have h8t := h8 t (List.mem_of_getElem? h2)
  have hq := h.le
  have hln := h.len
  refine ⟨hr.1.trans h.size, by rw [e]; simp [hln], by omega, fun i x hx => ?_, fun i x hi hx => ?_⟩
  · rw [e] at hx
    rcases Nat.lt_or_ge i q with hlt' | hge
    · rw [List.getElem?_append_left (by omega)] at hx
      exact hr.other h8t (h8 x (List.mem_of_mem_take (comp_mem (List.mem_of_getElem? hx)))) (by omega) (h.cells i x hx)
    · rw [List.getElem?_append_right (by omega)] at hx
      have h0 : i - (compL (l.take (p + 1))).length = 0 := by have := (List.getElem?_eq_some_iff.1 hx).1; simp at this; omega
      rw [h0] at hx
      simp at hx
      subst hx
      have hi : i = q := by omega
      subst hi
      exact hr.same
  · exact hr.other h8t (h8 x (List.mem_of_getElem? hx)) (by omega) (h.rest i x (by omega) hx)
end
def Cn1Rel (w : World) (l : List (List UInt8)) (i : Value) (wr : World) : Prop := ∃ k : Nat, i = .int .i64 ((k : Int) + 1) ∧ k + 1 ≤ l.length ∧ compL (l.take (k + 1)) = l.take (k + 1) ∧ Upd NoF w wr
def Cn2Rel (w : World) (g : Nat) (l : List (List UInt8)) (size k0 : Nat) (x i : Value) (wr : World) : Prop :=
  ∃ (j q : Nat) (cur : Array Value), x = .int .i64 (q : Int) ∧ i = .int .i64 ((j : Int) + 1) ∧ k0 + j + 1 ≤ l.length ∧ CpN l size (k0 + j) q cur ∧ Blk wr g 28 cur ∧ Upd (fun k => k = g) w wr
set_option maxRecDepth 100000 in
set_option maxHeartbeats 16000000 in
theorem CompactNames_any {w : World} {A : Option Addr} {c n : Nat} {l : List (List UInt8)} (h8 : All8 l) (hl : l.length = n) (h : Own w 28 8 (.slice A n c) n ((l.map (·.map byteV)).flatten)) (hs : n ≤ 100000000) :
    Calls Tryz.prog 40 #[.slice A n c] w fun e w' => e = .returned (.slice A (compL l).length c) ∧ Own w' 28 8 (.slice A (compL l).length c) (compL l).length (((compL l).map (·.map byteV)).flatten) ∧ Upd (OwnB (.slice A n c)) w w' := by
  rcases Nat.lt_or_ge n 2 with h2 | h2
  · have HC := Lib.hid (comp_small (l := l) (by omega))
    have HH := Lib.hid h
    have HN := Lib.hid hl
    have t0 : decide ((n : Int) < 2) = true := by simp; omega
    have t0' : decide (n < 2) = true := by simp; omega
    rw [HC.out, hl]
    clear h8 h hl
    go_enter Tryz.func40, Tryz.ntmps40
    go_wp2
    go_ret
    exact ⟨rfl, HH.out, Upd.refl _ _⟩
  rcases h.2 with ⟨_, hz⟩ | ⟨g, cap, cur, hv, hb, hnc, hcm, hcs, hx⟩
  · omega
  injection hv with hA _ hc
  subst hA
  subst hc
  have HROW := Lib.hid (fun (i : Nat) (t : List UInt8) (hi : l[i]? = some t) => rows_own (w := w) (g := g) (c := c) (e := 28) h8 hx hi)
  have H8 := Lib.hid h8
  have HB := Lib.hid hb
  have HCS := Lib.hid hcs
  have HOW := Lib.hid h
  have hcm' : c ≤ 9223372036854775807 := hcm
  have HN := Lib.hid hl
  have t0 : decide ((n : Int) < 2) = false := by simp; omega
  have t0' : decide (n < 2) = false := by simp; omega
  clear h8 h hb hx hcs hl hcm
  go_enter Tryz.func40, Tryz.ntmps40
  go_wp2
  clear t0 t0'
  go_loopw [3] (fun i wr => Cn1Rel w l i wr) (fun i _ => n - (intOf i).toNat)
  case atStart => exact ⟨0, rfl, by have := HN.out; omega, comp_one l, Upd.refl _ _⟩
  case round =>
    obtain ⟨k, rfl, hk, hcp, hu⟩ := hrel
    have HCP := Lib.hid hcp
    have HU := Lib.hid hu
    have hnn := HN.out
    by_cases hlt : k + 1 < n
    · have t1 : decide ((k : Int) + 1 < (n : Int)) = true := by simp; omega
      obtain ⟨s, hsx⟩ : ∃ x, l[k]? = some x := ⟨_, List.getElem?_eq_getElem (by omega)⟩
      obtain ⟨t, htx⟩ : ∃ x, l[k + 1]? = some x := ⟨_, List.getElem?_eq_getElem (by omega)⟩
      have HSX := Lib.hid hsx
      have HTY := Lib.hid htx
      have H8S := Lib.hid (H8.out s (List.mem_of_getElem? hsx))
      have H8T := Lib.hid (H8.out t (List.mem_of_getElem? htx))
      obtain ⟨zs, hzs⟩ : ∃ x, (s.map byteV).toArray = x := ⟨_, rfl⟩
      obtain ⟨zt, hzt⟩ : ∃ x, (t.map byteV).toArray = x := ⟨_, rfl⟩
      have HZs := Lib.hid hzs
      have HZt := Lib.hid hzt
      have XS := Lib.hid (show ∀ wq, Upd NoF wr.drew wq → wq.rangeAt g (k * 8) (s.map byteV) from fun wq hq => (HROW.out k s hsx).range (hq.blk (Blk.drew (hu.blk HB.out (fun f => f))) (fun f => f)))
      have XT := Lib.hid (show ∀ wq, Upd NoF wr.drew wq → wq.rangeAt g ((k + 1) * 8) (t.map byteV) from fun wq hq => (HROW.out (k + 1) t htx).range (hq.blk (Blk.drew (hu.blk HB.out (fun f => f))) (fun f => f)))
      have HE := Lib.hid (show ∀ w, (binOp .eql 28 (.agg zt) (.agg zs)).run Tryz.prog w = .ok (.bool (decide (t = s))) w from fun w => by rw [← hzt, ← hzs]; exact eql_name' H8T.out H8S.out w)
      clear hsx htx hu hcp hnn hzs hzt
      go_wp2_with fail
      refine wp_region_rgw (rgR [isV (.slice (some ⟨g, 0, none⟩) n c), isV (.int .i64 ((k : Int) + 1)), isV (.pointer (some ⟨g, (k + 1) * 8, none⟩)), isV (.agg zt), isV (.slice (some ⟨g, 0, none⟩) n c), isV (.int .i64 ((k : Int) + 1)), isV (.int .i64 (k : Int)), isV (.pointer (some ⟨g, k * 8, none⟩)), isV (.agg zs), isV (.bool (decide (t = s)))]) (fun w w' => Upd NoF w w') (fun _ wq => Upd NoF wr.drew wq) (by kernel_rfl) (by kernel_rfl) (by kernel_rfl) (by rfl) (fun w => Upd.refl _ _) (rgR_keep (by
        intro p hp; simp only [List.mem_cons, List.not_mem_nil, or_false] at hp; rcases hp with rfl | rfl | rfl | rfl | rfl | rfl | rfl | rfl | rfl | rfl <;> first | exact stb_isV _ | exact stb_any)) (Upd.refl _ _) ?_ ?_
      · refine ⟨?_, ?_, ?_, ?_, ?_, ?_, ?_, ?_, ?_, ?_, trivial⟩
        · refine fun ρ w' L hW hLi hcl hd hdep hext hc hg hf => ?_
          rw [if_pos (show wantedR _ _ _ = true from rfl)]
          have e0 : ρ (.tmp 0) = .slice (some ⟨g, 0, none⟩) n c := hext 0 (by kernel_rfl)
          clear hdep hext hcl
          have HW := Lib.hid hW
          clear hW
          unfold OpDone
          go_simp
          exact ⟨rfl, Upd.refl _ _, HW.out⟩
        · refine fun ρ w' L hW hLi hcl hd hdep hext hc hg hf => ?_
          rw [if_pos (show wantedR _ _ _ = true from rfl)]
          have e3 : ρ (.tmp 3) = .int .i64 ((k : Int) + 1) := hext 3 (by kernel_rfl)
          clear hdep hext hcl
          have HW := Lib.hid hW
          clear hW
          unfold OpDone
          go_simp
          exact ⟨rfl, Upd.refl _ _, HW.out⟩
        · refine fun ρ w' L hW hLi hcl hd hdep hext hc hg hf => ?_
          rw [if_pos (show wantedR _ _ _ = true from rfl)]
          have e16 : ρ (.tmp 16) = .slice (some ⟨g, 0, none⟩) n c := hdep 0 _ rfl (by kernel_rfl)
          have e17 : ρ (.tmp 17) = .int .i64 ((k : Int) + 1) := hdep 1 _ rfl (by kernel_rfl)
          have q0 : (0 : Int) ≤ (k : Int) + 1 := by omega
          have q1 : (k : Int) + 1 < (n : Int) := by omega
          have q3 : ((k : Int) + 1).toNat = k + 1 := by omega
          have q2 : k + 1 < n := by omega
          clear hdep hext hcl
          have HW := Lib.hid hW
          clear hW
          unfold OpDone
          go_simp
          exact ⟨rfl, Upd.refl _ _, HW.out⟩
        · refine fun ρ w' L hW hLi hcl hd hdep hext hc hg hf => ?_
          rw [if_pos (show wantedR _ _ _ = true from rfl)]
          have e18 : ρ (.tmp 18) = .pointer (some ⟨g, (k + 1) * 8, none⟩) := hdep 2 _ rfl (by kernel_rfl)
          clear hdep hext
          refine od_load_row 28 (.tmp 18) rfl _ _ e18 (t.map byteV) _ (XT.out w' hW) Tryz.underlying28 rfl (by rw [name_size]; simp [H8T.out]) ?_
          rw [HZt.out]
          exact ⟨rfl, Upd.refl _ _, hW⟩
        · refine fun ρ w' L hW hLi hcl hd hdep hext hc hg hf => ?_
          rw [if_pos (show wantedR _ _ _ = true from rfl)]
          have e0 : ρ (.tmp 0) = .slice (some ⟨g, 0, none⟩) n c := hext 0 (by kernel_rfl)
          clear hdep hext hcl
          have HW := Lib.hid hW
          clear hW
          unfold OpDone
          go_simp
          exact ⟨rfl, Upd.refl _ _, HW.out⟩
        · refine fun ρ w' L hW hLi hcl hd hdep hext hc hg hf => ?_
          rw [if_pos (show wantedR _ _ _ = true from rfl)]
          have e3 : ρ (.tmp 3) = .int .i64 ((k : Int) + 1) := hext 3 (by kernel_rfl)
          clear hdep hext hcl
          have HW := Lib.hid hW
          clear hW
          unfold OpDone
          go_simp
          exact ⟨rfl, Upd.refl _ _, HW.out⟩
        · refine fun ρ w' L hW hLi hcl hd hdep hext hc hg hf => ?_
          rw [if_pos (show wantedR _ _ _ = true from rfl)]
          have e21 : ρ (.tmp 21) = .int .i64 ((k : Int) + 1) := hdep 5 _ rfl (by kernel_rfl)
          have ww : IntKind.i64.wrap (k : Int) = k := IntWalk.i64_in _ (by omega)
          clear hdep hext hcl
          have HW := Lib.hid hW
          clear hW
          unfold OpDone
          go_simp
          exact ⟨rfl, Upd.refl _ _, HW.out⟩
        · refine fun ρ w' L hW hLi hcl hd hdep hext hc hg hf => ?_
          rw [if_pos (show wantedR _ _ _ = true from rfl)]
          have e20 : ρ (.tmp 20) = .slice (some ⟨g, 0, none⟩) n c := hdep 4 _ rfl (by kernel_rfl)
          have e22 : ρ (.tmp 22) = .int .i64 (k : Int) := hdep 6 _ rfl (by kernel_rfl)
          have q0 : (0 : Int) ≤ (k : Int) := by omega
          have q1 : (k : Int) < (n : Int) := by omega
          have q2 : k < n := by omega
          clear hdep hext hcl
          have HW := Lib.hid hW
          clear hW
          unfold OpDone
          go_simp
          exact ⟨rfl, Upd.refl _ _, HW.out⟩
        · refine fun ρ w' L hW hLi hcl hd hdep hext hc hg hf => ?_
          rw [if_pos (show wantedR _ _ _ = true from rfl)]
          have e23 : ρ (.tmp 23) = .pointer (some ⟨g, k * 8, none⟩) := hdep 7 _ rfl (by kernel_rfl)
          clear hdep hext
          refine od_load_row 28 (.tmp 23) rfl _ _ e23 (s.map byteV) _ (XS.out w' hW) Tryz.underlying28 rfl (by rw [name_size]; simp [H8S.out]) ?_
          rw [HZs.out]
          exact ⟨rfl, Upd.refl _ _, hW⟩
        · refine fun ρ w' L hW hLi hcl hd hdep hext hc hg hf => ?_
          rw [if_pos (show wantedR _ _ _ = true from rfl)]
          have e19 : ρ (.tmp 19) = .agg zt := hdep 3 _ rfl (by kernel_rfl)
          have e24 : ρ (.tmp 24) = .agg zs := hdep 8 _ rfl (by kernel_rfl)
          clear hdep hext
          have hE : ∀ w, (binOp .eql 28 (.agg zt) (.agg zs)).run Tryz.prog w = .ok (.bool (decide (t = s))) w := fun w => HE.out w
          have HW := Lib.hid hW
          clear hW
          unfold OpDone
          go_simp
          exact ⟨rfl, Upd.refl _ _, HW.out⟩
      intro vs W8 L8 hL8 hW8 hR
      have hv0 : vs 0 = .slice (some ⟨g, 0, none⟩) n c := hR 0 _ rfl
      have hv1 : vs 1 = .int .i64 ((k : Int) + 1) := hR 1 _ rfl
      have hv2 : vs 2 = .pointer (some ⟨g, (k + 1) * 8, none⟩) := hR 2 _ rfl
      have hv3 : vs 3 = .agg zt := hR 3 _ rfl
      have hv4 : vs 4 = .slice (some ⟨g, 0, none⟩) n c := hR 4 _ rfl
      have hv5 : vs 5 = .int .i64 ((k : Int) + 1) := hR 5 _ rfl
      have hv6 : vs 6 = .int .i64 (k : Int) := hR 6 _ rfl
      have hv7 : vs 7 = .pointer (some ⟨g, k * 8, none⟩) := hR 7 _ rfl
      have hv8 : vs 8 = .agg zs := hR 8 _ rfl
      have hv9 : vs 9 = .bool (decide (t = s)) := hR 9 _ rfl
      simp only [putAll, Act.put, List.setIfInBounds_toArray, List.set_cons_zero, List.set_cons_succ, hv0, hv1, hv2, hv3, hv4, hv5, hv6, hv7, hv8, hv9]
      clear hR hv0 hv1 hv2 hv3 hv4 hv5 hv6 hv7 hv8 hv9
      have HU8 := Lib.hid (show Upd NoF w W8 from HU.out.trans (((Upd.refl NoF wr).drew).trans hW8 (fun _ _ f => f)) (fun _ _ f => f))
      clear hW8
      cases hst : decide (t = s) with
      | false =>
        have HNE := Lib.hid (show s ≠ t from fun e => by rw [e] at hst; simp at hst)
        clear hst
        go_wp2
        go_roundw
        case rel => exact ⟨k + 1, by go_num, by have := HN.out; omega, comp_two HSX.out HTY.out HNE.out HCP.out, HU8.out⟩
        case measure => simp [intOf]; omega
      | true =>
        have HEQ := Lib.hid (show s = t from (of_decide_eq_true hst).symm)
        clear hst
        obtain ⟨k0, hk0⟩ : ∃ x, x = k + 1 := ⟨_, rfl⟩
        have hk0i : (k : Int) + 1 = (k0 : Int) := by omega
        have hk0n : k0 < n := by omega
        have HK0 := Lib.hid hk0
        rw [hk0i]
        have z1 : (0 : Int) ≤ (k0 : Int) := by omega
        have z2 : (k0 : Int) ≤ (n : Int) := by omega
        have z3 : (k0 : Int) ≤ (c : Int) := by omega
        clear t1 hk0 hk0i hlt hk
        go_wp2
        obtain ⟨n2, hn2⟩ : ∃ x, n - k0 = x := ⟨_, rfl⟩
        obtain ⟨c2, hc2⟩ : ∃ x, c - k0 = x := ⟨_, rfl⟩
        rw [hn2, hc2]
        have hn2' : k0 + n2 = n := by omega
        have hc2' : k0 + c2 = c := by omega
        have HC0 := Lib.hid (show CpN l cur.size (k0 + 0) k0 cur from by
          have hq := HK0.out
          have e : compL (l.take (k + 1 + 1)) = l.take (k + 1) := by rw [comp_next HSX.out HTY.out, if_pos HEQ.out, HCP.out]
          subst hq
          refine ⟨rfl, ?_, Nat.le_refl _, fun i x hx => ?_, fun i x hi hx => HROW.out i x hx⟩
          · rw [Nat.add_zero, e, List.length_take]
            have := HN.out
            omega
          · rw [Nat.add_zero, e, List.getElem?_take] at hx
            split at hx
            · exact HROW.out i x hx
            · cases hx)
        clear hn2 hc2 z1 z2 z3
        obtain ⟨wo, rfl⟩ : ∃ wo : World, wo = wr := ⟨_, rfl⟩
        go_loopw [3, 5] (fun x i wr => Cn2Rel w g l cur.size k0 x i wr) (fun _ i _ => n2 - (intOf i).toNat)
        case atStart => exact ⟨0, k0, cur, rfl, rfl, by have := HN.out; omega, HC0.out, HU8.out.blk HB.out (fun f => f), HU8.out.mono (fun _ _ f => f.elim)⟩
        case round =>
          clear XS XT HE HSX HTY HEQ HCP HU HU8 HC0 H8S H8T HZs HZt
          obtain ⟨j, q, cu1, rfl, rfl, hj, hst, hb1, hu⟩ := hrel
          have HST := Lib.hid hst
          have HB1 := Lib.hid hb1
          have HU := Lib.hid hu
          have hnn := HN.out
          have hqj : q ≤ k0 + j := hst.le
          by_cases hlt : j + 1 < n2
          · have t1 : decide ((j : Int) + 1 < (n2 : Int)) = true := by simp; omega
            obtain ⟨s, hsx⟩ : ∃ x, l[k0 + j]? = some x := ⟨_, List.getElem?_eq_getElem (by omega)⟩
            obtain ⟨t, htx⟩ : ∃ x, l[k0 + j + 1]? = some x := ⟨_, List.getElem?_eq_getElem (by omega)⟩
            have HSX := Lib.hid hsx
            have HTY := Lib.hid htx
            have H8S := Lib.hid (H8.out s (List.mem_of_getElem? hsx))
            have H8T := Lib.hid (H8.out t (List.mem_of_getElem? htx))
            obtain ⟨zs, hzs⟩ : ∃ x, (s.map byteV).toArray = x := ⟨_, rfl⟩
            obtain ⟨zt, hzt⟩ : ∃ x, (t.map byteV).toArray = x := ⟨_, rfl⟩
            have HZs := Lib.hid hzs
            have HZt := Lib.hid hzt
            have XS := Lib.hid (show ∀ wq, Upd NoF wr.drew wq → wq.rangeAt g (k0 * 8 + j * 8) (s.map byteV) from fun wq hq => by rw [← Nat.add_mul]; exact (hst.rest _ s (Nat.le_refl _) hsx).range (hq.blk (Blk.drew hb1) (fun f => f)))
            have XT := Lib.hid (show ∀ wq, Upd NoF wr.drew wq → wq.rangeAt g (k0 * 8 + (j + 1) * 8) (t.map byteV) from fun wq hq => by rw [← Nat.add_mul]; exact (hst.rest _ t (by omega) htx).range (hq.blk (Blk.drew hb1) (fun f => f)))
            have HE := Lib.hid (show ∀ w, (binOp .neq 28 (.agg zt) (.agg zs)).run Tryz.prog w = .ok (.bool (!(decide (t = s)))) w from fun w => by rw [← hzt, ← hzs]; exact neq_name' H8T.out H8S.out w)
            clear hsx htx hu hst hb1 hnn hzs hzt
            go_wp2_with fail
            refine wp_region_rgw (rgR [isV (.slice (some ⟨g, k0 * 8, none⟩) n2 c2), isV (.int .i64 ((j : Int) + 1)), isV (.pointer (some ⟨g, k0 * 8 + (j + 1) * 8, none⟩)), isV (.agg zt), isV (.slice (some ⟨g, k0 * 8, none⟩) n2 c2), isV (.int .i64 ((j : Int) + 1)), isV (.int .i64 (j : Int)), isV (.pointer (some ⟨g, k0 * 8 + j * 8, none⟩)), isV (.agg zs), isV (.bool (!(decide (t = s))))]) (fun w w' => Upd NoF w w') (fun _ wq => Upd NoF wr.drew wq) (by kernel_rfl) (by kernel_rfl) (by kernel_rfl) (by rfl) (fun w => Upd.refl _ _) (rgR_keep (by
              intro p hp; simp only [List.mem_cons, List.not_mem_nil, or_false] at hp; rcases hp with rfl | rfl | rfl | rfl | rfl | rfl | rfl | rfl | rfl | rfl <;> first | exact stb_isV _ | exact stb_any)) (Upd.refl _ _) ?_ ?_
            · refine ⟨?_, ?_, ?_, ?_, ?_, ?_, ?_, ?_, ?_, ?_, trivial⟩
              · refine fun ρ w' L hW hLi hcl hd hdep hext hc hg hf => ?_
                rw [if_pos (show wantedR _ _ _ = true from rfl)]
                have e4 : ρ (.tmp 4) = .slice (some ⟨g, k0 * 8, none⟩) n2 c2 := hext 4 (by kernel_rfl)
                clear hdep hext hcl
                have HW := Lib.hid hW
                clear hW
                unfold OpDone
                go_simp
                exact ⟨rfl, Upd.refl _ _, HW.out⟩
              · refine fun ρ w' L hW hLi hcl hd hdep hext hc hg hf => ?_
                rw [if_pos (show wantedR _ _ _ = true from rfl)]
                have e5 : ρ (.tmp 5) = .int .i64 ((j : Int) + 1) := hext 5 (by kernel_rfl)
                clear hdep hext hcl
                have HW := Lib.hid hW
                clear hW
                unfold OpDone
                go_simp
                exact ⟨rfl, Upd.refl _ _, HW.out⟩
              · refine fun ρ w' L hW hLi hcl hd hdep hext hc hg hf => ?_
                rw [if_pos (show wantedR _ _ _ = true from rfl)]
                have e35 : ρ (.tmp 35) = .slice (some ⟨g, k0 * 8, none⟩) n2 c2 := hdep 0 _ rfl (by kernel_rfl)
                have e36 : ρ (.tmp 36) = .int .i64 ((j : Int) + 1) := hdep 1 _ rfl (by kernel_rfl)
                have q0 : (0 : Int) ≤ (j : Int) + 1 := by omega
                have q1 : (j : Int) + 1 < (n2 : Int) := by omega
                have q3 : ((j : Int) + 1).toNat = j + 1 := by omega
                have q2 : j + 1 < n2 := by omega
                clear hdep hext hcl
                have HW := Lib.hid hW
                clear hW
                unfold OpDone
                go_simp
                exact ⟨rfl, Upd.refl _ _, HW.out⟩
              · refine fun ρ w' L hW hLi hcl hd hdep hext hc hg hf => ?_
                rw [if_pos (show wantedR _ _ _ = true from rfl)]
                have e37 : ρ (.tmp 37) = .pointer (some ⟨g, k0 * 8 + (j + 1) * 8, none⟩) := hdep 2 _ rfl (by kernel_rfl)
                clear hdep hext
                refine od_load_row 28 (.tmp 37) rfl _ _ e37 (t.map byteV) _ (XT.out w' hW) Tryz.underlying28 rfl (by rw [name_size]; simp [H8T.out]) ?_
                rw [HZt.out]
                exact ⟨rfl, Upd.refl _ _, hW⟩
              · refine fun ρ w' L hW hLi hcl hd hdep hext hc hg hf => ?_
                rw [if_pos (show wantedR _ _ _ = true from rfl)]
                have e4 : ρ (.tmp 4) = .slice (some ⟨g, k0 * 8, none⟩) n2 c2 := hext 4 (by kernel_rfl)
                clear hdep hext hcl
                have HW := Lib.hid hW
                clear hW
                unfold OpDone
                go_simp
                exact ⟨rfl, Upd.refl _ _, HW.out⟩
              · refine fun ρ w' L hW hLi hcl hd hdep hext hc hg hf => ?_
                rw [if_pos (show wantedR _ _ _ = true from rfl)]
                have e5 : ρ (.tmp 5) = .int .i64 ((j : Int) + 1) := hext 5 (by kernel_rfl)
                clear hdep hext hcl
                have HW := Lib.hid hW
                clear hW
                unfold OpDone
                go_simp
                exact ⟨rfl, Upd.refl _ _, HW.out⟩
              · refine fun ρ w' L hW hLi hcl hd hdep hext hc hg hf => ?_
                rw [if_pos (show wantedR _ _ _ = true from rfl)]
                have e40 : ρ (.tmp 40) = .int .i64 ((j : Int) + 1) := hdep 5 _ rfl (by kernel_rfl)
                have ww : IntKind.i64.wrap (j : Int) = j := IntWalk.i64_in _ (by omega)
                clear hdep hext hcl
                have HW := Lib.hid hW
                clear hW
                unfold OpDone
                go_simp
                exact ⟨rfl, Upd.refl _ _, HW.out⟩
              · refine fun ρ w' L hW hLi hcl hd hdep hext hc hg hf => ?_
                rw [if_pos (show wantedR _ _ _ = true from rfl)]
                have e39 : ρ (.tmp 39) = .slice (some ⟨g, k0 * 8, none⟩) n2 c2 := hdep 4 _ rfl (by kernel_rfl)
                have e41 : ρ (.tmp 41) = .int .i64 (j : Int) := hdep 6 _ rfl (by kernel_rfl)
                have q0 : (0 : Int) ≤ (j : Int) := by omega
                have q1 : (j : Int) < (n2 : Int) := by omega
                have q2 : j < n2 := by omega
                clear hdep hext hcl
                have HW := Lib.hid hW
                clear hW
                unfold OpDone
                go_simp
                exact ⟨rfl, Upd.refl _ _, HW.out⟩
              · refine fun ρ w' L hW hLi hcl hd hdep hext hc hg hf => ?_
                rw [if_pos (show wantedR _ _ _ = true from rfl)]
                have e42 : ρ (.tmp 42) = .pointer (some ⟨g, k0 * 8 + j * 8, none⟩) := hdep 7 _ rfl (by kernel_rfl)
                clear hdep hext
                refine od_load_row 28 (.tmp 42) rfl _ _ e42 (s.map byteV) _ (XS.out w' hW) Tryz.underlying28 rfl (by rw [name_size]; simp [H8S.out]) ?_
                rw [HZs.out]
                exact ⟨rfl, Upd.refl _ _, hW⟩
              · refine fun ρ w' L hW hLi hcl hd hdep hext hc hg hf => ?_
                rw [if_pos (show wantedR _ _ _ = true from rfl)]
                have e38 : ρ (.tmp 38) = .agg zt := hdep 3 _ rfl (by kernel_rfl)
                have e43 : ρ (.tmp 43) = .agg zs := hdep 8 _ rfl (by kernel_rfl)
                clear hdep hext
                have hE : ∀ w, (binOp .neq 28 (.agg zt) (.agg zs)).run Tryz.prog w = .ok (.bool (!(decide (t = s)))) w := fun w => HE.out w
                have HW := Lib.hid hW
                clear hW
                unfold OpDone
                go_simp
                exact ⟨rfl, Upd.refl _ _, HW.out⟩
            intro vs W8 L8 hL8 hW8 hR
            have hv0 : vs 0 = .slice (some ⟨g, k0 * 8, none⟩) n2 c2 := hR 0 _ rfl
            have hv1 : vs 1 = .int .i64 ((j : Int) + 1) := hR 1 _ rfl
            have hv2 : vs 2 = .pointer (some ⟨g, k0 * 8 + (j + 1) * 8, none⟩) := hR 2 _ rfl
            have hv3 : vs 3 = .agg zt := hR 3 _ rfl
            have hv4 : vs 4 = .slice (some ⟨g, k0 * 8, none⟩) n2 c2 := hR 4 _ rfl
            have hv5 : vs 5 = .int .i64 ((j : Int) + 1) := hR 5 _ rfl
            have hv6 : vs 6 = .int .i64 (j : Int) := hR 6 _ rfl
            have hv7 : vs 7 = .pointer (some ⟨g, k0 * 8 + j * 8, none⟩) := hR 7 _ rfl
            have hv8 : vs 8 = .agg zs := hR 8 _ rfl
            have hv9 : vs 9 = .bool (!(decide (t = s))) := hR 9 _ rfl
            simp only [putAll, Act.put, List.setIfInBounds_toArray, List.set_cons_zero, List.set_cons_succ, hv0, hv1, hv2, hv3, hv4, hv5, hv6, hv7, hv8, hv9]
            clear hR hv0 hv1 hv2 hv3 hv4 hv5 hv6 hv7 hv8 hv9
            have HB8 := Lib.hid (show Blk W8 g 28 cu1 from hW8.blk (Blk.drew HB1.out) (fun f => f))
            have HU8 := Lib.hid (show Upd (fun k => k = g) w W8 from HU.out.trans (((Upd.refl NoF wr).drew).trans hW8 (fun _ _ f => f)) (fun _ _ f => f.elim))
            have XT8 := Lib.hid (XT.out W8 hW8)
            clear hW8
            cases hst : decide (t = s) with
            | true =>
              have HEQ := Lib.hid (show s = t from (of_decide_eq_true hst).symm)
              clear hst
              go_wp2
              go_roundw
              case rel => exact ⟨j + 1, q, cu1, rfl, by go_num, by have := HN.out; omega, HST.out.skip HSX.out HTY.out HEQ.out, HB8.out, HU8.out⟩
              case measure => simp [intOf]; omega
            | false =>
              have HNE := Lib.hid (show s ≠ t from fun e => by rw [e] at hst; simp at hst)
              have q0 : (0 : Int) ≤ (j : Int) + 1 := by omega
              have q1 : (j : Int) + 1 < (n2 : Int) := by omega
              have q3 : ((j : Int) + 1).toNat = j + 1 := by omega
              have q2 : j + 1 < n2 := by omega
              have r0 : (0 : Int) ≤ (q : Int) := by omega
              have r1 : (q : Int) < (n : Int) := by omega
              have r2 : q < n := by omega
              have HZT8 := Lib.hid (show zt.size = 8 from by rw [← HZt.out]; simp [H8T.out])
              have HZTO := Lib.hid (show zt.all (·.oneCell') = true from by
                rw [← HZt.out, List.all_toArray, List.all_eq_true]
                intro u hu
                obtain ⟨b, -, rfl⟩ := List.mem_map.1 hu
                rfl)
              have HROOM := Lib.hid (show q * 8 + zt.size ≤ cu1.size from by have := HST.out.size; have := HCS.out; have := HZT8.out; omega)
              clear hst
              go_wp2_with (first
                | (refine wl_load rfl 28 (.tmp 49) rfl _ _ rfl (t.map byteV) _ XT8.out Tryz.underlying28 rfl (by rw [name_size]; simp [H8T.out]) zt HZt.out ?_)
                | (refine wl_storeAt rfl 28 (.tmp 51) (.tmp 50) rfl g q (by first | rfl | simp) zt rfl 28 cu1 HB8.out HROOM.out (by rw [name_size, HZT8.out]) HZTO.out ?_; intro w9 cu9 hb9 hr9 hu9 hs9; have B9 := Lib.hid hb9; have R9 := Lib.hid hr9; have U9 := Lib.hid (HU8.out.trans hu9 (fun _ _ f => f)); clear hb9 hr9 hu9 hs9))
              go_roundw
              case rel => exact ⟨j + 1, q + 1, cu9, by go_num, by go_num, by have := HN.out; omega, HST.out.keep H8.out HSX.out HTY.out HNE.out (by rw [HZt.out]; exact R9.out), B9.out, U9.out⟩
              case measure => simp [intOf]; omega
          · have t1 : decide ((j : Int) + 1 < (n2 : Int)) = false := by simp; omega
            have HFIN := Lib.hid (show l.take (k0 + j + 1) = l from List.take_of_length_le (by omega))
            have HQN := Lib.hid (show q < n by omega)
            have z1 : (0 : Int) ≤ (q : Int) := by omega
            have z2 : (q : Int) ≤ (n : Int) := by omega
            have z3 : (q : Int) ≤ (c : Int) := by omega
            have z4 : q < c := by omega
            have z5 : q < n := by omega
            clear hst hb1 hu hnn hlt hqj hj hn2' hc2' hk0n
            obtain ⟨w9, cu9, hcl, hb9, hs9, hp9, hu9⟩ := run_clearN (q := q) (n := n - q) (by omega) HB1.out (by have := HST.out.size; have := HCS.out; omega)
            have B9 := Lib.hid hb9
            have S9 := Lib.hid hs9
            have P9 := Lib.hid hp9
            have U9 := Lib.hid hu9
            clear hb9 hu9 hs9 hp9
            go_wp2
            go_ret
            have hsc := HST.out.len
            have hcells := HST.out.cells
            rw [HFIN.out] at hsc hcells
            refine ⟨by rw [hsc]; rfl, ?_, (HU.out.trans U9.out (fun _ _ f => f)).mono (fun k _ e => by rw [show k = g from e]; simp [OwnB, Value.ownBlock])⟩
            rw [hsc]
            refine own_rows B9.out (fun y hy => H8.out y (comp_mem hy)) hsc (fun i t hi => ?_) (by omega) hcm' (by have := S9.out; have := HST.out.size; have := HCS.out; omega)
            intro jj v hj
            have h8t := H8.out t (comp_mem (List.mem_of_getElem? hi))
            have hiq : i < q := by rw [← hsc]; exact (List.getElem?_eq_some_iff.1 hi).1
            have hj8 : jj < 8 := by have := (List.getElem?_eq_some_iff.1 hj).1; simpa [h8t] using this
            rw [P9.out _ (by omega)]
            exact hcells i t hi jj v hj
    · have t1 : decide ((k : Int) + 1 < (n : Int)) = false := by simp; omega
      have HFIN := Lib.hid (show compL l = l from by have := HCP.out; rw [List.take_of_length_le (by omega)] at this; exact this)
      clear hcp hu hnn
      go_wp2
      go_ret
      rw [HFIN.out, HN.out]
      exact ⟨rfl, HOW.out.upd HU.out (fun _ _ f => f), HU.out.mono (fun _ _ f => f.elim)⟩
end
end Go.Proofs.YtengcmfdfmnacaaGreat
