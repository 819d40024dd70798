/- items.Sorted: the keys of a set, ascending. Conditions: sizes. block.EncodeGenesis. No condition. -/
import Derived.Test.YtengcmfdfmnacaaGreatJn13
import Derived.Test.YtengcmfdfmnacaaGreatJn8
import Derived.Test.YtengcmfdfmnacaaGreatJn11
namespace Go.Proofs.YtengcmfdfmnacaaGreat
section
open Go.RowKit Go.Shelf Go.Lib

/-- A list of names as cells. -/
def rowsN (l : List (List UInt8)) : List Value := (l.map (·.map byteV)).flatten
theorem rowsN_snoc (l : List (List UInt8)) (n : List UInt8) : rowsN (l ++ [n]) = rowsN l ++ n.map byteV := by simp [rowsN]
theorem rowsN_append (l m : List (List UInt8)) : rowsN (l ++ m) = rowsN l ++ rowsN m := by simp [rowsN]
theorem rowsN_one (l : List (List UInt8)) : ∀ u ∈ rowsN l, u.oneCell' = true := by
  intro u hu
  obtain ⟨r, hr, hu⟩ := List.mem_flatten.1 hu
  obtain ⟨n, -, rfl⟩ := List.mem_map.1 hr
  exact name_ones n u hu
/-- A set of names in memory: nil, or a map. -/
def SetV (w : World) (v : Value) (l : List (List UInt8)) : Prop := (v = .map none ∧ l = []) ∨ ∃ r, v = .map (some r) ∧ MapN w r (l.map fun n => (n, Value.bool true))
theorem SetV.keep {w w' : World} {v : Value} {l : List (List UInt8)} (h : SetV w v l) (hu : Upd NoF w w') : SetV w' v l := by
  rcases h with h | ⟨r, h1, h2⟩
  · exact .inl h
  · exact .inr ⟨r, h1, h2.keep hu⟩
/-- New names, ascending. -/
def AscPost (w : World) (l : List (List UInt8)) (e : Ending) (w' : World) : Prop := ∃ A c, e = .returned (.slice A l.length c) ∧ NwA w.heap.size 28 8 l.length (rowsN l) A c w' ∧ Upd NoF w w'
set_option maxRecDepth 100000 in
set_option maxHeartbeats 8000000 in
theorem Sorted_nil (w : World) : Calls Tryz.prog 44 #[.map none] w (AscPost w []) := by
  have HS := Lib.hid (fun W => SortNames_any (w := W) (A := none) (c := 0) (n := 0) (l := []) (by intro n hn; cases hn) rfl (Own.nil _ _ _) (by omega))
  have HI := Lib.hid (heap_alloc_new w (.mapIter none 0 #[] 0))
  have HU := Lib.hid ((Upd.refl NoF w).alloc (.mapIter none 0 #[] 0))
  go_enter Tryz.func44, Tryz.ntmps44
  go_wp2_with (refine wl_range_nil rfl 86 _ _ (.tmp 5) rfl rfl Tryz.underlying86 ?_)
  go_frame
  go_loopg [3] 0 (fun kx s3 wr => s3 = .slice none 0 0 ∧ Hid (wr = w.alloc (.mapIter none 0 #[] 0)))
  case atStart => exact ⟨rfl, Lib.hid rfl⟩
  case round =>
    obtain ⟨rfl, HW⟩ := hrel
    obtain rfl := HW.out
    go_wp2_with (first
      | (refine wl_next_nil rfl (.tmp 6) rfl w.heap.size rfl HI.out ?_)
      | (refine (HS.out _).mono ?_; rintro e w2 ⟨rfl, m, hp, -, ho, hu⟩; have HP := Lib.hid hp; have HO := Lib.hid ho; have HU2 := Lib.hid hu; clear hp ho hu))
    go_ret
    have hm : ([] : List (List UInt8)) = [] := rfl
    exact ⟨none, 0, rfl, ⟨Own.nil _ _ _, fun k hk => by simp [OwnB, Value.ownBlock] at hk⟩, HU.out.trans HU2.out (fun k hk f => by simp [OwnB, Value.ownBlock] at f)⟩
set_option maxRecDepth 100000 in
set_option maxHeartbeats 8000000 in
theorem Sorted_map {w : World} {r : Nat} {l : List (List UInt8 × Value)} (h : MapN w r l) (hm : l.length ≤ 1000000) : Calls Tryz.prog 44 #[.map (some r)] w (AscPost w (ascSet (l.map (·.1)))) := by
  obtain ⟨i0, hi0, hz0, hz1, hz2⟩ := info_parts name_info
  have H := Lib.hid h
  have HM := Lib.hid hm
  have HRL := Lib.hid h.lt
  have H8 := Lib.hid (show All8 (l.map (·.1)) from fun n hn => by obtain ⟨p, hp, rfl⟩ := List.mem_map.1 hn; exact h.k8 p hp)
  have HND := Lib.hid h.nd
  have HBS := Lib.hid (fun (n : List UInt8) (hn : n.length = 8) (za : Array Value) (hz : (n.map byteV).toArray = za) w => bs_name hn hz w)
  clear h hm
  go_enter Tryz.func44, Tryz.ntmps44
  go_wp2_with (refine wl_range rfl 86 _ (.tmp 5) rfl rfl H.out Tryz.underlying86 ?_; intro w1 hr1 hu1 hs1; have R1 := Lib.hid hr1; have U1 := Lib.hid hu1; have S1 := Lib.hid hs1; clear hr1 hu1 hs1)
  obtain ⟨X, hX⟩ : ∃ x, w.heap.size = x := ⟨_, rfl⟩
  rw [hX] at R1 S1 ⊢
  have HX := Lib.hid hX
  clear hX
  go_frame
  go_loopg [3] l.length (fun kx s3 wr => ∃ (got : List (List UInt8)) (left : List (List UInt8 × Value)) (A : Option Addr) (c m : Nat), s3 = .slice A m c ∧ left.length ≤ kx ∧ Hid (got.length = m) ∧ Hid (NwA (X + 1) 28 8 m (rowsN got) A c wr) ∧ Hid (RngN wr r X l left) ∧ Hid ((got ++ left.map (·.1)).Perm (l.map (·.1))) ∧ Hid (Upd NoF w wr))
  case atStart => exact ⟨[], l, none, 0, 0, rfl, Nat.le_refl _, Lib.hid rfl, Lib.hid ⟨Own.nil _ _ _, fun k hk => by simp [OwnB, Value.ownBlock] at hk⟩, R1, Lib.hid (by simp), U1⟩
  case round =>
    clear R1 U1
    obtain ⟨got, left, A, c, m, rfl, hkx, HG, HN, HR, HP, HU⟩ := hrel
    have HG8 := Lib.hid (show All8 got from fun n hn => H8.out n (HP.out.mem_iff.1 (List.mem_append_left _ hn)))
    have HML := Lib.hid (show m + left.length = l.length from by have := HP.out.length_eq; rw [List.length_append, List.length_map, List.length_map] at this; have := HG.out; omega)
    have HSN := Lib.hid (fun W (h : Own W 28 8 (.slice A m c) m ((got.map (·.map byteV)).flatten)) => SortNames_any (w := W) HG8.out HG.out h (by have := HML.out; have := HM.out; omega))
    have HB1 := Lib.hid (show m + 1 ≤ maxLen ∧ (m + 1) * 8 ≤ 140737488355328 from by have := HML.out; have := HM.out; unfold maxLen; omega)
    go_wp2_with (first
      | (refine wl_next rfl (.tmp 6) rfl rfl HR.out (fun hl0 => ?_) (fun p left' w3 hp3 hr3 hu3 hs3 hen => ?_))
      | (refine (HSN.out wr HN.out.1).mono ?_; rintro e w2 ⟨rfl, q, hp, hsrt, ho, hu⟩; have HQ := Lib.hid hp; have HS := Lib.hid hsrt; have HO := Lib.hid ho; have HU2 := Lib.hid hu; clear hp hsrt ho hu)
      | (obtain ⟨nb, hnb⟩ : ∃ y, (p.1.map byteV).toArray = y := ⟨_, rfl⟩; have HNB := Lib.hid hnb; refine wl_entry rfl (.tmp 6) rfl rfl (v := .tuple #[.agg nb, p.2]) (by rw [← hnb]; exact hen) ?_; have HP3 := Lib.hid hp3; have HR3 := Lib.hid hr3; have HU3 := Lib.hid hu3; have HP8 := Lib.hid (show p.1.length = 8 from H8.out _ (HP.out.mem_iff.1 (List.mem_append_right _ (List.mem_map.2 ⟨p, hp3.mem_iff.2 List.mem_cons_self, rfl⟩)))); have HS3 := Lib.hid hs3; clear hp3 hr3 hu3 hs3 hen hnb)
      | (refine wpList_alloc_row rfl 28 rfl zN name_alloc ?_; intro w4 hb4 hu4 hs4; have B4 := Lib.hid hb4; have U4 := Lib.hid hu4; clear hb4 hu4 hs4)
      | (refine wpList_store_row rfl 28 (.tmp 4) (.tmp 10) rfl _ rfl nb rfl 28 _ B4.out (by rw [(name_arr HP8.out HNB.out).1]; exact zN_size) (by rw [name_size, (name_arr HP8.out HNB.out).1]) (name_arr HP8.out HNB.out).2 ?_; intro w5 hb5 hu5 hs5; have B5 := Lib.hid hb5; have U5 := Lib.hid (U4.out.trans hu5 (F := NoF) (fun j hj e => by have e : j = w3.heap.size := e; omega)); clear hb5 hu5 hs5)
      | (refine wl_load rfl 28 (.tmp 4) rfl _ _ rfl (p.1.map byteV) _ (name_cells HNB.out B5.out) Tryz.underlying28 rfl (by rw [name_size]; simp [HP8.out]) nb HNB.out ?_)
      | (refine wpList_bsRow rfl 22 28 (.tmp 12) rfl (.agg nb) (by rfl) nb (HBS.out _ HP8.out _ HNB.out _) ?_; intro w6 hb6 hu6 hs6; have B6 := Lib.hid hb6; have U6 := Lib.hid (U5.out.trans hu6 (fun _ _ f => f)); clear hb6 hu6 hs6)
      | (at_builtin; refine wpList_append_to _ rfl (.tmp 11) (.tmp 13) 22 rfl 28 i0 _ 8 8 Tryz.underlying22 hi0 hz0 hz1 hz2 (by kernel_rfl) _ m (rowsN got) rfl (((HN.out.1.upd HU3.out (fun k hk f => by have := HN.out.2 k hk; have f : k = X := f; omega)).upd U6.out (fun _ _ f => f))) _ 1 (p.1.map byteV) rfl (rd_name HP8.out HNB.out B6.out) (name_ones _) HB1.out.1 HB1.out.2 ?_; intro A7 c7 w7 hown hupd hnew; have O7 := Lib.hid hown; have D7 := Lib.hid hupd; have N7 := Lib.hid hnew; clear hown hupd hnew))
    · go_ret
      have e0 : q = ascSet (l.map (·.1)) := by
        have hp2 := HP.out
        rw [hl0] at hp2
        simp only [List.map_nil, List.append_nil] at hp2
        exact sorted_nodup H8.out (HQ.out.trans hp2) HND.out HS.out
      have hlen : (ascSet (l.map (·.1))).length = m := by rw [← e0, HQ.out.length_eq, HG.out]
      refine ⟨A, c, by rw [hlen]; rfl, ?_, ?_⟩
      · rw [hlen, ← e0]
        exact ⟨HO.out, fun k hk => by have := HN.out.2 k hk; have := HX.out; omega⟩
      · exact HU.out.trans HU2.out (fun k hk f => by have := HN.out.2 k f; have := HX.out; omega)
    · go_roundg left'.length
      case measure => have := HP3.out.length_eq; simp at this; omega
      case rel =>
        have h3 : Upd NoF w w3 := HU.out.trans HU3.out (fun k hk f => by have f : k = X := f; have := HX.out; omega)
        have h6 : Upd NoF w w6 := h3.trans U6.out (fun _ _ f => f)
        have hwr := HU.out.size
        have h36 := U6.out.size
        have hs3 := HS3.out
        refine ⟨got ++ [p.1], left', A7, c7, m + 1, rfl, Nat.le_refl _, Lib.hid (by simp [HG.out]), Lib.hid ⟨by rw [rowsN_snoc]; exact O7.out, fun k hk => ?_⟩, Lib.hid ((HR3.out.upd U6.out (fun f => f) (fun f => f)).upd D7.out (fun f => by have := HN.out.2 _ f; have := HRL.out; have := HX.out; omega) (fun f => by have := HN.out.2 _ f; omega)), Lib.hid ?_, Lib.hid (h6.trans D7.out (fun k hk f => by have := HN.out.2 k f; have := HX.out; omega))⟩
        · rcases N7.out k hk with f | f
          · exact HN.out.2 k f
          · have := HX.out
            have := HR.out.lt.2.1
            omega
        · have h1 := (HP3.out.map (·.1))
          rw [List.map_cons] at h1
          have h2 := (List.Perm.append_left got h1).symm.trans HP.out
          rw [List.append_assoc]
          exact h2
end

section
open Go.RowKit Go.Lib

/-- Op b writes only blocks of F; the others turn nothing. -/
structure ApPh (w0 : World) (F : Nat → Prop) (b : Nat) (L : Nat → Bool) (w : World) : Prop where
  u0 : L b = false → Upd NoF w0 w
  u1 : Upd F w0 w
def ApSt (F : Nat → Prop) (b : Nat) (L : Nat → Bool) (w w' : World) : Prop := Upd F w w' ∧ (L b = true → Upd NoF w w')
section
variable {w0 w w' : World} {F : Nat → Prop} {b i : Nat} {L : Nat → Bool}
theorem ApSt.same : ApSt F b L w w := ⟨Upd.refl _ _, fun _ => Upd.refl _ _⟩
theorem ApSt.none (h : Upd NoF w w') : ApSt F b L w w' := ⟨h.mono (fun _ _ f => f.elim), fun _ => h⟩
theorem ApSt.app (hl : L b = false) (h : Upd F w w') : ApSt F b L w w' := ⟨h, fun e => by rw [hl] at e; cases e⟩
theorem ApPh.start : ApPh w0 F b (fun _ => false) w0 := ⟨fun _ => Upd.refl _ _, Upd.refl _ _⟩
theorem ApPh.same (h : ApPh w0 F b L w) (hb : (b == i) = false) : ApPh w0 F b (fun j => j == i || L j) w := ⟨fun e => h.u0 (by simpa [hb] using e), h.u1⟩
theorem ApPh.app (h : ApPh w0 F b L w) (hu : Upd F w w') : ApPh w0 F b (fun j => j == b || L j) w' := ⟨fun e => by simp at e, h.u1.trans hu (fun _ _ f => f)⟩
theorem ApPh.step (h : ApPh w0 F b L w) (hl : L b = true) (_ : (b == i) = false) (hu : Upd NoF w w') : ApPh w0 F b (fun j => j == i || L j) w' := ⟨fun e => by simp [hl] at e, h.u1.trans hu (fun _ _ f => f.elim)⟩
end
/-- What was appended reads so now. -/
def ApR (bs nm : List UInt8) (v : Value) (w : World) : Prop := ∃ A c, v = .slice A (bs.length + 8) c ∧ Rd w 1 (.slice A (bs.length + 8) c) (bs.length + 8) ((bs ++ nm).map byteV)
def ApN (S0 : Nat) (l : List UInt8) (v : Value) (w : World) : Prop := ∃ A c, v = .slice A l.length c ∧ NwA S0 5 1 l.length (l.map byteV) A c w
theorem stbL_apr {F : Nat → Prop} {bs nm : List UInt8} : StbL (ApSt F 2) 2 (ApR bs nm) := fun _ _ _ _ hl ⟨A, c, e, h⟩ hs => ⟨A, c, e, h.keep (hs.2 hl)⟩
theorem stbL_apn {F : Nat → Prop} {S0 i : Nat} {l : List UInt8} (hF : ∀ k, F k → k < S0) : StbL (ApSt F 2) i (ApN S0 l) := fun _ _ _ _ _ ⟨A, c, e, h⟩ hs => ⟨A, c, e, ⟨h.1.upd hs.1 (fun k hk f => by have := h.2 k hk; have := hF k f; omega), h.2⟩⟩
theorem rd_arr {w : World} {g : Nat} {T : TypeId} {n : List UInt8} (hn : n.length = 8) {za : Array Value} (hz : (n.map byteV).toArray = za) (hb : Blk w g T za) : Rd w 1 (.slice (some ⟨g, 0, none⟩) 8 8) 8 (n.map byteV) :=
  Rd.of_blk hb (Nat.le_refl _) (by unfold maxLen; omega) (by simp [hn]) (fun j u hu => by rw [← hz, List.getElem?_toArray, Nat.zero_add]; exact hu)
theorem NwA.appM {S0 : Nat} {e : TypeId} {size n mm : Nat} {xs ys : List Value} {A A' : Option Addr} {c c' : Nat} {wr w5 w6 : World} (h : NwA S0 e size n xs A c wr) (hu0 : Upd NoF wr w5) (hS : S0 ≤ wr.heap.size) (ho : Own w6 e size (.slice A' (n + mm) c') (n + mm) (xs ++ ys)) (hu : Upd (OwnB (.slice A n c)) w5 w6) (hn : ∀ k, OwnB (.slice A' (n + mm) c') k → OwnB (.slice A n c) k ∨ w5.heap.size ≤ k) : NwA S0 e size (n + mm) (xs ++ ys) A' c' w6 ∧ ∀ {w : World}, (∀ k, S0 ≤ k → k < w.heap.size → False) → Upd NoF w wr → Upd NoF w w6 := by
  have h5 := hu0.size
  refine ⟨⟨ho, fun k hk => ?_⟩, fun hw hu1 => (hu1.trans hu0 (fun _ _ f => f)).trans hu (fun k hk f => hw k (h.2 k f) hk)⟩
  rcases hn k hk with f | f
  · exact h.2 k f
  · omega
theorem u8_small {n : Int} (h0 : 0 ≤ n) (h1 : n < 256) : IntKind.u8.wrap n = ((byteAt n 0).toNat : Int) := by
  obtain ⟨k, rfl⟩ : ∃ k : Nat, n = (k : Int) := ⟨n.toNat, by omega⟩
  have hk : k < 256 := by omega
  have e : (byteAt (k : Int) 0).toNat = k := by
    unfold byteAt
    rw [Nat.mul_zero, Int.pow_zero, Int.ediv_one]
    rw [show ((k : Int) % 256).toNat = k from by omega]
    rw [UInt8.toNat_ofNat']
    exact Nat.mod_eq_of_lt hk
  rw [e]
  simp [IntKind.wrap, IntKind.bits, IntKind.signed]
  omega
theorem pre_len (n s : Int) (v : Nat) : ([1, byteAt n 0] ++ beB s 6 ++ [byteAt v 0]).length = 9 := by simp [beB_len]
/-- What has been written behind k validators, behind k accounts. -/
def egV (g : GenS) (k : Nat) : List UInt8 := [1, byteAt g.n 0] ++ beB g.stake 6 ++ [byteAt g.vals.length 0] ++ (g.vals.take k).flatten
def egA (g : GenS) (k : Nat) : List UInt8 := egV g g.vals.length ++ [byteAt g.accs.length 0] ++ encAccs (g.accs.take k) (g.bals.take k)
theorem flat8_len : ∀ {l : List (List UInt8)}, All8 l → l.flatten.length = 8 * l.length
  | [], _ => rfl
  | x :: l, h => by
    rw [List.flatten_cons, List.length_append, h x List.mem_cons_self, flat8_len (fun y hy => h y (List.mem_cons_of_mem _ hy)), List.length_cons]
    omega
theorem egV_next {g : GenS} {k : Nat} {x : List UInt8} (h : g.vals[k]? = some x) : egV g (k + 1) = egV g k ++ x := by
  obtain ⟨hlt, rfl⟩ := List.getElem?_eq_some_iff.1 h
  unfold egV
  rw [List.take_succ_eq_append_getElem hlt, List.flatten_append]
  simp
theorem egA_next {g : GenS} {k : Nat} {x : List UInt8} {z : Int} (h : g.accs[k]? = some x) (hz : g.bals[k]? = some z) : egA g (k + 1) = egA g k ++ x ++ beB z 6 := by
  obtain ⟨hlt, rfl⟩ := List.getElem?_eq_some_iff.1 h
  obtain ⟨hlt2, rfl⟩ := List.getElem?_eq_some_iff.1 hz
  unfold egA encAccs
  rw [List.take_succ_eq_append_getElem hlt, List.take_succ_eq_append_getElem hlt2, List.zipWith_append (by rw [List.length_take, List.length_take]; omega), List.flatten_append]
  simp
theorem egA_all {g : GenS} (h : g.bals.length = g.accs.length) : egA g g.accs.length = encG g := by
  unfold egA egV encG encVals
  rw [List.take_of_length_le (Nat.le_refl _), List.take_of_length_le (Nat.le_refl _), List.take_of_length_le (Nat.le_of_eq h)]
theorem egV_len {g : GenS} (h : All8 g.vals) (k : Nat) (hk : k ≤ 10) : (egV g k).length ≤ 100 := by
  have h1 := flat8_len (l := g.vals.take k) (fun y hy => h y (List.mem_of_mem_take hy))
  have h2 : (g.vals.take k).length ≤ k := List.length_take_le _ _
  unfold egV
  rw [List.length_append, pre_len, h1]
  omega
theorem accs_len : ∀ {l : List (List UInt8)} {b : List Int}, All8 l → (encAccs l b).length ≤ 14 * l.length
  | [], _, _ => by simp [encAccs]
  | x :: l, [], _ => by simp [encAccs]
  | x :: l, z :: b, h => by
    have := accs_len (l := l) (b := b) (fun y hy => h y (List.mem_cons_of_mem _ hy))
    unfold encAccs at this ⊢
    rw [List.zipWith_cons_cons, List.flatten_cons, List.length_append, List.length_append, beB_len, h x List.mem_cons_self, List.length_cons]
    omega
theorem egA_len {g : GenS} (h : All8 g.vals) (h2 : All8 g.accs) (hv : g.vals.length ≤ 10) (k : Nat) (hk : k ≤ 16) : (egA g k).length ≤ 400 := by
  have h1 := egV_len h g.vals.length hv
  have h3 := accs_len (l := g.accs.take k) (b := g.bals.take k) (fun y hy => h2 y (List.mem_of_mem_take hy))
  have h4 : (g.accs.take k).length ≤ k := List.length_take_le _ _
  unfold egA
  rw [List.length_append, List.length_append, List.length_singleton]
  omega
theorem encG_len {g : GenS} (h : All8 g.vals) (h2 : All8 g.accs) (hv : g.vals.length ≤ 10) (ha : g.accs.length ≤ 16) (he : g.bals.length = g.accs.length) : (encG g).length ≤ 400 := by rw [← egA_all he]; exact egA_len h h2 hv _ ha
set_option maxRecDepth 100000 in
set_option maxHeartbeats 16000000 in
theorem EncodeGenesis_ok {w : World} {A B C : Option Addr} {a b c : Nat} {g : GenS} (h : GenR w A B C a b c g) (hv : validG g = true) : Calls Tryz.prog 27 #[genV A B C a b c g] w fun e w' => ∃ D cd, e = .returned (.tuple #[.slice D (encG g).length cd, .int .i64 0]) ∧ NwA w.heap.size 5 1 (encG g).length ((encG g).map byteV) D cd w' ∧ Upd NoF w w' := by
  obtain ⟨i1, hi1, hy0, hy1, hy2⟩ := info_parts byte_info
  obtain ⟨p1, p2, p3, p4, p5, p6, p7, p8, p9, p10⟩ := valid_parts hv
  have CV := Lib.hid (fun W (hu : Upd NoF w W) => show Calls Tryz.prog 58 #[genV A B C a b c g] W (fun e w' => e = .returned (.int .i64 0) ∧ Upd NoF W w') from by have := stValidateGenesis_any (w := W) (h.keep hu); rw [hv] at this; exact this)
  have HVL := Lib.hid h.vals
  have HAC := Lib.hid h.accs
  have HBL := Lib.hid h.bals
  have hst : 0 ≤ g.stake ∧ g.stake ≤ 1099511627776 := by unfold amtB at p9; simpa using p9
  have HST := Lib.hid hst
  have HAM := Lib.hid (show ∀ z ∈ g.bals, 0 ≤ z ∧ z ≤ 1099511627776 from fun z hz => by have := List.all_eq_true.1 p10 z hz; unfold amtB at this; simpa using this)
  have wn : IntKind.u8.wrap g.n = ((byteAt g.n 0).toNat : Int) := u8_small (by omega) (by omega)
  have wv : IntKind.u8.wrap (g.vals.length : Int) = ((byteAt g.vals.length 0).toNat : Int) := u8_small (by omega) (by omega)
  have wm : IntKind.u8.wrap (g.accs.length : Int) = ((byteAt g.accs.length 0).toNat : Int) := u8_small (by omega) (by omega)
  have wst : IntKind.u64.wrap g.stake = g.stake := by
    obtain ⟨k, hk⟩ : ∃ k : Nat, g.stake = (k : Int) := ⟨g.stake.toNat, by omega⟩
    rw [hk]; exact wrap_u64_nat _ (by omega)
  have HE0 := Lib.hid (show [1, byteAt g.n 0] ++ beB g.stake 6 ++ [byteAt g.vals.length 0] = egV g 0 from by unfold egV; simp)
  have HE1 := Lib.hid (show egV g g.vals.length ++ [byteAt g.accs.length 0] = egA g 0 from by unfold egA encAccs; simp)
  have HE2 := Lib.hid (egA_all p8)
  have HLV := Lib.hid (fun k (hk : k ≤ 10) => egV_len h.vals.1 k hk)
  have HLA := Lib.hid (fun k (hk : k ≤ 16) => egA_len h.vals.1 h.accs.1 p4 k hk)
  have HFIN := Lib.hid (show (encG g).length ≤ 400 from encG_len h.vals.1 h.accs.1 p4 p7 p8)
  obtain ⟨nb, hnb⟩ : ∃ x, byteAt g.n 0 = x := ⟨_, rfl⟩
  obtain ⟨vb, hvb⟩ : ∃ x, byteAt (g.vals.length : Int) 0 = x := ⟨_, rfl⟩
  obtain ⟨mb, hmb⟩ : ∃ x, byteAt (g.accs.length : Int) 0 = x := ⟨_, rfl⟩
  rw [hnb] at wn HE0
  rw [hvb] at wv HE0
  rw [hmb] at wm HE1
  obtain ⟨v, hvl⟩ : ∃ n, g.vals.length = n := ⟨_, rfl⟩
  obtain ⟨m, hml⟩ : ∃ n, g.accs.length = n := ⟨_, rfl⟩
  obtain ⟨q, hql⟩ : ∃ n, g.bals.length = n := ⟨_, rfl⟩
  obtain ⟨EG, hEG⟩ : ∃ x, encG g = x := ⟨_, rfl⟩
  rw [hEG] at HE2 HFIN ⊢
  show Calls Tryz.prog 27 #[.agg #[.int .i64 g.n, .int .i64 g.stake, .slice A g.vals.length a, .slice B g.accs.length b, .slice C g.bals.length c]] w _
  rw [hvl] at p3 p4 p5 wv HVL HE1 ⊢
  rw [hml] at p6 p7 p8 wm HAC HE2 ⊢
  rw [hql] at p8 HBL ⊢
  have HV := Lib.hid hvl
  have HM := Lib.hid hml
  have HQ := Lib.hid hql
  have hv10 := p4
  have hm16 := p7
  have HQM := Lib.hid p8
  have CV := Lib.hid (show ∀ W, Upd NoF w W → Calls Tryz.prog 58 #[.agg #[.int .i64 g.n, .int .i64 g.stake, .slice A v a, .slice B m b, .slice C q c]] W (fun e w' => e = .returned (.int .i64 0) ∧ Upd NoF W w') from fun W hu => by have := CV.out W hu; unfold genV at this; rw [hvl, hml, hql] at this; exact this)
  obtain ⟨gn, hgn⟩ : ∃ z, g.n = z := ⟨_, rfl⟩
  obtain ⟨gs, hgs⟩ : ∃ z, g.stake = z := ⟨_, rfl⟩
  rw [hgn] at wn CV ⊢
  rw [hgs] at wst CV HE0 HST hst ⊢
  obtain ⟨P0, hP0⟩ : ∃ x, [1, nb] ++ beB gs 6 = x := ⟨_, rfl⟩
  have HP0L := Lib.hid (show P0.length = 8 from by rw [← hP0]; simp [beB_len])
  rw [hP0] at HE0
  have CAU := Lib.hid (fun (W : World) => show Calls Tryz.prog 59 #[.slice (some ⟨W.heap.size, 0, none⟩) 2 2, u64V gs, .int .i64 ((6 : Nat) : Int)] (W.alloc (.cells #[byteV 1, byteV nb] 5)) (BytesPost (W.alloc (.cells #[byteV 1, byteV nb] 5)) P0) from by
    rw [← hP0]
    exact cAppendUint_any (bs := [1, nb]) (Rd.of_blk (n := 2) (c := 2) (o := 0) (Blk.new W 5 #[byteV 1, byteV nb]) (Nat.le_refl _) (by unfold maxLen; omega) rfl (fun j x hj => by rw [Nat.zero_add, List.getElem?_toArray]; exact hj)) gs hst.1 6 (by omega) (by simp))
  clear hP0
  clear h hv p1 p2 p3 p4 p5 p6 p7 p8 p9 p10 hvl hml hql hnb hvb hmb hst hgn hgs hEG
  go_enter Tryz.func27, Tryz.ntmps27
  go_wp2_with (first
    | (refine wl_box rfl 25 (.tmp 0) rfl #[.int .i64 gn, .int .i64 gs, .slice A v a, .slice B m b, .slice C q c] (by rfl) ?_; intro v0 hb0 hu0 hs0; have BX := Lib.hid hb0; have V0 := Lib.hid hu0; have S0 := Lib.hid hs0; clear hb0 hu0 hs0)
    | (refine wl_load rfl 25 (.tmp 1) rfl w.heap.size 0 (by rfl) (#[.int .i64 gn, .int .i64 gs, .slice A v a, .slice B m b, .slice C q c] : Array Value).toList _ (range_blk BX.out) Tryz.underlying25 rfl gen_size _ rfl ?_)
    | (refine (CV.out _ V0.out).mono ?_; rintro e w1 ⟨rfl, hu1⟩; have U1 := Lib.hid hu1; have BX1 := Lib.hid (hu1.blk BX.out (fun f => f)); have c0 := (hu1.blk BX.out (fun f => f)).cell 0; have c1 := ((hu1.blk BX.out (fun f => f)).alloc (.cells #[.int .u8 1, .int .u8 (nb.toNat : Int)] 5)).cell 1; clear hu1)
    | (refine Calls.mono (CAU.out w1) ?_; rintro e w2 ⟨D, cd, rfl, hN⟩; have N2 := Lib.hid hN; have SZ2 := Lib.hid (show w1.heap.size ≤ w2.heap.size from by have := hN.2.2.size; rw [World.size_alloc] at this; omega); have BX2 := Lib.hid (hN.2.2.blk (BX1.out.alloc _) (fun f => f)); have U2 := Lib.hid ((U1.out.alloc _).trans hN.2.2 (fun _ _ f => f)); have c2 := (hN.2.2.blk (BX1.out.alloc _) (fun f => f)).cell 2; clear hN)
    | (at_builtin; refine wpList_append_to _ rfl (.tmp 20) (.tmp 25) 52 rfl 5 i1 _ 1 1 Tryz.underlying52 hi1 hy0 hy1 hy2 rfl (.slice D P0.length cd) P0.length (P0.map byteV) (by rfl) (N2.out.1.upd ((Upd.refl NoF w2).alloc (.cells #[byteV vb] 5)) (fun _ _ f => f)) (.slice (some ⟨w2.heap.size, 0, none⟩) 1 1) 1 [byteV vb] (by rfl) (rd_lit w2 5 (byteV vb)) (by simp [Value.oneCell']) (by have := HP0L.out; unfold maxLen; omega) (by have := HP0L.out; omega) ?_; intro A7 c7 w7 hown hupd hnew; have O7 := Lib.hid hown; have D7 := Lib.hid (((Upd.refl (OwnB (.slice D P0.length cd)) w2).alloc (.cells #[byteV vb] 5)).trans hupd (fun _ _ f => f)); have N7 := Lib.hid hnew; have c2w := (hupd.blk (BX2.out.alloc (.cells #[byteV vb] 5)) (fun f => by have := N2.out.2.1 _ f; rw [World.size_alloc] at this; have := U1.out.size; have := S0.out; omega)).cell 2; clear hown hupd hnew))
  obtain ⟨X, hX⟩ : ∃ x, w.heap.size = x := ⟨_, rfl⟩
  obtain ⟨S, hS⟩ : ∃ s, w1.heap.size = s := ⟨_, rfl⟩
  have HX := Lib.hid hX
  have HS1 := Lib.hid hS
  have HSX := Lib.hid (show X + 1 ≤ S from by have := U1.out.size; have := S0.out; omega)
  have HDN := Lib.hid (show ∀ k, OwnB (.slice D P0.length cd) k → S ≤ k from fun k hk => by have := N2.out.2.1 k hk; rw [World.size_alloc] at this; omega)
  have HU7 := Lib.hid (show Upd NoF w w7 from (V0.out.trans U2.out (fun _ _ f => f)).trans D7.out (fun k hk f => by have := HDN.out k f; have := HSX.out; omega))
  have HX7 := Lib.hid (show Blk w7 w.heap.size 25 #[.int .i64 gn, .int .i64 gs, .slice A v a, .slice B m b, .slice C q c] from D7.out.blk BX2.out (fun f => by have := HDN.out _ f; have := HSX.out; omega))
  have S7 := Lib.hid (show S ≤ w7.heap.size from by have := SZ2.out; have := D7.out.size; omega)
  have N8 := Lib.hid (show NwA S 5 1 (egV g 0).length ((egV g 0).map byteV) A7 c7 w7 from by
    rw [← HE0.out, List.length_append, List.map_append]
    exact ⟨O7.out, fun k hk => by
      rcases N7.out k hk with f | f
      · exact HDN.out k f
      · have := SZ2.out; rw [World.size_alloc] at f; omega⟩)
  have HL0 := Lib.hid (show P0.length + 1 = (egV g 0).length from by rw [← HE0.out, List.length_append]; rfl)
  rw [hX] at HX7 c2 ⊢
  rw [HL0.out]
  obtain ⟨bs0, hbs0⟩ : ∃ x, egV g 0 = x := ⟨_, rfl⟩
  have HBS0 := Lib.hid hbs0
  rw [hbs0] at N8 ⊢
  clear V0 S0 BX U1 BX1 c0 c1 N2 BX2 U2 c2 O7 D7 N7 hX hS HDN hbs0 HL0 c2w SZ2
  go_loopg [4, 30] v (fun kx s4 s30 wr => ∃ (k : Nat) (bs : List UInt8) (D : Option Addr) (cd : Nat), s30 = .int .i64 (k : Int) ∧ k ≤ v ∧ v - k ≤ kx ∧ s4 = .slice D bs.length cd ∧ Hid (egV g k = bs) ∧ Hid (NwA S 5 1 bs.length (bs.map byteV) D cd wr) ∧ Hid (Blk wr X 25 #[.int .i64 gn, .int .i64 gs, .slice A v a, .slice B m b, .slice C q c]) ∧ Hid (S ≤ wr.heap.size) ∧ Hid (Upd NoF w wr))
  case atStart => exact ⟨0, bs0, A7, c7, rfl, by omega, by omega, rfl, HBS0, N8, HX7, S7, HU7⟩
  case round =>
    clear N8 HBS0 HX7 S7 HU7
    obtain ⟨k, bs, D, cd, rfl, hkn, hkx, rfl, HBS, HN, HBX, HSW, HU⟩ := hrel
    have HLB := Lib.hid (show bs.length ≤ 100 from by rw [← HBS.out]; exact HLV.out k (by omega))
    by_cases hlt : k < v
    · have hltz : (k : Int) < (v : Int) := by omega
      obtain ⟨nm, hnm⟩ : ∃ x, g.vals[k]? = some x := ⟨_, List.getElem?_eq_getElem (by have := HV.out; omega)⟩
      obtain ⟨gv, ov, rfl, hrg⟩ := (HVL.out.keep HU.out).at_ hnm
      have HRG := Lib.hid hrg
      have HNM := Lib.hid hnm
      have H8N := Lib.hid (HVL.out.1 nm (List.mem_of_getElem? hnm))
      obtain ⟨za, hza⟩ : ∃ y, (nm.map byteV).toArray = y := ⟨_, rfl⟩
      have HZA := Lib.hid hza
      have e1 : ((k : Int)).toNat = k := by omega
      have HB1 := Lib.hid (show bs.length + 8 ≤ maxLen ∧ (bs.length + 8) * 1 ≤ 140737488355328 from by have := HLB.out; unfold maxLen; omega)
      clear hrg hnm hza
      go_wp2_with (first
        | (refine wpList_load_row rfl 28 (.tmp 32) rfl gv (ov + k * 8) (by first | rfl | simp) (nm.map byteV) _ HRG.out Tryz.underlying28 rfl (by rw [name_size]; simp [H8N.out]) za HZA.out ?_)
        | (refine wpList_alloc_row rfl 28 rfl zN name_alloc ?_; intro w3 hb3 hu3 hs3; have B3 := Lib.hid hb3; have U3 := Lib.hid hu3; clear hb3 hu3 hs3)
        | (refine wpList_store_row rfl 28 (.tmp 6) (.tmp 33) rfl wr.heap.size (by rfl) za (by rfl) 28 _ B3.out (by rw [(name_arr H8N.out HZA.out).1]; exact zN_size) (by rw [name_size, (name_arr H8N.out HZA.out).1]) (name_arr H8N.out HZA.out).2 ?_; intro w4 hb4 hu4 hs4; have B4 := Lib.hid hb4; have U4 := Lib.hid (U3.out.trans hu4 (F := NoF) (fun j hj e => by have e : j = wr.heap.size := e; omega)); clear hb4 hu4 hs4)
        | (at_builtin; refine wpList_append_to _ rfl (.tmp 34) (.tmp 35) 52 rfl 5 i1 _ 1 1 Tryz.underlying52 hi1 hy0 hy1 hy2 rfl (.slice D bs.length cd) bs.length (bs.map byteV) (by rfl) (HN.out.keep U4.out).1 (.slice (some ⟨wr.heap.size, 0, none⟩) 8 8) 8 (nm.map byteV) (by rfl) (rd_arr H8N.out HZA.out B4.out) (one_bytes nm) HB1.out.1 HB1.out.2 ?_; intro A9 c9 w9 hown hupd hnew; have N9 := Lib.hid (NwA.appM HN.out U4.out HSW.out hown hupd hnew); have BX9 := Lib.hid (hupd.blk (U4.out.blk HBX.out (fun f => f)) (fun f => by have := HN.out.2 X f; have := HSX.out; have := HX.out; omega)); have SZ9 := Lib.hid (Nat.le_trans HSW.out (Nat.le_trans U4.out.size hupd.size)); clear hown hupd hnew))
      go_roundg (v - (k + 1))
      case measure => omega
      case rel => exact ⟨k + 1, bs ++ nm, A9, c9, by first | rfl | go_num, by omega, by omega, by rw [List.length_append, H8N.out], Lib.hid (by rw [egV_next HNM.out, HBS.out]), Lib.hid (by rw [List.length_append, H8N.out, List.map_append]; exact N9.out.1), BX9, SZ9, Lib.hid (N9.out.2 (w := w) (fun j h1 h2 => by have := HSX.out; have := HX.out; omega) HU.out)⟩
    · have hltz : ¬ (k : Int) < (v : Int) := by omega
      obtain rfl : v = k := by omega
      have c3 : wr.cell? ⟨X, 3, none⟩ = some (.slice B m b) := HBX.out.cell 3
      have HB1 := Lib.hid (show bs.length + 1 ≤ maxLen ∧ (bs.length + 1) * 1 ≤ 140737488355328 from by have := HLB.out; unfold maxLen; omega)
      have HBXA := Lib.hid (HBX.out.alloc (.cells #[byteV mb] 5))
      go_wp2_with (at_builtin; refine wpList_append_to _ rfl (.tmp 38) (.tmp 43) 52 rfl 5 i1 _ 1 1 Tryz.underlying52 hi1 hy0 hy1 hy2 rfl (.slice D bs.length cd) bs.length (bs.map byteV) (by rfl) (HN.out.keep ((Upd.refl NoF wr).alloc (.cells #[byteV mb] 5))).1 (.slice (some ⟨wr.heap.size, 0, none⟩) 1 1) 1 [byteV mb] (by rfl) (rd_lit wr 5 (byteV mb)) (by simp [Value.oneCell']) HB1.out.1 HB1.out.2 ?_; intro A8 c8 w8 hown hupd hnew; have N9 := Lib.hid (NwA.appM HN.out ((Upd.refl NoF wr).alloc (.cells #[byteV mb] 5)) HSW.out hown hupd hnew); have BX9 := Lib.hid (hupd.blk HBXA.out (fun f => by have := HN.out.2 X f; have := HSX.out; have := HX.out; omega)); have SZ9 := Lib.hid (show S ≤ w8.heap.size from by have h1 := hupd.size; rw [World.size_alloc] at h1; have := HSW.out; omega); have c3' := (hupd.blk HBXA.out (fun f => by have := HN.out.2 X f; have := HSX.out; have := HX.out; omega)).cell 3; clear hown hupd hnew)
      have HU8 := Lib.hid (N9.out.2 (w := w) (fun j h1 h2 => by have := HSX.out; have := HX.out; omega) HU.out)
      have HE1' := HE1.out
      rw [HBS.out] at HE1'
      have HL1 := Lib.hid (show bs.length + 1 = (egA g 0).length from by rw [← HE1', List.length_append]; rfl)
      have N10 := Lib.hid (show NwA S 5 1 (egA g 0).length ((egA g 0).map byteV) A8 c8 w8 from by
        have := N9.out.1
        rw [HL1.out] at this
        rw [← HE1', List.map_append]
        rw [← HE1'] at this
        exact this)
      rw [HL1.out]
      obtain ⟨bs1, hbs1⟩ : ∃ x, egA g 0 = x := ⟨_, rfl⟩
      have HBS1 := Lib.hid hbs1
      rw [hbs1] at N10 ⊢
      clear N9 HN HBX HSW HU hbs1 HL1 HE1' HBXA c3
      go_loopg [4, 48] m (fun kx s4 s48 wr => ∃ (k : Nat) (bs : List UInt8) (D : Option Addr) (cd : Nat), s48 = .int .i64 (k : Int) ∧ k ≤ m ∧ m - k ≤ kx ∧ s4 = .slice D bs.length cd ∧ Hid (egA g k = bs) ∧ Hid (NwA S 5 1 bs.length (bs.map byteV) D cd wr) ∧ Hid (Blk wr X 25 #[.int .i64 gn, .int .i64 gs, .slice A v a, .slice B m b, .slice C q c]) ∧ Hid (S ≤ wr.heap.size) ∧ Hid (Upd NoF w wr))
      case atStart => exact ⟨0, bs1, A8, c8, rfl, by omega, by omega, rfl, HBS1, N10, BX9, SZ9, HU8⟩
      case round =>
        clear N10 HBS1 BX9 SZ9 HU8 HBS HLB HB1 c3'
        obtain ⟨k, bs, D, cd, rfl, hkn, hkx, rfl, HBS, HN, HBX, HSW, HU⟩ := hrel
        have HLB := Lib.hid (show bs.length ≤ 400 from by rw [← HBS.out]; exact HLA.out k (by omega))
        by_cases hlt : k < m
        · have hltz : (k : Int) < (m : Int) := by omega
          obtain ⟨nm, hnm⟩ : ∃ x, g.accs[k]? = some x := ⟨_, List.getElem?_eq_getElem (by have := HM.out; omega)⟩
          obtain ⟨z, hz⟩ : ∃ x, g.bals[k]? = some x := ⟨_, List.getElem?_eq_getElem (by have := HQ.out; have := HQM.out; omega)⟩
          obtain ⟨gv, ov, rfl, hrg⟩ := (HAC.out.keep HU.out).at_ hnm
          obtain ⟨gb, ob, rfl, hcz⟩ := (HBL.out.keep HU.out).at_ hz
          obtain ⟨_, _, e00, hcw⟩ := HBL.out.at_ hz
          injection e00 with e01
          injection e01 with e02 e03
          subst e02 e03
          have HCW := Lib.hid (block_lt_of_cell hcw)
          have HRG := Lib.hid hrg
          have HCZ := Lib.hid hcz
          have HNM := Lib.hid hnm
          have HZ := Lib.hid hz
          have H8N := Lib.hid (HAC.out.1 nm (List.mem_of_getElem? hnm))
          have HZ0 := Lib.hid (HAM.out z (List.mem_of_getElem? hz)).1
          have HWZ := Lib.hid (show IntKind.u64.wrap z = z from by
            have := HAM.out z (List.mem_of_getElem? hz)
            obtain ⟨kz, hk⟩ : ∃ k : Nat, z = (k : Int) := ⟨z.toNat, by omega⟩
            rw [hk]; exact wrap_u64_nat _ (by omega))
          obtain ⟨za, hza⟩ : ∃ y, (nm.map byteV).toArray = y := ⟨_, rfl⟩
          have HZA := Lib.hid hza
          have e1 : ((k : Int)).toNat = k := by omega
          have HB1 := Lib.hid (show bs.length + 8 ≤ maxLen ∧ (bs.length + 8) * 1 ≤ 140737488355328 from by have := HLB.out; unfold maxLen; omega)
          have HLT := Lib.hid (show (k : Int) < (q : Int) from by have := HQM.out; omega)
          clear hrg hnm hza hcz hz hcw
          go_wp2_with (first
            | (refine wpList_load_row rfl 28 (.tmp 51) rfl gv (ov + k * 8) (by first | rfl | simp) (nm.map byteV) _ HRG.out Tryz.underlying28 rfl (by rw [name_size]; simp [H8N.out]) za HZA.out ?_)
            | (refine wpList_alloc_row rfl 28 rfl zN name_alloc ?_; intro w3 hb3 hu3 hs3; have B3 := Lib.hid hb3; have U3 := Lib.hid hu3; clear hb3 hu3 hs3)
            | (refine wpList_store_row rfl 28 (.tmp 8) (.tmp 52) rfl wr.heap.size (by rfl) za (by rfl) 28 _ B3.out (by rw [(name_arr H8N.out HZA.out).1]; exact zN_size) (by rw [name_size, (name_arr H8N.out HZA.out).1]) (name_arr H8N.out HZA.out).2 ?_; intro w4 hb4 hu4 hs4; have B4 := Lib.hid hb4; have U4 := Lib.hid (U3.out.trans hu4 (F := NoF) (fun j hj e => by have e : j = wr.heap.size := e; omega)); clear hb4 hu4 hs4))
          obtain ⟨V, hVV⟩ : ∃ x, wr.heap.size = x := ⟨_, rfl⟩
          rw [hVV] at B4 ⊢
          replace HN := Lib.hid (HN.out.keep U4.out)
          have HFS := Lib.hid (show ∀ j, OwnB (.slice D bs.length cd) j → j < w4.drew.heap.size from fun j hj => HN.out.1.lt hj)
          obtain ⟨S0, hS0⟩ : ∃ s, w4.drew.heap.size = s := ⟨_, rfl⟩
          have HS0 := Lib.hid (show S0 ≤ w4.drew.heap.size from Nat.le_of_eq hS0.symm)
          rw [hS0] at HFS
          have HSS := Lib.hid (show S ≤ S0 from by rw [← hS0]; exact Nat.le_trans HSW.out U4.out.size)
          have RV := Lib.hid (fun w' (hu : Upd NoF w4.drew w') => rd_arr H8N.out HZA.out (((Upd.refl NoF w4).drew.trans hu (fun _ _ f => f)).blk B4.out (fun f => f)))
          have HBX4 := Lib.hid (show Blk w4.drew X 25 #[.int .i64 gn, .int .i64 gs, .slice A v a, .slice (some ⟨gv, ov, none⟩) m b, .slice (some ⟨gb, ob, none⟩) q c] from Blk.drew (U4.out.blk HBX.out (fun f => f)))
          have CB4 := Lib.hid (HBX4.out.cell 4)
          have HXF := Lib.hid (show ¬ OwnB (.slice D bs.length cd) X from fun f => by have := HN.out.2 X f; have := HSX.out; have := HX.out; omega)
          have CZ := Lib.hid (show w4.drew.cell? ⟨gb, ob + k, none⟩ = some (.int .i64 z) from U4.out.drew.cell HCZ.out (fun f => f))
          have HGF := Lib.hid (show ¬ OwnB (.slice D bs.length cd) gb from fun f => by have := HN.out.2 gb f; have h1 : gb < w.heap.size := HCW.out; have := HSX.out; have := HX.out; omega)
          have HUW4 := Lib.hid (HU.out.trans U4.out.drew (fun _ _ f => f))
          have HBL2 := HBL
          replace HBL := Lib.hid (show bs.length + 16 ≤ 1099511627776 from by have := HLB.out; omega)
          clear hVV hS0 HBX HU
          refine wp_region_rgl (rgR [isV (.slice D bs.length cd), isV (.slice (some ⟨V, 0, none⟩) 8 8), ApR bs nm, isV (.pointer (some ⟨X, 4, none⟩)), isV (.slice (some ⟨gb, ob, none⟩) q c), isV (.int .i64 (k : Int)), isV (.pointer (some ⟨gb, ob + k, none⟩)), isV (.int .i64 z), isV (u64V z), ApN S0 (bs ++ nm ++ beB z 6), ApN S0 (bs ++ nm ++ beB z 6)]) (ApSt (OwnB (.slice D bs.length cd)) 2) (ApPh w4.drew (OwnB (.slice D bs.length cd)) 2) (by kernel_rfl) (by kernel_rfl) (by kernel_rfl) (by rfl) (fun L w => ApSt.same) (rgR_keepL ⟨stbL_isV _, stbL_isV _, stbL_apr, stbL_isV _, stbL_isV _, stbL_isV _, stbL_isV _, stbL_isV _, stbL_isV _, (stbL_apn HFS.out), (stbL_apn HFS.out), trivial⟩) (ApPh.start) ?_ ?_
          · refine ⟨?_, ?_, ?_, ?_, ?_, ?_, ?_, ?_, ?_, ?_, ?_, trivial⟩
            · refine fun ρ w' L hW hLi hcl hd hdep hext hc hg hf => ?_
              rw [if_pos (show wantedR _ _ _ = true from rfl)]
              have e4 : ρ (.tmp 4) = .slice D bs.length cd := hext 4 (by kernel_rfl)
              clear hdep hext
              have HW := Lib.hid hW
              clear hW hcl hd hLi
              unfold OpDone
              go_simp
              exact ⟨rfl, ApSt.same, HW.out.same (by decide)⟩
            · refine fun ρ w' L hW hLi hcl hd hdep hext hc hg hf => ?_
              rw [if_pos (show wantedR _ _ _ = true from rfl)]
              have e8 : ρ (.tmp 8) = .pointer (some ⟨V, 0, none⟩) := hext 8 (by kernel_rfl)
              clear hdep hext
              have HW := Lib.hid hW
              clear hW hcl hd hLi
              unfold OpDone
              go_simp
              exact ⟨rfl, ApSt.same, HW.out.same (by decide)⟩
            · refine fun ρ w' L hW hLi hcl hd hdep hext hc hg hf => ?_
              rw [if_pos (show wantedR _ _ _ = true from rfl)]
              have e53 : ρ (.tmp 53) = .slice D bs.length cd := hdep 0 _ rfl (by kernel_rfl)
              have e54 : ρ (.tmp 54) = .slice (some ⟨V, 0, none⟩) 8 8 := hdep 1 _ rfl (by kernel_rfl)
              clear hdep hext
              have HO := Lib.hid (HN.out.1.upd ((Upd.refl NoF w4).drew.trans (hW.u0 hLi) (fun _ _ f => f)) (fun _ _ f => f))
              have HR := Lib.hid (show Rd w' 1 (.slice (some ⟨V, 0, none⟩) 8 8) 8 (nm.map byteV) from RV.out w' (hW.u0 hLi))
              have HW := Lib.hid hW
              have HL2 := Lib.hid hLi
              clear hW hcl hd hLi
              refine od_append (.tmp 53) (.tmp 54) 52 rfl 5 i1 _ 1 1 Tryz.underlying52 hi1 hy0 hy1 hy2 rfl (.slice D bs.length cd) bs.length (bs.map byteV) e53 HO.out (.slice (some ⟨V, 0, none⟩) 8 8) 8 (nm.map byteV) e54 HR.out (one_bytes nm) HB1.out.1 HB1.out.2 ?_
              intro A6 c6 w6 hown hupd hnew
              exact ⟨⟨A6, c6, rfl, by have := hown.rd; rw [← List.map_append] at this; exact this⟩, ApSt.app HL2.out hupd, HW.out.app hupd⟩
            · refine fun ρ w' L hW hLi hcl hd hdep hext hc hg hf => ?_
              rw [if_pos (show wantedR _ _ _ = true from rfl)]
              have e1 : ρ (.tmp 1) = .pointer (some ⟨X, 0, none⟩) := hext 1 (by kernel_rfl)
              clear hdep hext
              have HW := Lib.hid hW
              clear hW hcl hd hLi
              unfold OpDone
              go_simp
              exact ⟨rfl, ApSt.same, HW.out.same (by decide)⟩
            · refine fun ρ w' L hW hLi hcl hd hdep hext hc hg hf => ?_
              rw [if_pos (show wantedR _ _ _ = true from rfl)]
              have e56 : ρ (.tmp 56) = .pointer (some ⟨X, 4, none⟩) := hdep 3 _ rfl (by kernel_rfl)
              clear hdep hext
              have q0 : w'.cell? ⟨X, 4, none⟩ = some (.slice (some ⟨gb, ob, none⟩) q c) := hW.u1.cell CB4.out HXF.out
              have HW := Lib.hid hW
              clear hW hcl hd hLi
              unfold OpDone
              go_simp
              exact ⟨rfl, ApSt.same, HW.out.same (by decide)⟩
            · refine fun ρ w' L hW hLi hcl hd hdep hext hc hg hf => ?_
              rw [if_pos (show wantedR _ _ _ = true from rfl)]
              have e7 : ρ (.tmp 7) = .int .i64 (k : Int) := hext 7 (by kernel_rfl)
              clear hdep hext
              have HW := Lib.hid hW
              clear hW hcl hd hLi
              unfold OpDone
              go_simp
              exact ⟨rfl, ApSt.same, HW.out.same (by decide)⟩
            · refine fun ρ w' L hW hLi hcl hd hdep hext hc hg hf => ?_
              rw [if_pos (show wantedR _ _ _ = true from rfl)]
              have e57 : ρ (.tmp 57) = .slice (some ⟨gb, ob, none⟩) q c := hdep 4 _ rfl (by kernel_rfl)
              have e58 : ρ (.tmp 58) = .int .i64 (k : Int) := hdep 5 _ rfl (by kernel_rfl)
              clear hdep hext
              have q0 : (0 : Int) ≤ (k : Int) := by omega
              have q1 : (k : Int) < (q : Int) := HLT.out
              have q2 : k < q := by omega
              have q3 : ((k : Int)).toNat = k := by omega
              have HW := Lib.hid hW
              clear hW hcl hd hLi
              unfold OpDone
              go_simp
              exact ⟨rfl, ApSt.same, HW.out.same (by decide)⟩
            · refine fun ρ w' L hW hLi hcl hd hdep hext hc hg hf => ?_
              rw [if_pos (show wantedR _ _ _ = true from rfl)]
              have e59 : ρ (.tmp 59) = .pointer (some ⟨gb, ob + k, none⟩) := hdep 6 _ rfl (by kernel_rfl)
              clear hdep hext
              have q0 : w'.cell? ⟨gb, ob + k, none⟩ = some (.int .i64 z) := hW.u1.cell CZ.out HGF.out
              have HW := Lib.hid hW
              clear hW hcl hd hLi
              unfold OpDone
              go_simp
              exact ⟨rfl, ApSt.same, HW.out.same (by decide)⟩
            · refine fun ρ w' L hW hLi hcl hd hdep hext hc hg hf => ?_
              rw [if_pos (show wantedR _ _ _ = true from rfl)]
              have e60 : ρ (.tmp 60) = .int .i64 z := hdep 7 _ rfl (by kernel_rfl)
              clear hdep hext
              have wz : IntKind.u64.wrap z = z := HWZ.out
              have HW := Lib.hid hW
              clear hW hcl hd hLi
              unfold OpDone
              go_simp
              exact ⟨rfl, ApSt.same, HW.out.same (by decide)⟩
            · refine fun ρ w' L hW hLi hcl hd hdep hext hc hg hf => ?_
              rw [if_pos (show wantedR _ _ _ = true from rfl)]
              have e55 : (ApR bs nm) (ρ (.tmp 55)) w' := hdep 2 _ rfl (by kernel_rfl)
              have e61 : ρ (.tmp 61) = u64V z := hdep 8 _ rfl (by kernel_rfl)
              clear hdep hext
              obtain ⟨A55, k55, e55, r55⟩ := e55
              have L2 : L 2 = true := hd 2 (by kernel_rfl)
              have CL := Lib.hid (show Calls Tryz.prog 59 #[.slice A55 (bs.length + 8) k55, u64V z, .int .i64 ((6 : Nat) : Int)] w' (BytesPost w' (bs ++ nm ++ beB z 6)) from cAppendUint_any (bs := bs ++ nm) (by rw [List.length_append, H8N.out]; exact r55) z HZ0.out 6 (by omega) (by rw [List.length_append, H8N.out]; have := HBL.out; omega))
              have HW := Lib.hid hW
              have SW := Lib.hid (show S0 ≤ w'.heap.size from Nat.le_trans HS0.out hW.u1.size)
              clear hW hcl hd hLi r55
              generalize bs ++ nm ++ beB z 6 = LL at CL ⊢
              unfold OpDone
              go_simp
              refine CL.out.mono ?_
              rintro e w2 ⟨A2, c2, rfl, hN⟩
              exact ⟨_, rfl, ⟨A2, c2, rfl, ⟨hN.1, fun j hj => Nat.le_trans SW.out (hN.2.1 j hj)⟩⟩, ApSt.none hN.2.2, HW.out.step L2 (by decide) hN.2.2⟩
            · refine fun ρ w' L hW hLi hcl hd hdep hext hc hg hf => ?_
              rw [if_pos (show wantedR _ _ _ = true from rfl)]
              have e62 : (ApN S0 (bs ++ nm ++ beB z 6)) (ρ (.tmp 62)) w' := hdep 9 _ rfl (by kernel_rfl)
              clear hdep hext
              obtain ⟨A9, k9, e62, r9⟩ := e62
              have R9 := Lib.hid r9
              have HW := Lib.hid hW
              clear hW hcl hd hLi r9
              generalize bs ++ nm ++ beB z 6 = LL at e62 R9 ⊢
              unfold OpDone
              go_simp
              exact ⟨⟨A9, k9, rfl, R9.out⟩, ApSt.same, HW.out.same (by decide)⟩
          intro vs W3 L3 hL3 hW3 hR
          have hv0 : vs 0 = .slice D bs.length cd := hR 0 _ rfl
          have hv1 : vs 1 = .slice (some ⟨V, 0, none⟩) 8 8 := hR 1 _ rfl
          have hr2 : (ApR bs nm) (vs 2) W3 := hR 2 _ rfl
          obtain ⟨A55, c55, hv2, -⟩ := hr2
          have hv3 : vs 3 = .pointer (some ⟨X, 4, none⟩) := hR 3 _ rfl
          have hv4 : vs 4 = .slice (some ⟨gb, ob, none⟩) q c := hR 4 _ rfl
          have hv5 : vs 5 = .int .i64 (k : Int) := hR 5 _ rfl
          have hv6 : vs 6 = .pointer (some ⟨gb, ob + k, none⟩) := hR 6 _ rfl
          have hv7 : vs 7 = .int .i64 z := hR 7 _ rfl
          have hv8 : vs 8 = u64V z := hR 8 _ rfl
          have hr9 : (ApN S0 (bs ++ nm ++ beB z 6)) (vs 9) W3 := hR 9 _ rfl
          obtain ⟨A62, c62, hv9, hq9⟩ := hr9
          have hr10 : (ApN S0 (bs ++ nm ++ beB z 6)) (vs 10) W3 := hR 10 _ rfl
          obtain ⟨A4, c4, hv10, hq10⟩ := hr10
          simp only [putAll, Act.put, List.setIfInBounds_toArray, List.set_cons_zero, List.set_cons_succ, hv0, hv1, hv2, hv3, hv4, hv5, hv6, hv7, hv8, hv9, hv10]
          clear hR hv0 hv1 hv2 hv3 hv4 hv5 hv6 hv7 hv8 hv9 hv10
          have HW3 := Lib.hid hW3
          have Q10 := Lib.hid hq10
          clear hW3 hq9 hq10
          obtain ⟨L1, hL1⟩ : ∃ x, bs ++ nm ++ beB z 6 = x := ⟨_, rfl⟩
          have HL1 := Lib.hid hL1
          rw [hL1] at Q10 ⊢
          clear hL1
          go_wp2
          go_roundg (m - (k + 1))
          case measure => omega
          case rel => exact ⟨k + 1, L1, A4, c4, by first | rfl | go_num, by omega, by omega, by first | rfl | (congr 1; done), Lib.hid (by rw [egA_next HNM.out HZ.out, HBS.out]; exact HL1.out), Lib.hid ⟨Q10.out.1, fun j hj => Nat.le_trans HSS.out (Q10.out.2 j hj)⟩, Lib.hid (HW3.out.u1.blk HBX4.out HXF.out), Lib.hid (Nat.le_trans (Nat.le_trans HSS.out HS0.out) HW3.out.u1.size), Lib.hid (HUW4.out.trans HW3.out.u1 (fun j hj f => by have := HN.out.2 j f; have := HSX.out; have := HX.out; omega))⟩
        · have hltz : ¬ (k : Int) < (m : Int) := by omega
          obtain rfl : k = m := by omega
          have HEG := Lib.hid (show bs = EG from HBS.out.symm.trans HE2.out)
          go_wp2
          go_ret2
          refine ⟨D, cd, by rw [HEG.out]; rfl, ⟨?_, fun j hj => ?_⟩, HU.out⟩
          · have := HN.out.1
            rw [HEG.out] at this
            exact this
          · have := HN.out.2 j (by rw [HEG.out]; exact hj)
            have := HSX.out
            have := HX.out
            omega
end
end Go.Proofs.YtengcmfdfmnacaaGreat
