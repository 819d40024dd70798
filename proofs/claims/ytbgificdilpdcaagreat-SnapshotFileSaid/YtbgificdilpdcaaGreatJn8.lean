/- Encode of package vote and of the reference. No condition. The orders of names: Less of package hash; Number and Less of the reference. No condition. The order of votes: Less of package vote and of the reference. No condition. -/
import Derived.Test.YtbgificdilpdcaaGreatJn3
import Derived.Test.YtbgificdilpdcaaGreatJn7
import Derived.Deep.MidRow
import Derived.Test.YtbgificdilpdcaaGreatJn2
import Derived.Deep.RegionHeld3
import Derived.Deep.DrawnRows
import Derived.Outline
namespace Go.Proofs.YtbgificdilpdcaaGreat
section
open Go.RowKit

theorem byteV_byteZ (z : Int) : byteV (byteZ z) = .int .u8 (z % 256) := by
  show Value.int .u8 _ = _
  congr 1
  unfold byteZ
  simp
  omega

/-- Bytes that are being collected, beside a block that is kept. -/
def Acc (w0 w : World) (g : Nat) (t : TypeId) (cs : Array Value) (bs : List UInt8) (n : Nat) (A : Option Addr) (c : Nat) : Prop :=
  n = bs.length ∧ Own w 5 1 (.slice A n c) n (bs.map byteV) ∧ (∀ k, OwnB (.slice A n c) k → w0.heap.size ≤ k ∧ k ≠ g) ∧ Upd NoF w0 w ∧ Blk w g t cs
theorem Acc.push {w0 w wa w' : World} {g : Nat} {t : TypeId} {cs : Array Value} {bs ys : List UInt8} {n m : Nat} {A A' : Option Addr} {c c' : Nat} (h : Acc w0 w g t cs bs n A c) (ha : Upd NoF w wa) (hm : m = ys.length)
    (ho : Own w' 5 1 (.slice A' (n + m) c') (n + m) (bs.map byteV ++ ys.map byteV)) (hu : Upd (OwnB (.slice A n c)) wa w') (hn : ∀ k, OwnB (.slice A' (n + m) c') k → OwnB (.slice A n c) k ∨ wa.heap.size ≤ k) : Acc w0 w' g t cs (bs ++ ys) (n + m) A' c' := by
  obtain ⟨h1, h2, h3, h4, h5⟩ := h
  have hs := ha.size
  have hs0 := h4.size
  have hl := h5.lt
  refine ⟨by rw [List.length_append, h1, hm], by rw [List.map_append]; exact ho, fun k hk => ?_, (h4.trans ha (fun _ _ h => h)).trans hu (fun k hk e => by have := (h3 k e).1; omega), hu.blk (ha.blk h5 (fun h => h)) (fun e => (h3 _ e).2 rfl)⟩
  rcases hn k hk with e | e
  · exact h3 k e
  · omega
theorem Acc.call {w0 w w' : World} {g : Nat} {t : TypeId} {cs : Array Value} {bs : List UInt8} {n n' : Nat} {A A' : Option Addr} {c c' : Nat} {bs' : List UInt8} (h : Acc w0 w g t cs bs n A c) (hn : NewO w bs' A' c' w') (hl : n' = bs'.length) : Acc w0 w' g t cs bs' n' A' c' := by
  obtain ⟨h1, h2, h3, h4, h5⟩ := h
  obtain ⟨k1, k2, k3⟩ := hn
  subst hl
  have hs := h4.size
  have hl := h5.lt
  exact ⟨rfl, k1, fun k hk => by have := k2 k hk; omega, h4.trans k3 (fun _ _ h => h), k3.blk h5 (fun h => h)⟩
theorem Acc.rd {w0 w : World} {g : Nat} {t : TypeId} {cs : Array Value} {bs : List UInt8} {n : Nat} {A : Option Addr} {c : Nat} (h : Acc w0 w g t cs bs n A c) : Rd w 1 (.slice A n c) bs.length (bs.map byteV) := by
  have := h.2.1.rd
  rw [← h.1]
  exact this
theorem Acc.new {w0 w : World} {g : Nat} {t : TypeId} {cs : Array Value} {bs : List UInt8} {n : Nat} {A : Option Addr} {c : Nat} (h : Acc w0 w g t cs bs n A c) : NewO w0 bs A c w := by
  obtain ⟨h1, h2, h3, h4, h5⟩ := h
  subst h1
  exact ⟨h2, fun k hk => (h3 k hk).1, h4⟩
theorem pair_ret {w w' : World} {bs : List UInt8} {A : Option Addr} {c n : Nat} (h : NewO w bs A c w') (hn : n = bs.length) : PairPost w bs (.returned (.tuple #[.slice A n c, .bool true])) w' := by
  subst hn
  exact ⟨A, c, rfl, h⟩

theorem vc_len {v : VoteS} (hf : v.Fit) : (voteCells v).length = 22 := by simp [voteCells, hf.parent, hf.value]
theorem vc0 (v : VoteS) : (voteCells v)[0]? = some (.int .i64 v.kind) := rfl
theorem vc1 (v : VoteS) : (voteCells v)[1]? = some (.int .i64 v.slot) := rfl
theorem vc2 (v : VoteS) : (voteCells v)[2]? = some (.int .i64 v.round) := rfl
theorem vc3 (v : VoteS) : (voteCells v)[3]? = some (.int .i64 v.choice) := rfl
theorem vc4 (v : VoteS) : (voteCells v)[4]? = some (.int .i64 v.signer) := rfl
theorem vc5 (v : VoteS) : (voteCells v)[5]? = some (.int .i64 v.support) := rfl
theorem vc_parent {v : VoteS} (hf : v.Fit) : ∀ (j : Nat) u, (v.parent.map byteV)[j]? = some u → (voteCells v)[6 + j]? = some u := fun j u hu => by
  have hj : j < 8 := by have := (List.getElem?_eq_some_iff.1 hu).1; simpa [hf.parent] using this
  unfold voteCells
  rw [List.append_assoc, List.getElem?_append_right (by simp), List.getElem?_append_left (by simp [hf.parent]; omega)]
  simpa using hu
theorem vc_value {v : VoteS} (hf : v.Fit) : ∀ (j : Nat) u, (v.value.map byteV)[j]? = some u → (voteCells v)[14 + j]? = some u := fun j u hu => by
  unfold voteCells
  rw [List.getElem?_append_right (by simp [hf.parent])]
  simpa [hf.parent] using hu
theorem vote_size : (Tryz.prog.info? 55).map (·.size) = some 22 := by kernel_rfl
theorem range_blk {w : World} {g : Nat} {t : TypeId} {cs : List Value} (h : Blk w g t cs.toArray) : w.rangeAt g 0 cs := fun j v hv => by
  rw [h.cell]
  simpa using hv
/-- A whole vote read out of a variable. -/
theorem wpList_load_vote {ops : Array Oper} {rest : List Oper} {op : Oper} {a : Act} {w : World} {Q : Exit → Act → World → Prop} (hgd : op.guard = none) (x : Operand) (ho : op.op = .load 55 x)
    (b o : Nat) (hx : a.eval x = .pointer (some ⟨b, o, none⟩)) (v : VoteS) (hf : v.Fit) (hc : w.rangeAt b o (voteCells v))
    (h : wpList Tryz.prog ops Q rest (a.put op.dst (voteV v)) w) : wpList Tryz.prog ops Q (op :: rest) a w :=
  wpList_load_mid hgd 55 x ho b o hx (voteCells v) _ hc Tryz.underlying55 rfl (by rw [vote_size, vc_len hf]) h


set_option maxRecDepth 100000 in
set_option maxHeartbeats 4000000 in
theorem vEncode_no {v : VoteS} (hf : v.Fit) (w : World) (hv : validB v = false) : Calls Tryz.prog 76 #[voteV v] w (NilFalse w) := by
  have CV := Lib.hid (show ∀ w, Calls Tryz.prog 103 #[voteV v] w fun e w' => e = .returned (.bool false) ∧ Upd NoF w w' from fun w => by
    have := valid_any hf w
    rw [hv] at this
    exact this)
  have HF := Lib.hid hf
  clear hv hf
  go_enter Tryz.func76, Tryz.ntmps76
  go_wp2_with (refine wpList_load_vote rfl (.tmp 1) rfl w.heap.size 0 rfl v HF.out (range_blk (Blk.new w _ _)) ?_)
  refine (CV.out _).mono ?_
  rintro e w1 ⟨rfl, hu1⟩
  have U1 := Lib.hid hu1
  clear hu1
  go_wp2
  go_ret2
  exact ⟨rfl, ((Upd.refl NoF w).alloc _).trans U1.out (fun _ _ h => h)⟩


set_option maxRecDepth 100000 in
set_option maxHeartbeats 4000000 in
theorem vEncode_yes {v : VoteS} (hf : v.Fit) (w : World) (hv : validB v = true) : Calls Tryz.prog 76 #[voteV v] w (PairPost w (encV v)) := by
  have CV := Lib.hid (show ∀ w, Calls Tryz.prog 103 #[voteV v] w fun e w' => e = .returned (.bool true) ∧ Upd NoF w w' from fun w => by
    have := valid_any hf w
    rw [hv] at this
    exact this)
  have HF := Lib.hid hf
  have hV := validB_true.1 hv
  have hm0 : 0 ≤ v.support := hV.2.2.2.2.1
  have hm1 : v.support ≤ 1023 := hV.2.2.2.2.2.1
  have hwm : IntKind.u64.wrap v.support = v.support := by rw [wrap_u64]; omega
  have HM := Lib.hid hm0
  have HM1 := Lib.hid hm1
  obtain ⟨i1, hi1, hy0, hy1, hy2⟩ := info_parts byte_info
  have LP := Lib.hid hf.parent
  have LQ := Lib.hid hf.value
  clear hv hf hV hm0 hm1
  go_enter Tryz.func76, Tryz.ntmps76
  go_wp2_with (refine wpList_load_vote rfl (.tmp 1) rfl w.heap.size 0 rfl v HF.out (range_blk (Blk.new w _ _)) ?_)
  refine (CV.out _).mono ?_
  rintro e w1 ⟨rfl, hu1⟩
  have U1 := Lib.hid (((Upd.refl NoF w).alloc (.cells (voteCells v).toArray 55)).trans hu1 (fun _ _ h => h))
  have B1 := Lib.hid (hu1.blk (Blk.new w 55 (voteCells v).toArray) (fun h => h))
  have hz1 : w.heap.size < w1.heap.size := B1.out.lt
  clear hu1
  obtain ⟨w2, cs2, hmk, hb2, hs2, hu2⟩ := run_make_bytes w1 0 23 0 23 rfl rfl (by omega) (by omega)
  have AC := Lib.hid (show Acc w w2 w.heap.size 55 (voteCells v).toArray [] 0 (some ⟨w1.heap.size, 0, none⟩) 23 from
    ⟨rfl, ⟨by simp, .inr ⟨w1.heap.size, 23, cs2, rfl, hb2, by omega, by unfold maxLen; omega, by omega, by simp⟩⟩, fun k hk => by
      have h2 := U1.out.size
      simp [OwnB, Value.ownBlock] at hk
      omega, U1.out.trans hu2 (fun _ _ h => h), hu2.blk B1.out (fun h => h)⟩)
  have x0 : w2.cell? ⟨w.heap.size, 0, none⟩ = some (.int .i64 v.kind) := (AC.out.2.2.2.2.cell 0).trans (vc0 v)
  have x1 : w2.cell? ⟨w.heap.size, 1, none⟩ = some (.int .i64 v.slot) := (AC.out.2.2.2.2.cell 1).trans (vc1 v)
  have x2 : w2.cell? ⟨w.heap.size, 2, none⟩ = some (.int .i64 v.round) := (AC.out.2.2.2.2.cell 2).trans (vc2 v)
  have x3 : w2.cell? ⟨w.heap.size, 3, none⟩ = some (.int .i64 v.choice) := (AC.out.2.2.2.2.cell 3).trans (vc3 v)
  have x4 : w2.cell? ⟨w.heap.size, 4, none⟩ = some (.int .i64 v.signer) := (AC.out.2.2.2.2.cell 4).trans (vc4 v)
  have x5 : w2.cell? ⟨w.heap.size, 5, none⟩ = some (.int .i64 v.support) := (AC.out.2.2.2.2.cell 5).trans (vc5 v)
  clear hb2 hs2 hu2
  go_wp2_with (at_builtin; refine wpList_append_to _ rfl (.tmp 9) (.tmp 25) 28 rfl 5 i1 _ 1 1 Tryz.underlying28 hi1 hy0 hy1 hy2 rfl (.slice (some ⟨w1.heap.size, 0, none⟩) 0 23) 0 [] rfl (AC.out.2.1.upd ((Upd.refl NoF w2).alloc _) (fun _ _ h => h)) (.slice (some ⟨w2.heap.size, 0, none⟩) 5 5) 5 ([byteZ v.kind, byteZ v.slot, byteZ v.round, byteZ v.choice, byteZ v.signer].map byteV) rfl (Rd.of_blk (Blk.new w2 _ _) (by omega) (by unfold maxLen; omega) rfl (by intro j u hu; simp only [List.map_cons, List.map_nil, byteV_byteZ] at hu; simpa using hu)) (bytes_oneCell _) (by unfold maxLen; omega) (by omega) ?_; intro A3 c3 w3 hown3 hupd3 hnew3; have AC3 := Lib.hid (AC.out.push ((Upd.refl NoF w2).alloc _) (ys := [byteZ v.kind, byteZ v.slot, byteZ v.round, byteZ v.choice, byteZ v.signer]) (m := 5) rfl hown3 hupd3 hnew3); have d5 : w3.cell? ⟨w.heap.size, 5, none⟩ = some (.int .i64 v.support) := (AC3.out.2.2.2.2.cell 5).trans (vc5 v); clear hown3 hupd3 hnew3 x0 x1 x2 x3 x4 x5)
  have CA := Lib.hid (cAppendUint_any AC3.out.rd v.support HM.out 2 (by omega) (by simp))
  refine CA.out.mono ?_
  rintro e w4 ⟨A4, c4, rfl, hN4⟩
  have AC4 := Lib.hid (AC3.out.call hN4 (n' := 7) (by simp [beB_len]))
  rw [show ([] ++ [byteZ v.kind, byteZ v.slot, byteZ v.round, byteZ v.choice, byteZ v.signer] ++ beB v.support 2 : List UInt8).length = 7 from by simp [beB_len]]
  clear hN4
  go_wp2_with (first
    | (at_builtin; refine wpList_append_to _ rfl (.tmp 32) (.tmp 34) 28 rfl 5 i1 _ 1 1 Tryz.underlying28 hi1 hy0 hy1 hy2 rfl (.slice A4 7 c4) 7 _ rfl AC4.out.2.1 (.slice (some ⟨w.heap.size, 6, none⟩) 8 8) 8 (v.parent.map byteV) rfl (Rd.of_blk AC4.out.2.2.2.2 (by omega) (by unfold maxLen; omega) (by simp [LP.out]) (by intro j u hu; have := vc_parent HF.out j u hu; simpa using this)) (bytes_oneCell _) (by unfold maxLen; omega) (by omega) ?_; intro A5 c5 w5 hown5 hupd5 hnew5; have AC5 := Lib.hid (AC4.out.push (Upd.refl NoF w4) (ys := v.parent) (m := 8) LP.out.symm hown5 hupd5 hnew5); clear hown5 hupd5 hnew5 d5)
    | (at_builtin; refine wpList_append_to _ rfl (.tmp 36) (.tmp 38) 28 rfl 5 i1 _ 1 1 Tryz.underlying28 hi1 hy0 hy1 hy2 rfl (.slice A5 15 c5) 15 _ rfl AC5.out.2.1 (.slice (some ⟨w.heap.size, 14, none⟩) 8 8) 8 (v.value.map byteV) rfl (Rd.of_blk AC5.out.2.2.2.2 (by omega) (by unfold maxLen; omega) (by simp [LQ.out]) (by intro j u hu; have := vc_value HF.out j u hu; simpa using this)) (bytes_oneCell _) (by unfold maxLen; omega) (by omega) ?_; intro A6 c6 w6 hown6 hupd6 hnew6; have AC6 := Lib.hid (AC5.out.push (Upd.refl NoF w5) (ys := v.value) (m := 8) LQ.out.symm hown6 hupd6 hnew6); clear hown6 hupd6 hnew6))
  go_ret2
  exact pair_ret AC6.out.new (encV_len LP.out LQ.out).symm


set_option maxRecDepth 100000 in
set_option maxHeartbeats 4000000 in
theorem rEncode_no {v : VoteS} (hf : v.Fit) (w : World) (hv : validB v = false) : Calls Tryz.prog 79 #[voteV v] w (NilFalse w) := by
  have CV := Lib.hid (show ∀ w, Calls Tryz.prog 105 #[voteV v] w fun e w' => e = .returned (.bool false) ∧ Upd NoF w w' from fun w => by
    have := rvalid_any hf w
    rw [hv] at this
    exact this)
  have HF := Lib.hid hf
  clear hv hf
  go_enter Tryz.func79, Tryz.ntmps79
  go_wp2_with (refine wpList_load_vote rfl (.tmp 1) rfl w.heap.size 0 rfl v HF.out (range_blk (Blk.new w _ _)) ?_)
  refine (CV.out _).mono ?_
  rintro e w1 ⟨rfl, hu1⟩
  have U1 := Lib.hid hu1
  clear hu1
  go_wp2
  go_ret2
  exact ⟨rfl, ((Upd.refl NoF w).alloc _).trans U1.out (fun _ _ h => h)⟩


set_option maxRecDepth 100000 in
set_option maxHeartbeats 4000000 in
theorem rEncode_yes {v : VoteS} (hf : v.Fit) (w : World) (hv : validB v = true) : Calls Tryz.prog 79 #[voteV v] w (PairPost w (encV v)) := by
  have CV := Lib.hid (show ∀ w, Calls Tryz.prog 105 #[voteV v] w fun e w' => e = .returned (.bool true) ∧ Upd NoF w w' from fun w => by
    have := rvalid_any hf w
    rw [hv] at this
    exact this)
  have HF := Lib.hid hf
  have hV := validB_true.1 hv
  have hm0 : 0 ≤ v.support := hV.2.2.2.2.1
  have hm1 : v.support ≤ 1023 := hV.2.2.2.2.2.1
  have hwm : IntKind.u64.wrap v.support = v.support := by rw [wrap_u64]; omega
  have HM := Lib.hid hm0
  have HM1 := Lib.hid hm1
  obtain ⟨i1, hi1, hy0, hy1, hy2⟩ := info_parts byte_info
  have LP := Lib.hid hf.parent
  have LQ := Lib.hid hf.value
  clear hv hf hV hm0 hm1
  go_enter Tryz.func79, Tryz.ntmps79
  go_wp2_with (refine wpList_load_vote rfl (.tmp 1) rfl w.heap.size 0 rfl v HF.out (range_blk (Blk.new w _ _)) ?_)
  refine (CV.out _).mono ?_
  rintro e w1 ⟨rfl, hu1⟩
  have U1 := Lib.hid (((Upd.refl NoF w).alloc (.cells (voteCells v).toArray 55)).trans hu1 (fun _ _ h => h))
  have B1 := Lib.hid (hu1.blk (Blk.new w 55 (voteCells v).toArray) (fun h => h))
  have hz1 : w.heap.size < w1.heap.size := B1.out.lt
  clear hu1
  have x0 : w1.cell? ⟨w.heap.size, 0, none⟩ = some (.int .i64 v.kind) := (B1.out.cell 0).trans (vc0 v)
  have x1 : w1.cell? ⟨w.heap.size, 1, none⟩ = some (.int .i64 v.slot) := (B1.out.cell 1).trans (vc1 v)
  have x2 : w1.cell? ⟨w.heap.size, 2, none⟩ = some (.int .i64 v.round) := (B1.out.cell 2).trans (vc2 v)
  have x3 : w1.cell? ⟨w.heap.size, 3, none⟩ = some (.int .i64 v.choice) := (B1.out.cell 3).trans (vc3 v)
  have x4 : w1.cell? ⟨w.heap.size, 4, none⟩ = some (.int .i64 v.signer) := (B1.out.cell 4).trans (vc4 v)
  have x5 : w1.cell? ⟨w.heap.size, 5, none⟩ = some (.int .i64 v.support) := (B1.out.cell 5).trans (vc5 v)
  have hsh : v.support / 256 = v.support / 256 := rfl
  go_wp2
  obtain ⟨w2, hw2⟩ : ∃ w2, w2 = w1.alloc (.cells #[.int .u8 (v.kind % 256), .int .u8 (v.slot % 256), .int .u8 (v.round % 256), .int .u8 (v.choice % 256), .int .u8 (v.signer % 256), .int .u8 (v.support / 256 % 256), .int .u8 (v.support % 256)] 5) := ⟨_, rfl⟩
  rw [← hw2]
  have AC := Lib.hid (show Acc w w2 w.heap.size 55 (voteCells v).toArray [byteZ v.kind, byteZ v.slot, byteZ v.round, byteZ v.choice, byteZ v.signer, byteZ (v.support / 256), byteZ v.support] 7 (some ⟨w1.heap.size, 0, none⟩) 7 from by
    rw [hw2]
    refine ⟨rfl, ⟨rfl, .inr ⟨w1.heap.size, 7, _, rfl, Blk.new w1 _ _, by omega, by unfold maxLen; omega, by simp, ?_⟩⟩, fun k hk => ?_, U1.out.alloc _, B1.out.alloc _⟩
    · simp only [List.map_cons, List.map_nil, byteV_byteZ]
      rfl
    · have h2 := U1.out.size
      simp [OwnB, Value.ownBlock] at hk
      omega)
  clear hw2 x0 x1 x2 x3 x4 x5
  go_region_law
    (first
      | (refine step_append_to _ (by rfl) (.tmp 31) (.tmp 33) _ (by rfl) 5 i1 _ 1 1 Tryz.underlying28 hi1 hy0 hy1 hy2 rfl (.slice (some ⟨w1.heap.size, 0, none⟩) 7 7) 7 _ (by rfl) (AC.out.2.1.upd ((Upd.refl NoF w2).drew) (fun _ _ h => h)) (.slice (some ⟨w.heap.size, 6, none⟩) 8 8) 8 (v.parent.map byteV) (by rfl) (Rd.keep (Rd.of_blk AC.out.2.2.2.2 (by omega) (by unfold maxLen; omega) (by simp [LP.out]) (by intro j u hu; have := vc_parent HF.out j u hu; simpa using this)) ((Upd.refl NoF w2).drew)) (bytes_oneCell _) (by unfold maxLen; omega) (by omega) ?_; intro A5 c5 w5 hown5 hupd5 hnew5; have AC5 := Lib.hid (AC.out.push ((Upd.refl NoF w2).drew) (ys := v.parent) (m := 8) LP.out.symm hown5 hupd5 hnew5); clear hown5 hupd5 hnew5)
      | (refine step_append_to _ (by rfl) (.tmp 34) (.tmp 36) _ (by rfl) 5 i1 _ 1 1 Tryz.underlying28 hi1 hy0 hy1 hy2 rfl (.slice A5 15 c5) 15 _ (by rfl) AC5.out.2.1 (.slice (some ⟨w.heap.size, 14, none⟩) 8 8) 8 (v.value.map byteV) (by rfl) (Rd.of_blk AC5.out.2.2.2.2 (by omega) (by unfold maxLen; omega) (by simp [LQ.out]) (by intro j u hu; have := vc_value HF.out j u hu; simpa using this)) (bytes_oneCell _) (by unfold maxLen; omega) (by omega) ?_; intro A6 c6 w6 hown6 hupd6 hnew6; have AC6 := Lib.hid (AC5.out.push (Upd.refl NoF w5) (ys := v.value) (m := 8) LQ.out.symm hown6 hupd6 hnew6); clear hown6 hupd6 hnew6))
  all_goals
    go_wp2
    go_ret2
    have e : encV v = [byteZ v.kind, byteZ v.slot, byteZ v.round, byteZ v.choice, byteZ v.signer, byteZ (v.support / 256), byteZ v.support] ++ v.parent ++ v.value := by
      unfold encV
      rw [beB_two]
      rfl
    rw [e]
    exact pair_ret AC6.out.new (by have h1 := LP.out; have h2 := LQ.out; simp only [List.length_append, List.length_cons, List.length_nil, h1, h2])
end

section
open Go.RowKit
attribute [local go_sem ↓] Go.wp_at_zero Go.wp_at_succ

theorem name_spell {l : List UInt8} (h : l.length = 8) : ∃ b0 b1 b2 b3 b4 b5 b6 b7, l = [b0, b1, b2, b3, b4, b5, b6, b7] := by
  obtain ⟨b0, b1, b2, b3, b4, b5, b6, b7, r, rfl⟩ := eight l (by omega)
  obtain rfl : r = [] := by simpa using h
  exact ⟨b0, b1, b2, b3, b4, b5, b6, b7, rfl⟩
theorem retb {a b : Bool} (h : a = b) : Ending.returned (.bool a) = .returned (.bool b) := by rw [h]

set_option maxRecDepth 100000 in
set_option maxHeartbeats 2000000 in
theorem r1Number_any (l : List UInt8) (hl : l.length = 8) (w : World) : Calls Tryz.prog 126 #[nameV l] w fun e w' => e = .returned (u64V (be l)) ∧ Upd NoF w w' := by
  obtain ⟨b0, b1, b2, b3, b4, b5, b6, b7, rfl⟩ := name_spell hl
  have HC := Lib.hid (show ∀ (k : Nat) b, [b0, b1, b2, b3, b4, b5, b6, b7][k]? = some b → (w.alloc (.cells #[byteV b0, byteV b1, byteV b2, byteV b3, byteV b4, byteV b5, byteV b6, byteV b7] 53)).cell? ⟨w.heap.size, k, none⟩ = some (byteV b) from fun k b hb => by
    rw [(Blk.new w 53 _).cell k]
    have : ([b0, b1, b2, b3, b4, b5, b6, b7].map byteV)[k]? = some (byteV b) := by rw [List.getElem?_map, hb]; rfl
    simpa using this)
  clear hl
  go_enter Tryz.func126, Tryz.ntmps126
  go_wp2
  go_loop [3, 4] (fun x i => NumRel [b0, b1, b2, b3, b4, b5, b6, b7] x i) (fun _ i => 8 - (intOf i).toNat)
  case atStart => exact ⟨0, by omega, rfl, rfl⟩
  case round =>
    obtain ⟨k, hk, rfl, rfl⟩ := hrel
    by_cases hlt : k < 8
    · obtain ⟨b, hb⟩ : ∃ b, [b0, b1, b2, b3, b4, b5, b6, b7][k]? = some b := ⟨_, List.getElem?_eq_getElem hlt⟩
      have hcell := HC.out k b hb
      have HE := Lib.hid (be_take_succ _ k b hb)
      have HO := Lib.hid (or_byte (be (List.take k [b0, b1, b2, b3, b4, b5, b6, b7])) b (by
        have h1 := be_take_lt [b0, b1, b2, b3, b4, b5, b6, b7] k
        have h2 : (256 : Nat) ^ k ≤ 256 ^ 7 := Nat.pow_le_pow_right (by omega) (by omega)
        omega))
      have t1 : decide ((k : Int) < 8) = true := by simp; omega
      have t1' : decide (k < 8) = true := by simp; omega
      have q0 : (0 : Int) ≤ (k : Int) := by omega
      have q1 : (k : Int) < 8 := by omega
      generalize be (List.take k [b0, b1, b2, b3, b4, b5, b6, b7]) = u at HE HO ⊢
      clear hb
      go_wp2
      go_round
      case rel =>
        refine ⟨k + 1, by omega, by go_num, ?_⟩
        rw [HE.out, wrap_u64_byte, HO.out]
      case measure => simp [intOf]; omega
    · have t1 : decide ((k : Int) < 8) = false := by simp; omega
      have t1' : decide (k < 8) = false := by simp; omega
      obtain rfl : k = 8 := by omega
      go_wp2
      go_ret
      exact ⟨rfl, (Upd.refl NoF w).alloc _⟩


set_option maxRecDepth 100000 in
set_option maxHeartbeats 4000000 in
theorem hLess_any (a b : List UInt8) (ha : a.length = 8) (hb : b.length = 8) (w : World) : Calls Tryz.prog 124 #[nameV a, nameV b] w fun e w' => e = .returned (.bool (lessN a b)) ∧ Upd NoF w w' := by
  obtain ⟨a0, a1, a2, a3, a4, a5, a6, a7, rfl⟩ := name_spell ha
  obtain ⟨b0, b1, b2, b3, b4, b5, b6, b7, rfl⟩ := name_spell hb
  have NA := Lib.hid (show ∀ w, Calls Tryz.prog 135 #[.agg #[byteV a0, byteV a1, byteV a2, byteV a3, byteV a4, byteV a5, byteV a6, byteV a7]] w (fun e w' => e = .returned (u64V (be [a0, a1, a2, a3, a4, a5, a6, a7])) ∧ Upd NoF w w') from fun w => hNumber_any [a0, a1, a2, a3, a4, a5, a6, a7] rfl w)
  have NB := Lib.hid (show ∀ w, Calls Tryz.prog 135 #[.agg #[byteV b0, byteV b1, byteV b2, byteV b3, byteV b4, byteV b5, byteV b6, byteV b7]] w (fun e w' => e = .returned (u64V (be [b0, b1, b2, b3, b4, b5, b6, b7])) ∧ Upd NoF w w') from fun w => hNumber_any [b0, b1, b2, b3, b4, b5, b6, b7] rfl w)
  have LE := Lib.hid (show (decide (be [a0, a1, a2, a3, a4, a5, a6, a7] < be [b0, b1, b2, b3, b4, b5, b6, b7])) = lessN [a0, a1, a2, a3, a4, a5, a6, a7] [b0, b1, b2, b3, b4, b5, b6, b7] from rfl)
  have TW := Lib.hid (show ∀ W', Upd NoF ((w.alloc (.cells #[byteV a0, byteV a1, byteV a2, byteV a3, byteV a4, byteV a5, byteV a6, byteV a7] 53)).alloc (.cells #[byteV b0, byteV b1, byteV b2, byteV b3, byteV b4, byteV b5, byteV b6, byteV b7] 53)) W' → (W'.cell? ⟨w.heap.size, 0, none⟩ = some (byteV a0) ∧ W'.cell? ⟨w.heap.size, 1, none⟩ = some (byteV a1) ∧ W'.cell? ⟨w.heap.size, 2, none⟩ = some (byteV a2) ∧ W'.cell? ⟨w.heap.size, 3, none⟩ = some (byteV a3) ∧ W'.cell? ⟨w.heap.size, 4, none⟩ = some (byteV a4) ∧ W'.cell? ⟨w.heap.size, 5, none⟩ = some (byteV a5) ∧ W'.cell? ⟨w.heap.size, 6, none⟩ = some (byteV a6) ∧ W'.cell? ⟨w.heap.size, 7, none⟩ = some (byteV a7) ∧ W'.cell? ⟨w.heap.size + 1, 0, none⟩ = some (byteV b0) ∧ W'.cell? ⟨w.heap.size + 1, 1, none⟩ = some (byteV b1) ∧ W'.cell? ⟨w.heap.size + 1, 2, none⟩ = some (byteV b2) ∧ W'.cell? ⟨w.heap.size + 1, 3, none⟩ = some (byteV b3) ∧ W'.cell? ⟨w.heap.size + 1, 4, none⟩ = some (byteV b4) ∧ W'.cell? ⟨w.heap.size + 1, 5, none⟩ = some (byteV b5) ∧ W'.cell? ⟨w.heap.size + 1, 6, none⟩ = some (byteV b6) ∧ W'.cell? ⟨w.heap.size + 1, 7, none⟩ = some (byteV b7)) from fun W' hu => by
    have h1 := hu.blk ((Blk.new w 53 #[byteV a0, byteV a1, byteV a2, byteV a3, byteV a4, byteV a5, byteV a6, byteV a7]).alloc (.cells #[byteV b0, byteV b1, byteV b2, byteV b3, byteV b4, byteV b5, byteV b6, byteV b7] 53)) (fun h => h)
    have h2 := hu.blk (Blk.new (w.alloc (.cells #[byteV a0, byteV a1, byteV a2, byteV a3, byteV a4, byteV a5, byteV a6, byteV a7] 53)) 53 #[byteV b0, byteV b1, byteV b2, byteV b3, byteV b4, byteV b5, byteV b6, byteV b7]) (fun h => h)
    rw [show (w.alloc (.cells #[byteV a0, byteV a1, byteV a2, byteV a3, byteV a4, byteV a5, byteV a6, byteV a7] 53)).heap.size = w.heap.size + 1 from by simp] at h2
    exact ⟨h1.cell 0, h1.cell 1, h1.cell 2, h1.cell 3, h1.cell 4, h1.cell 5, h1.cell 6, h1.cell 7, h2.cell 0, h2.cell 1, h2.cell 2, h2.cell 3, h2.cell 4, h2.cell 5, h2.cell 6, h2.cell 7⟩)
  have hq := name_eql [a0, a1, a2, a3, a4, a5, a6, a7] [b0, b1, b2, b3, b4, b5, b6, b7] rfl rfl
  have hq' : ∀ w, (binOp .eql 53 (.agg #[byteV a0, byteV a1, byteV a2, byteV a3, byteV a4, byteV a5, byteV a6, byteV a7]) (.agg #[byteV b0, byteV b1, byteV b2, byteV b3, byteV b4, byteV b5, byteV b6, byteV b7])).run Tryz.prog w = .ok (.bool ([a0, a1, a2, a3, a4, a5, a6, a7] == [b0, b1, b2, b3, b4, b5, b6, b7])) w := fun w => name_eql [a0, a1, a2, a3, a4, a5, a6, a7] [b0, b1, b2, b3, b4, b5, b6, b7] rfl rfl w
  by_cases he : ([a0, a1, a2, a3, a4, a5, a6, a7] == [b0, b1, b2, b3, b4, b5, b6, b7]) = true
  · rw [he] at hq'
    have HZ := Lib.hid (show false = lessN [a0, a1, a2, a3, a4, a5, a6, a7] [b0, b1, b2, b3, b4, b5, b6, b7] from by rw [eq_of_beq he]; simp [lessN])
    clear he hq
    generalize lessN [a0, a1, a2, a3, a4, a5, a6, a7] [b0, b1, b2, b3, b4, b5, b6, b7] = Z at HZ LE ⊢
    go_enter Tryz.func124, Tryz.ntmps124
    go_wp2
    go_ret
    exact ⟨retb HZ.out, (((Upd.refl NoF w).alloc _).alloc _)⟩
  have he : ([a0, a1, a2, a3, a4, a5, a6, a7] == [b0, b1, b2, b3, b4, b5, b6, b7]) = false := by simpa using he
  rw [he] at hq'
  clear he hq
  generalize lessN [a0, a1, a2, a3, a4, a5, a6, a7] [b0, b1, b2, b3, b4, b5, b6, b7] = Z at LE ⊢
  generalize be [a0, a1, a2, a3, a4, a5, a6, a7] = x at NA LE ⊢
  generalize be [b0, b1, b2, b3, b4, b5, b6, b7] = y at NB LE ⊢
  clear ha hb
  go_enter Tryz.func124, Tryz.ntmps124
  go_wp2
  go_region_held3 (fun w' => w'.cell? ⟨w.heap.size, 0, none⟩ = some (byteV a0) ∧ w'.cell? ⟨w.heap.size, 1, none⟩ = some (byteV a1) ∧ w'.cell? ⟨w.heap.size, 2, none⟩ = some (byteV a2) ∧ w'.cell? ⟨w.heap.size, 3, none⟩ = some (byteV a3) ∧ w'.cell? ⟨w.heap.size, 4, none⟩ = some (byteV a4) ∧ w'.cell? ⟨w.heap.size, 5, none⟩ = some (byteV a5) ∧ w'.cell? ⟨w.heap.size, 6, none⟩ = some (byteV a6) ∧ w'.cell? ⟨w.heap.size, 7, none⟩ = some (byteV a7) ∧ w'.cell? ⟨w.heap.size + 1, 0, none⟩ = some (byteV b0) ∧ w'.cell? ⟨w.heap.size + 1, 1, none⟩ = some (byteV b1) ∧ w'.cell? ⟨w.heap.size + 1, 2, none⟩ = some (byteV b2) ∧ w'.cell? ⟨w.heap.size + 1, 3, none⟩ = some (byteV b3) ∧ w'.cell? ⟨w.heap.size + 1, 4, none⟩ = some (byteV b4) ∧ w'.cell? ⟨w.heap.size + 1, 5, none⟩ = some (byteV b5) ∧ w'.cell? ⟨w.heap.size + 1, 6, none⟩ = some (byteV b6) ∧ w'.cell? ⟨w.heap.size + 1, 7, none⟩ = some (byteV b7))
    (first | exact TW.out _ U2.out | exact TW.out _ U1.out | exact TW.out _ (Upd.refl NoF _) | exact TW.out _ ((Upd.refl NoF _).drew))
    (first
      | (go_at_call 135; (with_reducible refine (NA.out _).mono ?_); rintro e w1 ⟨rfl, hu1⟩; have U1 := Lib.hid (((Upd.refl NoF ((w.alloc (.cells #[byteV a0, byteV a1, byteV a2, byteV a3, byteV a4, byteV a5, byteV a6, byteV a7] 53)).alloc (.cells #[byteV b0, byteV b1, byteV b2, byteV b3, byteV b4, byteV b5, byteV b6, byteV b7] 53))).drew).trans hu1 (fun _ _ h => h)); clear hu1)
      | (go_at_call 135; (with_reducible refine (NB.out _).mono ?_); rintro e w2 ⟨rfl, hu2⟩; have U2 := Lib.hid (U1.out.trans hu2 (fun _ _ h => h)); clear hu2))
  go_wp2
  go_ret
  exact ⟨retb LE.out, (((Upd.refl NoF w).alloc _).alloc _).trans U2.out (fun _ _ h => h)⟩


set_option maxRecDepth 100000 in
set_option maxHeartbeats 4000000 in
theorem r1Less_any (a b : List UInt8) (ha : a.length = 8) (hb : b.length = 8) (w : World) : Calls Tryz.prog 106 #[nameV a, nameV b] w fun e w' => e = .returned (.bool (lessN a b)) ∧ Upd NoF w w' := by
  obtain ⟨a0, a1, a2, a3, a4, a5, a6, a7, rfl⟩ := name_spell ha
  obtain ⟨b0, b1, b2, b3, b4, b5, b6, b7, rfl⟩ := name_spell hb
  have NA := Lib.hid (show ∀ w, Calls Tryz.prog 126 #[.agg #[byteV a0, byteV a1, byteV a2, byteV a3, byteV a4, byteV a5, byteV a6, byteV a7]] w (fun e w' => e = .returned (u64V (be [a0, a1, a2, a3, a4, a5, a6, a7])) ∧ Upd NoF w w') from fun w => r1Number_any [a0, a1, a2, a3, a4, a5, a6, a7] rfl w)
  have NB := Lib.hid (show ∀ w, Calls Tryz.prog 126 #[.agg #[byteV b0, byteV b1, byteV b2, byteV b3, byteV b4, byteV b5, byteV b6, byteV b7]] w (fun e w' => e = .returned (u64V (be [b0, b1, b2, b3, b4, b5, b6, b7])) ∧ Upd NoF w w') from fun w => r1Number_any [b0, b1, b2, b3, b4, b5, b6, b7] rfl w)
  have LE := Lib.hid (show (decide (be [a0, a1, a2, a3, a4, a5, a6, a7] < be [b0, b1, b2, b3, b4, b5, b6, b7])) = lessN [a0, a1, a2, a3, a4, a5, a6, a7] [b0, b1, b2, b3, b4, b5, b6, b7] from rfl)
  have TW := Lib.hid (show ∀ W', Upd NoF ((w.alloc (.cells #[byteV a0, byteV a1, byteV a2, byteV a3, byteV a4, byteV a5, byteV a6, byteV a7] 53)).alloc (.cells #[byteV b0, byteV b1, byteV b2, byteV b3, byteV b4, byteV b5, byteV b6, byteV b7] 53)) W' → (W'.cell? ⟨w.heap.size, 0, none⟩ = some (byteV a0) ∧ W'.cell? ⟨w.heap.size, 1, none⟩ = some (byteV a1) ∧ W'.cell? ⟨w.heap.size, 2, none⟩ = some (byteV a2) ∧ W'.cell? ⟨w.heap.size, 3, none⟩ = some (byteV a3) ∧ W'.cell? ⟨w.heap.size, 4, none⟩ = some (byteV a4) ∧ W'.cell? ⟨w.heap.size, 5, none⟩ = some (byteV a5) ∧ W'.cell? ⟨w.heap.size, 6, none⟩ = some (byteV a6) ∧ W'.cell? ⟨w.heap.size, 7, none⟩ = some (byteV a7) ∧ W'.cell? ⟨w.heap.size + 1, 0, none⟩ = some (byteV b0) ∧ W'.cell? ⟨w.heap.size + 1, 1, none⟩ = some (byteV b1) ∧ W'.cell? ⟨w.heap.size + 1, 2, none⟩ = some (byteV b2) ∧ W'.cell? ⟨w.heap.size + 1, 3, none⟩ = some (byteV b3) ∧ W'.cell? ⟨w.heap.size + 1, 4, none⟩ = some (byteV b4) ∧ W'.cell? ⟨w.heap.size + 1, 5, none⟩ = some (byteV b5) ∧ W'.cell? ⟨w.heap.size + 1, 6, none⟩ = some (byteV b6) ∧ W'.cell? ⟨w.heap.size + 1, 7, none⟩ = some (byteV b7)) from fun W' hu => by
    have h1 := hu.blk ((Blk.new w 53 #[byteV a0, byteV a1, byteV a2, byteV a3, byteV a4, byteV a5, byteV a6, byteV a7]).alloc (.cells #[byteV b0, byteV b1, byteV b2, byteV b3, byteV b4, byteV b5, byteV b6, byteV b7] 53)) (fun h => h)
    have h2 := hu.blk (Blk.new (w.alloc (.cells #[byteV a0, byteV a1, byteV a2, byteV a3, byteV a4, byteV a5, byteV a6, byteV a7] 53)) 53 #[byteV b0, byteV b1, byteV b2, byteV b3, byteV b4, byteV b5, byteV b6, byteV b7]) (fun h => h)
    rw [show (w.alloc (.cells #[byteV a0, byteV a1, byteV a2, byteV a3, byteV a4, byteV a5, byteV a6, byteV a7] 53)).heap.size = w.heap.size + 1 from by simp] at h2
    exact ⟨h1.cell 0, h1.cell 1, h1.cell 2, h1.cell 3, h1.cell 4, h1.cell 5, h1.cell 6, h1.cell 7, h2.cell 0, h2.cell 1, h2.cell 2, h2.cell 3, h2.cell 4, h2.cell 5, h2.cell 6, h2.cell 7⟩)
  generalize lessN [a0, a1, a2, a3, a4, a5, a6, a7] [b0, b1, b2, b3, b4, b5, b6, b7] = Z at LE ⊢
  generalize be [a0, a1, a2, a3, a4, a5, a6, a7] = x at NA LE ⊢
  generalize be [b0, b1, b2, b3, b4, b5, b6, b7] = y at NB LE ⊢
  clear ha hb
  go_enter Tryz.func106, Tryz.ntmps106
  go_wp2
  go_region_held3 (fun w' => w'.cell? ⟨w.heap.size, 0, none⟩ = some (byteV a0) ∧ w'.cell? ⟨w.heap.size, 1, none⟩ = some (byteV a1) ∧ w'.cell? ⟨w.heap.size, 2, none⟩ = some (byteV a2) ∧ w'.cell? ⟨w.heap.size, 3, none⟩ = some (byteV a3) ∧ w'.cell? ⟨w.heap.size, 4, none⟩ = some (byteV a4) ∧ w'.cell? ⟨w.heap.size, 5, none⟩ = some (byteV a5) ∧ w'.cell? ⟨w.heap.size, 6, none⟩ = some (byteV a6) ∧ w'.cell? ⟨w.heap.size, 7, none⟩ = some (byteV a7) ∧ w'.cell? ⟨w.heap.size + 1, 0, none⟩ = some (byteV b0) ∧ w'.cell? ⟨w.heap.size + 1, 1, none⟩ = some (byteV b1) ∧ w'.cell? ⟨w.heap.size + 1, 2, none⟩ = some (byteV b2) ∧ w'.cell? ⟨w.heap.size + 1, 3, none⟩ = some (byteV b3) ∧ w'.cell? ⟨w.heap.size + 1, 4, none⟩ = some (byteV b4) ∧ w'.cell? ⟨w.heap.size + 1, 5, none⟩ = some (byteV b5) ∧ w'.cell? ⟨w.heap.size + 1, 6, none⟩ = some (byteV b6) ∧ w'.cell? ⟨w.heap.size + 1, 7, none⟩ = some (byteV b7))
    (first | exact TW.out _ U2.out | exact TW.out _ U1.out | exact TW.out _ (Upd.refl NoF _) | exact TW.out _ ((Upd.refl NoF _).drew))
    (first
      | (go_at_call 126; (with_reducible refine (NA.out _).mono ?_); rintro e w1 ⟨rfl, hu1⟩; have U1 := Lib.hid (((Upd.refl NoF ((w.alloc (.cells #[byteV a0, byteV a1, byteV a2, byteV a3, byteV a4, byteV a5, byteV a6, byteV a7] 53)).alloc (.cells #[byteV b0, byteV b1, byteV b2, byteV b3, byteV b4, byteV b5, byteV b6, byteV b7] 53))).drew).trans hu1 (fun _ _ h => h)); clear hu1)
      | (go_at_call 126; (with_reducible refine (NB.out _).mono ?_); rintro e w2 ⟨rfl, hu2⟩; have U2 := Lib.hid (U1.out.trans hu2 (fun _ _ h => h)); clear hu2))
  go_wp2
  go_ret
  exact ⟨retb LE.out, (((Upd.refl NoF w).alloc _).alloc _).trans U2.out (fun _ _ h => h)⟩
end

section
open Go.RowKit

/-- A name read out of a variable. -/
theorem wpList_load_name {ops : Array Oper} {rest : List Oper} {op : Oper} {a : Act} {w : World} {Q : Exit → Act → World → Prop} (hgd : op.guard = none) (x : Operand) (ho : op.op = .load 53 x)
    (b o : Nat) (hx : a.eval x = .pointer (some ⟨b, o, none⟩)) (l : List UInt8) (hl : l.length = 8) (hc : w.rangeAt b o (l.map byteV)) (v : Value) (hv : nameV l = v)
    (h : wpList Tryz.prog ops Q rest (a.put op.dst v) w) : wpList Tryz.prog ops Q (op :: rest) a w := by
  subst hv
  exact wpList_load_mid hgd 53 x ho b o hx (l.map byteV) _ hc Tryz.underlying53 rfl (by rw [show (Tryz.prog.info? 53).map (·.size) = some 8 by kernel_rfl]; simp [hl]) h

theorem range_part {w : World} {g : Nat} {t : TypeId} {cs : Array Value} (h : Blk w g t cs) {o : Nat} {xs : List Value} (hx : ∀ (j : Nat) u, xs[j]? = some u → cs[o + j]? = some u) : w.rangeAt g o xs := fun j v hv => by
  rw [h.cell]
  exact hx j v hv

def five (v : VoteS) : List Int := [v.slot, v.round, v.kind, v.signer, v.choice]
theorem lessV_at {a b : VoteS} (hp : a.parent = b.parent) {k : Nat} {x y : Int} (h : ∀ j, j < k → (five a)[j]? = (five b)[j]?) (hx : (five a)[k]? = some x) (hy : (five b)[k]? = some y) (hne : x ≠ y) : lessV a b = decide (x < y) := by
  have hk : k < 5 := (List.getElem?_eq_some_iff.1 hx).1
  have e : k = 0 ∨ k = 1 ∨ k = 2 ∨ k = 3 ∨ k = 4 := by omega
  unfold lessV
  rw [if_pos hp]
  rcases e with rfl | rfl | rfl | rfl | rfl
  · simp [five] at hx hy; subst hx hy; rw [if_neg hne]
  · have h0 := h 0 (by omega)
    simp [five] at hx hy h0; subst hx hy; rw [if_pos h0, if_neg hne]
  · have h0 := h 0 (by omega)
    have h1 := h 1 (by omega)
    simp [five] at hx hy h0 h1; subst hx hy; rw [if_pos h0, if_pos h1, if_neg hne]
  · have h0 := h 0 (by omega)
    have h1 := h 1 (by omega)
    have h2 := h 2 (by omega)
    simp [five] at hx hy h0 h1 h2; subst hx hy; rw [if_pos h0, if_pos h1, if_pos h2, if_neg hne]
  · have h0 := h 0 (by omega)
    have h1 := h 1 (by omega)
    have h2 := h 2 (by omega)
    have h3 := h 3 (by omega)
    simp [five] at hx hy h0 h1 h2 h3; subst hx hy; rw [if_pos h0, if_pos h1, if_pos h2, if_pos h3, if_neg hne]
theorem lessV_val {a b : VoteS} (hp : a.parent = b.parent) (h : ∀ j, j < 5 → (five a)[j]? = (five b)[j]?) : lessV a b = if a.value = b.value then decide (a.support < b.support) else lessN a.value b.value := by
  have h0 := h 0 (by omega)
  have h1 := h 1 (by omega)
  have h2 := h 2 (by omega)
  have h3 := h 3 (by omega)
  have h4 := h 4 (by omega)
  simp [five] at h0 h1 h2 h3 h4
  unfold lessV
  rw [if_pos hp, if_pos h0, if_pos h1, if_pos h2, if_pos h3, if_pos h4]
def LsRel (a b : VoteS) (W : World) (i : Value) (wr : World) : Prop := ∃ k q : Nat, k ≤ 5 ∧ i = .int .i64 k ∧ (∀ j, j < k → (five a)[j]? = (five b)[j]?) ∧ wr = W.drewN q
theorem five_cell (v : VoteS) {k : Nat} {x : Int} (h : (five v)[k]? = some x) : (#[.int .i64 v.slot, .int .i64 v.round, .int .i64 v.kind, .int .i64 v.signer, .int .i64 v.choice] : Array Value)[k]? = some (.int .i64 x) := by
  have : ((five v).map (Value.int .i64))[k]? = some (.int .i64 x) := by rw [List.getElem?_map, h]; rfl
  simpa [five] using this


set_option maxRecDepth 100000 in
set_option maxHeartbeats 4000000 in
theorem vLess_p {a b : VoteS} (ha : a.Fit) (hb : b.Fit) (w : World) (hp : ¬ a.parent = b.parent) : Calls Tryz.prog 104 #[voteV a, voteV b] w fun e w' => e = .returned (.bool (lessV a b)) ∧ Upd NoF w w' := by
  have HZ := Lib.hid (show lessV a b = lessN a.parent b.parent from by unfold lessV; rw [if_neg hp])
  have hne : ∀ w, (binOp .neq 53 (nameV a.parent) (nameV b.parent)).run Tryz.prog w = .ok (.bool true) w := fun w => by rw [name_neq _ _ ha.parent hb.parent, beq_eq_false_iff_ne.2 hp]; rfl
  have CL := hLess_any a.parent b.parent ha.parent hb.parent
  obtain ⟨pa, hpa⟩ : ∃ pa, nameV a.parent = .agg pa := ⟨_, rfl⟩
  obtain ⟨pb, hpb⟩ : ∃ pb, nameV b.parent = .agg pb := ⟨_, rfl⟩
  rw [hpa, hpb] at hne CL
  have HCL := Lib.hid CL
  have HPA := Lib.hid hpa
  have HPB := Lib.hid hpb
  have HA := Lib.hid ha
  have HB := Lib.hid hb
  have B1 := Lib.hid ((Blk.new w 55 (voteCells a).toArray).alloc (.cells (voteCells b).toArray 55))
  have B2 := Lib.hid (show Blk ((w.alloc (.cells (voteCells a).toArray 55)).alloc (.cells (voteCells b).toArray 55)) (w.heap.size + 1) 55 (voteCells b).toArray from by have := Blk.new (w.alloc (.cells (voteCells a).toArray 55)) 55 (voteCells b).toArray; simpa using this)
  clear hpa hpb ha hb hp CL
  generalize lessV a b = Z at HZ ⊢
  go_enter Tryz.func104, Tryz.ntmps104
  go_wp2_with (first
    | (refine wpList_load_name rfl (.tmp 8) rfl (w.heap.size) 6 rfl a.parent HA.out.parent (range_part B1.out (fun j u hu => by have := vc_parent HA.out j u hu; simpa using this)) (.agg pa) HPA.out ?_)
    | (refine wpList_load_name rfl (.tmp 10) rfl (w.heap.size + 1) 6 rfl b.parent HB.out.parent (range_part B2.out (fun j u hu => by have := vc_parent HB.out j u hu; simpa using this)) (.agg pb) HPB.out ?_)
    | (refine wpList_load_name rfl (.tmp 13) rfl (w.heap.size) 6 rfl a.parent HA.out.parent (range_part B1.out (fun j u hu => by have := vc_parent HA.out j u hu; simpa using this)) (.agg pa) HPA.out ?_)
    | (refine wpList_load_name rfl (.tmp 15) rfl (w.heap.size + 1) 6 rfl b.parent HB.out.parent (range_part B2.out (fun j u hu => by have := vc_parent HB.out j u hu; simpa using this)) (.agg pb) HPB.out ?_))
  refine (HCL.out _).mono ?_
  rintro e w1 ⟨rfl, hu1⟩
  have U1 := Lib.hid hu1
  clear hu1
  go_wp2
  go_ret
  exact ⟨retb HZ.out.symm, (((Upd.refl NoF w).alloc _).alloc _).trans U1.out (fun _ _ h => h)⟩

set_option maxRecDepth 100000 in
set_option maxHeartbeats 4000000 in
theorem vLess_q {a b : VoteS} (ha : a.Fit) (hb : b.Fit) (w : World) (hp : a.parent = b.parent) : Calls Tryz.prog 104 #[voteV a, voteV b] w fun e w' => e = .returned (.bool (lessV a b)) ∧ Upd NoF w w' := by
  have hne : ∀ w, (binOp .neq 53 (nameV a.parent) (nameV b.parent)).run Tryz.prog w = .ok (.bool false) w := fun w => by rw [name_neq _ _ ha.parent hb.parent, hp]; simp
  have hnv : ∀ w, (binOp .neq 53 (nameV a.value) (nameV b.value)).run Tryz.prog w = .ok (.bool (!(a.value == b.value))) w := fun w => name_neq _ _ ha.value hb.value w
  have CL := hLess_any a.value b.value ha.value hb.value
  obtain ⟨pa, hpa⟩ : ∃ pa, nameV a.parent = .agg pa := ⟨_, rfl⟩
  obtain ⟨pb, hpb⟩ : ∃ pb, nameV b.parent = .agg pb := ⟨_, rfl⟩
  obtain ⟨va, hva⟩ : ∃ pa, nameV a.value = .agg pa := ⟨_, rfl⟩
  obtain ⟨vb, hvb⟩ : ∃ pb, nameV b.value = .agg pb := ⟨_, rfl⟩
  rw [hpa, hpb] at hne
  rw [hva, hvb] at hnv CL
  have HCL := Lib.hid CL
  have HNV := Lib.hid hnv
  have HPA := Lib.hid hpa
  have HPB := Lib.hid hpb
  have HVA := Lib.hid hva
  have HVB := Lib.hid hvb
  have HA := Lib.hid ha
  have HB := Lib.hid hb
  have HP := Lib.hid hp
  have B1 := Lib.hid ((Blk.new w 55 (voteCells a).toArray).alloc (.cells (voteCells b).toArray 55))
  have B2 := Lib.hid (show Blk ((w.alloc (.cells (voteCells a).toArray 55)).alloc (.cells (voteCells b).toArray 55)) (w.heap.size + 1) 55 (voteCells b).toArray from by have := Blk.new (w.alloc (.cells (voteCells a).toArray 55)) 55 (voteCells b).toArray; simpa using this)
  have x0 : (voteCells a)[0]? = some (.int .i64 a.kind) := vc0 a
  have y0 : (voteCells b)[0]? = some (.int .i64 b.kind) := vc0 b
  have x1 : (voteCells a)[1]? = some (.int .i64 a.slot) := vc1 a
  have y1 : (voteCells b)[1]? = some (.int .i64 b.slot) := vc1 b
  have x2 : (voteCells a)[2]? = some (.int .i64 a.round) := vc2 a
  have y2 : (voteCells b)[2]? = some (.int .i64 b.round) := vc2 b
  have x3 : (voteCells a)[3]? = some (.int .i64 a.choice) := vc3 a
  have y3 : (voteCells b)[3]? = some (.int .i64 b.choice) := vc3 b
  have x4 : (voteCells a)[4]? = some (.int .i64 a.signer) := vc4 a
  have y4 : (voteCells b)[4]? = some (.int .i64 b.signer) := vc4 b
  have x5 : (voteCells a)[5]? = some (.int .i64 a.support) := vc5 a
  have y5 : (voteCells b)[5]? = some (.int .i64 b.support) := vc5 b
  clear hpa hpb ha hb hp hva hvb hnv CL
  go_enter Tryz.func104, Tryz.ntmps104
  go_wp2_with (first
    | (refine wpList_load_name rfl (.tmp 8) rfl (w.heap.size) 6 rfl a.parent HA.out.parent (range_part B1.out (fun j u hu => by have := vc_parent HA.out j u hu; simpa using this)) (.agg pa) HPA.out ?_)
    | (refine wpList_load_name rfl (.tmp 10) rfl (w.heap.size + 1) 6 rfl b.parent HB.out.parent (range_part B2.out (fun j u hu => by have := vc_parent HB.out j u hu; simpa using this)) (.agg pb) HPB.out ?_))
  obtain ⟨W, hW⟩ : ∃ W, W = ((((w.alloc (.cells (voteCells a).toArray 55)).alloc (.cells (voteCells b).toArray 55)).alloc (.cells #[.int .i64 a.slot, .int .i64 a.round, .int .i64 a.kind, .int .i64 a.signer, .int .i64 a.choice] 136)).alloc (.cells #[.int .i64 b.slot, .int .i64 b.round, .int .i64 b.kind, .int .i64 b.signer, .int .i64 b.choice] 136)) := ⟨_, rfl⟩
  rw [← hW]
  have hb1 : Blk W w.heap.size 55 (voteCells a).toArray := by rw [hW]; exact (B1.out.alloc _).alloc _
  have hb2 : Blk W (w.heap.size + 1) 55 (voteCells b).toArray := by rw [hW]; exact (B2.out.alloc _).alloc _
  have hb3 : Blk W (w.heap.size + 1 + 1) 136 #[.int .i64 a.slot, .int .i64 a.round, .int .i64 a.kind, .int .i64 a.signer, .int .i64 a.choice] := by
    rw [hW]
    have := (Blk.new ((w.alloc (.cells (voteCells a).toArray 55)).alloc (.cells (voteCells b).toArray 55)) 136 #[.int .i64 a.slot, .int .i64 a.round, .int .i64 a.kind, .int .i64 a.signer, .int .i64 a.choice]).alloc (.cells #[.int .i64 b.slot, .int .i64 b.round, .int .i64 b.kind, .int .i64 b.signer, .int .i64 b.choice] 136)
    simpa using this
  have hb4 : Blk W (w.heap.size + 1 + 1 + 1) 136 #[.int .i64 b.slot, .int .i64 b.round, .int .i64 b.kind, .int .i64 b.signer, .int .i64 b.choice] := by
    rw [hW]
    have := Blk.new (((w.alloc (.cells (voteCells a).toArray 55)).alloc (.cells (voteCells b).toArray 55)).alloc (.cells #[.int .i64 a.slot, .int .i64 a.round, .int .i64 a.kind, .int .i64 a.signer, .int .i64 a.choice] 136)) 136 #[.int .i64 b.slot, .int .i64 b.round, .int .i64 b.kind, .int .i64 b.signer, .int .i64 b.choice]
    simpa using this
  have UW := Lib.hid (show Upd NoF w W from by rw [hW]; exact ((((Upd.refl NoF w).alloc _).alloc _).alloc _).alloc _)
  have BW1 := Lib.hid hb1
  have BW2 := Lib.hid hb2
  have BW3 := Lib.hid hb3
  have BW4 := Lib.hid hb4
  have s1 : W.cell? ⟨w.heap.size, 5, none⟩ = some (.int .i64 a.support) := (hb1.cell 5).trans (by simpa using vc5 a)
  have s2 : W.cell? ⟨w.heap.size + 1, 5, none⟩ = some (.int .i64 b.support) := (hb2.cell 5).trans (by simpa using vc5 b)
  clear hW hb1 hb2 hb3 hb4 x0 y0 x1 y1 x2 y2 x3 y3 x4 y4 x5 y5 B1 B2 hne
  go_loopw [7, 40] (fun _ i wr => LsRel a b W i wr) (fun _ i _ => 5 - (intOf i).toNat)
  case atStart => exact ⟨0, 0, by omega, rfl, fun j h => absurd h (by omega), rfl⟩
  case round =>
    obtain ⟨k, q, hk, rfl, heq, rfl⟩ := hrel
    by_cases hlt : k < 5
    · obtain ⟨x, hx⟩ : ∃ x, (five a)[k]? = some x := ⟨_, List.getElem?_eq_getElem hlt⟩
      obtain ⟨y, hy⟩ : ∃ y, (five b)[k]? = some y := ⟨_, List.getElem?_eq_getElem hlt⟩
      have cx : W.cell? ⟨w.heap.size + 1 + 1, k, none⟩ = some (.int .i64 x) := (BW3.out.cell k).trans (five_cell a hx)
      have cy : W.cell? ⟨w.heap.size + 1 + 1 + 1, k, none⟩ = some (.int .i64 y) := (BW4.out.cell k).trans (five_cell b hy)
      have t1 : decide ((k : Int) < 5) = true := by simp; omega
      have t1' : decide (k < 5) = true := by simp; omega
      have q0 : (0 : Int) ≤ (k : Int) := by omega
      have q1 : (k : Int) < 5 := by omega
      by_cases hxy : x = y
      · subst hxy
        have HR := Lib.hid (show ∀ j, j < k + 1 → (five a)[j]? = (five b)[j]? from fun j hj => by
          rcases Nat.lt_or_ge j k with h | h
          · exact heq j h
          · obtain rfl : j = k := by omega
            rw [hx, hy])
        clear hx hy heq
        go_wp2
        go_quiet (fail)
        go_wp2
        go_roundw
        case rel => exact ⟨k + 1, _, by omega, by go_num, HR.out, rfl⟩
        case measure => simp [intOf]; omega
      · have HZ := Lib.hid (lessV_at HP.out heq hx hy hxy)
        have t2 : (x == y) = false := by simpa using hxy
        have t2' : (x != y) = true := by simpa using hxy
        clear hx hy heq hxy
        go_wp2
        go_quiet (fail)
        go_wp2
        go_quiet (fail)
        go_wp2
        go_ret
        exact ⟨retb HZ.out.symm, ((UW.out.drewN _).drewN _).drewN _⟩
    · obtain rfl : k = 5 := by omega
      have HZ := Lib.hid (lessV_val HP.out heq)
      clear heq hk hlt
      by_cases hv : a.value = b.value
      · have hnv : ∀ w, (binOp .neq 53 (.agg va) (.agg vb)).run Tryz.prog w = .ok (.bool false) w := fun w => by rw [HNV.out w, hv]; simp
        have HV := Lib.hid hv
        clear hv
        go_wp2_with (first
          | (refine wpList_load_name rfl (.tmp 58) rfl (w.heap.size) 14 rfl a.value HA.out.value (range_part (BW1.out.drewN q) (fun j u hu => by have := vc_value HA.out j u hu; simpa using this)) (.agg va) HVA.out ?_)
          | (refine wpList_load_name rfl (.tmp 60) rfl (w.heap.size + 1) 14 rfl b.value HB.out.value (range_part (BW2.out.drewN q) (fun j u hu => by have := vc_value HB.out j u hu; simpa using this)) (.agg vb) HVB.out ?_))
        go_ret
        exact ⟨retb (by rw [HZ.out, if_pos HV.out]), UW.out.drewN _⟩
      · have hnv : ∀ w, (binOp .neq 53 (.agg va) (.agg vb)).run Tryz.prog w = .ok (.bool true) w := fun w => by rw [HNV.out w, beq_eq_false_iff_ne.2 hv]; rfl
        have HV := Lib.hid hv
        clear hv
        go_wp2_with (first
          | (refine wpList_load_name rfl (.tmp 58) rfl (w.heap.size) 14 rfl a.value HA.out.value (range_part (BW1.out.drewN q) (fun j u hu => by have := vc_value HA.out j u hu; simpa using this)) (.agg va) HVA.out ?_)
          | (refine wpList_load_name rfl (.tmp 60) rfl (w.heap.size + 1) 14 rfl b.value HB.out.value (range_part (BW2.out.drewN q) (fun j u hu => by have := vc_value HB.out j u hu; simpa using this)) (.agg vb) HVB.out ?_)
          | (refine wpList_load_name rfl (.tmp 63) rfl (w.heap.size) 14 rfl a.value HA.out.value (range_part (BW1.out.drewN q) (fun j u hu => by have := vc_value HA.out j u hu; simpa using this)) (.agg va) HVA.out ?_)
          | (refine wpList_load_name rfl (.tmp 65) rfl (w.heap.size + 1) 14 rfl b.value HB.out.value (range_part (BW2.out.drewN q) (fun j u hu => by have := vc_value HB.out j u hu; simpa using this)) (.agg vb) HVB.out ?_))
        refine (HCL.out _).mono ?_
        rintro e w1 ⟨rfl, hu1⟩
        have U1 := Lib.hid hu1
        clear hu1
        go_wp2
        go_ret
        exact ⟨retb (by rw [HZ.out, if_neg HV.out]), (UW.out.drewN _).trans U1.out (fun _ _ h => h)⟩

theorem vLess_any {a b : VoteS} (ha : a.Fit) (hb : b.Fit) (w : World) : Calls Tryz.prog 104 #[voteV a, voteV b] w fun e w' => e = .returned (.bool (lessV a b)) ∧ Upd NoF w w' := by
  by_cases hp : a.parent = b.parent
  · exact vLess_q ha hb w hp
  · exact vLess_p ha hb w hp


set_option maxRecDepth 100000 in
set_option maxHeartbeats 4000000 in
theorem rLess_p {a b : VoteS} (ha : a.Fit) (hb : b.Fit) (w : World) (hp : ¬ a.parent = b.parent) : Calls Tryz.prog 80 #[voteV a, voteV b] w fun e w' => e = .returned (.bool (lessV a b)) ∧ Upd NoF w w' := by
  have HZ := Lib.hid (show lessV a b = lessN a.parent b.parent from by unfold lessV; rw [if_neg hp])
  have hne : ∀ w, (binOp .neq 53 (nameV a.parent) (nameV b.parent)).run Tryz.prog w = .ok (.bool true) w := fun w => by rw [name_neq _ _ ha.parent hb.parent, beq_eq_false_iff_ne.2 hp]; rfl
  have CL := r1Less_any a.parent b.parent ha.parent hb.parent
  obtain ⟨pa, hpa⟩ : ∃ pa, nameV a.parent = .agg pa := ⟨_, rfl⟩
  obtain ⟨pb, hpb⟩ : ∃ pb, nameV b.parent = .agg pb := ⟨_, rfl⟩
  rw [hpa, hpb] at hne CL
  have HCL := Lib.hid CL
  have HPA := Lib.hid hpa
  have HPB := Lib.hid hpb
  have HA := Lib.hid ha
  have HB := Lib.hid hb
  have B1 := Lib.hid ((Blk.new w 55 (voteCells a).toArray).alloc (.cells (voteCells b).toArray 55))
  have B2 := Lib.hid (show Blk ((w.alloc (.cells (voteCells a).toArray 55)).alloc (.cells (voteCells b).toArray 55)) (w.heap.size + 1) 55 (voteCells b).toArray from by have := Blk.new (w.alloc (.cells (voteCells a).toArray 55)) 55 (voteCells b).toArray; simpa using this)
  clear hpa hpb ha hb hp CL
  generalize lessV a b = Z at HZ ⊢
  go_enter Tryz.func80, Tryz.ntmps80
  go_wp2_with (first
    | (refine wpList_load_name rfl (.tmp 8) rfl (w.heap.size) 6 rfl a.parent HA.out.parent (range_part B1.out (fun j u hu => by have := vc_parent HA.out j u hu; simpa using this)) (.agg pa) HPA.out ?_)
    | (refine wpList_load_name rfl (.tmp 10) rfl (w.heap.size + 1) 6 rfl b.parent HB.out.parent (range_part B2.out (fun j u hu => by have := vc_parent HB.out j u hu; simpa using this)) (.agg pb) HPB.out ?_)
    | (refine wpList_load_name rfl (.tmp 13) rfl (w.heap.size) 6 rfl a.parent HA.out.parent (range_part B1.out (fun j u hu => by have := vc_parent HA.out j u hu; simpa using this)) (.agg pa) HPA.out ?_)
    | (refine wpList_load_name rfl (.tmp 15) rfl (w.heap.size + 1) 6 rfl b.parent HB.out.parent (range_part B2.out (fun j u hu => by have := vc_parent HB.out j u hu; simpa using this)) (.agg pb) HPB.out ?_))
  refine (HCL.out _).mono ?_
  rintro e w1 ⟨rfl, hu1⟩
  have U1 := Lib.hid hu1
  clear hu1
  go_wp2
  go_ret
  exact ⟨retb HZ.out.symm, (((Upd.refl NoF w).alloc _).alloc _).trans U1.out (fun _ _ h => h)⟩

set_option maxRecDepth 100000 in
set_option maxHeartbeats 4000000 in
theorem rLess_q {a b : VoteS} (ha : a.Fit) (hb : b.Fit) (w : World) (hp : a.parent = b.parent) : Calls Tryz.prog 80 #[voteV a, voteV b] w fun e w' => e = .returned (.bool (lessV a b)) ∧ Upd NoF w w' := by
  have hne : ∀ w, (binOp .neq 53 (nameV a.parent) (nameV b.parent)).run Tryz.prog w = .ok (.bool false) w := fun w => by rw [name_neq _ _ ha.parent hb.parent, hp]; simp
  have hnv : ∀ w, (binOp .neq 53 (nameV a.value) (nameV b.value)).run Tryz.prog w = .ok (.bool (!(a.value == b.value))) w := fun w => name_neq _ _ ha.value hb.value w
  have CL := r1Less_any a.value b.value ha.value hb.value
  obtain ⟨pa, hpa⟩ : ∃ pa, nameV a.parent = .agg pa := ⟨_, rfl⟩
  obtain ⟨pb, hpb⟩ : ∃ pb, nameV b.parent = .agg pb := ⟨_, rfl⟩
  obtain ⟨va, hva⟩ : ∃ pa, nameV a.value = .agg pa := ⟨_, rfl⟩
  obtain ⟨vb, hvb⟩ : ∃ pb, nameV b.value = .agg pb := ⟨_, rfl⟩
  rw [hpa, hpb] at hne
  rw [hva, hvb] at hnv CL
  have HCL := Lib.hid CL
  have HNV := Lib.hid hnv
  have HPA := Lib.hid hpa
  have HPB := Lib.hid hpb
  have HVA := Lib.hid hva
  have HVB := Lib.hid hvb
  have HA := Lib.hid ha
  have HB := Lib.hid hb
  have HP := Lib.hid hp
  have B1 := Lib.hid ((Blk.new w 55 (voteCells a).toArray).alloc (.cells (voteCells b).toArray 55))
  have B2 := Lib.hid (show Blk ((w.alloc (.cells (voteCells a).toArray 55)).alloc (.cells (voteCells b).toArray 55)) (w.heap.size + 1) 55 (voteCells b).toArray from by have := Blk.new (w.alloc (.cells (voteCells a).toArray 55)) 55 (voteCells b).toArray; simpa using this)
  have x0 : (voteCells a)[0]? = some (.int .i64 a.kind) := vc0 a
  have y0 : (voteCells b)[0]? = some (.int .i64 b.kind) := vc0 b
  have x1 : (voteCells a)[1]? = some (.int .i64 a.slot) := vc1 a
  have y1 : (voteCells b)[1]? = some (.int .i64 b.slot) := vc1 b
  have x2 : (voteCells a)[2]? = some (.int .i64 a.round) := vc2 a
  have y2 : (voteCells b)[2]? = some (.int .i64 b.round) := vc2 b
  have x3 : (voteCells a)[3]? = some (.int .i64 a.choice) := vc3 a
  have y3 : (voteCells b)[3]? = some (.int .i64 b.choice) := vc3 b
  have x4 : (voteCells a)[4]? = some (.int .i64 a.signer) := vc4 a
  have y4 : (voteCells b)[4]? = some (.int .i64 b.signer) := vc4 b
  have x5 : (voteCells a)[5]? = some (.int .i64 a.support) := vc5 a
  have y5 : (voteCells b)[5]? = some (.int .i64 b.support) := vc5 b
  clear hpa hpb ha hb hp hva hvb hnv CL
  go_enter Tryz.func80, Tryz.ntmps80
  go_wp2_with (first
    | (refine wpList_load_name rfl (.tmp 8) rfl (w.heap.size) 6 rfl a.parent HA.out.parent (range_part B1.out (fun j u hu => by have := vc_parent HA.out j u hu; simpa using this)) (.agg pa) HPA.out ?_)
    | (refine wpList_load_name rfl (.tmp 10) rfl (w.heap.size + 1) 6 rfl b.parent HB.out.parent (range_part B2.out (fun j u hu => by have := vc_parent HB.out j u hu; simpa using this)) (.agg pb) HPB.out ?_))
  obtain ⟨W, hW⟩ : ∃ W, W = ((((w.alloc (.cells (voteCells a).toArray 55)).alloc (.cells (voteCells b).toArray 55)).alloc (.cells #[.int .i64 a.slot, .int .i64 a.round, .int .i64 a.kind, .int .i64 a.signer, .int .i64 a.choice] 136)).alloc (.cells #[.int .i64 b.slot, .int .i64 b.round, .int .i64 b.kind, .int .i64 b.signer, .int .i64 b.choice] 136)) := ⟨_, rfl⟩
  rw [← hW]
  have hb1 : Blk W w.heap.size 55 (voteCells a).toArray := by rw [hW]; exact (B1.out.alloc _).alloc _
  have hb2 : Blk W (w.heap.size + 1) 55 (voteCells b).toArray := by rw [hW]; exact (B2.out.alloc _).alloc _
  have hb3 : Blk W (w.heap.size + 1 + 1) 136 #[.int .i64 a.slot, .int .i64 a.round, .int .i64 a.kind, .int .i64 a.signer, .int .i64 a.choice] := by
    rw [hW]
    have := (Blk.new ((w.alloc (.cells (voteCells a).toArray 55)).alloc (.cells (voteCells b).toArray 55)) 136 #[.int .i64 a.slot, .int .i64 a.round, .int .i64 a.kind, .int .i64 a.signer, .int .i64 a.choice]).alloc (.cells #[.int .i64 b.slot, .int .i64 b.round, .int .i64 b.kind, .int .i64 b.signer, .int .i64 b.choice] 136)
    simpa using this
  have hb4 : Blk W (w.heap.size + 1 + 1 + 1) 136 #[.int .i64 b.slot, .int .i64 b.round, .int .i64 b.kind, .int .i64 b.signer, .int .i64 b.choice] := by
    rw [hW]
    have := Blk.new (((w.alloc (.cells (voteCells a).toArray 55)).alloc (.cells (voteCells b).toArray 55)).alloc (.cells #[.int .i64 a.slot, .int .i64 a.round, .int .i64 a.kind, .int .i64 a.signer, .int .i64 a.choice] 136)) 136 #[.int .i64 b.slot, .int .i64 b.round, .int .i64 b.kind, .int .i64 b.signer, .int .i64 b.choice]
    simpa using this
  have UW := Lib.hid (show Upd NoF w W from by rw [hW]; exact ((((Upd.refl NoF w).alloc _).alloc _).alloc _).alloc _)
  have BW1 := Lib.hid hb1
  have BW2 := Lib.hid hb2
  have BW3 := Lib.hid hb3
  have BW4 := Lib.hid hb4
  have s1 : W.cell? ⟨w.heap.size, 5, none⟩ = some (.int .i64 a.support) := (hb1.cell 5).trans (by simpa using vc5 a)
  have s2 : W.cell? ⟨w.heap.size + 1, 5, none⟩ = some (.int .i64 b.support) := (hb2.cell 5).trans (by simpa using vc5 b)
  clear hW hb1 hb2 hb3 hb4 x0 y0 x1 y1 x2 y2 x3 y3 x4 y4 x5 y5 B1 B2 hne
  go_loopw [7] (fun i wr => LsRel a b W i wr) (fun i _ => 5 - (intOf i).toNat)
  case atStart => exact ⟨0, 0, by omega, rfl, fun j h => absurd h (by omega), rfl⟩
  case round =>
    obtain ⟨k, q, hk, rfl, heq, rfl⟩ := hrel
    by_cases hlt : k < 5
    · obtain ⟨x, hx⟩ : ∃ x, (five a)[k]? = some x := ⟨_, List.getElem?_eq_getElem hlt⟩
      obtain ⟨y, hy⟩ : ∃ y, (five b)[k]? = some y := ⟨_, List.getElem?_eq_getElem hlt⟩
      have cx : W.cell? ⟨w.heap.size + 1 + 1, k, none⟩ = some (.int .i64 x) := (BW3.out.cell k).trans (five_cell a hx)
      have cy : W.cell? ⟨w.heap.size + 1 + 1 + 1, k, none⟩ = some (.int .i64 y) := (BW4.out.cell k).trans (five_cell b hy)
      have t1 : decide ((k : Int) < 5) = true := by simp; omega
      have t1' : decide (k < 5) = true := by simp; omega
      have q0 : (0 : Int) ≤ (k : Int) := by omega
      have q1 : (k : Int) < 5 := by omega
      by_cases hxy : x = y
      · subst hxy
        have HR := Lib.hid (show ∀ j, j < k + 1 → (five a)[j]? = (five b)[j]? from fun j hj => by
          rcases Nat.lt_or_ge j k with h | h
          · exact heq j h
          · obtain rfl : j = k := by omega
            rw [hx, hy])
        clear hx hy heq
        go_wp2
        go_quiet (fail)
        go_wp2
        go_roundw
        case rel => exact ⟨k + 1, _, by omega, by go_num, HR.out, rfl⟩
        case measure => simp [intOf]; omega
      · have HZ := Lib.hid (lessV_at HP.out heq hx hy hxy)
        have t2 : (x == y) = false := by simpa using hxy
        have t2' : (x != y) = true := by simpa using hxy
        clear hx hy heq hxy
        go_wp2
        go_quiet (fail)
        go_wp2
        go_quiet (fail)
        go_wp2
        go_ret
        exact ⟨retb HZ.out.symm, ((UW.out.drewN _).drewN _).drewN _⟩
    · obtain rfl : k = 5 := by omega
      have HZ := Lib.hid (lessV_val HP.out heq)
      clear heq hk hlt
      by_cases hv : a.value = b.value
      · have hnv : ∀ w, (binOp .neq 53 (.agg va) (.agg vb)).run Tryz.prog w = .ok (.bool false) w := fun w => by rw [HNV.out w, hv]; simp
        have HV := Lib.hid hv
        clear hv
        go_wp2_with (first
          | (refine wpList_load_name rfl (.tmp 58) rfl (w.heap.size) 14 rfl a.value HA.out.value (range_part (BW1.out.drewN q) (fun j u hu => by have := vc_value HA.out j u hu; simpa using this)) (.agg va) HVA.out ?_)
          | (refine wpList_load_name rfl (.tmp 60) rfl (w.heap.size + 1) 14 rfl b.value HB.out.value (range_part (BW2.out.drewN q) (fun j u hu => by have := vc_value HB.out j u hu; simpa using this)) (.agg vb) HVB.out ?_))
        go_ret
        exact ⟨retb (by rw [HZ.out, if_pos HV.out]), UW.out.drewN _⟩
      · have hnv : ∀ w, (binOp .neq 53 (.agg va) (.agg vb)).run Tryz.prog w = .ok (.bool true) w := fun w => by rw [HNV.out w, beq_eq_false_iff_ne.2 hv]; rfl
        have HV := Lib.hid hv
        clear hv
        go_wp2_with (first
          | (refine wpList_load_name rfl (.tmp 58) rfl (w.heap.size) 14 rfl a.value HA.out.value (range_part (BW1.out.drewN q) (fun j u hu => by have := vc_value HA.out j u hu; simpa using this)) (.agg va) HVA.out ?_)
          | (refine wpList_load_name rfl (.tmp 60) rfl (w.heap.size + 1) 14 rfl b.value HB.out.value (range_part (BW2.out.drewN q) (fun j u hu => by have := vc_value HB.out j u hu; simpa using this)) (.agg vb) HVB.out ?_)
          | (refine wpList_load_name rfl (.tmp 63) rfl (w.heap.size) 14 rfl a.value HA.out.value (range_part (BW1.out.drewN q) (fun j u hu => by have := vc_value HA.out j u hu; simpa using this)) (.agg va) HVA.out ?_)
          | (refine wpList_load_name rfl (.tmp 65) rfl (w.heap.size + 1) 14 rfl b.value HB.out.value (range_part (BW2.out.drewN q) (fun j u hu => by have := vc_value HB.out j u hu; simpa using this)) (.agg vb) HVB.out ?_))
        refine (HCL.out _).mono ?_
        rintro e w1 ⟨rfl, hu1⟩
        have U1 := Lib.hid hu1
        clear hu1
        go_wp2
        go_ret
        exact ⟨retb (by rw [HZ.out, if_neg HV.out]), (UW.out.drewN _).trans U1.out (fun _ _ h => h)⟩

theorem rLess_any {a b : VoteS} (ha : a.Fit) (hb : b.Fit) (w : World) : Calls Tryz.prog 80 #[voteV a, voteV b] w fun e w' => e = .returned (.bool (lessV a b)) ∧ Upd NoF w w' := by
  by_cases hp : a.parent = b.parent
  · exact rLess_q ha hb w hp
  · exact rLess_p ha hb w hp
end
end Go.Proofs.YtbgificdilpdcaaGreat
