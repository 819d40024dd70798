/- The law of ItemsText. Conditions: none but the shape of its arguments. -/
import Derived.Test.YtengcmfdfmnacaaGreatJn19
import Derived.Test.YtengcmfdfmnacaaGreatJn24
namespace Go.Proofs.YtengcmfdfmnacaaGreat
open Go.RowKit Go.Lib

theorem od_append_run {P : Program} {o : Oper} {ρ : Operand → Value} {w w' : World} {post : Value → World → Prop} (s x : Operand) (t ty : TypeId) (ho : o.op = .call { callee := .builtin .append, args := #[s, x], argTypes := #[t, t] }) (hty : o.type = ty) {v u r : Value} (hs : ρ s = v) (hx : ρ x = u) (hrun : (Builtin.append_ #[t, t] ty #[v, u]).run P w = .ok r w') (hp : post r w') : OpDone P o ρ w post := by
  unfold OpDone execOp
  simp only [ho, resolve, invoke, builtin, Sem.run_bind, Sem.run_pure, Result.andThen_ok, List.map_toArray, List.map_cons, List.map_nil, hs, hx, hty, hrun]
  exact hp
theorem bs_bytess0 (w : World) : (Instr.buildSlice 51 0 #[]).run Tryz.prog w = .ok (.slice (some ⟨w.heap.size, 0, none⟩) 0 0) (w.alloc (.cells #[] 52)) := by kernel_rfl
/-- Where the region stands that turns the texts. -/
structure TnPh (W0 W1 w4 w8 : World) (L : Nat → Bool) (w : World) : Prop where
  z : L 0 = false → w = W0
  a : L 0 = true → L 4 = false → w = W1
  b : L 4 = true → L 8 = false → w = w4
  d : L 8 = true → Upd NoF w8 w
  u : Upd NoF W0 w
def TnSt (L : Nat → Bool) (w w' : World) : Prop := (L 10 = true ∨ L 11 = true ∨ L 12 = true ∨ L 14 = true) → Upd NoF w w'
section
variable {W0 W1 w4 w8 w w' : World} {i : Nat} {L : Nat → Bool}
theorem TnPh.start : TnPh W0 W1 w4 w8 (fun _ => false) W0 := ⟨fun _ => rfl, fun h => by (cases h), fun h => by (cases h), fun h => by (cases h), Upd.refl _ _⟩
theorem TnPh.same (h : TnPh W0 W1 w4 w8 L w) (h0 : (0 == i) = false) (h4 : (4 == i) = false) (h8 : (8 == i) = false) : TnPh W0 W1 w4 w8 (fun j => j == i || L j) w :=
  ⟨fun e => h.z (by simpa [h0] using e), fun e f => h.a (by simpa [h0] using e) (by simpa [h4] using f), fun e f => h.b (by simpa [h4] using e) (by simpa [h8] using f), fun e => h.d (by simpa [h8] using e), h.u⟩
theorem TnPh.op0 {o : Obj} (n4 : L 4 = false) (n8 : L 8 = false) : TnPh W0 (W0.alloc o) w4 w8 (fun j => j == 0 || L j) (W0.alloc o) :=
  ⟨fun e => by simp at e, fun _ _ => rfl, fun e => by simp [n4] at e, fun e => by simp [n8] at e, (Upd.refl NoF W0).alloc _⟩
theorem TnPh.op4 (h0 : L 0 = true) (n8 : L 8 = false) (hu : Upd NoF W0 w4) : TnPh W0 W1 w4 w8 (fun j => j == 4 || L j) w4 :=
  ⟨fun e => by simp [h0] at e, fun _ e => by simp at e, fun _ _ => rfl, fun e => by simp [n8] at e, hu⟩
theorem TnPh.op8 (h4 : L 4 = true) (h0 : L 0 = true) (hu : Upd NoF W0 w8) : TnPh W0 W1 w4 w8 (fun j => j == 8 || L j) w8 :=
  ⟨fun e => by simp [h0] at e, fun _ e => by simp [h4] at e, fun _ e => by simp at e, fun _ => Upd.refl _ _, hu⟩
theorem TnPh.op10 (h : TnPh W0 W1 w4 w8 L w) (h8 : L 8 = true) (hu : Upd NoF w w') (h0 : L 0 = true) (h4 : L 4 = true) : TnPh W0 W1 w4 w8 (fun j => j == 10 || L j) w' :=
  ⟨fun e => by simp [h0] at e, fun _ e => by simp [h4] at e, fun _ e => by simp [h8] at e, fun _ => (h.d h8).trans hu (fun _ _ f => f), h.u.trans hu (fun _ _ f => f)⟩
end
def TxV (pb : List UInt8) (ps : Bool) (v : Value) (w : World) : Prop := ∃ A' c', v = .tuple #[.slice A' pb.length c', .bool ps] ∧ Rd w 1 (.slice A' pb.length c') pb.length (pb.map byteV)
def TxB (pb : List UInt8) (v : Value) (w : World) : Prop := ∃ A' c', v = .slice A' pb.length c' ∧ Rd w 1 (.slice A' pb.length c') pb.length (pb.map byteV)
theorem stbL_txv {pb : List UInt8} {ps : Bool} {i : Nat} (hi : i = 10 ∨ i = 11 ∨ i = 12 ∨ i = 14) : StbL TnSt i (TxV pb ps) := fun _ _ _ L hl ⟨A, c, e, h⟩ hs => ⟨A, c, e, h.keep (hs (by rcases hi with rfl | rfl | rfl | rfl <;> simp [hl]))⟩
theorem stbL_txb {pb : List UInt8} {i : Nat} (hi : i = 10 ∨ i = 11 ∨ i = 12 ∨ i = 14) : StbL TnSt i (TxB pb) := fun _ _ _ L hl ⟨A, c, e, h⟩ hs => ⟨A, c, e, h.keep (hs (by rcases hi with rfl | rfl | rfl | rfl <;> simp [hl]))⟩
def LnRel (v0 : World) (l : List (List UInt8)) (n : Nat) (s9 : Value) (wr : World) : Prop := ∃ i : Nat, s9 = .int .i64 (i : Int) ∧ i ≤ n ∧ (∀ (j : Nat) t, j < i → l[j]? = some t → t.length ≤ 2000) ∧ Upd NoF v0 wr
set_option maxRecDepth 100000 in
set_option maxHeartbeats 32000000 in
theorem ItemsText_true {w : World} {A : Option Addr} {c n : Nat} {nm : List UInt8} {l : List (List UInt8)} {pick cut : Int} (hl : l.length = n) (h : TxR w (.slice A n c) l) (h8 : nm.length = 8) :
    Calls Tryz.prog 5 #[.slice A n c, nameV nm, .int .i64 pick, .int .i64 cut] w fun e w' => e = .returned (.bool true) ∧ Upd NoF w w' := by
  obtain ⟨zn, hzn⟩ : ∃ y, (nm.map byteV).toArray = y := ⟨_, rfl⟩
  have HZN := Lib.hid hzn
  have H8N := Lib.hid h8
  have HTX := Lib.hid h
  have HN := Lib.hid hl
  have hcap : n ≤ 9223372036854775807 := by
    obtain ⟨A', c', e, h1, h2⟩ := h.form
    unfold maxLen at h2
    omega
  rw [show nameV nm = .agg zn from congrArg Value.agg hzn]
  clear hl h h8 hzn
  by_cases hA : 60 < n
  · have t1 : decide ((60 : Int) < (n : Int)) = true := by simp; omega
    go_enter Tryz.func5, Tryz.ntmps5
    go_wp2_with (first
      | (refine wl_box rfl 28 (.tmp 1) rfl zn (by rfl) ?_; intro v0 hb0 hu0 hs0; have BX0 := Lib.hid hb0; have V0 := Lib.hid hu0; clear hb0 hu0 hs0)
      | (refine (awake25_ok _).mono ?_; rintro e w9 ⟨rfl, hu9⟩; have U9 := Lib.hid hu9; clear hu9))
    go_ret
    exact ⟨rfl, V0.out.trans U9.out (fun _ _ f => f)⟩
  have t1 : decide ((60 : Int) < (n : Int)) = false := by simp; omega
  have HN60 := Lib.hid (show n ≤ 60 from by omega)
  by_cases hB : cut < 0
  · have t2 : decide (cut < 0) = true := by simpa using hB
    go_enter Tryz.func5, Tryz.ntmps5
    go_wp2_with (first
      | (refine wl_box rfl 28 (.tmp 1) rfl zn (by rfl) ?_; intro v0 hb0 hu0 hs0; have BX0 := Lib.hid hb0; have V0 := Lib.hid hu0; clear hb0 hu0 hs0)
      | (refine (awake25_ok _).mono ?_; rintro e w9 ⟨rfl, hu9⟩; have U9 := Lib.hid hu9; clear hu9))
    go_ret
    exact ⟨rfl, V0.out.trans U9.out (fun _ _ f => f)⟩
  have t2 : decide (cut < 0) = false := by simpa using hB
  by_cases hC : (n : Int) < cut
  · have t3 : decide ((n : Int) < cut) = true := by simpa using hC
    go_enter Tryz.func5, Tryz.ntmps5
    go_wp2_with (first
      | (refine wl_box rfl 28 (.tmp 1) rfl zn (by rfl) ?_; intro v0 hb0 hu0 hs0; have BX0 := Lib.hid hb0; have V0 := Lib.hid hu0; clear hb0 hu0 hs0)
      | (refine (awake25_ok _).mono ?_; rintro e w9 ⟨rfl, hu9⟩; have U9 := Lib.hid hu9; clear hu9))
    go_ret
    exact ⟨rfl, V0.out.trans U9.out (fun _ _ f => f)⟩
  obtain ⟨k, rfl⟩ : ∃ k : Nat, cut = (k : Int) := ⟨cut.toNat, by omega⟩
  have t3 : decide ((n : Int) < (k : Int)) = false := by simp; omega
  have HKN := Lib.hid (show k ≤ n from by omega)
  have z1 : (0 : Int) ≤ (k : Int) := by omega
  have z2 : (k : Int) ≤ (n : Int) := by omega
  go_enter Tryz.func5, Tryz.ntmps5
  go_wp2_with (first
    | (refine wl_box rfl 28 (.tmp 1) rfl zn (by rfl) ?_; intro v0 hb0 hu0 hs0; have BX0 := Lib.hid hb0; have V0 := Lib.hid hu0; clear hb0 hu0 hs0))
  obtain ⟨X, hX⟩ : ∃ x, w.heap.size = x := ⟨_, rfl⟩
  rw [hX] at BX0 ⊢
  have HX := Lib.hid hX
  clear hX t1 t2 t3 z1 z2 hA hB hC hcap
  go_loopw [9] (fun s9 wr => LnRel v0 l n s9 wr) (fun i _ => n - (intOf i).toNat)
  case atStart => exact ⟨0, rfl, Nat.zero_le _, fun j t hj => by omega, Upd.refl _ _⟩
  case round =>
    obtain ⟨i, rfl, hi, hb, hu⟩ := hrel
    have HU := Lib.hid hu
    have HBI := Lib.hid hb
    clear hb hu
    by_cases hlt : i < n
    · obtain ⟨t, ht⟩ : ∃ t, l[i]? = some t := ⟨_, List.getElem?_eq_getElem (by rw [HN.out]; exact hlt)⟩
      obtain ⟨g, oo, Au, cu, rfl, hcw, -, hle, hcm⟩ := HTX.out.at_ ht
      have hc0 : wr.cell? ⟨g, oo + i, none⟩ = some (.slice Au t.length cu) := (V0.out.trans HU.out (fun _ _ f => f)).cell hcw (fun f => f)
      obtain ⟨tl, htl⟩ : ∃ x, t.length = x := ⟨_, rfl⟩
      rw [htl] at hc0 hle
      have q0 : (0 : Int) ≤ (i : Int) := by omega
      have q1 : (i : Int) < (n : Int) := by omega
      have t1 : decide ((i : Int) < (n : Int)) = true := by simp; omega
      have q3 : ((i : Int)).toNat = i := by omega
      have ww : IntKind.i64.wrap ((i : Int) + 1) = (i : Int) + 1 := IntWalk.i64_in _ (by have := HN60.out; omega)
      have HTI := Lib.hid ht
      have HTL := Lib.hid htl
      clear hcw ht htl
      by_cases hlong : 2000 < tl
      · have t2 : decide ((2000 : Int) < (tl : Int)) = true := by simp; omega
        go_wp2_with (refine (awake25_ok _).mono ?_; rintro e w9 ⟨rfl, hu9⟩; have U9 := Lib.hid hu9; clear hu9)
        go_ret
        exact ⟨rfl, (V0.out.trans HU.out (fun _ _ f => f)).trans U9.out (fun _ _ f => f)⟩
      · have t2 : decide ((2000 : Int) < (tl : Int)) = false := by simp; omega
        go_wp2
        go_roundw
        case rel => exact ⟨i + 1, by go_num, by omega, fun j x hj hx => by
          rcases Nat.lt_or_ge j i with h | h
          · exact HBI.out j x h hx
          · obtain rfl : j = i := by omega
            rw [HTI.out] at hx
            injection hx with hx
            have := HTL.out
            subst hx
            omega, HU.out⟩
        case measure => simp [intOf]; omega
    · have hin : n = i := by omega
      subst hin
      have t1 : decide ((n : Int) < (n : Int)) = false := by simp
      have HB := Lib.hid (show ∀ t ∈ l, t.length ≤ 1000000 from fun t ht => by
        obtain ⟨j, hj⟩ := List.getElem?_of_mem ht
        have hlt' := (List.getElem?_eq_some_iff.1 hj).1
        have := HBI.out j t (by have := HN.out; omega) hj
        omega)
      have UP0 := Lib.hid (V0.out.trans HU.out (fun _ _ f => f))
      have HBP0 := Lib.hid (HU.out.blk BX0.out (fun f => f))
      clear HBI BX0 HU
      by_cases h1 : pick < 0
      · have tp : decide ((0 : Int) ≤ pick) = false := by simp; omega
        obtain ⟨wp, rfl⟩ : ∃ wp : World, wp = wr := ⟨_, rfl⟩
        have UP := UP0
        have HBP := HBP0
        clear UP0 HBP0
        obtain ⟨nq, hnq⟩ : ∃ x, nm = x := ⟨_, rfl⟩
        obtain ⟨zm, hzm⟩ : ∃ x, zn = x := ⟨_, rfl⟩
        have HZM := Lib.hid (show (nq.map byteV).toArray = zm from by rw [← hnq, ← hzm]; exact HZN.out)
        have H8M := Lib.hid (show nq.length = 8 from by rw [← hnq]; exact H8N.out)
        have HBX := Lib.hid (show Blk wp X 28 zm from by rw [← hzm]; exact HBP.out)
        rw [hzm]
        clear hnq hzm HBP
        have CT := Lib.hid (fun W (hu : Upd NoF w W) => itText_any (w := W) (nm := nq) HN.out (HTX.out.keep hu) (by have := HN60.out; omega) HB.out H8M.out)
        have CR := Lib.hid (fun W (hu : Upd NoF w W) => r25Text_any (w := W) (nm := nq) HN.out (HTX.out.keep hu) (by have := HN60.out; omega) HB.out H8M.out)
        have CTT0 := Lib.hid (fun W A' c' (hr : TxR W (.slice A' n c') (l.drop k ++ l.take k)) => by
          have q := itText_any (w := W) (nm := nq) (l := l.drop k ++ l.take k) (n := n) (by rw [List.length_append, List.length_drop, List.length_take, HN.out]; have := HKN.out; omega) hr (by have := HN60.out; omega) (fun t ht => HB.out t ((List.mem_append.1 ht).elim List.mem_of_mem_drop List.mem_of_mem_take)) H8M.out
          unfold pickB at q
          rw [pick_turn] at q
          exact q)
        rw [show nameV nq = .agg zm from congrArg Value.agg HZM.out] at CT CR CTT0
        unfold pickB at CT CR
        obtain ⟨ps, hps⟩ : ∃ x, (pickT nq l).isSome = x := ⟨_, rfl⟩
        obtain ⟨pb, hpb⟩ : ∃ x, (pickT nq l).getD [] = x := ⟨_, rfl⟩
        rw [hps, hpb] at CT CR CTT0
        clear hps hpb
        go_wp2_with (first
          | (refine wl_load rfl 28 (.tmp 5) rfl X 0 (by rfl) (nq.map byteV) _ (name_cells HZM.out HBX.out) Tryz.underlying28 rfl (by rw [name_size]; simp [H8M.out]) zm HZM.out ?_)
          | (refine (CT.out wp UP.out).mono ?_; rintro e w5 ⟨A5, c5, rfl, hr5, hu5⟩; have R5 := Lib.hid hr5; have E5 := Lib.hid hu5; have U5 := Lib.hid (UP.out.trans hu5 (fun _ _ f => f)); have HB5 := Lib.hid (hu5.blk HBX.out (fun f => f)); clear hr5 hu5)
          | (refine wl_load rfl 28 (.tmp 5) rfl X 0 (by rfl) (nq.map byteV) _ (name_cells HZM.out HB5.out) Tryz.underlying28 rfl (by rw [name_size]; simp [H8M.out]) zm HZM.out ?_)
          | (refine (CR.out w5 U5.out).mono ?_; rintro e w6 ⟨A6, c6, rfl, hr6, hu6⟩; have R6 := Lib.hid hr6; have R56 := Lib.hid (R5.out.keep hu6); have U6 := Lib.hid (U5.out.trans hu6 (fun _ _ f => f)); have HB6 := Lib.hid ((hu6.blk HB5.out (fun f => f)).drew); clear hr6 hu6))
        have UT := Lib.hid (show Upd NoF w w6.drew from U6.out.drew)
        obtain ⟨A1, A2, A4, A8, c4, c8, w4, w8, hc1, hc2, hr4, hr8, htx8, hu8, hu4⟩ := turn_run (k := k) HN.out (HTX.out.keep UT.out) (by have := HKN.out; omega) (by have := HN60.out; omega)
        obtain ⟨W1, hW1⟩ : ∃ x, w6.drew.alloc (.cells #[] 52) = x := ⟨_, rfl⟩
        rw [hW1] at hr4
        have HW1 := Lib.hid hW1
        clear hW1
        have HC1 := Lib.hid hc1
        have HC2 := Lib.hid hc2
        have HR4 := Lib.hid hr4
        have HR8 := Lib.hid hr8
        have HU8 := Lib.hid hu8
        have HU4 := Lib.hid hu4
        have HT8 := Lib.hid htx8
        have CTT := Lib.hid (fun W (hu : Upd NoF w8 W) => CTT0.out W A8 c8 (HT8.out.keep hu))
        clear hc1 hc2 hr4 hr8 htx8 hu8 hu4
        refine wp_region_rglB (rgR [isV (.slice (some ⟨w6.drew.heap.size, 0, none⟩) 0 0), isV (.slice A n c), isV (.int .i64 (k : Int)), isV (.slice A1 (n - k) (c - k)), isV (.slice A4 (n - k) c4), isV (.slice A n c), isV (.int .i64 (k : Int)), isV (.slice A2 k c), isV (.slice A8 n c8), isV (.agg zm), TxV pb ps, TxV pb ps, TxB pb, isV (.bool ps), TxB pb, isV (.bool ps)]) (TnSt) (TnPh w6.drew W1 w4 w8) (by kernel_rfl) (by kernel_rfl) (by kernel_rfl) (by rfl) (fun L w => fun _ => Upd.refl _ _) (rgR_keepL ⟨stbL_isV _, stbL_isV _, stbL_isV _, stbL_isV _, stbL_isV _, stbL_isV _, stbL_isV _, stbL_isV _, stbL_isV _, stbL_isV _, (stbL_txv (by simp)), (stbL_txv (by simp)), (stbL_txb (by simp)), stbL_isV _, (stbL_txb (by simp)), stbL_isV _, trivial⟩) (TnPh.start) ?_ ?_
        · refine ⟨?_, ?_, ?_, ?_, ?_, ?_, ?_, ?_, ?_, ?_, ?_, ?_, ?_, ?_, ?_, ?_, trivial⟩
          · refine fun ρ w' L hW hLi hcl hd hdep hext hc hg hf => ?_
            rw [if_pos (show wantedR _ _ _ = true from rfl)]
            clear hdep hext
            have n4 : L 4 = false := by
              cases hh : L 4 with
              | false => rfl
              | true => have q := hcl 4 0 hh (by kernel_rfl); rw [hLi] at q; cases q
            have n8 : L 8 = false := by
              cases hh : L 8 with
              | false => rfl
              | true => have q := hcl 8 4 hh (by kernel_rfl); rw [n4] at q; cases q
            obtain rfl := hW.z hLi
            refine od_of_run (v := .slice (some ⟨w6.drew.heap.size, 0, none⟩) 0 0) (w' := W1) (by rw [← HW1.out]; simp [execOp, bs_bytess0]) ?_
            have q := TnPh.op0 (W0 := w6.drew) (o := .cells #[] 52) (w4 := w4) (w8 := w8) n4 n8
            rw [HW1.out] at q
            exact ⟨rfl, fun _ => (by rw [← HW1.out]; exact (Upd.refl NoF w6.drew).alloc _), q⟩
          · refine fun ρ w' L hW hLi hcl hd hdep hext hc hg hf => ?_
            rw [if_pos (show wantedR _ _ _ = true from rfl)]
            have e0 : ρ (.tmp 0) = .slice A n c := hext 0 (by kernel_rfl)
            clear hdep hext
            have HW := Lib.hid hW
            clear hW hcl hd hLi
            unfold OpDone
            go_simp
            exact ⟨rfl, fun _ => Upd.refl _ _, HW.out.same (by decide) (by decide) (by decide)⟩
          · refine fun ρ w' L hW hLi hcl hd hdep hext hc hg hf => ?_
            rw [if_pos (show wantedR _ _ _ = true from rfl)]
            have e3 : ρ (.tmp 3) = .int .i64 (k : Int) := hext 3 (by kernel_rfl)
            clear hdep hext
            have HW := Lib.hid hW
            clear hW hcl hd hLi
            unfold OpDone
            go_simp
            exact ⟨rfl, fun _ => Upd.refl _ _, HW.out.same (by decide) (by decide) (by decide)⟩
          · refine fun ρ w' L hW hLi hcl hd hdep hext hc hg hf => ?_
            rw [if_pos (show wantedR _ _ _ = true from rfl)]
            have e70 : ρ (.tmp 70) = .slice A n c := hdep 1 _ rfl (by kernel_rfl)
            have e71 : ρ (.tmp 71) = .int .i64 (k : Int) := hdep 2 _ rfl (by kernel_rfl)
            clear hdep hext
            refine od_of_run (v := .slice A1 (n - k) (c - k)) (w' := w') (by simp [execOp, e70, e71, HC1.out w']) ?_
            exact ⟨rfl, fun _ => Upd.refl _ _, hW.same (by decide) (by decide) (by decide)⟩
          · refine fun ρ w' L hW hLi hcl hd hdep hext hc hg hf => ?_
            rw [if_pos (show wantedR _ _ _ = true from rfl)]
            have e69 : ρ (.tmp 69) = .slice (some ⟨w6.drew.heap.size, 0, none⟩) 0 0 := hdep 0 _ rfl (by kernel_rfl)
            have e72 : ρ (.tmp 72) = .slice A1 (n - k) (c - k) := hdep 3 _ rfl (by kernel_rfl)
            clear hdep hext
            have n8 : L 8 = false := by
              cases hh : L 8 with
              | false => rfl
              | true => have q := hcl 8 4 hh (by kernel_rfl); rw [hLi] at q; cases q
            have n10 : L 10 = false := by
              cases hh : L 10 with
              | false => rfl
              | true => have q := hcl 10 8 hh (by kernel_rfl); rw [n8] at q; cases q
            have n11 : L 11 = false := by
              cases hh : L 11 with
              | false => rfl
              | true => have q := hcl 11 10 hh (by kernel_rfl); rw [n10] at q; cases q
            have n12 : L 12 = false := by
              cases hh : L 12 with
              | false => rfl
              | true => have q := hcl 12 11 hh (by kernel_rfl); rw [n11] at q; cases q
            have n14 : L 14 = false := by
              cases hh : L 14 with
              | false => rfl
              | true => have q := hcl 14 12 hh (by kernel_rfl); rw [n12] at q; cases q
            have h0 : L 0 = true := hd 0 (by kernel_rfl)
            obtain rfl := hW.a h0 hLi
            refine od_append_run (.tmp 69) (.tmp 72) 51 51 rfl rfl e69 e72 HR4.out ?_
            exact ⟨rfl, (fun hh => by rw [n10, n11, n12, n14] at hh; simp at hh), TnPh.op4 h0 n8 HU4.out⟩
          · refine fun ρ w' L hW hLi hcl hd hdep hext hc hg hf => ?_
            rw [if_pos (show wantedR _ _ _ = true from rfl)]
            have e0 : ρ (.tmp 0) = .slice A n c := hext 0 (by kernel_rfl)
            clear hdep hext
            have HW := Lib.hid hW
            clear hW hcl hd hLi
            unfold OpDone
            go_simp
            exact ⟨rfl, fun _ => Upd.refl _ _, HW.out.same (by decide) (by decide) (by decide)⟩
          · refine fun ρ w' L hW hLi hcl hd hdep hext hc hg hf => ?_
            rw [if_pos (show wantedR _ _ _ = true from rfl)]
            have e3 : ρ (.tmp 3) = .int .i64 (k : Int) := hext 3 (by kernel_rfl)
            clear hdep hext
            have HW := Lib.hid hW
            clear hW hcl hd hLi
            unfold OpDone
            go_simp
            exact ⟨rfl, fun _ => Upd.refl _ _, HW.out.same (by decide) (by decide) (by decide)⟩
          · refine fun ρ w' L hW hLi hcl hd hdep hext hc hg hf => ?_
            rw [if_pos (show wantedR _ _ _ = true from rfl)]
            have e74 : ρ (.tmp 74) = .slice A n c := hdep 5 _ rfl (by kernel_rfl)
            have e75 : ρ (.tmp 75) = .int .i64 (k : Int) := hdep 6 _ rfl (by kernel_rfl)
            clear hdep hext
            refine od_of_run (v := .slice A2 k c) (w' := w') (by simp [execOp, e74, e75, HC2.out w']) ?_
            exact ⟨rfl, fun _ => Upd.refl _ _, hW.same (by decide) (by decide) (by decide)⟩
          · refine fun ρ w' L hW hLi hcl hd hdep hext hc hg hf => ?_
            rw [if_pos (show wantedR _ _ _ = true from rfl)]
            have e73 : ρ (.tmp 73) = .slice A4 (n - k) c4 := hdep 4 _ rfl (by kernel_rfl)
            have e76 : ρ (.tmp 76) = .slice A2 k c := hdep 7 _ rfl (by kernel_rfl)
            clear hdep hext
            have n8 := hLi
            have n10 : L 10 = false := by
              cases hh : L 10 with
              | false => rfl
              | true => have q := hcl 10 8 hh (by kernel_rfl); rw [n8] at q; cases q
            have n11 : L 11 = false := by
              cases hh : L 11 with
              | false => rfl
              | true => have q := hcl 11 10 hh (by kernel_rfl); rw [n10] at q; cases q
            have n12 : L 12 = false := by
              cases hh : L 12 with
              | false => rfl
              | true => have q := hcl 12 11 hh (by kernel_rfl); rw [n11] at q; cases q
            have n14 : L 14 = false := by
              cases hh : L 14 with
              | false => rfl
              | true => have q := hcl 14 12 hh (by kernel_rfl); rw [n12] at q; cases q
            have h4 : L 4 = true := hd 4 (by kernel_rfl)
            obtain rfl := hW.b h4 hLi
            refine od_append_run (.tmp 73) (.tmp 76) 51 51 rfl rfl e73 e76 HR8.out ?_
            exact ⟨rfl, (fun hh => by rw [n10, n11, n12, n14] at hh; simp at hh), TnPh.op8 h4 (hcl 4 0 h4 (by kernel_rfl)) HU8.out⟩
          · refine fun ρ w' L hW hLi hcl hd hdep hext hc hg hf => ?_
            rw [if_pos (show wantedR _ _ _ = true from rfl)]
            have e5 : ρ (.tmp 5) = .pointer (some ⟨X, 0, none⟩) := hext 5 (by kernel_rfl)
            clear hdep hext
            refine od_load_row 28 (.tmp 5) rfl X 0 e5 (nq.map byteV) _ (name_cells HZM.out (hW.u.blk HB6.out (fun f => f))) Tryz.underlying28 rfl (by rw [name_size]; simp [H8M.out]) ?_
            rw [HZM.out]
            exact ⟨rfl, fun _ => Upd.refl _ _, hW.same (by decide) (by decide) (by decide)⟩
          · refine fun ρ w' L hW hLi hcl hd hdep hext hc hg hf => ?_
            rw [if_pos (show wantedR _ _ _ = true from rfl)]
            have e77 : ρ (.tmp 77) = .slice A8 n c8 := hdep 8 _ rfl (by kernel_rfl)
            have e78 : ρ (.tmp 78) = .agg zm := hdep 9 _ rfl (by kernel_rfl)
            clear hdep hext
            have h8 : L 8 = true := hd 8 (by kernel_rfl)
            have CL := Lib.hid (CTT.out w' (hW.d h8))
            have HW := Lib.hid hW
            have h4 : L 4 = true := hcl 8 4 h8 (by kernel_rfl)
            have H048 := Lib.hid (show L 8 = true ∧ L 0 = true ∧ L 4 = true from ⟨h8, hcl 4 0 h4 (by kernel_rfl), h4⟩)
            clear hW hcl hd hLi h8 h4
            unfold OpDone
            go_simp
            refine CL.out.mono ?_
            rintro e w2 ⟨A', c', rfl, hr, hu⟩
            exact ⟨_, rfl, ⟨A', c', rfl, hr⟩, fun _ => hu, HW.out.op10 H048.out.1 hu H048.out.2.1 H048.out.2.2⟩
          · refine fun ρ w' L hW hLi hcl hd hdep hext hc hg hf => ?_
            rw [if_pos (show wantedR _ _ _ = true from rfl)]
            have e79 : (TxV pb ps) (ρ (.tmp 79)) w' := hdep 10 _ rfl (by kernel_rfl)
            clear hdep hext
            obtain ⟨A', c', e79, r79⟩ := e79
            have HR := Lib.hid r79
            have HW := Lib.hid hW
            clear hW hcl hd hLi r79
            unfold OpDone
            go_simp
            exact ⟨⟨A', c', rfl, HR.out⟩, fun _ => Upd.refl _ _, HW.out.same (by decide) (by decide) (by decide)⟩
          · refine fun ρ w' L hW hLi hcl hd hdep hext hc hg hf => ?_
            rw [if_pos (show wantedR _ _ _ = true from rfl)]
            have e68 : (TxV pb ps) (ρ (.tmp 68)) w' := hdep 11 _ rfl (by kernel_rfl)
            clear hdep hext
            obtain ⟨A', c', e68, r68⟩ := e68
            have HR := Lib.hid r68
            have HW := Lib.hid hW
            clear hW hcl hd hLi r68
            unfold OpDone
            go_simp
            exact ⟨⟨A', c', rfl, HR.out⟩, fun _ => Upd.refl _ _, HW.out.same (by decide) (by decide) (by decide)⟩
          · refine fun ρ w' L hW hLi hcl hd hdep hext hc hg hf => ?_
            rw [if_pos (show wantedR _ _ _ = true from rfl)]
            have e68 : (TxV pb ps) (ρ (.tmp 68)) w' := hdep 11 _ rfl (by kernel_rfl)
            clear hdep hext
            obtain ⟨A', c', e68, -⟩ := e68
            have HW := Lib.hid hW
            clear hW hcl hd hLi
            unfold OpDone
            go_simp
            exact ⟨rfl, fun _ => Upd.refl _ _, HW.out.same (by decide) (by decide) (by decide)⟩
          · refine fun ρ w' L hW hLi hcl hd hdep hext hc hg hf => ?_
            rw [if_pos (show wantedR _ _ _ = true from rfl)]
            have e80 : (TxB pb) (ρ (.tmp 80)) w' := hdep 12 _ rfl (by kernel_rfl)
            clear hdep hext
            obtain ⟨A', c', e80, r80⟩ := e80
            have HR := Lib.hid r80
            have HW := Lib.hid hW
            clear hW hcl hd hLi r80
            unfold OpDone
            go_simp
            exact ⟨⟨A', c', rfl, HR.out⟩, fun _ => Upd.refl _ _, HW.out.same (by decide) (by decide) (by decide)⟩
          · refine fun ρ w' L hW hLi hcl hd hdep hext hc hg hf => ?_
            rw [if_pos (show wantedR _ _ _ = true from rfl)]
            have e81 : ρ (.tmp 81) = .bool ps := hdep 13 _ rfl (by kernel_rfl)
            clear hdep hext
            have HW := Lib.hid hW
            clear hW hcl hd hLi
            unfold OpDone
            go_simp
            exact ⟨rfl, fun _ => Upd.refl _ _, HW.out.same (by decide) (by decide) (by decide)⟩
        intro vs Wz Lz hLz hWz hR
        have hv0 : vs 0 = .slice (some ⟨w6.drew.heap.size, 0, none⟩) 0 0 := hR 0 _ rfl
        have hv1 : vs 1 = .slice A n c := hR 1 _ rfl
        have hv2 : vs 2 = .int .i64 (k : Int) := hR 2 _ rfl
        have hv3 : vs 3 = .slice A1 (n - k) (c - k) := hR 3 _ rfl
        have hv4 : vs 4 = .slice A4 (n - k) c4 := hR 4 _ rfl
        have hv5 : vs 5 = .slice A n c := hR 5 _ rfl
        have hv6 : vs 6 = .int .i64 (k : Int) := hR 6 _ rfl
        have hv7 : vs 7 = .slice A2 k c := hR 7 _ rfl
        have hv8 : vs 8 = .slice A8 n c8 := hR 8 _ rfl
        have hv9 : vs 9 = .agg zm := hR 9 _ rfl
        have hr10 : (TxV pb ps) (vs 10) Wz := hR 10 _ rfl
        obtain ⟨A10, c10, hv10, -⟩ := hr10
        have hr11 : (TxV pb ps) (vs 11) Wz := hR 11 _ rfl
        obtain ⟨A11, c11, hv11, -⟩ := hr11
        have hr12 : (TxB pb) (vs 12) Wz := hR 12 _ rfl
        obtain ⟨A12, c12, hv12, -⟩ := hr12
        have hv13 : vs 13 = .bool ps := hR 13 _ rfl
        have hr14 : (TxB pb) (vs 14) Wz := hR 14 _ rfl
        obtain ⟨A14, c14, hv14, hr14⟩ := hr14
        have hv15 : vs 15 = .bool ps := hR 15 _ rfl
        simp only [putAll, Act.put, List.setIfInBounds_toArray, List.set_cons_zero, List.set_cons_succ, hv0, hv1, hv2, hv3, hv4, hv5, hv6, hv7, hv8, hv9, hv10, hv11, hv12, hv13, hv14, hv15]
        clear hR hv0 hv1 hv2 hv3 hv4 hv5 hv6 hv7 hv8 hv9 hv10 hv11 hv12 hv13 hv14 hv15
        have UZ := Lib.hid (show Upd NoF w6 Wz from (Upd.refl NoF w6).drew.trans hWz.u (fun _ _ f => f))
        have k1 : (convert 52 9 (.slice A5 pb.length c5)).run Tryz.prog Wz = .ok (strV pb) Wz := run_str (R56.out.keep UZ.out)
        have k2 : (convert 52 9 (.slice A6 pb.length c6)).run Tryz.prog Wz = .ok (strV pb) Wz := run_str (R6.out.keep UZ.out)
        have k3 : (convert 52 9 (.slice A14 pb.length c14)).run Tryz.prog Wz = .ok (strV pb) Wz := run_str hr14
        have UF := Lib.hid (U6.out.trans UZ.out (fun _ _ f => f))
        clear hWz hr14
        go_wp2_with (refine (awake25_ok _).mono ?_; rintro e w9 ⟨rfl, hu9⟩; have U9 := Lib.hid hu9; clear hu9)
        go_ret
        exact ⟨rfl, UF.out.trans U9.out (fun _ _ f => f)⟩
      by_cases h2 : (n : Int) ≤ pick
      · have tp : decide ((0 : Int) ≤ pick) = true := by simp; omega
        have tq : decide (pick < (n : Int)) = false := by simp; omega
        obtain ⟨wp, rfl⟩ : ∃ wp : World, wp = wr := ⟨_, rfl⟩
        have UP := UP0
        have HBP := HBP0
        clear UP0 HBP0
        obtain ⟨nq, hnq⟩ : ∃ x, nm = x := ⟨_, rfl⟩
        obtain ⟨zm, hzm⟩ : ∃ x, zn = x := ⟨_, rfl⟩
        have HZM := Lib.hid (show (nq.map byteV).toArray = zm from by rw [← hnq, ← hzm]; exact HZN.out)
        have H8M := Lib.hid (show nq.length = 8 from by rw [← hnq]; exact H8N.out)
        have HBX := Lib.hid (show Blk wp X 28 zm from by rw [← hzm]; exact HBP.out)
        rw [hzm]
        clear hnq hzm HBP
        have CT := Lib.hid (fun W (hu : Upd NoF w W) => itText_any (w := W) (nm := nq) HN.out (HTX.out.keep hu) (by have := HN60.out; omega) HB.out H8M.out)
        have CR := Lib.hid (fun W (hu : Upd NoF w W) => r25Text_any (w := W) (nm := nq) HN.out (HTX.out.keep hu) (by have := HN60.out; omega) HB.out H8M.out)
        have CTT0 := Lib.hid (fun W A' c' (hr : TxR W (.slice A' n c') (l.drop k ++ l.take k)) => by
          have q := itText_any (w := W) (nm := nq) (l := l.drop k ++ l.take k) (n := n) (by rw [List.length_append, List.length_drop, List.length_take, HN.out]; have := HKN.out; omega) hr (by have := HN60.out; omega) (fun t ht => HB.out t ((List.mem_append.1 ht).elim List.mem_of_mem_drop List.mem_of_mem_take)) H8M.out
          unfold pickB at q
          rw [pick_turn] at q
          exact q)
        rw [show nameV nq = .agg zm from congrArg Value.agg HZM.out] at CT CR CTT0
        unfold pickB at CT CR
        obtain ⟨ps, hps⟩ : ∃ x, (pickT nq l).isSome = x := ⟨_, rfl⟩
        obtain ⟨pb, hpb⟩ : ∃ x, (pickT nq l).getD [] = x := ⟨_, rfl⟩
        rw [hps, hpb] at CT CR CTT0
        clear hps hpb
        go_wp2_with (first
          | (refine wl_load rfl 28 (.tmp 5) rfl X 0 (by rfl) (nq.map byteV) _ (name_cells HZM.out HBX.out) Tryz.underlying28 rfl (by rw [name_size]; simp [H8M.out]) zm HZM.out ?_)
          | (refine (CT.out wp UP.out).mono ?_; rintro e w5 ⟨A5, c5, rfl, hr5, hu5⟩; have R5 := Lib.hid hr5; have E5 := Lib.hid hu5; have U5 := Lib.hid (UP.out.trans hu5 (fun _ _ f => f)); have HB5 := Lib.hid (hu5.blk HBX.out (fun f => f)); clear hr5 hu5)
          | (refine wl_load rfl 28 (.tmp 5) rfl X 0 (by rfl) (nq.map byteV) _ (name_cells HZM.out HB5.out) Tryz.underlying28 rfl (by rw [name_size]; simp [H8M.out]) zm HZM.out ?_)
          | (refine (CR.out w5 U5.out).mono ?_; rintro e w6 ⟨A6, c6, rfl, hr6, hu6⟩; have R6 := Lib.hid hr6; have R56 := Lib.hid (R5.out.keep hu6); have U6 := Lib.hid (U5.out.trans hu6 (fun _ _ f => f)); have HB6 := Lib.hid ((hu6.blk HB5.out (fun f => f)).drew); clear hr6 hu6))
        have UT := Lib.hid (show Upd NoF w w6.drew from U6.out.drew)
        obtain ⟨A1, A2, A4, A8, c4, c8, w4, w8, hc1, hc2, hr4, hr8, htx8, hu8, hu4⟩ := turn_run (k := k) HN.out (HTX.out.keep UT.out) (by have := HKN.out; omega) (by have := HN60.out; omega)
        obtain ⟨W1, hW1⟩ : ∃ x, w6.drew.alloc (.cells #[] 52) = x := ⟨_, rfl⟩
        rw [hW1] at hr4
        have HW1 := Lib.hid hW1
        clear hW1
        have HC1 := Lib.hid hc1
        have HC2 := Lib.hid hc2
        have HR4 := Lib.hid hr4
        have HR8 := Lib.hid hr8
        have HU8 := Lib.hid hu8
        have HU4 := Lib.hid hu4
        have HT8 := Lib.hid htx8
        have CTT := Lib.hid (fun W (hu : Upd NoF w8 W) => CTT0.out W A8 c8 (HT8.out.keep hu))
        clear hc1 hc2 hr4 hr8 htx8 hu8 hu4
        refine wp_region_rglB (rgR [isV (.slice (some ⟨w6.drew.heap.size, 0, none⟩) 0 0), isV (.slice A n c), isV (.int .i64 (k : Int)), isV (.slice A1 (n - k) (c - k)), isV (.slice A4 (n - k) c4), isV (.slice A n c), isV (.int .i64 (k : Int)), isV (.slice A2 k c), isV (.slice A8 n c8), isV (.agg zm), TxV pb ps, TxV pb ps, TxB pb, isV (.bool ps), TxB pb, isV (.bool ps)]) (TnSt) (TnPh w6.drew W1 w4 w8) (by kernel_rfl) (by kernel_rfl) (by kernel_rfl) (by rfl) (fun L w => fun _ => Upd.refl _ _) (rgR_keepL ⟨stbL_isV _, stbL_isV _, stbL_isV _, stbL_isV _, stbL_isV _, stbL_isV _, stbL_isV _, stbL_isV _, stbL_isV _, stbL_isV _, (stbL_txv (by simp)), (stbL_txv (by simp)), (stbL_txb (by simp)), stbL_isV _, (stbL_txb (by simp)), stbL_isV _, trivial⟩) (TnPh.start) ?_ ?_
        · refine ⟨?_, ?_, ?_, ?_, ?_, ?_, ?_, ?_, ?_, ?_, ?_, ?_, ?_, ?_, ?_, ?_, trivial⟩
          · refine fun ρ w' L hW hLi hcl hd hdep hext hc hg hf => ?_
            rw [if_pos (show wantedR _ _ _ = true from rfl)]
            clear hdep hext
            have n4 : L 4 = false := by
              cases hh : L 4 with
              | false => rfl
              | true => have q := hcl 4 0 hh (by kernel_rfl); rw [hLi] at q; cases q
            have n8 : L 8 = false := by
              cases hh : L 8 with
              | false => rfl
              | true => have q := hcl 8 4 hh (by kernel_rfl); rw [n4] at q; cases q
            obtain rfl := hW.z hLi
            refine od_of_run (v := .slice (some ⟨w6.drew.heap.size, 0, none⟩) 0 0) (w' := W1) (by rw [← HW1.out]; simp [execOp, bs_bytess0]) ?_
            have q := TnPh.op0 (W0 := w6.drew) (o := .cells #[] 52) (w4 := w4) (w8 := w8) n4 n8
            rw [HW1.out] at q
            exact ⟨rfl, fun _ => (by rw [← HW1.out]; exact (Upd.refl NoF w6.drew).alloc _), q⟩
          · refine fun ρ w' L hW hLi hcl hd hdep hext hc hg hf => ?_
            rw [if_pos (show wantedR _ _ _ = true from rfl)]
            have e0 : ρ (.tmp 0) = .slice A n c := hext 0 (by kernel_rfl)
            clear hdep hext
            have HW := Lib.hid hW
            clear hW hcl hd hLi
            unfold OpDone
            go_simp
            exact ⟨rfl, fun _ => Upd.refl _ _, HW.out.same (by decide) (by decide) (by decide)⟩
          · refine fun ρ w' L hW hLi hcl hd hdep hext hc hg hf => ?_
            rw [if_pos (show wantedR _ _ _ = true from rfl)]
            have e3 : ρ (.tmp 3) = .int .i64 (k : Int) := hext 3 (by kernel_rfl)
            clear hdep hext
            have HW := Lib.hid hW
            clear hW hcl hd hLi
            unfold OpDone
            go_simp
            exact ⟨rfl, fun _ => Upd.refl _ _, HW.out.same (by decide) (by decide) (by decide)⟩
          · refine fun ρ w' L hW hLi hcl hd hdep hext hc hg hf => ?_
            rw [if_pos (show wantedR _ _ _ = true from rfl)]
            have e70 : ρ (.tmp 70) = .slice A n c := hdep 1 _ rfl (by kernel_rfl)
            have e71 : ρ (.tmp 71) = .int .i64 (k : Int) := hdep 2 _ rfl (by kernel_rfl)
            clear hdep hext
            refine od_of_run (v := .slice A1 (n - k) (c - k)) (w' := w') (by simp [execOp, e70, e71, HC1.out w']) ?_
            exact ⟨rfl, fun _ => Upd.refl _ _, hW.same (by decide) (by decide) (by decide)⟩
          · refine fun ρ w' L hW hLi hcl hd hdep hext hc hg hf => ?_
            rw [if_pos (show wantedR _ _ _ = true from rfl)]
            have e69 : ρ (.tmp 69) = .slice (some ⟨w6.drew.heap.size, 0, none⟩) 0 0 := hdep 0 _ rfl (by kernel_rfl)
            have e72 : ρ (.tmp 72) = .slice A1 (n - k) (c - k) := hdep 3 _ rfl (by kernel_rfl)
            clear hdep hext
            have n8 : L 8 = false := by
              cases hh : L 8 with
              | false => rfl
              | true => have q := hcl 8 4 hh (by kernel_rfl); rw [hLi] at q; cases q
            have n10 : L 10 = false := by
              cases hh : L 10 with
              | false => rfl
              | true => have q := hcl 10 8 hh (by kernel_rfl); rw [n8] at q; cases q
            have n11 : L 11 = false := by
              cases hh : L 11 with
              | false => rfl
              | true => have q := hcl 11 10 hh (by kernel_rfl); rw [n10] at q; cases q
            have n12 : L 12 = false := by
              cases hh : L 12 with
              | false => rfl
              | true => have q := hcl 12 11 hh (by kernel_rfl); rw [n11] at q; cases q
            have n14 : L 14 = false := by
              cases hh : L 14 with
              | false => rfl
              | true => have q := hcl 14 12 hh (by kernel_rfl); rw [n12] at q; cases q
            have h0 : L 0 = true := hd 0 (by kernel_rfl)
            obtain rfl := hW.a h0 hLi
            refine od_append_run (.tmp 69) (.tmp 72) 51 51 rfl rfl e69 e72 HR4.out ?_
            exact ⟨rfl, (fun hh => by rw [n10, n11, n12, n14] at hh; simp at hh), TnPh.op4 h0 n8 HU4.out⟩
          · refine fun ρ w' L hW hLi hcl hd hdep hext hc hg hf => ?_
            rw [if_pos (show wantedR _ _ _ = true from rfl)]
            have e0 : ρ (.tmp 0) = .slice A n c := hext 0 (by kernel_rfl)
            clear hdep hext
            have HW := Lib.hid hW
            clear hW hcl hd hLi
            unfold OpDone
            go_simp
            exact ⟨rfl, fun _ => Upd.refl _ _, HW.out.same (by decide) (by decide) (by decide)⟩
          · refine fun ρ w' L hW hLi hcl hd hdep hext hc hg hf => ?_
            rw [if_pos (show wantedR _ _ _ = true from rfl)]
            have e3 : ρ (.tmp 3) = .int .i64 (k : Int) := hext 3 (by kernel_rfl)
            clear hdep hext
            have HW := Lib.hid hW
            clear hW hcl hd hLi
            unfold OpDone
            go_simp
            exact ⟨rfl, fun _ => Upd.refl _ _, HW.out.same (by decide) (by decide) (by decide)⟩
          · refine fun ρ w' L hW hLi hcl hd hdep hext hc hg hf => ?_
            rw [if_pos (show wantedR _ _ _ = true from rfl)]
            have e74 : ρ (.tmp 74) = .slice A n c := hdep 5 _ rfl (by kernel_rfl)
            have e75 : ρ (.tmp 75) = .int .i64 (k : Int) := hdep 6 _ rfl (by kernel_rfl)
            clear hdep hext
            refine od_of_run (v := .slice A2 k c) (w' := w') (by simp [execOp, e74, e75, HC2.out w']) ?_
            exact ⟨rfl, fun _ => Upd.refl _ _, hW.same (by decide) (by decide) (by decide)⟩
          · refine fun ρ w' L hW hLi hcl hd hdep hext hc hg hf => ?_
            rw [if_pos (show wantedR _ _ _ = true from rfl)]
            have e73 : ρ (.tmp 73) = .slice A4 (n - k) c4 := hdep 4 _ rfl (by kernel_rfl)
            have e76 : ρ (.tmp 76) = .slice A2 k c := hdep 7 _ rfl (by kernel_rfl)
            clear hdep hext
            have n8 := hLi
            have n10 : L 10 = false := by
              cases hh : L 10 with
              | false => rfl
              | true => have q := hcl 10 8 hh (by kernel_rfl); rw [n8] at q; cases q
            have n11 : L 11 = false := by
              cases hh : L 11 with
              | false => rfl
              | true => have q := hcl 11 10 hh (by kernel_rfl); rw [n10] at q; cases q
            have n12 : L 12 = false := by
              cases hh : L 12 with
              | false => rfl
              | true => have q := hcl 12 11 hh (by kernel_rfl); rw [n11] at q; cases q
            have n14 : L 14 = false := by
              cases hh : L 14 with
              | false => rfl
              | true => have q := hcl 14 12 hh (by kernel_rfl); rw [n12] at q; cases q
            have h4 : L 4 = true := hd 4 (by kernel_rfl)
            obtain rfl := hW.b h4 hLi
            refine od_append_run (.tmp 73) (.tmp 76) 51 51 rfl rfl e73 e76 HR8.out ?_
            exact ⟨rfl, (fun hh => by rw [n10, n11, n12, n14] at hh; simp at hh), TnPh.op8 h4 (hcl 4 0 h4 (by kernel_rfl)) HU8.out⟩
          · refine fun ρ w' L hW hLi hcl hd hdep hext hc hg hf => ?_
            rw [if_pos (show wantedR _ _ _ = true from rfl)]
            have e5 : ρ (.tmp 5) = .pointer (some ⟨X, 0, none⟩) := hext 5 (by kernel_rfl)
            clear hdep hext
            refine od_load_row 28 (.tmp 5) rfl X 0 e5 (nq.map byteV) _ (name_cells HZM.out (hW.u.blk HB6.out (fun f => f))) Tryz.underlying28 rfl (by rw [name_size]; simp [H8M.out]) ?_
            rw [HZM.out]
            exact ⟨rfl, fun _ => Upd.refl _ _, hW.same (by decide) (by decide) (by decide)⟩
          · refine fun ρ w' L hW hLi hcl hd hdep hext hc hg hf => ?_
            rw [if_pos (show wantedR _ _ _ = true from rfl)]
            have e77 : ρ (.tmp 77) = .slice A8 n c8 := hdep 8 _ rfl (by kernel_rfl)
            have e78 : ρ (.tmp 78) = .agg zm := hdep 9 _ rfl (by kernel_rfl)
            clear hdep hext
            have h8 : L 8 = true := hd 8 (by kernel_rfl)
            have CL := Lib.hid (CTT.out w' (hW.d h8))
            have HW := Lib.hid hW
            have h4 : L 4 = true := hcl 8 4 h8 (by kernel_rfl)
            have H048 := Lib.hid (show L 8 = true ∧ L 0 = true ∧ L 4 = true from ⟨h8, hcl 4 0 h4 (by kernel_rfl), h4⟩)
            clear hW hcl hd hLi h8 h4
            unfold OpDone
            go_simp
            refine CL.out.mono ?_
            rintro e w2 ⟨A', c', rfl, hr, hu⟩
            exact ⟨_, rfl, ⟨A', c', rfl, hr⟩, fun _ => hu, HW.out.op10 H048.out.1 hu H048.out.2.1 H048.out.2.2⟩
          · refine fun ρ w' L hW hLi hcl hd hdep hext hc hg hf => ?_
            rw [if_pos (show wantedR _ _ _ = true from rfl)]
            have e79 : (TxV pb ps) (ρ (.tmp 79)) w' := hdep 10 _ rfl (by kernel_rfl)
            clear hdep hext
            obtain ⟨A', c', e79, r79⟩ := e79
            have HR := Lib.hid r79
            have HW := Lib.hid hW
            clear hW hcl hd hLi r79
            unfold OpDone
            go_simp
            exact ⟨⟨A', c', rfl, HR.out⟩, fun _ => Upd.refl _ _, HW.out.same (by decide) (by decide) (by decide)⟩
          · refine fun ρ w' L hW hLi hcl hd hdep hext hc hg hf => ?_
            rw [if_pos (show wantedR _ _ _ = true from rfl)]
            have e68 : (TxV pb ps) (ρ (.tmp 68)) w' := hdep 11 _ rfl (by kernel_rfl)
            clear hdep hext
            obtain ⟨A', c', e68, r68⟩ := e68
            have HR := Lib.hid r68
            have HW := Lib.hid hW
            clear hW hcl hd hLi r68
            unfold OpDone
            go_simp
            exact ⟨⟨A', c', rfl, HR.out⟩, fun _ => Upd.refl _ _, HW.out.same (by decide) (by decide) (by decide)⟩
          · refine fun ρ w' L hW hLi hcl hd hdep hext hc hg hf => ?_
            rw [if_pos (show wantedR _ _ _ = true from rfl)]
            have e68 : (TxV pb ps) (ρ (.tmp 68)) w' := hdep 11 _ rfl (by kernel_rfl)
            clear hdep hext
            obtain ⟨A', c', e68, -⟩ := e68
            have HW := Lib.hid hW
            clear hW hcl hd hLi
            unfold OpDone
            go_simp
            exact ⟨rfl, fun _ => Upd.refl _ _, HW.out.same (by decide) (by decide) (by decide)⟩
          · refine fun ρ w' L hW hLi hcl hd hdep hext hc hg hf => ?_
            rw [if_pos (show wantedR _ _ _ = true from rfl)]
            have e80 : (TxB pb) (ρ (.tmp 80)) w' := hdep 12 _ rfl (by kernel_rfl)
            clear hdep hext
            obtain ⟨A', c', e80, r80⟩ := e80
            have HR := Lib.hid r80
            have HW := Lib.hid hW
            clear hW hcl hd hLi r80
            unfold OpDone
            go_simp
            exact ⟨⟨A', c', rfl, HR.out⟩, fun _ => Upd.refl _ _, HW.out.same (by decide) (by decide) (by decide)⟩
          · refine fun ρ w' L hW hLi hcl hd hdep hext hc hg hf => ?_
            rw [if_pos (show wantedR _ _ _ = true from rfl)]
            have e81 : ρ (.tmp 81) = .bool ps := hdep 13 _ rfl (by kernel_rfl)
            clear hdep hext
            have HW := Lib.hid hW
            clear hW hcl hd hLi
            unfold OpDone
            go_simp
            exact ⟨rfl, fun _ => Upd.refl _ _, HW.out.same (by decide) (by decide) (by decide)⟩
        intro vs Wz Lz hLz hWz hR
        have hv0 : vs 0 = .slice (some ⟨w6.drew.heap.size, 0, none⟩) 0 0 := hR 0 _ rfl
        have hv1 : vs 1 = .slice A n c := hR 1 _ rfl
        have hv2 : vs 2 = .int .i64 (k : Int) := hR 2 _ rfl
        have hv3 : vs 3 = .slice A1 (n - k) (c - k) := hR 3 _ rfl
        have hv4 : vs 4 = .slice A4 (n - k) c4 := hR 4 _ rfl
        have hv5 : vs 5 = .slice A n c := hR 5 _ rfl
        have hv6 : vs 6 = .int .i64 (k : Int) := hR 6 _ rfl
        have hv7 : vs 7 = .slice A2 k c := hR 7 _ rfl
        have hv8 : vs 8 = .slice A8 n c8 := hR 8 _ rfl
        have hv9 : vs 9 = .agg zm := hR 9 _ rfl
        have hr10 : (TxV pb ps) (vs 10) Wz := hR 10 _ rfl
        obtain ⟨A10, c10, hv10, -⟩ := hr10
        have hr11 : (TxV pb ps) (vs 11) Wz := hR 11 _ rfl
        obtain ⟨A11, c11, hv11, -⟩ := hr11
        have hr12 : (TxB pb) (vs 12) Wz := hR 12 _ rfl
        obtain ⟨A12, c12, hv12, -⟩ := hr12
        have hv13 : vs 13 = .bool ps := hR 13 _ rfl
        have hr14 : (TxB pb) (vs 14) Wz := hR 14 _ rfl
        obtain ⟨A14, c14, hv14, hr14⟩ := hr14
        have hv15 : vs 15 = .bool ps := hR 15 _ rfl
        simp only [putAll, Act.put, List.setIfInBounds_toArray, List.set_cons_zero, List.set_cons_succ, hv0, hv1, hv2, hv3, hv4, hv5, hv6, hv7, hv8, hv9, hv10, hv11, hv12, hv13, hv14, hv15]
        clear hR hv0 hv1 hv2 hv3 hv4 hv5 hv6 hv7 hv8 hv9 hv10 hv11 hv12 hv13 hv14 hv15
        have UZ := Lib.hid (show Upd NoF w6 Wz from (Upd.refl NoF w6).drew.trans hWz.u (fun _ _ f => f))
        have k1 : (convert 52 9 (.slice A5 pb.length c5)).run Tryz.prog Wz = .ok (strV pb) Wz := run_str (R56.out.keep UZ.out)
        have k2 : (convert 52 9 (.slice A6 pb.length c6)).run Tryz.prog Wz = .ok (strV pb) Wz := run_str (R6.out.keep UZ.out)
        have k3 : (convert 52 9 (.slice A14 pb.length c14)).run Tryz.prog Wz = .ok (strV pb) Wz := run_str hr14
        have UF := Lib.hid (U6.out.trans UZ.out (fun _ _ f => f))
        clear hWz hr14
        go_wp2_with (refine (awake25_ok _).mono ?_; rintro e w9 ⟨rfl, hu9⟩; have U9 := Lib.hid hu9; clear hu9)
        go_ret
        exact ⟨rfl, UF.out.trans U9.out (fun _ _ f => f)⟩
      obtain ⟨p, rfl⟩ : ∃ p : Nat, pick = (p : Int) := ⟨pick.toNat, by omega⟩
      have hpn : p < n := by omega
      obtain ⟨t, ht⟩ : ∃ t, l[p]? = some t := ⟨_, List.getElem?_eq_getElem (by rw [HN.out]; exact hpn)⟩
      obtain ⟨g, oo, Au, cu, rfl, hcw, hrt, hle, hcm⟩ := HTX.out.at_ ht
      have hc0 : wr.cell? ⟨g, oo + p, none⟩ = some (.slice Au t.length cu) := UP0.out.cell hcw (fun f => f)
      have HTB := Lib.hid (HB.out t (List.mem_of_getElem? ht))
      obtain ⟨nq, hnq⟩ : ∃ x, hsum t = x := ⟨_, rfl⟩
      obtain ⟨zm, hzm⟩ : ∃ x, (nq.map byteV).toArray = x := ⟨_, rfl⟩
      have HZM := Lib.hid hzm
      have H8M := Lib.hid (show nq.length = 8 from by rw [← hnq]; exact hsum_len t)
      have CNM := Lib.hid (fun W (hu : Upd NoF wr W) => show Calls Tryz.prog 22 #[.slice Au t.length cu] W (fun e w' => e = .returned (.agg zm) ∧ Upd NoF W w') from by
        have q := r20TextName_any (w := W) (v := .slice Au t.length cu) (bs := t) (hrt.keep (UP0.out.trans hu (fun _ _ f => f))) (by have := HTB.out; omega)
        rw [hnq, show nameV nq = .agg zm from congrArg Value.agg hzm] at q
        exact q)
      obtain ⟨tl, htl⟩ : ∃ x, t.length = x := ⟨_, rfl⟩
      rw [htl] at hc0 hle CNM
      have q0 : (0 : Int) ≤ (p : Int) := by omega
      have q1 : (p : Int) < (n : Int) := by omega
      have tp : decide ((0 : Int) ≤ (p : Int)) = true := by simp
      have tq : decide ((p : Int) < (n : Int)) = true := by simp; omega
      have q3 : ((p : Int)).toNat = p := by omega
      clear hcw hrt ht hnq hzm htl
      have CT := Lib.hid (fun W (hu : Upd NoF w W) => itText_any (w := W) (nm := nq) HN.out (HTX.out.keep hu) (by have := HN60.out; omega) HB.out H8M.out)
      have CR := Lib.hid (fun W (hu : Upd NoF w W) => r25Text_any (w := W) (nm := nq) HN.out (HTX.out.keep hu) (by have := HN60.out; omega) HB.out H8M.out)
      have CTT0 := Lib.hid (fun W A' c' (hr : TxR W (.slice A' n c') (l.drop k ++ l.take k)) => by
        have q := itText_any (w := W) (nm := nq) (l := l.drop k ++ l.take k) (n := n) (by rw [List.length_append, List.length_drop, List.length_take, HN.out]; have := HKN.out; omega) hr (by have := HN60.out; omega) (fun t ht => HB.out t ((List.mem_append.1 ht).elim List.mem_of_mem_drop List.mem_of_mem_take)) H8M.out
        unfold pickB at q
        rw [pick_turn] at q
        exact q)
      rw [show nameV nq = .agg zm from congrArg Value.agg HZM.out] at CT CR CTT0
      unfold pickB at CT CR
      obtain ⟨ps, hps⟩ : ∃ x, (pickT nq l).isSome = x := ⟨_, rfl⟩
      obtain ⟨pb, hpb⟩ : ∃ x, (pickT nq l).getD [] = x := ⟨_, rfl⟩
      rw [hps, hpb] at CT CR CTT0
      clear hps hpb
      go_wp2_with (first
        | (refine (CNM.out wr (Upd.refl _ _)).mono ?_; rintro e w2 ⟨rfl, hu2⟩; have U2 := Lib.hid hu2; have HB2 := Lib.hid (hu2.blk HBP0.out (fun f => f)); clear hu2)
        | (refine wpList_store_row rfl 28 (.tmp 5) (.tmp 55) rfl X (by rfl) zm (by rfl) 28 _ HB2.out (by rw [(name_arr H8N.out HZN.out).1, (name_arr H8M.out HZM.out).1]) (by rw [name_size, (name_arr H8M.out HZM.out).1]) (name_arr H8M.out HZM.out).2 ?_; intro wp hbp hup hsp; have HBX := Lib.hid hbp; have UP := Lib.hid (show Upd NoF w wp from (UP0.out.trans U2.out (fun _ _ f => f)).trans hup (fun j hj f => by have f : j = X := f; have := HX.out; omega)); clear hbp hup hsp)
        | (refine wl_load rfl 28 (.tmp 5) rfl X 0 (by rfl) (nq.map byteV) _ (name_cells HZM.out HBX.out) Tryz.underlying28 rfl (by rw [name_size]; simp [H8M.out]) zm HZM.out ?_)
        | (refine (CT.out wp UP.out).mono ?_; rintro e w5 ⟨A5, c5, rfl, hr5, hu5⟩; have R5 := Lib.hid hr5; have E5 := Lib.hid hu5; have U5 := Lib.hid (UP.out.trans hu5 (fun _ _ f => f)); have HB5 := Lib.hid (hu5.blk HBX.out (fun f => f)); clear hr5 hu5)
        | (refine wl_load rfl 28 (.tmp 5) rfl X 0 (by rfl) (nq.map byteV) _ (name_cells HZM.out HB5.out) Tryz.underlying28 rfl (by rw [name_size]; simp [H8M.out]) zm HZM.out ?_)
        | (refine (CR.out w5 U5.out).mono ?_; rintro e w6 ⟨A6, c6, rfl, hr6, hu6⟩; have R6 := Lib.hid hr6; have R56 := Lib.hid (R5.out.keep hu6); have U6 := Lib.hid (U5.out.trans hu6 (fun _ _ f => f)); have HB6 := Lib.hid ((hu6.blk HB5.out (fun f => f)).drew); clear hr6 hu6))
      have UT := Lib.hid (show Upd NoF w w6.drew from U6.out.drew)
      obtain ⟨A1, A2, A4, A8, c4, c8, w4, w8, hc1, hc2, hr4, hr8, htx8, hu8, hu4⟩ := turn_run (k := k) HN.out (HTX.out.keep UT.out) (by have := HKN.out; omega) (by have := HN60.out; omega)
      obtain ⟨W1, hW1⟩ : ∃ x, w6.drew.alloc (.cells #[] 52) = x := ⟨_, rfl⟩
      rw [hW1] at hr4
      have HW1 := Lib.hid hW1
      clear hW1
      have HC1 := Lib.hid hc1
      have HC2 := Lib.hid hc2
      have HR4 := Lib.hid hr4
      have HR8 := Lib.hid hr8
      have HU8 := Lib.hid hu8
      have HU4 := Lib.hid hu4
      have HT8 := Lib.hid htx8
      have CTT := Lib.hid (fun W (hu : Upd NoF w8 W) => CTT0.out W A8 c8 (HT8.out.keep hu))
      clear hc1 hc2 hr4 hr8 htx8 hu8 hu4
      refine wp_region_rglB (rgR [isV (.slice (some ⟨w6.drew.heap.size, 0, none⟩) 0 0), isV (.slice (some ⟨g, oo, none⟩) n c), isV (.int .i64 (k : Int)), isV (.slice A1 (n - k) (c - k)), isV (.slice A4 (n - k) c4), isV (.slice (some ⟨g, oo, none⟩) n c), isV (.int .i64 (k : Int)), isV (.slice A2 k c), isV (.slice A8 n c8), isV (.agg zm), TxV pb ps, TxV pb ps, TxB pb, isV (.bool ps), TxB pb, isV (.bool ps)]) (TnSt) (TnPh w6.drew W1 w4 w8) (by kernel_rfl) (by kernel_rfl) (by kernel_rfl) (by rfl) (fun L w => fun _ => Upd.refl _ _) (rgR_keepL ⟨stbL_isV _, stbL_isV _, stbL_isV _, stbL_isV _, stbL_isV _, stbL_isV _, stbL_isV _, stbL_isV _, stbL_isV _, stbL_isV _, (stbL_txv (by simp)), (stbL_txv (by simp)), (stbL_txb (by simp)), stbL_isV _, (stbL_txb (by simp)), stbL_isV _, trivial⟩) (TnPh.start) ?_ ?_
      · refine ⟨?_, ?_, ?_, ?_, ?_, ?_, ?_, ?_, ?_, ?_, ?_, ?_, ?_, ?_, ?_, ?_, trivial⟩
        · refine fun ρ w' L hW hLi hcl hd hdep hext hc hg hf => ?_
          rw [if_pos (show wantedR _ _ _ = true from rfl)]
          clear hdep hext
          have n4 : L 4 = false := by
            cases hh : L 4 with
            | false => rfl
            | true => have q := hcl 4 0 hh (by kernel_rfl); rw [hLi] at q; cases q
          have n8 : L 8 = false := by
            cases hh : L 8 with
            | false => rfl
            | true => have q := hcl 8 4 hh (by kernel_rfl); rw [n4] at q; cases q
          obtain rfl := hW.z hLi
          refine od_of_run (v := .slice (some ⟨w6.drew.heap.size, 0, none⟩) 0 0) (w' := W1) (by rw [← HW1.out]; simp [execOp, bs_bytess0]) ?_
          have q := TnPh.op0 (W0 := w6.drew) (o := .cells #[] 52) (w4 := w4) (w8 := w8) n4 n8
          rw [HW1.out] at q
          exact ⟨rfl, fun _ => (by rw [← HW1.out]; exact (Upd.refl NoF w6.drew).alloc _), q⟩
        · refine fun ρ w' L hW hLi hcl hd hdep hext hc hg hf => ?_
          rw [if_pos (show wantedR _ _ _ = true from rfl)]
          have e0 : ρ (.tmp 0) = .slice (some ⟨g, oo, none⟩) n c := hext 0 (by kernel_rfl)
          clear hdep hext
          have HW := Lib.hid hW
          clear hW hcl hd hLi
          unfold OpDone
          go_simp
          exact ⟨rfl, fun _ => Upd.refl _ _, HW.out.same (by decide) (by decide) (by decide)⟩
        · refine fun ρ w' L hW hLi hcl hd hdep hext hc hg hf => ?_
          rw [if_pos (show wantedR _ _ _ = true from rfl)]
          have e3 : ρ (.tmp 3) = .int .i64 (k : Int) := hext 3 (by kernel_rfl)
          clear hdep hext
          have HW := Lib.hid hW
          clear hW hcl hd hLi
          unfold OpDone
          go_simp
          exact ⟨rfl, fun _ => Upd.refl _ _, HW.out.same (by decide) (by decide) (by decide)⟩
        · refine fun ρ w' L hW hLi hcl hd hdep hext hc hg hf => ?_
          rw [if_pos (show wantedR _ _ _ = true from rfl)]
          have e70 : ρ (.tmp 70) = .slice (some ⟨g, oo, none⟩) n c := hdep 1 _ rfl (by kernel_rfl)
          have e71 : ρ (.tmp 71) = .int .i64 (k : Int) := hdep 2 _ rfl (by kernel_rfl)
          clear hdep hext
          refine od_of_run (v := .slice A1 (n - k) (c - k)) (w' := w') (by simp [execOp, e70, e71, HC1.out w']) ?_
          exact ⟨rfl, fun _ => Upd.refl _ _, hW.same (by decide) (by decide) (by decide)⟩
        · refine fun ρ w' L hW hLi hcl hd hdep hext hc hg hf => ?_
          rw [if_pos (show wantedR _ _ _ = true from rfl)]
          have e69 : ρ (.tmp 69) = .slice (some ⟨w6.drew.heap.size, 0, none⟩) 0 0 := hdep 0 _ rfl (by kernel_rfl)
          have e72 : ρ (.tmp 72) = .slice A1 (n - k) (c - k) := hdep 3 _ rfl (by kernel_rfl)
          clear hdep hext
          have n8 : L 8 = false := by
            cases hh : L 8 with
            | false => rfl
            | true => have q := hcl 8 4 hh (by kernel_rfl); rw [hLi] at q; cases q
          have n10 : L 10 = false := by
            cases hh : L 10 with
            | false => rfl
            | true => have q := hcl 10 8 hh (by kernel_rfl); rw [n8] at q; cases q
          have n11 : L 11 = false := by
            cases hh : L 11 with
            | false => rfl
            | true => have q := hcl 11 10 hh (by kernel_rfl); rw [n10] at q; cases q
          have n12 : L 12 = false := by
            cases hh : L 12 with
            | false => rfl
            | true => have q := hcl 12 11 hh (by kernel_rfl); rw [n11] at q; cases q
          have n14 : L 14 = false := by
            cases hh : L 14 with
            | false => rfl
            | true => have q := hcl 14 12 hh (by kernel_rfl); rw [n12] at q; cases q
          have h0 : L 0 = true := hd 0 (by kernel_rfl)
          obtain rfl := hW.a h0 hLi
          refine od_append_run (.tmp 69) (.tmp 72) 51 51 rfl rfl e69 e72 HR4.out ?_
          exact ⟨rfl, (fun hh => by rw [n10, n11, n12, n14] at hh; simp at hh), TnPh.op4 h0 n8 HU4.out⟩
        · refine fun ρ w' L hW hLi hcl hd hdep hext hc hg hf => ?_
          rw [if_pos (show wantedR _ _ _ = true from rfl)]
          have e0 : ρ (.tmp 0) = .slice (some ⟨g, oo, none⟩) n c := hext 0 (by kernel_rfl)
          clear hdep hext
          have HW := Lib.hid hW
          clear hW hcl hd hLi
          unfold OpDone
          go_simp
          exact ⟨rfl, fun _ => Upd.refl _ _, HW.out.same (by decide) (by decide) (by decide)⟩
        · refine fun ρ w' L hW hLi hcl hd hdep hext hc hg hf => ?_
          rw [if_pos (show wantedR _ _ _ = true from rfl)]
          have e3 : ρ (.tmp 3) = .int .i64 (k : Int) := hext 3 (by kernel_rfl)
          clear hdep hext
          have HW := Lib.hid hW
          clear hW hcl hd hLi
          unfold OpDone
          go_simp
          exact ⟨rfl, fun _ => Upd.refl _ _, HW.out.same (by decide) (by decide) (by decide)⟩
        · refine fun ρ w' L hW hLi hcl hd hdep hext hc hg hf => ?_
          rw [if_pos (show wantedR _ _ _ = true from rfl)]
          have e74 : ρ (.tmp 74) = .slice (some ⟨g, oo, none⟩) n c := hdep 5 _ rfl (by kernel_rfl)
          have e75 : ρ (.tmp 75) = .int .i64 (k : Int) := hdep 6 _ rfl (by kernel_rfl)
          clear hdep hext
          refine od_of_run (v := .slice A2 k c) (w' := w') (by simp [execOp, e74, e75, HC2.out w']) ?_
          exact ⟨rfl, fun _ => Upd.refl _ _, hW.same (by decide) (by decide) (by decide)⟩
        · refine fun ρ w' L hW hLi hcl hd hdep hext hc hg hf => ?_
          rw [if_pos (show wantedR _ _ _ = true from rfl)]
          have e73 : ρ (.tmp 73) = .slice A4 (n - k) c4 := hdep 4 _ rfl (by kernel_rfl)
          have e76 : ρ (.tmp 76) = .slice A2 k c := hdep 7 _ rfl (by kernel_rfl)
          clear hdep hext
          have n8 := hLi
          have n10 : L 10 = false := by
            cases hh : L 10 with
            | false => rfl
            | true => have q := hcl 10 8 hh (by kernel_rfl); rw [n8] at q; cases q
          have n11 : L 11 = false := by
            cases hh : L 11 with
            | false => rfl
            | true => have q := hcl 11 10 hh (by kernel_rfl); rw [n10] at q; cases q
          have n12 : L 12 = false := by
            cases hh : L 12 with
            | false => rfl
            | true => have q := hcl 12 11 hh (by kernel_rfl); rw [n11] at q; cases q
          have n14 : L 14 = false := by
            cases hh : L 14 with
            | false => rfl
            | true => have q := hcl 14 12 hh (by kernel_rfl); rw [n12] at q; cases q
          have h4 : L 4 = true := hd 4 (by kernel_rfl)
          obtain rfl := hW.b h4 hLi
          refine od_append_run (.tmp 73) (.tmp 76) 51 51 rfl rfl e73 e76 HR8.out ?_
          exact ⟨rfl, (fun hh => by rw [n10, n11, n12, n14] at hh; simp at hh), TnPh.op8 h4 (hcl 4 0 h4 (by kernel_rfl)) HU8.out⟩
        · refine fun ρ w' L hW hLi hcl hd hdep hext hc hg hf => ?_
          rw [if_pos (show wantedR _ _ _ = true from rfl)]
          have e5 : ρ (.tmp 5) = .pointer (some ⟨X, 0, none⟩) := hext 5 (by kernel_rfl)
          clear hdep hext
          refine od_load_row 28 (.tmp 5) rfl X 0 e5 (nq.map byteV) _ (name_cells HZM.out (hW.u.blk HB6.out (fun f => f))) Tryz.underlying28 rfl (by rw [name_size]; simp [H8M.out]) ?_
          rw [HZM.out]
          exact ⟨rfl, fun _ => Upd.refl _ _, hW.same (by decide) (by decide) (by decide)⟩
        · refine fun ρ w' L hW hLi hcl hd hdep hext hc hg hf => ?_
          rw [if_pos (show wantedR _ _ _ = true from rfl)]
          have e77 : ρ (.tmp 77) = .slice A8 n c8 := hdep 8 _ rfl (by kernel_rfl)
          have e78 : ρ (.tmp 78) = .agg zm := hdep 9 _ rfl (by kernel_rfl)
          clear hdep hext
          have h8 : L 8 = true := hd 8 (by kernel_rfl)
          have CL := Lib.hid (CTT.out w' (hW.d h8))
          have HW := Lib.hid hW
          have h4 : L 4 = true := hcl 8 4 h8 (by kernel_rfl)
          have H048 := Lib.hid (show L 8 = true ∧ L 0 = true ∧ L 4 = true from ⟨h8, hcl 4 0 h4 (by kernel_rfl), h4⟩)
          clear hW hcl hd hLi h8 h4
          unfold OpDone
          go_simp
          refine CL.out.mono ?_
          rintro e w2 ⟨A', c', rfl, hr, hu⟩
          exact ⟨_, rfl, ⟨A', c', rfl, hr⟩, fun _ => hu, HW.out.op10 H048.out.1 hu H048.out.2.1 H048.out.2.2⟩
        · refine fun ρ w' L hW hLi hcl hd hdep hext hc hg hf => ?_
          rw [if_pos (show wantedR _ _ _ = true from rfl)]
          have e79 : (TxV pb ps) (ρ (.tmp 79)) w' := hdep 10 _ rfl (by kernel_rfl)
          clear hdep hext
          obtain ⟨A', c', e79, r79⟩ := e79
          have HR := Lib.hid r79
          have HW := Lib.hid hW
          clear hW hcl hd hLi r79
          unfold OpDone
          go_simp
          exact ⟨⟨A', c', rfl, HR.out⟩, fun _ => Upd.refl _ _, HW.out.same (by decide) (by decide) (by decide)⟩
        · refine fun ρ w' L hW hLi hcl hd hdep hext hc hg hf => ?_
          rw [if_pos (show wantedR _ _ _ = true from rfl)]
          have e68 : (TxV pb ps) (ρ (.tmp 68)) w' := hdep 11 _ rfl (by kernel_rfl)
          clear hdep hext
          obtain ⟨A', c', e68, r68⟩ := e68
          have HR := Lib.hid r68
          have HW := Lib.hid hW
          clear hW hcl hd hLi r68
          unfold OpDone
          go_simp
          exact ⟨⟨A', c', rfl, HR.out⟩, fun _ => Upd.refl _ _, HW.out.same (by decide) (by decide) (by decide)⟩
        · refine fun ρ w' L hW hLi hcl hd hdep hext hc hg hf => ?_
          rw [if_pos (show wantedR _ _ _ = true from rfl)]
          have e68 : (TxV pb ps) (ρ (.tmp 68)) w' := hdep 11 _ rfl (by kernel_rfl)
          clear hdep hext
          obtain ⟨A', c', e68, -⟩ := e68
          have HW := Lib.hid hW
          clear hW hcl hd hLi
          unfold OpDone
          go_simp
          exact ⟨rfl, fun _ => Upd.refl _ _, HW.out.same (by decide) (by decide) (by decide)⟩
        · refine fun ρ w' L hW hLi hcl hd hdep hext hc hg hf => ?_
          rw [if_pos (show wantedR _ _ _ = true from rfl)]
          have e80 : (TxB pb) (ρ (.tmp 80)) w' := hdep 12 _ rfl (by kernel_rfl)
          clear hdep hext
          obtain ⟨A', c', e80, r80⟩ := e80
          have HR := Lib.hid r80
          have HW := Lib.hid hW
          clear hW hcl hd hLi r80
          unfold OpDone
          go_simp
          exact ⟨⟨A', c', rfl, HR.out⟩, fun _ => Upd.refl _ _, HW.out.same (by decide) (by decide) (by decide)⟩
        · refine fun ρ w' L hW hLi hcl hd hdep hext hc hg hf => ?_
          rw [if_pos (show wantedR _ _ _ = true from rfl)]
          have e81 : ρ (.tmp 81) = .bool ps := hdep 13 _ rfl (by kernel_rfl)
          clear hdep hext
          have HW := Lib.hid hW
          clear hW hcl hd hLi
          unfold OpDone
          go_simp
          exact ⟨rfl, fun _ => Upd.refl _ _, HW.out.same (by decide) (by decide) (by decide)⟩
      intro vs Wz Lz hLz hWz hR
      have hv0 : vs 0 = .slice (some ⟨w6.drew.heap.size, 0, none⟩) 0 0 := hR 0 _ rfl
      have hv1 : vs 1 = .slice (some ⟨g, oo, none⟩) n c := hR 1 _ rfl
      have hv2 : vs 2 = .int .i64 (k : Int) := hR 2 _ rfl
      have hv3 : vs 3 = .slice A1 (n - k) (c - k) := hR 3 _ rfl
      have hv4 : vs 4 = .slice A4 (n - k) c4 := hR 4 _ rfl
      have hv5 : vs 5 = .slice (some ⟨g, oo, none⟩) n c := hR 5 _ rfl
      have hv6 : vs 6 = .int .i64 (k : Int) := hR 6 _ rfl
      have hv7 : vs 7 = .slice A2 k c := hR 7 _ rfl
      have hv8 : vs 8 = .slice A8 n c8 := hR 8 _ rfl
      have hv9 : vs 9 = .agg zm := hR 9 _ rfl
      have hr10 : (TxV pb ps) (vs 10) Wz := hR 10 _ rfl
      obtain ⟨A10, c10, hv10, -⟩ := hr10
      have hr11 : (TxV pb ps) (vs 11) Wz := hR 11 _ rfl
      obtain ⟨A11, c11, hv11, -⟩ := hr11
      have hr12 : (TxB pb) (vs 12) Wz := hR 12 _ rfl
      obtain ⟨A12, c12, hv12, -⟩ := hr12
      have hv13 : vs 13 = .bool ps := hR 13 _ rfl
      have hr14 : (TxB pb) (vs 14) Wz := hR 14 _ rfl
      obtain ⟨A14, c14, hv14, hr14⟩ := hr14
      have hv15 : vs 15 = .bool ps := hR 15 _ rfl
      simp only [putAll, Act.put, List.setIfInBounds_toArray, List.set_cons_zero, List.set_cons_succ, hv0, hv1, hv2, hv3, hv4, hv5, hv6, hv7, hv8, hv9, hv10, hv11, hv12, hv13, hv14, hv15]
      clear hR hv0 hv1 hv2 hv3 hv4 hv5 hv6 hv7 hv8 hv9 hv10 hv11 hv12 hv13 hv14 hv15
      have UZ := Lib.hid (show Upd NoF w6 Wz from (Upd.refl NoF w6).drew.trans hWz.u (fun _ _ f => f))
      have k1 : (convert 52 9 (.slice A5 pb.length c5)).run Tryz.prog Wz = .ok (strV pb) Wz := run_str (R56.out.keep UZ.out)
      have k2 : (convert 52 9 (.slice A6 pb.length c6)).run Tryz.prog Wz = .ok (strV pb) Wz := run_str (R6.out.keep UZ.out)
      have k3 : (convert 52 9 (.slice A14 pb.length c14)).run Tryz.prog Wz = .ok (strV pb) Wz := run_str hr14
      have UF := Lib.hid (U6.out.trans UZ.out (fun _ _ f => f))
      clear hWz hr14
      go_wp2_with (refine (awake25_ok _).mono ?_; rintro e w9 ⟨rfl, hu9⟩; have U9 := Lib.hid hu9; clear hu9)
      go_ret
      exact ⟨rfl, UF.out.trans U9.out (fun _ _ f => f)⟩
end Go.Proofs.YtengcmfdfmnacaaGreat
