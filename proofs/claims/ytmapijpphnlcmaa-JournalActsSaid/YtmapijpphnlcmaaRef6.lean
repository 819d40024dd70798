/- The reference disk: Remove, Read, Arm, mod, pick. No condition. -/
import Derived.Test.YtmapijpphnlcmaaRef5
import Derived.Test.YtmapijpphnlcmaaDiskD
namespace Go.Proofs.Ytmapijpphnlcmaa
open Go.RowKit Go.Maps

section
variable {w w' : World} {m : Nat} {off armed : Bool} {left : Nat} {lv : Value} {R : List RRec}

set_option maxRecDepth 100000 in
theorem rremove_yes (h : RefL w m false armed left lv R) (nm : List UInt8) (hn : nm.isEmpty = false) (i : Nat) (hi : idxR R nm = i) (hil : i < R.length) (hwb : wrB armed left = true) :
    Calls Try.prog 53 #[ptrV m, strV nm] w (RPost w m false armed (wrL armed left) lv R (R.take i ++ R.drop (i + 1)) 0) := by
  have c3 : w.cell? ⟨m, 3, none⟩ = some (.bool false) := h.head.cell 3
  have FI := find_any h nm
  rw [hi] at FI
  have HF := Lib.hid FI
  have FA := fails_any h
  rw [hwb] at FA
  have HA := Lib.hid FA
  have t1 : decide ((i : Int) < 0) = false := by simp
  clear h FI FA hi hwb
  go_enter Try.func53, Try.ntmps53
  go_wp2_with (first
    | (go_at_call 54; refine HF.out.mono ?_; rintro e w' ⟨rfl, rfl⟩)
    | (go_at_call 65; refine HA.out.mono ?_; rintro e w2 ⟨rfl, hd2, hu2⟩; have D2 := Lib.hid hd2; have U2 := Lib.hid hu2; clear hd2 hu2)
    | (go_at_call 72; refine (drop_any D2.out i hil).mono ?_; rintro e w3 ⟨rfl, lv', hd3, hu3, hn3⟩; have D3 := Lib.hid hd3; have U3 := Lib.hid hu3; have N3 := Lib.hid hn3; clear hd3 hu3 hn3))
  go_ret
  refine ⟨rfl, lv', by simpa using D3.out, U2.out.trans U3.out (fun _ _ h => h), ?_⟩
  rintro k (hk | hk | ⟨x, hx, hk⟩)
  · exact .inl (.inl hk)
  · exact .inr (Nat.le_trans U2.out.size (N3.out k hk))
  · refine .inl (.inr (.inr ⟨x, ?_, hk⟩))
    rcases List.mem_append.1 hx with hx | hx
    · exact List.mem_of_mem_take hx
    · exact List.mem_of_mem_drop hx

set_option maxRecDepth 100000 in
theorem rread_yes (h : RefL w m false armed left lv R) (nm : List UInt8) (hn : nm.isEmpty = false) (i : Nat) (hi : idxR R nm = i) (r : RRec) (hr : R[i]? = some r) :
    Calls Try.prog 22 #[ptrV m, strV nm] w (BytesErr w (r.c, 0)) := by
  have c3 : w.cell? ⟨m, 3, none⟩ = some (.bool false) := h.head.cell 3
  have FI := find_any h nm
  rw [hi] at FI
  have HF := Lib.hid FI
  obtain ⟨A, c, hlv, _, _, _⟩ := h.form
  subst hlv
  obtain ⟨g, hA, -, hnc, hc, hgm, hgo, y0, y1, y2, z1, z2⟩ := h.at_ hr
  subst hA
  have hrm : r ∈ R := List.mem_of_getElem? hr
  obtain ⟨Av, cv, hcvf⟩ := (h.cont r hrm).form
  have C := Lib.hid (h.cont r hrm)
  have L := h.len r hrm
  rw [hcvf] at y1 C
  have y3 := h.head.cell 0
  have hmz := h.head.lt
  have hgz := h.list.lt hgo
  have t1 : decide ((i : Int) < 0) = false := by simp
  have hil : i < R.length := (List.getElem?_eq_some_iff.1 hr).1
  have t2 : (0:Int) ≤ i := by omega
  have t3 : (i:Int) < R.length := by omega
  obtain ⟨i0, hi0, hz0, hz1, hz2⟩ := info_parts byte_info
  clear h FI hi hr hcvf y0 y2 z1 z2 hgo hrm
  go_enter Try.func22, Try.ntmps22
  go_wp2_with (first
    | (go_at_call 54; refine HF.out.mono ?_; rintro e w' ⟨rfl, rfl⟩)
    | (at_builtin; refine wpList_append_new _ rfl (.tmp 18) (.tmp 26) 27 rfl 5 i0 _ 1 1 Try.underlying27 hi0 hz0 hz1 hz2 rfl (.slice (some ⟨w.heap.size, 0, none⟩) 0 0) rfl (Own.fresh w _ _) (.slice Av r.c.length cv) r.c.length (r.c.map byteV) rfl (C.out.upd ((Upd.refl NoF w).alloc _) (fun _ _ h => h)).rd (by simp [byteV, Value.oneCell']) (by unfold maxLen; omega) (by omega) ?_; intro A1 c1 w3 hown1 hupd1 hnew1; have O1 := Lib.hid hown1; have U1 := Lib.hid hupd1; have N1 := Lib.hid hnew1; clear hown1 hupd1 hnew1))
  go_ret2
  refine ⟨A1, c1, rfl, O1.out, ?_, ?_⟩
  · intro k hk
    rcases N1.out k hk with e | e
    · simp [OwnB, Value.ownBlock] at e; omega
    · simp at e; omega
  · exact ((Upd.refl NoF w).alloc _).trans U1.out (fun k hk e => by simp [OwnB, Value.ownBlock] at e; omega)

set_option maxRecDepth 100000 in
theorem rarm_any (h : RefL w m off armed left lv R) (n : Int) (h0 : -9223372036854775808 ≤ n) (h1 : n ≤ 9223372036854775807) :
    Calls Try.prog 34 #[ptrV m, .int .i64 n] w fun e w' => e = .returned (.tuple #[]) ∧ RefL w' m off true n.toNat lv R ∧ Upd (fun k => k = m) w w' := by
  have c1 : w.cell? ⟨m, 1, none⟩ = some (.bool armed) := h.head.cell 1
  have c2 : w.cell? ⟨m, 2, none⟩ = some (.int .i64 left) := h.head.cell 2
  have f1 : w.frozen? ⟨m, 1, none⟩ = false := h.head.frozen 1
  have f2 : w.frozen? ⟨m, 2, none⟩ = false := h.head.frozen 2
  have fin : RefL ((w.setCell ⟨m, 1, none⟩ (.bool true)).setCell ⟨m, 2, none⟩ (.int .i64 (n.toNat : Int))) m off true n.toNat lv R ∧ Upd (fun k => k = m) w ((w.setCell ⟨m, 1, none⟩ (.bool true)).setCell ⟨m, 2, none⟩ (.int .i64 (n.toNat : Int))) := by
    have hu : Upd (fun k => k = m) w ((w.setCell ⟨m, 1, none⟩ (.bool true)).setCell ⟨m, 2, none⟩ (.int .i64 (n.toNat : Int))) :=
      ((Upd.refl (fun k => k = m) w).setCell (p := ⟨m, 1, none⟩) (.inl rfl) _).setCell (p := ⟨m, 2, none⟩) (.inl rfl) _
    exact ⟨h.top hu ((h.head.put 1 _).put 2 _) (by omega), hu⟩
  have F := Lib.hid fin
  clear h fin
  go_enter Try.func34, Try.ntmps34
  go_wp2
  go_end0
  rw [show max n 0 = ((n.toNat : Nat) : Int) by omega]
  exact ⟨rfl, F.out⟩

set_option maxRecDepth 100000 in
theorem rmod_any (p : Int) (n : Nat) (w : World) (hn : 0 < n) (hn2 : n ≤ 4611686018427387904) (_hp1 : -9223372036854775808 ≤ p) (_hp2 : p ≤ 9223372036854775807) :
    Calls Try.prog 66 #[.int .i64 p, .int .i64 n] w fun e w' => e = .returned (.int .i64 ((p % (n : Int)).toNat : Int)) ∧ w = w' := by
  have hlo : -(n : Int) < p.tmod n := by
    have := Int.tmod_lt_of_pos (-p) (b := n) (by omega)
    rw [Int.neg_tmod] at this
    omega
  have hhi : p.tmod n < n := Int.tmod_lt_of_pos _ (by omega)
  have hne : ((n : Int) == 0) = false := by simp; omega
  by_cases hneg : p.tmod n < 0
  · have T := Lib.hid (show p.tmod n + n = ((p % (n : Int)).toNat : Int) by rw [← tmod_fix p n hn, if_pos hneg])
    generalize ((p % (n : Int)).toNat : Int) = q at T ⊢
    go_enter Try.func66, Try.ntmps66
    go_wp2
    go_ret
    exact ⟨congrArg (fun z => Ending.returned (.int .i64 z)) T.out, rfl⟩
  · have T := Lib.hid (show p.tmod n = ((p % (n : Int)).toNat : Int) by rw [← tmod_fix p n hn, if_neg hneg])
    generalize ((p % (n : Int)).toNat : Int) = q at T ⊢
    go_enter Try.func66, Try.ntmps66
    go_wp2
    go_ret
    exact ⟨congrArg (fun z => Ending.returned (.int .i64 z)) T.out, rfl⟩

set_option maxRecDepth 100000 in
theorem rpick_any (v : Value) (picks : List Int) (i : Nat) (w : World) {F : Nat → Prop} (hv : RdI F w v picks) (hi : i ≤ 4611686018427387904) :
    Calls Try.prog 67 #[v, .int .i64 i] w fun e w' => e = .returned (.int .i64 (picks[i]?.getD 0)) ∧ w = w' := by
  obtain ⟨A, c, rfl, hnc, hc, hl, hx⟩ := hv.now
  by_cases h : i < picks.length
  · obtain ⟨g, o, rfl, hcell⟩ := hx (by omega)
    have c0 : w.cell? ⟨g, o + i, none⟩ = some (.int .i64 picks[i]) := hcell i _ (by simp [h])
    have t1 : decide ((i : Int) < picks.length) = true := by simpa using h
    have t2 : (0:Int) ≤ i := by omega
    have t3 : (i:Int) < picks.length := by omega
    have E := Lib.hid (show picks[i] = picks[i]?.getD 0 by simp [h])
    clear hx hcell hv
    go_enter Try.func67, Try.ntmps67
    go_wp2
    go_ret
    exact ⟨congrArg (fun z => Ending.returned (.int .i64 z)) E.out, rfl⟩
  · have t1 : decide ((i : Int) < picks.length) = false := by simp; omega
    have E := Lib.hid (show 0 = picks[i]?.getD 0 by simp [h])
    clear hx hv
    go_enter Try.func67, Try.ntmps67
    go_wp2
    go_ret
    exact ⟨congrArg (fun z => Ending.returned (.int .i64 z)) E.out, rfl⟩
end
end Go.Proofs.Ytmapijpphnlcmaa
