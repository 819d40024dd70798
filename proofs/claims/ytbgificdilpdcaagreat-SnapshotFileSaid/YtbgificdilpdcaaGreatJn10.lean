/- Encode and Less of signed votes, of package signed and of the reference. No condition but sizes. A region, in whatever order its operations come up: one goal for each operation, and one for what stands behind it. No condition. -/
import Derived.Test.YtbgificdilpdcaaGreatJn8
import Derived.Test.YtbgificdilpdcaaGreatJn9
import Derived.Orders
import Derived.Below
import Derived.Deep.Draws
namespace Go.Proofs.YtbgificdilpdcaaGreat
section
open Go.RowKit

theorem rowS_22 {s : SignedS} (hf : s.vote.Fit) (u : Value) : (rowS s u)[22]? = some u := by
  unfold rowS
  rw [List.getElem?_append_right (by rw [vc_len hf]; exact Nat.le_refl _), vc_len hf]
  rfl
theorem range_vote {w : World} {g o : Nat} {s : SignedS} {u : Value} (h : w.rangeAt g o (rowS s u)) : w.rangeAt g o (voteCells s.vote) := fun j v hv => h j v (by
  unfold rowS
  rw [List.getElem?_append_left (List.getElem?_eq_some_iff.1 hv).1]
  exact hv)
theorem range_sig {w : World} {g o : Nat} {s : SignedS} {u : Value} (hf : s.vote.Fit) (h : w.rangeAt g o (rowS s u)) : w.cell? ⟨g, o + 22, none⟩ = some u := h 22 u (rowS_22 hf u)
theorem signed_size : (Tryz.prog.info? 57).map (·.size) = some 23 := by kernel_rfl
/-- A whole signed vote read out of memory. -/
theorem wpList_load_signed {ops : Array Oper} {rest : List Oper} {op : Oper} {a : Act} {w : World} {Q : Exit → Act → World → Prop} (hgd : op.guard = none) (x : Operand) (ho : op.op = .load 57 x)
    (b o : Nat) (hx : a.eval x = .pointer (some ⟨b, o, none⟩)) (s : SignedS) (u : Value) (hf : s.vote.Fit) (hc : w.rangeAt b o (rowS s u)) (v : Value) (hv : .agg (rowS s u).toArray = v)
    (h : wpList Tryz.prog ops Q rest (a.put op.dst v) w) : wpList Tryz.prog ops Q (op :: rest) a w := by
  subst hv
  exact wpList_load_mid hgd 57 x ho b o hx (rowS s u) _ hc Tryz.underlying57 rfl (by rw [signed_size, rowS_len hf]) h
/-- A whole vote read out of memory, under a name. -/
theorem wpList_load_vote' {ops : Array Oper} {rest : List Oper} {op : Oper} {a : Act} {w : World} {Q : Exit → Act → World → Prop} (hgd : op.guard = none) (x : Operand) (ho : op.op = .load 55 x)
    (b o : Nat) (hx : a.eval x = .pointer (some ⟨b, o, none⟩)) (v : VoteS) (hf : v.Fit) (hc : w.rangeAt b o (voteCells v)) (z : Value) (hz : voteV v = z)
    (h : wpList Tryz.prog ops Q rest (a.put op.dst z) w) : wpList Tryz.prog ops Q (op :: rest) a w := by
  subst hz
  exact wpList_load_vote hgd x ho b o hx v hf hc h


set_option maxRecDepth 100000 in
set_option maxHeartbeats 4000000 in
theorem sEncode_bad {s : SignedS} {u : Value} (hf : s.vote.Fit) (w : World) (hu : Rd w 1 u s.sig.length (s.sig.map byteV)) (hv : validB s.vote = false) : Calls Tryz.prog 27 #[.agg (rowS s u).toArray] w (NilFalse w) := by
  have CV := fun w => vEncode_no hf w hv
  obtain ⟨A, c, rfl, hlc, hcm⟩ := hu.slice
  obtain ⟨z, hz⟩ : ∃ z, voteV s.vote = .agg z := ⟨_, rfl⟩
  rw [hz] at CV
  have HZ := Lib.hid hz
  have HF := Lib.hid hf
  have HU := Lib.hid hu
  have BX := Lib.hid (Blk.new w 57 (rowS s (.slice A s.sig.length c)).toArray)
  have HCV := Lib.hid CV
  obtain ⟨row, hrow⟩ : ∃ row, (rowS s (.slice A s.sig.length c)).toArray = row := ⟨_, rfl⟩
  rw [hrow]
  rw [hrow] at BX
  have HROW := Lib.hid hrow
  have RV := Lib.hid (show ∀ W, Blk W w.heap.size 57 row → W.rangeAt w.heap.size 0 (rowS s (.slice A s.sig.length c)) from fun W h => by rw [← HROW.out] at h; exact range_blk h)
  clear hf hu hz hv CV hrow hcm
  go_enter Tryz.func27, Tryz.ntmps27
  go_wp2_with (refine wpList_load_vote' rfl (.tmp 7) rfl w.heap.size 0 rfl s.vote HF.out (range_vote (RV.out _ BX.out)) (.agg z) HZ.out ?_)
  refine (HCV.out _).mono ?_
  rintro e w1 ⟨rfl, hu1⟩
  have U1 := Lib.hid (((Upd.refl NoF w).alloc (.cells row 57)).trans hu1 (fun _ _ h => h))
  clear hu1
  go_wp2
  go_quiet (fail)
  go_wp2
  go_ret2
  exact ⟨rfl, U1.out.drewN _⟩

set_option maxRecDepth 100000 in
set_option maxHeartbeats 4000000 in
theorem sEncode_len {s : SignedS} {u : Value} (hf : s.vote.Fit) (w : World) (hu : Rd w 1 u s.sig.length (s.sig.map byteV)) (hv : validB s.vote = true) (hl : s.sig.length ≠ 370) : Calls Tryz.prog 27 #[.agg (rowS s u).toArray] w (NilFalse w) := by
  have CV := fun w => vEncode_yes hf w hv
  obtain ⟨A, c, rfl, hlc, hcm⟩ := hu.slice
  obtain ⟨z, hz⟩ : ∃ z, voteV s.vote = .agg z := ⟨_, rfl⟩
  rw [hz] at CV
  have HZ := Lib.hid hz
  have HF := Lib.hid hf
  have HU := Lib.hid hu
  have BX := Lib.hid (Blk.new w 57 (rowS s (.slice A s.sig.length c)).toArray)
  have HCV := Lib.hid CV
  obtain ⟨row, hrow⟩ : ∃ row, (rowS s (.slice A s.sig.length c)).toArray = row := ⟨_, rfl⟩
  rw [hrow]
  rw [hrow] at BX
  have HROW := Lib.hid hrow
  have RV := Lib.hid (show ∀ W, Blk W w.heap.size 57 row → W.rangeAt w.heap.size 0 (rowS s (.slice A s.sig.length c)) from fun W h => by rw [← HROW.out] at h; exact range_blk h)
  have t1 : ((s.sig.length : Int) == 370) = false := by simp; omega
  have t1' : ((s.sig.length : Int) != 370) = true := by simp; omega
  clear hf hu hz hv CV hrow hcm
  go_enter Tryz.func27, Tryz.ntmps27
  go_wp2_with (refine wpList_load_vote' rfl (.tmp 7) rfl w.heap.size 0 rfl s.vote HF.out (range_vote (RV.out _ BX.out)) (.agg z) HZ.out ?_)
  refine (HCV.out _).mono ?_
  rintro e w1 ⟨A1, c1, rfl, -, -, hu1⟩
  have hb1 := hu1.blk BX.out (fun h => h)
  have B1 := Lib.hid hb1
  have c22 : w1.cell? ⟨w.heap.size, 22, none⟩ = some (.slice A s.sig.length c) := by have := range_sig HF.out (RV.out _ hb1); simpa using this
  have U1 := Lib.hid (((Upd.refl NoF w).alloc (.cells row 57)).trans hu1 (fun _ _ h => h))
  clear hu1 hb1
  go_wp2
  go_quiet ((go_at_call 77; exact Calls.quiet_of_same ((mSize_any _).mono fun _ _ ⟨h1, h2⟩ => ⟨h1, h2.symm⟩)))
  go_wp2
  go_ret2
  exact ⟨rfl, U1.out.drewN _⟩

set_option maxRecDepth 100000 in
set_option maxHeartbeats 4000000 in
theorem sEncode_yes {s : SignedS} {u : Value} (hf : s.vote.Fit) (w : World) (hu : Rd w 1 u s.sig.length (s.sig.map byteV)) (hv : okS s = true) : Calls Tryz.prog 27 #[.agg (rowS s u).toArray] w (PairPost w (encS s)) := by
  obtain ⟨hv, hl⟩ := okS_true.1 hv
  have CV := fun w => vEncode_yes hf w (validB_true.2 hv)
  obtain ⟨A, c, rfl, hlc, hcm⟩ := hu.slice
  obtain ⟨z, hz⟩ : ∃ z, voteV s.vote = .agg z := ⟨_, rfl⟩
  rw [hz] at CV
  have HZ := Lib.hid hz
  have HF := Lib.hid hf
  have HU := Lib.hid hu
  have BX := Lib.hid (Blk.new w 57 (rowS s (.slice A s.sig.length c)).toArray)
  have HCV := Lib.hid CV
  obtain ⟨row, hrow⟩ : ∃ row, (rowS s (.slice A s.sig.length c)).toArray = row := ⟨_, rfl⟩
  rw [hrow]
  rw [hrow] at BX
  have HROW := Lib.hid hrow
  have RV := Lib.hid (show ∀ W, Blk W w.heap.size 57 row → W.rangeAt w.heap.size 0 (rowS s (.slice A s.sig.length c)) from fun W h => by rw [← HROW.out] at h; exact range_blk h)
  have t1 : ((s.sig.length : Int) == 370) = true := by simp; omega
  have t1' : ((s.sig.length : Int) != 370) = false := by simp; omega
  obtain ⟨i1, hi1, hy0, hy1, hy2⟩ := info_parts byte_info
  have HL := Lib.hid (encV_len hf.parent hf.value)
  have HS := Lib.hid hl
  clear hf hu hz hv CV hrow hl hcm
  go_enter Tryz.func27, Tryz.ntmps27
  go_wp2_with (refine wpList_load_vote' rfl (.tmp 7) rfl w.heap.size 0 rfl s.vote HF.out (range_vote (RV.out _ BX.out)) (.agg z) HZ.out ?_)
  refine (HCV.out _).mono ?_
  rintro e w1 ⟨A1, c1, rfl, ho1, hn1, hu1⟩
  rw [HL.out]
  rw [HL.out] at ho1 hn1
  have hb1 := hu1.blk BX.out (fun h => h)
  have B1 := Lib.hid hb1
  have c22 : w1.cell? ⟨w.heap.size, 22, none⟩ = some (.slice A s.sig.length c) := by have := range_sig HF.out (RV.out _ hb1); simpa using this
  have U1 := Lib.hid (((Upd.refl NoF w).alloc (.cells row 57)).trans hu1 (fun _ _ h => h))
  have O1 := Lib.hid ho1
  have N1 := Lib.hid hn1
  clear hu1 hb1 ho1 hn1
  go_wp2
  go_quiet ((go_at_call 77; exact Calls.quiet_of_same ((mSize_any _).mono fun _ _ ⟨h1, h2⟩ => ⟨h1, h2.symm⟩)))
  go_wp2_with (at_builtin; refine wpList_append_to _ rfl (.tmp 21) (.tmp 23) 28 rfl 5 i1 _ 1 1 Tryz.underlying28 hi1 hy0 hy1 hy2 rfl (.slice A1 23 c1) 23 _ rfl (O1.out.upd ((Upd.refl NoF w1).drewN _) (fun _ _ h => h)) (.slice A s.sig.length c) s.sig.length (s.sig.map byteV) rfl ((HU.out.keep U1.out).keep ((Upd.refl NoF w1).drewN _)) (bytes_oneCell _) (by have := HS.out; unfold maxLen; omega) (by have := HS.out; omega) ?_; intro A2 c2 w2 hown2 hupd2 hnew2; have O2 := Lib.hid hown2; have V2 := Lib.hid hupd2; have W2 := Lib.hid hnew2; clear hown2 hupd2 hnew2)
  go_ret2
  have hlen : (encS s).length = 23 + s.sig.length := by unfold encS; rw [List.length_append, HL.out]
  refine ⟨A2, c2, by rw [hlen]; rfl, ?_, ?_, ?_⟩
  · rw [hlen]
    have := O2.out
    rw [← List.map_append] at this
    exact this
  · intro k hk
    rw [hlen] at hk
    have hsz : w.heap.size ≤ w1.heap.size := U1.out.size
    have hsw : (w.alloc (.cells row 57)).heap.size = w.heap.size + 1 := by simp
    rcases W2.out k hk with e | e
    · have := N1.out k e
      omega
    · simp at e
      omega
  · refine (U1.out.drewN _).trans V2.out (fun k hk e => ?_)
    have := N1.out k e
    have hsw : (w.alloc (.cells row 57)).heap.size = w.heap.size + 1 := by simp
    omega


set_option maxRecDepth 100000 in
set_option maxHeartbeats 4000000 in
theorem rEncS_bad {s : SignedS} {u : Value} (hf : s.vote.Fit) (w : World) (hu : Rd w 1 u s.sig.length (s.sig.map byteV)) (hv : validB s.vote = false) : Calls Tryz.prog 31 #[.agg (rowS s u).toArray] w (NilFalse w) := by
  have CV := fun w => rEncode_no hf w hv
  obtain ⟨A, c, rfl, hlc, hcm⟩ := hu.slice
  obtain ⟨z, hz⟩ : ∃ z, voteV s.vote = .agg z := ⟨_, rfl⟩
  rw [hz] at CV
  have HZ := Lib.hid hz
  have HF := Lib.hid hf
  have HU := Lib.hid hu
  have BX := Lib.hid (Blk.new w 57 (rowS s (.slice A s.sig.length c)).toArray)
  have HCV := Lib.hid CV
  obtain ⟨row, hrow⟩ : ∃ row, (rowS s (.slice A s.sig.length c)).toArray = row := ⟨_, rfl⟩
  rw [hrow]
  rw [hrow] at BX
  have HROW := Lib.hid hrow
  have RV := Lib.hid (show ∀ W, Blk W w.heap.size 57 row → W.rangeAt w.heap.size 0 (rowS s (.slice A s.sig.length c)) from fun W h => by rw [← HROW.out] at h; exact range_blk h)
  clear hf hu hz hv CV hrow hcm
  go_enter Tryz.func31, Tryz.ntmps31
  go_wp2_with (refine wpList_load_vote' rfl (.tmp 7) rfl w.heap.size 0 rfl s.vote HF.out (range_vote (RV.out _ BX.out)) (.agg z) HZ.out ?_)
  refine (HCV.out _).mono ?_
  rintro e w1 ⟨rfl, hu1⟩
  have U1 := Lib.hid (((Upd.refl NoF w).alloc (.cells row 57)).trans hu1 (fun _ _ h => h))
  clear hu1
  go_wp2
  
  
  go_ret2
  exact ⟨rfl, U1.out⟩

set_option maxRecDepth 100000 in
set_option maxHeartbeats 4000000 in
theorem rEncS_len {s : SignedS} {u : Value} (hf : s.vote.Fit) (w : World) (hu : Rd w 1 u s.sig.length (s.sig.map byteV)) (hv : validB s.vote = true) (hl : s.sig.length ≠ 370) : Calls Tryz.prog 31 #[.agg (rowS s u).toArray] w (NilFalse w) := by
  have CV := fun w => rEncode_yes hf w hv
  obtain ⟨A, c, rfl, hlc, hcm⟩ := hu.slice
  obtain ⟨z, hz⟩ : ∃ z, voteV s.vote = .agg z := ⟨_, rfl⟩
  rw [hz] at CV
  have HZ := Lib.hid hz
  have HF := Lib.hid hf
  have HU := Lib.hid hu
  have BX := Lib.hid (Blk.new w 57 (rowS s (.slice A s.sig.length c)).toArray)
  have HCV := Lib.hid CV
  obtain ⟨row, hrow⟩ : ∃ row, (rowS s (.slice A s.sig.length c)).toArray = row := ⟨_, rfl⟩
  rw [hrow]
  rw [hrow] at BX
  have HROW := Lib.hid hrow
  have RV := Lib.hid (show ∀ W, Blk W w.heap.size 57 row → W.rangeAt w.heap.size 0 (rowS s (.slice A s.sig.length c)) from fun W h => by rw [← HROW.out] at h; exact range_blk h)
  have t1 : ((s.sig.length : Int) == 370) = false := by simp; omega
  have t1' : ((s.sig.length : Int) != 370) = true := by simp; omega
  clear hf hu hz hv CV hrow hcm
  go_enter Tryz.func31, Tryz.ntmps31
  go_wp2_with (refine wpList_load_vote' rfl (.tmp 7) rfl w.heap.size 0 rfl s.vote HF.out (range_vote (RV.out _ BX.out)) (.agg z) HZ.out ?_)
  refine (HCV.out _).mono ?_
  rintro e w1 ⟨A1, c1, rfl, -, -, hu1⟩
  have hb1 := hu1.blk BX.out (fun h => h)
  have B1 := Lib.hid hb1
  have c22 : w1.cell? ⟨w.heap.size, 22, none⟩ = some (.slice A s.sig.length c) := by have := range_sig HF.out (RV.out _ hb1); simpa using this
  have U1 := Lib.hid (((Upd.refl NoF w).alloc (.cells row 57)).trans hu1 (fun _ _ h => h))
  clear hu1 hb1
  go_wp2
  
  
  go_ret2
  exact ⟨rfl, U1.out⟩

set_option maxRecDepth 100000 in
set_option maxHeartbeats 4000000 in
theorem rEncS_yes {s : SignedS} {u : Value} (hf : s.vote.Fit) (w : World) (hu : Rd w 1 u s.sig.length (s.sig.map byteV)) (hv : okS s = true) : Calls Tryz.prog 31 #[.agg (rowS s u).toArray] w (PairPost w (encS s)) := by
  obtain ⟨hv, hl⟩ := okS_true.1 hv
  have CV := fun w => rEncode_yes hf w (validB_true.2 hv)
  obtain ⟨A, c, rfl, hlc, hcm⟩ := hu.slice
  obtain ⟨z, hz⟩ : ∃ z, voteV s.vote = .agg z := ⟨_, rfl⟩
  rw [hz] at CV
  have HZ := Lib.hid hz
  have HF := Lib.hid hf
  have HU := Lib.hid hu
  have BX := Lib.hid (Blk.new w 57 (rowS s (.slice A s.sig.length c)).toArray)
  have HCV := Lib.hid CV
  obtain ⟨row, hrow⟩ : ∃ row, (rowS s (.slice A s.sig.length c)).toArray = row := ⟨_, rfl⟩
  rw [hrow]
  rw [hrow] at BX
  have HROW := Lib.hid hrow
  have RV := Lib.hid (show ∀ W, Blk W w.heap.size 57 row → W.rangeAt w.heap.size 0 (rowS s (.slice A s.sig.length c)) from fun W h => by rw [← HROW.out] at h; exact range_blk h)
  have t1 : ((s.sig.length : Int) == 370) = true := by simp; omega
  have t1' : ((s.sig.length : Int) != 370) = false := by simp; omega
  obtain ⟨i1, hi1, hy0, hy1, hy2⟩ := info_parts byte_info
  have HL := Lib.hid (encV_len hf.parent hf.value)
  have HS := Lib.hid hl
  clear hf hu hz hv CV hrow hl hcm
  go_enter Tryz.func31, Tryz.ntmps31
  go_wp2_with (refine wpList_load_vote' rfl (.tmp 7) rfl w.heap.size 0 rfl s.vote HF.out (range_vote (RV.out _ BX.out)) (.agg z) HZ.out ?_)
  refine (HCV.out _).mono ?_
  rintro e w1 ⟨A1, c1, rfl, ho1, hn1, hu1⟩
  rw [HL.out]
  rw [HL.out] at ho1 hn1
  have hb1 := hu1.blk BX.out (fun h => h)
  have B1 := Lib.hid hb1
  have c22 : w1.cell? ⟨w.heap.size, 22, none⟩ = some (.slice A s.sig.length c) := by have := range_sig HF.out (RV.out _ hb1); simpa using this
  have U1 := Lib.hid (((Upd.refl NoF w).alloc (.cells row 57)).trans hu1 (fun _ _ h => h))
  have O1 := Lib.hid ho1
  have N1 := Lib.hid hn1
  clear hu1 hb1 ho1 hn1
  
  
  go_wp2_with (at_builtin; refine wpList_append_to _ rfl (.tmp 20) (.tmp 22) 28 rfl 5 i1 _ 1 1 Tryz.underlying28 hi1 hy0 hy1 hy2 rfl (.slice A1 23 c1) 23 _ rfl O1.out (.slice A s.sig.length c) s.sig.length (s.sig.map byteV) rfl (HU.out.keep U1.out) (bytes_oneCell _) (by have := HS.out; unfold maxLen; omega) (by have := HS.out; omega) ?_; intro A2 c2 w2 hown2 hupd2 hnew2; have O2 := Lib.hid hown2; have V2 := Lib.hid hupd2; have W2 := Lib.hid hnew2; clear hown2 hupd2 hnew2)
  go_ret2
  have hlen : (encS s).length = 23 + s.sig.length := by unfold encS; rw [List.length_append, HL.out]
  refine ⟨A2, c2, by rw [hlen]; rfl, ?_, ?_, ?_⟩
  · rw [hlen]
    have := O2.out
    rw [← List.map_append] at this
    exact this
  · intro k hk
    rw [hlen] at hk
    have hsz : w.heap.size ≤ w1.heap.size := U1.out.size
    have hsw : (w.alloc (.cells row 57)).heap.size = w.heap.size + 1 := by simp
    rcases W2.out k hk with e | e
    · have := N1.out k e
      omega
    · 
      omega
  · refine U1.out.trans V2.out (fun k hk e => ?_)
    have := N1.out k e
    have hsw : (w.alloc (.cells row 57)).heap.size = w.heap.size + 1 := by simp
    omega


set_option maxRecDepth 100000 in
set_option maxHeartbeats 4000000 in
theorem sLess_ne {s t : SignedS} {u v : Value} (hf : s.vote.Fit) (hg : t.vote.Fit) (w : World) (hu : Rd w 1 u s.sig.length (s.sig.map byteV)) (hv : Rd w 1 v t.sig.length (t.sig.map byteV)) (he : s.vote ≠ t.vote) : Calls Tryz.prog 78 #[.agg (rowS s u).toArray, .agg (rowS t v).toArray] w fun e w' => e = .returned (.bool (lessS s t)) ∧ Upd NoF w w' := by
  have HZ := Lib.hid (show lessS s t = lessV s.vote t.vote from by unfold lessS; rw [if_neg he])
  have CV := vLess_any hf hg
  have hne : ∀ w, (binOp .neq 55 (voteV s.vote) (voteV t.vote)).run Tryz.prog w = .ok (.bool true) w := fun w => by rw [vote_neq _ _ hf hg]; simp [he]
  obtain ⟨A, c, rfl, hlc, hcm⟩ := hu.slice
  obtain ⟨B, d, rfl, hld, hdm⟩ := hv.slice
  obtain ⟨za, hza⟩ : ∃ z, voteV s.vote = .agg z := ⟨_, rfl⟩
  obtain ⟨zb, hzb⟩ : ∃ z, voteV t.vote = .agg z := ⟨_, rfl⟩
  rw [hza, hzb] at CV hne
  have HZA := Lib.hid hza
  have HZB := Lib.hid hzb
  have HF := Lib.hid hf
  have HG := Lib.hid hg
  have HU := Lib.hid hu
  have HV := Lib.hid hv
  have HCV := Lib.hid CV
  obtain ⟨ra, hra⟩ : ∃ row, (rowS s (.slice A s.sig.length c)).toArray = row := ⟨_, rfl⟩
  obtain ⟨rb, hrb⟩ : ∃ row, (rowS t (.slice B t.sig.length d)).toArray = row := ⟨_, rfl⟩
  rw [hra, hrb]
  have HRA := Lib.hid hra
  have HRB := Lib.hid hrb
  have RA := Lib.hid (show ∀ W, Blk W w.heap.size 57 ra → W.rangeAt w.heap.size 0 (rowS s (.slice A s.sig.length c)) from fun W h => by rw [← HRA.out] at h; exact range_blk h)
  have RB := Lib.hid (show ∀ W, Blk W (w.heap.size + 1) 57 rb → W.rangeAt (w.heap.size + 1) 0 (rowS t (.slice B t.sig.length d)) from fun W h => by rw [← HRB.out] at h; exact range_blk h)
  have ba : Blk ((w.alloc (.cells ra 57)).alloc (.cells rb 57)) w.heap.size 57 ra := (Blk.new w 57 ra).alloc _
  have bb : Blk ((w.alloc (.cells ra 57)).alloc (.cells rb 57)) (w.heap.size + 1) 57 rb := by have := Blk.new (w.alloc (.cells ra 57)) 57 rb; simpa using this
  have BA := Lib.hid ba
  have BB := Lib.hid bb
  clear hf hg hu hv hza hzb CV hra hrb hcm hdm ba bb he
  generalize lessS s t = Z at HZ ⊢
  go_enter Tryz.func78, Tryz.ntmps78
  go_wp2_with (first
    | (refine wpList_load_vote' rfl (.tmp 5) rfl w.heap.size 0 rfl s.vote HF.out (range_vote (RA.out _ BA.out)) (.agg za) HZA.out ?_)
    | (refine wpList_load_vote' rfl (.tmp 7) rfl (w.heap.size + 1) 0 rfl t.vote HG.out (range_vote (RB.out _ BB.out)) (.agg zb) HZB.out ?_)
    | (refine wpList_load_vote' rfl (.tmp 10) rfl w.heap.size 0 rfl s.vote HF.out (range_vote (RA.out _ BA.out)) (.agg za) HZA.out ?_)
    | (refine wpList_load_vote' rfl (.tmp 12) rfl (w.heap.size + 1) 0 rfl t.vote HG.out (range_vote (RB.out _ BB.out)) (.agg zb) HZB.out ?_))
  refine (HCV.out _).mono ?_
  rintro e w1 ⟨rfl, hu1⟩
  have U1 := Lib.hid hu1
  clear hu1
  go_wp2
  go_ret
  exact ⟨retb HZ.out.symm, (((Upd.refl NoF w).alloc _).alloc _).trans U1.out (fun _ _ h => h)⟩

set_option maxRecDepth 100000 in
set_option maxHeartbeats 4000000 in
theorem sLess_eq {s t : SignedS} {u v : Value} (hf : s.vote.Fit) (hg : t.vote.Fit) (w : World) (hu : Rd w 1 u s.sig.length (s.sig.map byteV)) (hv : Rd w 1 v t.sig.length (t.sig.map byteV)) (he : s.vote = t.vote) : Calls Tryz.prog 78 #[.agg (rowS s u).toArray, .agg (rowS t v).toArray] w fun e w' => e = .returned (.bool (lessS s t)) ∧ Upd NoF w w' := by
  have HZ := Lib.hid (show lessS s t = lessT s.sig t.sig from by unfold lessS; rw [if_pos he])
  have CV := vLess_any hf hg
  have hne : ∀ w, (binOp .neq 55 (voteV s.vote) (voteV t.vote)).run Tryz.prog w = .ok (.bool false) w := fun w => by rw [vote_neq _ _ hf hg]; simp [he]
  obtain ⟨A, c, rfl, hlc, hcm⟩ := hu.slice
  obtain ⟨B, d, rfl, hld, hdm⟩ := hv.slice
  obtain ⟨za, hza⟩ : ∃ z, voteV s.vote = .agg z := ⟨_, rfl⟩
  obtain ⟨zb, hzb⟩ : ∃ z, voteV t.vote = .agg z := ⟨_, rfl⟩
  rw [hza, hzb] at CV hne
  have HZA := Lib.hid hza
  have HZB := Lib.hid hzb
  have HF := Lib.hid hf
  have HG := Lib.hid hg
  have HU := Lib.hid hu
  have HV := Lib.hid hv
  have HCV := Lib.hid CV
  obtain ⟨ra, hra⟩ : ∃ row, (rowS s (.slice A s.sig.length c)).toArray = row := ⟨_, rfl⟩
  obtain ⟨rb, hrb⟩ : ∃ row, (rowS t (.slice B t.sig.length d)).toArray = row := ⟨_, rfl⟩
  rw [hra, hrb]
  have HRA := Lib.hid hra
  have HRB := Lib.hid hrb
  have RA := Lib.hid (show ∀ W, Blk W w.heap.size 57 ra → W.rangeAt w.heap.size 0 (rowS s (.slice A s.sig.length c)) from fun W h => by rw [← HRA.out] at h; exact range_blk h)
  have RB := Lib.hid (show ∀ W, Blk W (w.heap.size + 1) 57 rb → W.rangeAt (w.heap.size + 1) 0 (rowS t (.slice B t.sig.length d)) from fun W h => by rw [← HRB.out] at h; exact range_blk h)
  have ba : Blk ((w.alloc (.cells ra 57)).alloc (.cells rb 57)) w.heap.size 57 ra := (Blk.new w 57 ra).alloc _
  have bb : Blk ((w.alloc (.cells ra 57)).alloc (.cells rb 57)) (w.heap.size + 1) 57 rb := by have := Blk.new (w.alloc (.cells ra 57)) 57 rb; simpa using this
  have BA := Lib.hid ba
  have BB := Lib.hid bb
  have CC := Lib.hid (bCompare_any (hu.keep (((Upd.refl NoF w).alloc (.cells ra 57)).alloc (.cells rb 57))) (hv.keep (((Upd.refl NoF w).alloc (.cells ra 57)).alloc (.cells rb 57))))
  have c1 : ((w.alloc (.cells ra 57)).alloc (.cells rb 57)).cell? ⟨w.heap.size, 22, none⟩ = some (.slice A s.sig.length c) := by have := range_sig hf (RA.out _ ba); simpa using this
  have c2 : ((w.alloc (.cells ra 57)).alloc (.cells rb 57)).cell? ⟨w.heap.size + 1, 22, none⟩ = some (.slice B t.sig.length d) := by have := range_sig hg (RB.out _ bb); simpa using this
  simp only [lessT] at HZ
  clear hf hg hu hv hza hzb CV hra hrb hcm hdm ba bb he HCV
  generalize lessS s t = Z at HZ ⊢
  go_enter Tryz.func78, Tryz.ntmps78
  go_wp2_with (first
    | (refine wpList_load_vote' rfl (.tmp 5) rfl w.heap.size 0 rfl s.vote HF.out (range_vote (RA.out _ BA.out)) (.agg za) HZA.out ?_)
    | (refine wpList_load_vote' rfl (.tmp 7) rfl (w.heap.size + 1) 0 rfl t.vote HG.out (range_vote (RB.out _ BB.out)) (.agg zb) HZB.out ?_)
    | (go_at_call 72; refine (CC.out).mono ?_; rintro e w1 ⟨rfl, rfl⟩))
  go_ret
  exact ⟨retb (by rw [HZ.out]; exact cmpB_lt _ _), ((Upd.refl NoF w).alloc _).alloc _⟩

theorem sLess_any {s t : SignedS} {u v : Value} (hf : s.vote.Fit) (hg : t.vote.Fit) (w : World) (hu : Rd w 1 u s.sig.length (s.sig.map byteV)) (hv : Rd w 1 v t.sig.length (t.sig.map byteV)) : Calls Tryz.prog 78 #[.agg (rowS s u).toArray, .agg (rowS t v).toArray] w fun e w' => e = .returned (.bool (lessS s t)) ∧ Upd NoF w w' := by
  by_cases he : s.vote = t.vote
  · exact sLess_eq hf hg w hu hv he
  · exact sLess_ne hf hg w hu hv he


set_option maxRecDepth 100000 in
set_option maxHeartbeats 4000000 in
theorem rLessS_ne {s t : SignedS} {u v : Value} (hf : s.vote.Fit) (hg : t.vote.Fit) (w : World) (hu : Rd w 1 u s.sig.length (s.sig.map byteV)) (hv : Rd w 1 v t.sig.length (t.sig.map byteV)) (he : s.vote ≠ t.vote) : Calls Tryz.prog 33 #[.agg (rowS s u).toArray, .agg (rowS t v).toArray] w fun e w' => e = .returned (.bool (lessS s t)) ∧ Upd NoF w w' := by
  have HZ := Lib.hid (show lessS s t = lessV s.vote t.vote from by unfold lessS; rw [if_neg he])
  have CV := rLess_any hf hg
  have hne : ∀ w, (binOp .neq 55 (voteV s.vote) (voteV t.vote)).run Tryz.prog w = .ok (.bool true) w := fun w => by rw [vote_neq _ _ hf hg]; simp [he]
  obtain ⟨A, c, rfl, hlc, hcm⟩ := hu.slice
  obtain ⟨B, d, rfl, hld, hdm⟩ := hv.slice
  obtain ⟨za, hza⟩ : ∃ z, voteV s.vote = .agg z := ⟨_, rfl⟩
  obtain ⟨zb, hzb⟩ : ∃ z, voteV t.vote = .agg z := ⟨_, rfl⟩
  rw [hza, hzb] at CV hne
  have HZA := Lib.hid hza
  have HZB := Lib.hid hzb
  have HF := Lib.hid hf
  have HG := Lib.hid hg
  have HU := Lib.hid hu
  have HV := Lib.hid hv
  have HCV := Lib.hid CV
  obtain ⟨ra, hra⟩ : ∃ row, (rowS s (.slice A s.sig.length c)).toArray = row := ⟨_, rfl⟩
  obtain ⟨rb, hrb⟩ : ∃ row, (rowS t (.slice B t.sig.length d)).toArray = row := ⟨_, rfl⟩
  rw [hra, hrb]
  have HRA := Lib.hid hra
  have HRB := Lib.hid hrb
  have RA := Lib.hid (show ∀ W, Blk W w.heap.size 57 ra → W.rangeAt w.heap.size 0 (rowS s (.slice A s.sig.length c)) from fun W h => by rw [← HRA.out] at h; exact range_blk h)
  have RB := Lib.hid (show ∀ W, Blk W (w.heap.size + 1) 57 rb → W.rangeAt (w.heap.size + 1) 0 (rowS t (.slice B t.sig.length d)) from fun W h => by rw [← HRB.out] at h; exact range_blk h)
  have ba : Blk ((w.alloc (.cells ra 57)).alloc (.cells rb 57)) w.heap.size 57 ra := (Blk.new w 57 ra).alloc _
  have bb : Blk ((w.alloc (.cells ra 57)).alloc (.cells rb 57)) (w.heap.size + 1) 57 rb := by have := Blk.new (w.alloc (.cells ra 57)) 57 rb; simpa using this
  have BA := Lib.hid ba
  have BB := Lib.hid bb
  clear hf hg hu hv hza hzb CV hra hrb hcm hdm ba bb he
  generalize lessS s t = Z at HZ ⊢
  go_enter Tryz.func33, Tryz.ntmps33
  go_wp2_with (first
    | (refine wpList_load_vote' rfl (.tmp 5) rfl w.heap.size 0 rfl s.vote HF.out (range_vote (RA.out _ BA.out)) (.agg za) HZA.out ?_)
    | (refine wpList_load_vote' rfl (.tmp 7) rfl (w.heap.size + 1) 0 rfl t.vote HG.out (range_vote (RB.out _ BB.out)) (.agg zb) HZB.out ?_)
    | (refine wpList_load_vote' rfl (.tmp 10) rfl w.heap.size 0 rfl s.vote HF.out (range_vote (RA.out _ BA.out)) (.agg za) HZA.out ?_)
    | (refine wpList_load_vote' rfl (.tmp 12) rfl (w.heap.size + 1) 0 rfl t.vote HG.out (range_vote (RB.out _ BB.out)) (.agg zb) HZB.out ?_))
  refine (HCV.out _).mono ?_
  rintro e w1 ⟨rfl, hu1⟩
  have U1 := Lib.hid hu1
  clear hu1
  go_wp2
  go_ret
  exact ⟨retb HZ.out.symm, (((Upd.refl NoF w).alloc _).alloc _).trans U1.out (fun _ _ h => h)⟩

set_option maxRecDepth 100000 in
set_option maxHeartbeats 4000000 in
theorem rLessS_eq {s t : SignedS} {u v : Value} (hf : s.vote.Fit) (hg : t.vote.Fit) (w : World) (hu : Rd w 1 u s.sig.length (s.sig.map byteV)) (hv : Rd w 1 v t.sig.length (t.sig.map byteV)) (he : s.vote = t.vote) : Calls Tryz.prog 33 #[.agg (rowS s u).toArray, .agg (rowS t v).toArray] w fun e w' => e = .returned (.bool (lessS s t)) ∧ Upd NoF w w' := by
  have HZ := Lib.hid (show lessS s t = lessT s.sig t.sig from by unfold lessS; rw [if_pos he])
  have CV := rLess_any hf hg
  have hne : ∀ w, (binOp .neq 55 (voteV s.vote) (voteV t.vote)).run Tryz.prog w = .ok (.bool false) w := fun w => by rw [vote_neq _ _ hf hg]; simp [he]
  obtain ⟨A, c, rfl, hlc, hcm⟩ := hu.slice
  obtain ⟨B, d, rfl, hld, hdm⟩ := hv.slice
  obtain ⟨za, hza⟩ : ∃ z, voteV s.vote = .agg z := ⟨_, rfl⟩
  obtain ⟨zb, hzb⟩ : ∃ z, voteV t.vote = .agg z := ⟨_, rfl⟩
  rw [hza, hzb] at CV hne
  have HZA := Lib.hid hza
  have HZB := Lib.hid hzb
  have HF := Lib.hid hf
  have HG := Lib.hid hg
  have HU := Lib.hid hu
  have HV := Lib.hid hv
  have HCV := Lib.hid CV
  obtain ⟨ra, hra⟩ : ∃ row, (rowS s (.slice A s.sig.length c)).toArray = row := ⟨_, rfl⟩
  obtain ⟨rb, hrb⟩ : ∃ row, (rowS t (.slice B t.sig.length d)).toArray = row := ⟨_, rfl⟩
  rw [hra, hrb]
  have HRA := Lib.hid hra
  have HRB := Lib.hid hrb
  have RA := Lib.hid (show ∀ W, Blk W w.heap.size 57 ra → W.rangeAt w.heap.size 0 (rowS s (.slice A s.sig.length c)) from fun W h => by rw [← HRA.out] at h; exact range_blk h)
  have RB := Lib.hid (show ∀ W, Blk W (w.heap.size + 1) 57 rb → W.rangeAt (w.heap.size + 1) 0 (rowS t (.slice B t.sig.length d)) from fun W h => by rw [← HRB.out] at h; exact range_blk h)
  have ba : Blk ((w.alloc (.cells ra 57)).alloc (.cells rb 57)) w.heap.size 57 ra := (Blk.new w 57 ra).alloc _
  have bb : Blk ((w.alloc (.cells ra 57)).alloc (.cells rb 57)) (w.heap.size + 1) 57 rb := by have := Blk.new (w.alloc (.cells ra 57)) 57 rb; simpa using this
  have BA := Lib.hid ba
  have BB := Lib.hid bb
  have ka := run_str (hu.keep (((Upd.refl NoF w).alloc (.cells ra 57)).alloc (.cells rb 57)))
  have kb := run_str (hv.keep (((Upd.refl NoF w).alloc (.cells ra 57)).alloc (.cells rb 57)))
  have c1 : ((w.alloc (.cells ra 57)).alloc (.cells rb 57)).cell? ⟨w.heap.size, 22, none⟩ = some (.slice A s.sig.length c) := by have := range_sig hf (RA.out _ ba); simpa using this
  have c2 : ((w.alloc (.cells ra 57)).alloc (.cells rb 57)).cell? ⟨w.heap.size + 1, 22, none⟩ = some (.slice B t.sig.length d) := by have := range_sig hg (RB.out _ bb); simpa using this
  simp only [lessT] at HZ
  clear hf hg hu hv hza hzb CV hra hrb hcm hdm ba bb he HCV
  generalize lessS s t = Z at HZ ⊢
  go_enter Tryz.func33, Tryz.ntmps33
  go_wp2_with (first
    | (refine wpList_load_vote' rfl (.tmp 5) rfl w.heap.size 0 rfl s.vote HF.out (range_vote (RA.out _ BA.out)) (.agg za) HZA.out ?_)
    | (refine wpList_load_vote' rfl (.tmp 7) rfl (w.heap.size + 1) 0 rfl t.vote HG.out (range_vote (RB.out _ BB.out)) (.agg zb) HZB.out ?_))
  go_ret
  exact ⟨retb HZ.out.symm, ((Upd.refl NoF w).alloc _).alloc _⟩

theorem rLessS_any {s t : SignedS} {u v : Value} (hf : s.vote.Fit) (hg : t.vote.Fit) (w : World) (hu : Rd w 1 u s.sig.length (s.sig.map byteV)) (hv : Rd w 1 v t.sig.length (t.sig.map byteV)) : Calls Tryz.prog 33 #[.agg (rowS s u).toArray, .agg (rowS t v).toArray] w fun e w' => e = .returned (.bool (lessS s t)) ∧ Upd NoF w w' := by
  by_cases he : s.vote = t.vote
  · exact rLessS_eq hf hg w hu hv he
  · exact rLessS_ne hf hg w hu hv he
end

section
open Go.RowKit

/-- Operation o, its operands read by ρ, runs to its end and leaves a value and a world that 'post' holds of. -/
def OpDone (P : Program) (o : Oper) (ρ : Operand → Value) (w : World) (post : Value → World → Prop) : Prop :=
  match (execOp ρ o).run P w with
  | .ok (.value v) w' => post v w'
  | .ok .skip w' => post undef w'
  | .ok (.enter f args) w' => Calls P f args w' fun e w'' => ∃ v, e = .returned v ∧ post v w''
  | _ => False

theorem OpDone.wp {P : Program} {o : Oper} {a : Act} {w : World} {post : Value → World → Prop} {K : Act → World → Prop} {Q : Exit → Act → World → Prop} (h : OpDone P o a.eval w post) (hk : ∀ v w', post v w' → K (a.put o.dst v) w') : o.wp P a w K Q := by
  unfold OpDone at h
  unfold Oper.wp
  generalize (execOp a.eval o).run P w = r at *
  cases r with
  | ok n w' =>
    cases n with
    | value v => exact hk _ _ h
    | skip => exact hk _ _ h
    | enter f args => exact Calls.mono h (fun e w'' ⟨v, he, hp⟩ => by subst he; exact hk _ _ hp)
    | _ => exact h.elim
  | halt x w' => exact h.elim

theorem OpDone.mono {P : Program} {o : Oper} {ρ : Operand → Value} {w : World} {post post' : Value → World → Prop} (h : OpDone P o ρ w post) (hp : ∀ v w', post v w' → post' v w') : OpDone P o ρ w post' := by
  unfold OpDone at *
  generalize (execOp ρ o).run P w = r at *
  cases r with
  | ok n w' =>
    cases n with
    | value v => exact hp _ _ h
    | skip => exact hp _ _ h
    | enter f args => exact Calls.mono h (fun e w'' ⟨v, he, hq⟩ => ⟨v, he, hp _ _ hq⟩)
    | _ => exact h.elim
  | halt x w' => exact h.elim

/-- Op i waits for op j. -/
def depOn (l : List Oper) (i j : Nat) : Bool := match l[i]? with | none => false | some o => o.after.any fun e => e.on == j && Region.binds .any e
/-- Whoever writes slot t waits for op i. -/
def extFrom (l : List Oper) (i t : Nat) : Nat → List Oper → Bool
  | _, [] => true
  | j, o :: r => (o.dst != some t || depOn l j i) && extFrom l i t (j + 1) r
def extOk (l : List Oper) (i t : Nat) : Bool := extFrom l i t 0 l
def acycFrom : Nat → List Oper → Bool
  | _, [] => true
  | k, o :: l => o.after.all (fun e => decide (e.on < k)) && acycFrom (k + 1) l
def distinctB : List Oper → Bool
  | [] => true
  | o :: l => (match o.dst with | none => true | some d => l.all fun p => p.dst != some d) && distinctB l
def slotV (ρ : Operand → Value) (o : Oper) : Value := match o.dst with | some d => ρ (.tmp d) | none => undef
def leftV (o : Oper) (v : Value) : Value := match o.dst with | some _ => v | none => undef
def wantedR (l : List Oper) (o : Oper) (ρ : Operand → Value) : Bool := match o.guard with
  | none => true
  | some (g, b) => match (l[g]?).bind (·.dst) with
    | none => false
    | some d => match ρ (.tmp d) with | .bool c => c == b | _ => false
/-- What op number i is owed: L says which operations have run; W what the world is like then. -/
def OpStep (P : Program) (l : List Oper) (R : Nat → Value → World → Prop) (St : World → World → Prop) (W : (Nat → Bool) → World → Prop) (ρ0 : Operand → Value) (i : Nat) (o : Oper) : Prop :=
  ∀ (ρ : Operand → Value) (w : World) (L : Nat → Bool), W L w → L i = false → (∀ j k, L j = true → depOn l j k = true → L k = true) → (∀ k, depOn l i k = true → L k = true) → (∀ j oj, l[j]? = some oj → depOn l i j = true → R j (slotV ρ oj) w) → (∀ t, extOk l i t = true → ρ (.tmp t) = ρ0 (.tmp t)) → (∀ v, ρ (.const v) = v) → (∀ g, ρ (.global g) = .pointer (some ⟨g, 0, none⟩)) → (∀ f, ρ (.func f) = .func (.func f) #[] #[]) →
    if wantedR l o ρ = true then OpDone P o ρ w (fun v w' => R i (leftV o v) w' ∧ St w w' ∧ W (fun j => j == i || L j) w') else R i undef w ∧ W (fun j => j == i || L j) w
theorem OpStep.plain {P : Program} {l : List Oper} {R : Nat → Value → World → Prop} {St : World → World → Prop} {w0 : World} {ρ0 : Operand → Value} {i : Nat} {o : Oper} (st_trans : ∀ {x y z}, St x y → St y z → St x z) (hg : o.guard = none)
    (h : ∀ (ρ : Operand → Value) (w : World), St w0 w → (∀ j oj, l[j]? = some oj → depOn l i j = true → R j (slotV ρ oj) w) → (∀ t, extOk l i t = true → ρ (.tmp t) = ρ0 (.tmp t)) → (∀ v, ρ (.const v) = v) → (∀ g, ρ (.global g) = .pointer (some ⟨g, 0, none⟩)) → (∀ f, ρ (.func f) = .func (.func f) #[] #[]) → OpDone P o ρ w (fun v w' => R i (leftV o v) w' ∧ St w w')) : OpStep P l R St (fun _ w => St w0 w) ρ0 i o := by
  intro ρ w L h1 _ _ _ h2 h3 h4 h5 h6
  rw [if_pos (by unfold wantedR; rw [hg])]
  exact (h ρ w h1 h2 h3 h4 h5 h6).mono (fun v w' ⟨a, b⟩ => ⟨a, b, st_trans h1 b⟩)
def AllOps (P : Program) (l : List Oper) (R : Nat → Value → World → Prop) (St : World → World → Prop) (W : (Nat → Bool) → World → Prop) (ρ0 : Operand → Value) : Nat → List Oper → Prop
  | _, [] => True
  | i, o :: r => OpStep P l R St W ρ0 i o ∧ AllOps P l R St W ρ0 (i + 1) r
def putAll : List Oper → (Nat → Value) → Nat → Act → Act
  | [], _, _, a => a
  | o :: l, vs, k, a => putAll l vs (k + 1) (a.put o.dst (vs k))

section
variable {P : Program} {l : List Oper} {R : Nat → Value → World → Prop} {St : World → World → Prop} {W : (Nat → Bool) → World → Prop} {a0 : Act}

theorem AllOps.get {ρ0 : Operand → Value} : ∀ {r : List Oper} {k : Nat}, AllOps P l R St W ρ0 k r → ∀ {i : Nat} {o : Oper}, r[i]? = some o → OpStep P l R St W ρ0 (k + i) o
  | [], _, _, i, o, h => by cases h
  | x :: r, k, h, 0, o, hi => by
    simp at hi
    subst hi
    exact h.1
  | x :: r, k, h, i + 1, o, hi => by
    have := AllOps.get h.2 (i := i) (o := o) (by simpa using hi)
    rw [show k + (i + 1) = k + 1 + i by omega]
    exact this
theorem extFrom_get {i t : Nat} : ∀ {r : List Oper} {k : Nat}, extFrom l i t k r = true → ∀ {j : Nat} {o : Oper}, r[j]? = some o → o.dst = some t → depOn l (k + j) i = true
  | [], _, _, j, o, h, _ => by cases h
  | x :: r, k, h, 0, o, hi, hd => by
    simp at hi
    subst hi
    simp only [extFrom, Bool.and_eq_true, Bool.or_eq_true] at h
    rcases h.1 with e | e
    · rw [hd] at e; simp at e
    · exact e
  | x :: r, k, h, j + 1, o, hi, hd => by
    simp only [extFrom, Bool.and_eq_true] at h
    have := extFrom_get h.2 (j := j) (o := o) (by simpa using hi) hd
    rw [show k + (j + 1) = k + 1 + j by omega]
    exact this
theorem acyc_get : ∀ {r : List Oper} {k : Nat}, acycFrom k r = true → ∀ {i : Nat} {o : Oper}, r[i]? = some o → ∀ e ∈ o.after, e.on < k + i
  | [], _, _, i, o, h => by cases h
  | x :: r, k, h, 0, o, hi => by
    simp at hi
    subst hi
    simp only [acycFrom, Bool.and_eq_true] at h
    intro e he
    have := Array.all_eq_true_iff_forall_mem.1 h.1 e he
    simpa using this
  | x :: r, k, h, i + 1, o, hi => by
    simp only [acycFrom, Bool.and_eq_true] at h
    intro e he
    have := acyc_get h.2 (i := i) (o := o) (by simpa using hi) e he
    omega
theorem distinct_get : ∀ {r : List Oper}, distinctB r = true → ∀ {i j : Nat} {x y : Oper} {d : Nat}, r[i]? = some x → r[j]? = some y → x.dst = some d → y.dst = some d → i = j
  | [], _, i, j, x, y, d, h, _, _, _ => by cases h
  | o :: r, h, 0, 0, x, y, d, _, _, _, _ => rfl
  | o :: r, h, 0, j + 1, x, y, d, hx, hy, dx, dy => by
    simp at hx
    subst hx
    simp only [distinctB, dx, Bool.and_eq_true, List.all_eq_true] at h
    have := h.1 y (List.mem_of_getElem? (by simpa using hy))
    rw [dy] at this
    simp at this
  | o :: r, h, i + 1, 0, x, y, d, hx, hy, dx, dy => by
    simp at hy
    subst hy
    simp only [distinctB, dy, Bool.and_eq_true, List.all_eq_true] at h
    have := h.1 x (List.mem_of_getElem? (by simpa using hx))
    rw [dx] at this
    simp at this
  | o :: r, h, i + 1, j + 1, x, y, d, hx, hy, dx, dy => by
    simp only [distinctB, Bool.and_eq_true] at h
    have := distinct_get h.2 (i := i) (j := j) (x := x) (y := y) (by simpa using hx) (by simpa using hy) dx dy
    omega
theorem put_size (a : Act) (d : Option Tmp) (v : Value) : (a.put d v).tmps.size = a.tmps.size := by cases d <;> simp [Act.put]
theorem put_defers (a : Act) (d : Option Tmp) (v : Value) : (a.put d v).defers = a.defers := by cases d <;> rfl
theorem put_get_ne (a : Act) {d : Option Tmp} {v : Value} {t : Nat} (h : d ≠ some t) : (a.put d v).tmps[t]? = a.tmps[t]? := by
  cases d with
  | none => rfl
  | some d => simp [Act.put, Array.getElem?_setIfInBounds_ne (show d ≠ t from fun e => h (by rw [e]))]
theorem put_get_same (a : Act) {v : Value} {t : Nat} (h : t < a.tmps.size) : (a.put (some t) v).tmps[t]? = some v := by simp [Act.put, h]
theorem putAll_size : ∀ (r : List Oper) (vs : Nat → Value) (k : Nat) (a : Act), (putAll r vs k a).tmps.size = a.tmps.size
  | [], _, _, _ => rfl
  | o :: r, vs, k, a => by rw [putAll, putAll_size, put_size]
theorem putAll_defers : ∀ (r : List Oper) (vs : Nat → Value) (k : Nat) (a : Act), (putAll r vs k a).defers = a.defers
  | [], _, _, _ => rfl
  | o :: r, vs, k, a => by rw [putAll, putAll_defers, put_defers]
theorem putAll_none : ∀ (r : List Oper) (vs : Nat → Value) (k : Nat) (a : Act) (t : Nat), (∀ o ∈ r, o.dst ≠ some t) → (putAll r vs k a).tmps[t]? = a.tmps[t]?
  | [], _, _, _, _, _ => rfl
  | o :: r, vs, k, a, t, h => by rw [putAll, putAll_none r vs (k + 1) _ t (fun x hx => h x (by simp [hx])), put_get_ne a (h o (by simp))]
theorem putAll_some : ∀ (r : List Oper) (vs : Nat → Value) (k : Nat) (a : Act) (t i : Nat) (o : Oper), distinctB r = true → r[i]? = some o → o.dst = some t → t < a.tmps.size → (putAll r vs k a).tmps[t]? = some (vs (k + i))
  | [], _, _, _, _, _, _, _, h, _, _ => by cases h
  | x :: r, vs, k, a, t, 0, o, hd, hi, ho, ht => by
    simp at hi
    subst hi
    rw [putAll, putAll_none, ho, put_get_same a ht]
    · rfl
    · intro y hy e
      simp only [distinctB, ho, Bool.and_eq_true, List.all_eq_true] at hd
      have := hd.1 y hy
      rw [e] at this
      simp at this
  | x :: r, vs, k, a, t, i + 1, o, hd, hi, ho, ht => by
    simp only [distinctB, Bool.and_eq_true] at hd
    rw [putAll, putAll_some r vs (k + 1) _ t i o hd.2 (by simpa using hi) ho (by rw [put_size]; exact ht)]
    congr 2
    omega
theorem Act.ext' {a b : Act} (h1 : a.tmps = b.tmps) (h2 : a.defers = b.defers) : a = b := by cases a; cases b; simp_all

def unl : List Bool → Nat
  | [] => 0
  | b :: l => (if b then 0 else 1) + unl l
theorem unl_set : ∀ (l : List Bool) (i : Nat), l[i]? = some false → unl (l.set i true) + 1 = unl l
  | [], _, h => by cases h
  | b :: l, 0, h => by simp at h; subst h; simp [unl]; omega
  | b :: l, i + 1, h => by
    have := unl_set l i (by simpa using h)
    simp only [List.set_cons_succ, unl]
    omega
theorem unl_zero : ∀ (l : List Bool), unl l = 0 → ∀ b ∈ l, b = true
  | [], _, _, h => by cases h
  | b :: l, h, c, hc => by
    simp only [unl] at h
    rcases List.mem_cons.1 hc with rfl | hc
    · cases c
      · simp at h
      · rfl
    · exact unl_zero l (by omega) c hc
theorem unl_replicate : ∀ n, unl (List.replicate n false) = n
  | 0 => rfl
  | n + 1 => by rw [List.replicate_succ, unl, unl_replicate n]; simp; omega

theorem wanted_eq (o : Oper) (a : Act) : Region.wanted o (yielded l.toArray a.tmps) = wantedR l o a.eval := by
  unfold Region.wanted wantedR
  cases o.guard with
  | none => rfl
  | some p =>
    obtain ⟨g, b⟩ := p
    simp only [yielded, List.getElem?_toArray]
    cases (l[g]?).bind (·.dst) with
    | none => simp
    | some d =>
      simp only [Option.bind_some, Act.eval]
      rw [Array.getD_eq_getD_getElem?]
      cases a.tmps[d]? with
      | none => simp [undef]
      | some v => cases v <;> simp

/-- Where the region stands. -/
def lst (listed : Array Bool) : Nat → Bool := fun j => listed[j]? == some true
structure RgAt (l : List Oper) (R : Nat → Value → World → Prop) (W : (Nat → Bool) → World → Prop) (a0 : Act) (listed : Array Bool) (a : Act) (w : World) : Prop where
  ls : listed.size = l.length
  size : a.tmps.size = a0.tmps.size
  defers : a.defers = a0.defers
  st : W (lst listed) w
  done : ∀ (j : Nat) oj, l[j]? = some oj → listed[j]? = some true → R j (slotV a.eval oj) w
  ext : ∀ t, (∀ (j : Nat) oj, l[j]? = some oj → oj.dst = some t → listed[j]? = some false) → a.tmps[t]? = a0.tmps[t]?
  closed : ∀ (j k : Nat), listed[j]? = some true → depOn l j k = true → listed[k]? = some true

theorem RgAt.step (st_refl : ∀ w, St w w) (keep : ∀ i v w w', R i v w → St w w' → R i v w') (hdi : distinctB l = true) (hdst : ∀ o ∈ l, ∀ d, o.dst = some d → d < a0.tmps.size) {Q : Exit → Act → World → Prop} (hops : AllOps P l R St W a0.eval 0 l) {listed : Array Bool} {a : Act} {w : World} (h : RgAt l R W a0 listed a w) {i : Nat} {o : Oper} (ho : l[i]? = some o) (hun : listed[i]? = some false) (hrdy : ∀ k, depOn l i k = true → listed[k]? = some true) :
    if Region.wanted o (yielded l.toArray a.tmps) then o.wp P a w (fun a' w' => RgAt l R W a0 (listed.setIfInBounds i true) a' w') Q else RgAt l R W a0 (listed.setIfInBounds i true) (a.put o.dst undef) w := by
  have hi : i < listed.size := (Array.getElem?_eq_some_iff.1 hun).1
  have hs := (hops.get ho) a.eval w (lst listed) h.st (by simp [lst, hun]) (fun j k hj hk => by unfold lst at hj ⊢; rw [beq_iff_eq] at hj ⊢; exact h.closed j k hj hk) (fun k hk => by unfold lst; rw [beq_iff_eq]; exact hrdy k (by simpa using hk)) (fun j oj hj hd => h.done j oj hj (hrdy j (by simpa using hd))) (fun t ht => by
    have hx := h.ext t (fun j oj hj hd => by
      have hdep := extFrom_get ht hj hd
      rw [Nat.zero_add, Nat.zero_add] at hdep
      have hjl : j < listed.size := by rw [h.ls]; exact (List.getElem?_eq_some_iff.1 hj).1
      rw [Array.getElem?_eq_getElem hjl]
      cases hb : listed[j] with
      | false => rfl
      | true =>
        have := h.closed j i (by rw [Array.getElem?_eq_getElem hjl, hb]) hdep
        rw [hun] at this
        cases this)
    simp only [Act.eval, Array.getD_eq_getD_getElem?, hx]) (fun _ => rfl) (fun _ => rfl) (fun _ => rfl)
  rw [Nat.zero_add] at hs
  have hlst : lst (listed.setIfInBounds i true) = fun j => j == i || lst listed j := by
    funext j
    unfold lst
    by_cases hji : j = i
    · subst hji; simp [hi]
    · rw [Array.getElem?_setIfInBounds_ne (fun e => hji e.symm)]; simp [hji]
  have next : ∀ v w', R i (leftV o v) w' → St w w' → W (fun j => j == i || lst listed j) w' → RgAt l R W a0 (listed.setIfInBounds i true) (a.put o.dst v) w' := by
    intro v w' hv hst hW
    have hset : ∀ j, j ≠ i → (listed.setIfInBounds i true)[j]? = listed[j]? := fun j hj => Array.getElem?_setIfInBounds_ne (fun e => hj e.symm)
    have hseti : (listed.setIfInBounds i true)[i]? = some true := by simp [hi]
    refine ⟨by simp [h.ls], by rw [put_size, h.size], by rw [put_defers, h.defers], by rw [hlst]; exact hW, ?_, ?_, ?_⟩
    · intro j oj hj hl
      by_cases hji : j = i
      · subst hji
        have e := ho.symm.trans hj
        have e := Option.some.inj e
        subst e
        have : slotV (a.put o.dst v).eval o = leftV o v := by
          unfold slotV leftV
          cases hd : o.dst with
          | none => rfl
          | some d =>
            have hlt : d < a.tmps.size := by rw [h.size]; exact hdst o (List.mem_of_getElem? ho) d hd
            simp only [Act.eval, Array.getD_eq_getD_getElem?, put_get_same a hlt]
            rfl
        rw [this]
        exact hv
      · rw [hset j hji] at hl
        have hr := h.done j oj hj hl
        have e : slotV (a.put o.dst v).eval oj = slotV a.eval oj := by
          unfold slotV
          cases hd : oj.dst with
          | none => rfl
          | some d =>
            have : o.dst ≠ some d := fun e => hji (distinct_get hdi hj ho hd e)
            simp only [Act.eval, Array.getD_eq_getD_getElem?, put_get_ne a this]
        rw [e]
        exact keep _ _ _ _ hr hst
    · intro t ht
      have hne : o.dst ≠ some t := fun e => by
        have := ht i o ho e
        rw [hseti] at this
        cases this
      rw [put_get_ne a hne]
      refine h.ext t (fun j oj hj hd => ?_)
      have := ht j oj hj hd
      by_cases hji : j = i
      · subst hji; rw [hseti] at this; cases this
      · rw [hset j hji] at this; exact this
    · intro j k hj hd
      by_cases hji : j = i
      · subst hji
        have := hrdy k hd
        by_cases hki : k = j
        · subst hki; exact hseti
        · rw [hset k hki]; exact this
      · rw [hset j hji] at hj
        have := h.closed j k hj hd
        by_cases hki : k = i
        · subst hki; exact hseti
        · rw [hset k hki]; exact this
  rw [wanted_eq]
  by_cases hw : wantedR l o a.eval = true
  · rw [if_pos hw] at hs ⊢
    exact hs.wp (fun v w' ⟨h1, h2, h3⟩ => next v w' h1 h2 h3)
  · rw [if_neg hw] at hs ⊢
    have e : leftV o undef = undef := by unfold leftV; cases o.dst <;> rfl
    exact next undef w (by rw [e]; exact hs.1) (st_refl w) hs.2

theorem RgAt.fin (hdi : distinctB l = true) {listed : Array Bool} {a : Act} {w : World} (h : RgAt l R W a0 listed a w) (hall : ∀ b ∈ listed.toList, b = true) :
    ∃ vs : Nat → Value, a = putAll l vs 0 a0 ∧ ∀ (i : Nat) o, l[i]? = some o → R i (leftV o (vs i)) w := by
  refine ⟨fun i => match l[i]? with | some o => slotV a.eval o | none => undef, ?_, ?_⟩
  · refine Act.ext' ?_ (by rw [putAll_defers, h.defers])
    apply Array.ext_getElem?
    intro t
    by_cases ht : t < a.tmps.size
    · by_cases hd : ∃ (i : Nat) (o : Oper), l[i]? = some o ∧ o.dst = some t
      · obtain ⟨i, o, ho, hd⟩ := hd
        rw [putAll_some l _ 0 a0 t i o hdi ho hd (by rw [← h.size]; exact ht), Nat.zero_add]
        simp only [ho]
        unfold slotV
        simp only [hd, Act.eval, Array.getD_eq_getD_getElem?]
        rw [Array.getElem?_eq_getElem ht]
        rfl
      · rw [putAll_none l _ 0 a0 t (fun o ho e => by
          obtain ⟨i, hi⟩ := List.getElem?_of_mem ho
          exact hd ⟨i, o, hi, e⟩)]
        exact h.ext t (fun j oj hj e => absurd ⟨j, oj, hj, e⟩ hd)
    · rw [Array.getElem?_eq_none (by omega), Array.getElem?_eq_none (by rw [putAll_size, ← h.size]; omega)]
  · intro i o ho
    have hi : i < listed.size := by rw [h.ls]; exact (List.getElem?_eq_some_iff.1 ho).1
    have := h.done i o ho (by rw [Array.getElem?_eq_getElem hi, hall listed[i] (by simp)])
    simp only [ho]
    unfold leftV
    cases hd : o.dst with
    | none => unfold slotV at this; rw [hd] at this; exact this
    | some d => exact this

theorem ready_iff {listed : Array Bool} (hs : listed.size = l.length) {i : Nat} (h : i ∈ Region.ready .any l.toArray listed) : ∃ o, l[i]? = some o ∧ listed[i]? = some false ∧ ∀ k, depOn l i k = true → listed[k]? = some true := by
  unfold Region.ready at h
  obtain ⟨h1, h2⟩ := List.mem_filter.1 h
  have hi : i < l.length := by simpa using h1
  have hil : i < listed.size := by omega
  refine ⟨l[i], List.getElem?_eq_getElem hi, ?_, ?_⟩
  · simp only [Bool.and_eq_true] at h2
    have := h2.1
    rw [Array.getD_eq_getD_getElem?, Array.getElem?_eq_getElem hil] at this
    rw [Array.getElem?_eq_getElem hil]
    simpa using this
  · intro k hk
    simp only [Bool.and_eq_true] at h2
    have h3 := h2.2
    unfold depOn at hk
    rw [List.getElem?_eq_getElem hi] at hk
    obtain ⟨q, hq, hk⟩ := Array.any_eq_true.1 hk
    simp only [Bool.and_eq_true, beq_iff_eq] at hk
    simp only [List.getElem?_toArray, List.getElem?_eq_getElem hi, Option.map_some, Option.getD_some] at h3
    have h4 := Array.all_eq_true.1 h3 q hq
    rw [hk.2, hk.1] at h4
    simp only [Bool.not_true, Bool.false_or] at h4
    rw [Array.getD_eq_getD_getElem?] at h4
    cases hl : listed[k]? with
    | none => rw [hl] at h4; cases h4
    | some b => rw [hl] at h4; simp at h4; rw [h4]
theorem not_ready (hac : acycFrom 0 l = true) {listed : Array Bool} (hs : listed.size = l.length) (h : Region.ready .any l.toArray listed = []) : ∀ i, i < l.length → listed[i]? = some true := by
  intro i
  induction i using Nat.strongRecOn with
  | ind i ih =>
    intro hi
    have hil : i < listed.size := by omega
    rw [Array.getElem?_eq_getElem hil]
    cases hb : listed[i] with
    | true => rfl
    | false =>
      exfalso
      have : i ∈ Region.ready .any l.toArray listed := by
        unfold Region.ready
        refine List.mem_filter.2 ⟨by simpa using hi, ?_⟩
        rw [Array.getD_eq_getD_getElem?, Array.getElem?_eq_getElem hil, hb]
        simp only [List.getElem?_toArray, List.getElem?_eq_getElem hi, Option.map_some, Option.getD_some, Bool.not_false, Bool.true_and]
        refine Array.all_eq_true.2 (fun q hq => ?_)
        have hlt := acyc_get hac (List.getElem?_eq_getElem hi) _ (Array.getElem_mem hq)
        rw [Nat.zero_add] at hlt
        have := ih _ hlt (by omega)
        rw [Array.getD_eq_getD_getElem?, this]
        simp
      rw [h] at this
      cases this

theorem RgAt.any (st_refl : ∀ w, St w w) (keep : ∀ i v w w', R i v w → St w w' → R i v w') (hac : acycFrom 0 l = true) (hdi : distinctB l = true) (hdst : ∀ o ∈ l, ∀ d, o.dst = some d → d < a0.tmps.size) {Q : Exit → Act → World → Prop} (hops : AllOps P l R St W a0.eval 0 l) (hend : ∀ (vs : Nat → Value) (w : World) (L : Nat → Bool), (∀ i, i < l.length → L i = true) → W L w → (∀ (i : Nat) o, l[i]? = some o → R i (leftV o (vs i)) w) → Q .normal (putAll l vs 0 a0) w) :
    ∀ (fuel : Nat) (listed : Array Bool) (a : Act) (w : World), unl listed.toList ≤ fuel → RgAt l R W a0 listed a w → wpAny P .any l.toArray Q fuel listed a w := by
  have fin : ∀ (listed : Array Bool) (a : Act) (w : World), RgAt l R W a0 listed a w → Region.ready .any l.toArray listed = [] → Q .normal a w := by
    intro listed a w h hr
    have hn := not_ready hac h.ls hr
    obtain ⟨vs, rfl, hv⟩ := h.fin hdi (fun b hb => by
      obtain ⟨i, hi⟩ := List.getElem?_of_mem hb
      have hlt : i < l.length := by rw [← h.ls]; have := (List.getElem?_eq_some_iff.1 hi).1; simpa using this
      have := hn i hlt
      have hi' : listed[i]? = some b := by simpa using hi
      rw [hi'] at this
      exact Option.some.inj this)
    exact hend vs w (lst listed) (fun i hi => by unfold lst; rw [beq_iff_eq]; exact hn i hi) h.st hv
  intro fuel
  induction fuel with
  | zero =>
    intro listed a w hu h
    have hz := unl_zero _ (by omega : unl listed.toList = 0)
    have hr : Region.ready .any l.toArray listed = [] := by
      apply List.eq_nil_iff_forall_not_mem.2
      intro i hi
      obtain ⟨o, _, h2, _⟩ := ready_iff h.ls hi
      have := hz false (List.mem_of_getElem? (i := i) (by simpa using h2))
      cases this
    exact ⟨hr, fin listed a w h hr⟩
  | succ fuel ih =>
    intro listed a w hu h
    refine ⟨fun hr => fin listed a w h hr, fun i hi => ?_⟩
    obtain ⟨o, h1, h2, h3⟩ := ready_iff h.ls hi
    have hs := h.step st_refl keep hdi hdst (Q := Q) hops h1 h2 h3
    have hun : unl (listed.setIfInBounds i true).toList ≤ fuel := by
      have := unl_set listed.toList i (by simpa using h2)
      rw [Array.toList_setIfInBounds]
      omega
    unfold wpOp
    simp only [List.getElem?_toArray, h1]
    split
    · rename_i hw
      rw [if_pos hw] at hs
      exact .inl (Oper.wp_mono (fun a' w' h' => ih _ a' w' hun h') hs)
    · rename_i hw
      rw [if_neg hw] at hs
      exact ih _ _ _ hun hs
end

/-- A region that draws its order, by phases. -/
theorem wp_region_rgw {P : Program} {l : List Oper} {a0 : Act} {w0 : World} {Q : Exit → Act → World → Prop} {id : Nat} (R : Nat → Value → World → Prop) (St : World → World → Prop) (W : (Nat → Bool) → World → Prop) (hm : P.follows .mixedOrders = true) (hac : acycFrom 0 l = true) (hdi : distinctB l = true) (hdst : (l.all fun o => match o.dst with | some d => decide (d < a0.tmps.size) | none => true) = true)
    (st_refl : ∀ w, St w w) (keep : ∀ i v w w', R i v w → St w w' → R i v w') (hW : W (fun _ => false) w0.drew)
    (hops : AllOps P l R St W a0.eval 0 l) (hend : ∀ (vs : Nat → Value) (w : World) (L : Nat → Bool), (∀ i, i < l.length → L i = true) → W L w → (∀ (i : Nat) o, l[i]? = some o → R i (leftV o (vs i)) w) → Q .normal (putAll l vs 0 a0) w) : (Code.region id l.toArray true).wp P Q a0 w0 := by
  have hdst' : ∀ o ∈ l, ∀ d, o.dst = some d → d < a0.tmps.size := fun o ho d hd => by
    have := List.all_eq_true.1 hdst o ho
    rw [hd] at this
    simpa using this
  have hl0 : lst (Array.replicate l.length false) = fun _ => false := by
    funext j
    unfold lst
    rw [Array.getElem?_replicate]
    split <;> rfl
  refine wp_region_any hm ?_
  refine RgAt.any (R := R) (St := St) (W := W) (a0 := a0) st_refl keep hac hdi hdst' hops hend _ _ _ _ ?_ ?_
  · simp [unl_replicate]
  · refine ⟨by simp, rfl, rfl, by simp only [List.size_toArray]; rw [hl0]; exact hW, fun j oj _ h => ?_, fun _ _ => rfl, fun j k h => ?_⟩
    · rw [Array.getElem?_replicate] at h
      split at h
      · cases h
      · cases h
    · rw [Array.getElem?_replicate] at h
      split at h
      · cases h
      · cases h
end
end Go.Proofs.YtbgificdilpdcaaGreat
