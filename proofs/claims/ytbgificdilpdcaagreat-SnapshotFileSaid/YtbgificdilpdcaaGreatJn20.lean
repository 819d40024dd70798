/- SameSigned, SameTexts and SameView of the reference. Conditions: sizes. SameView of the reference. Conditions: sizes. equalVotes of package snapshot. Conditions: sizes. -/
import Derived.Test.YtbgificdilpdcaaGreatEnc2
import Derived.Test.YtbgificdilpdcaaGreatJn7
namespace Go.Proofs.YtbgificdilpdcaaGreat
section
open Go.RowKit

/-- The first k elements are the same. -/
def SameTo {α : Type} (l m : List α) (k : Nat) : Prop := ∀ j, j < k → l[j]? = m[j]?
theorem SameTo.next {α : Type} {l m : List α} {k : Nat} {x y : α} (h : SameTo l m k) (hx : l[k]? = some x) (hy : m[k]? = some y) (e : x = y) : SameTo l m (k + 1) := fun j hj => by
  rcases Nat.lt_or_ge j k with h1 | h1
  · exact h j h1
  · obtain rfl : j = k := by omega
    rw [hx, hy, e]
theorem SameTo.end_ {α : Type} {l m : List α} {k : Nat} (h : SameTo l m k) (hl : l.length = m.length) (hk : l.length ≤ k) : l = m := by
  apply List.ext_getElem?
  intro i
  rcases Nat.lt_or_ge i k with h1 | h1
  · exact h i h1
  · rw [List.getElem?_eq_none (by omega), List.getElem?_eq_none (by omega)]
theorem same_no {α : Type} {l m : List α} {k : Nat} {x y : α} (hx : l[k]? = some x) (hy : m[k]? = some y) (e : x ≠ y) : l ≠ m := fun h => e (by rw [h, hy] at hx; exact (Option.some.inj hx).symm)
def SameRel {α : Type} (l m : List α) (W : World) (i : Value) (wr : World) : Prop := ∃ k : Nat, i = .int .i64 (k : Int) ∧ k ≤ l.length ∧ SameTo l m k ∧ Upd NoF W wr

set_option maxRecDepth 100000 in
set_option maxHeartbeats 4000000 in
theorem SameSigned_ne {s t : SignedS} {u v : Value} (hf : s.vote.Fit) (hg : t.vote.Fit) (w : World) (hu : Rd w 1 u s.sig.length (s.sig.map byteV)) (hv : Rd w 1 v t.sig.length (t.sig.map byteV)) (he : s.vote ≠ t.vote) : Calls Tryz.prog 41 #[.agg (rowS s u).toArray, .agg (rowS t v).toArray] w fun e w' => e = .returned (.bool (decide (s = t))) ∧ Upd NoF w w' := by
  have HZ := Lib.hid (show decide (s = t) = false from by rw [decide_eq_false_iff_not]; intro e; exact he (by rw [e]))
  have hne : ∀ w, (binOp .eql 55 (voteV s.vote) (voteV t.vote)).run Tryz.prog w = .ok (.bool false) w := fun w => by rw [vote_eql _ _ hf hg]; simp [he]
  obtain ⟨A, c, rfl, hlc, hcm⟩ := hu.slice
  obtain ⟨B, d, rfl, hld, hdm⟩ := hv.slice
  obtain ⟨za, hza⟩ : ∃ z, voteV s.vote = .agg z := ⟨_, rfl⟩
  obtain ⟨zb, hzb⟩ : ∃ z, voteV t.vote = .agg z := ⟨_, rfl⟩
  rw [hza, hzb] at hne
  have HZA := Lib.hid hza
  have HZB := Lib.hid hzb
  have HF := Lib.hid hf
  have HG := Lib.hid hg
  obtain ⟨ra, hra⟩ : ∃ row, (rowS s (.slice A s.sig.length c)).toArray = row := ⟨_, rfl⟩
  obtain ⟨rb, hrb⟩ : ∃ row, (rowS t (.slice B t.sig.length d)).toArray = row := ⟨_, rfl⟩
  rw [hra, hrb]
  have HRA := Lib.hid hra
  have HRB := Lib.hid hrb
  have RA := Lib.hid (show ∀ W, Blk W w.heap.size 57 ra → W.rangeAt w.heap.size 0 (rowS s (.slice A s.sig.length c)) from fun W h => by rw [← HRA.out] at h; exact range_blk h)
  have RB := Lib.hid (show ∀ W, Blk W (w.heap.size + 1) 57 rb → W.rangeAt (w.heap.size + 1) 0 (rowS t (.slice B t.sig.length d)) from fun W h => by rw [← HRB.out] at h; exact range_blk h)
  have ba : Blk ((w.alloc (.cells ra 57)).alloc (.cells rb 57)) w.heap.size 57 ra := (Blk.new w 57 ra).alloc _
  have bb : Blk ((w.alloc (.cells ra 57)).alloc (.cells rb 57)) (w.heap.size + 1) 57 rb := by have := Blk.new (w.alloc (.cells ra 57)) 57 rb; simpa using this
  have BA := Lib.hid ba
  have BB := Lib.hid bb
  clear hf hg hu hv hza hzb hra hrb hcm hdm ba bb he
  generalize decide (s = t) = Z at HZ ⊢
  go_enter Tryz.func41, Tryz.ntmps41
  go_wp2_with (first
    | (refine wpList_load_vote' rfl (.tmp 5) rfl w.heap.size 0 rfl s.vote HF.out (range_vote (RA.out _ BA.out)) (.agg za) HZA.out ?_)
    | (refine wpList_load_vote' rfl (.tmp 7) rfl (w.heap.size + 1) 0 rfl t.vote HG.out (range_vote (RB.out _ BB.out)) (.agg zb) HZB.out ?_))
  go_ret
  exact ⟨retb HZ.out.symm, ((Upd.refl NoF w).alloc _).alloc _⟩

set_option maxRecDepth 100000 in
set_option maxHeartbeats 4000000 in
theorem SameSigned_eq {s t : SignedS} {u v : Value} (hf : s.vote.Fit) (hg : t.vote.Fit) (w : World) (hu : Rd w 1 u s.sig.length (s.sig.map byteV)) (hv : Rd w 1 v t.sig.length (t.sig.map byteV)) (he : s.vote = t.vote) : Calls Tryz.prog 41 #[.agg (rowS s u).toArray, .agg (rowS t v).toArray] w fun e w' => e = .returned (.bool (decide (s = t))) ∧ Upd NoF w w' := by
  have HZ := Lib.hid (show decide (s = t) = (s.sig == t.sig) from by
    rw [Bool.eq_iff_iff, decide_eq_true_eq, beq_iff_eq]
    exact ⟨fun e => by rw [e], fun e => SignedS.ext' he e⟩)
  have hne : ∀ w, (binOp .eql 55 (voteV s.vote) (voteV t.vote)).run Tryz.prog w = .ok (.bool true) w := fun w => by rw [vote_eql _ _ hf hg]; simp [he]
  obtain ⟨A, c, rfl, hlc, hcm⟩ := hu.slice
  obtain ⟨B, d, rfl, hld, hdm⟩ := hv.slice
  obtain ⟨za, hza⟩ : ∃ z, voteV s.vote = .agg z := ⟨_, rfl⟩
  obtain ⟨zb, hzb⟩ : ∃ z, voteV t.vote = .agg z := ⟨_, rfl⟩
  rw [hza, hzb] at hne
  have HZA := Lib.hid hza
  have HZB := Lib.hid hzb
  have HF := Lib.hid hf
  have HG := Lib.hid hg
  obtain ⟨ra, hra⟩ : ∃ row, (rowS s (.slice A s.sig.length c)).toArray = row := ⟨_, rfl⟩
  obtain ⟨rb, hrb⟩ : ∃ row, (rowS t (.slice B t.sig.length d)).toArray = row := ⟨_, rfl⟩
  rw [hra, hrb]
  have HRA := Lib.hid hra
  have HRB := Lib.hid hrb
  have RA := Lib.hid (show ∀ W, Blk W w.heap.size 57 ra → W.rangeAt w.heap.size 0 (rowS s (.slice A s.sig.length c)) from fun W h => by rw [← HRA.out] at h; exact range_blk h)
  have RB := Lib.hid (show ∀ W, Blk W (w.heap.size + 1) 57 rb → W.rangeAt (w.heap.size + 1) 0 (rowS t (.slice B t.sig.length d)) from fun W h => by rw [← HRB.out] at h; exact range_blk h)
  have ba : Blk ((w.alloc (.cells ra 57)).alloc (.cells rb 57)) w.heap.size 57 ra := (Blk.new w 57 ra).alloc _
  have bb : Blk ((w.alloc (.cells ra 57)).alloc (.cells rb 57)) (w.heap.size + 1) 57 rb := by have := Blk.new (w.alloc (.cells ra 57)) 57 rb; simpa using this
  have BA := Lib.hid ba
  have BB := Lib.hid bb
  have ka := run_str (hu.keep (((Upd.refl NoF w).alloc (.cells ra 57)).alloc (.cells rb 57)))
  have kb := run_str (hv.keep (((Upd.refl NoF w).alloc (.cells ra 57)).alloc (.cells rb 57)))
  have c1 : ((w.alloc (.cells ra 57)).alloc (.cells rb 57)).cell? ⟨w.heap.size, 22, none⟩ = some (.slice A s.sig.length c) := by have := range_sig hf (RA.out _ ba); simpa using this
  have c2 : ((w.alloc (.cells ra 57)).alloc (.cells rb 57)).cell? ⟨w.heap.size + 1, 22, none⟩ = some (.slice B t.sig.length d) := by have := range_sig hg (RB.out _ bb); simpa using this
  clear hf hg hu hv hza hzb hra hrb hcm hdm ba bb he
  generalize decide (s = t) = Z at HZ ⊢
  go_enter Tryz.func41, Tryz.ntmps41
  go_wp2_with (first
    | (refine wpList_load_vote' rfl (.tmp 5) rfl w.heap.size 0 rfl s.vote HF.out (range_vote (RA.out _ BA.out)) (.agg za) HZA.out ?_)
    | (refine wpList_load_vote' rfl (.tmp 7) rfl (w.heap.size + 1) 0 rfl t.vote HG.out (range_vote (RB.out _ BB.out)) (.agg zb) HZB.out ?_))
  go_ret
  exact ⟨retb HZ.out.symm, ((Upd.refl NoF w).alloc _).alloc _⟩

theorem SameSigned_any {s t : SignedS} {u v : Value} (hf : s.vote.Fit) (hg : t.vote.Fit) (w : World) (hu : Rd w 1 u s.sig.length (s.sig.map byteV)) (hv : Rd w 1 v t.sig.length (t.sig.map byteV)) : Calls Tryz.prog 41 #[.agg (rowS s u).toArray, .agg (rowS t v).toArray] w fun e w' => e = .returned (.bool (decide (s = t))) ∧ Upd NoF w w' := by
  by_cases he : s.vote = t.vote
  · exact SameSigned_eq hf hg w hu hv he
  · exact SameSigned_ne hf hg w hu hv he

set_option maxRecDepth 100000 in
set_option maxHeartbeats 8000000 in
theorem SameTexts_any {w : World} {a b : Value} {l m : List (List UInt8)} (ha : TxR w a l) (hb : TxR w b m) (_hs1 : l.length ≤ 1099511627776) (_hs2 : m.length ≤ 1099511627776) : Calls Tryz.prog 42 #[a, b] w fun e w' => e = .returned (.bool (decide (l = m))) ∧ Upd NoF w w' := by
  obtain ⟨A, ca, rfl, hlc, hcm⟩ := ha.form
  obtain ⟨B, cb, rfl, hld, hdm⟩ := hb.form
  have HA := Lib.hid ha
  have HB := Lib.hid hb
  obtain ⟨n, hn⟩ : ∃ n, l.length = n := ⟨_, rfl⟩
  have HN := Lib.hid hn
  by_cases hlen : l.length = m.length
  rotate_left
  · have t0 : decide ((l.length : Int) = (m.length : Int)) = false := by simp; omega
    have HZ := Lib.hid (show decide (l = m) = false from by rw [decide_eq_false_iff_not]; intro e; exact hlen (by rw [e]))
    have t0' : decide (l.length = m.length) = false := by simp; omega
    generalize decide (l = m) = Z at HZ ⊢
    clear ha hb HA HB hn HN
    go_enter Tryz.func42, Tryz.ntmps42
    go_wp2
    go_ret
    exact ⟨retb HZ.out.symm, Upd.refl _ _⟩
  have HL := Lib.hid hlen
  rw [← hlen] at _hs2 hld HB ⊢
  rw [hn] at hlc _hs2 hld HA HB ⊢
  clear ha hb hlen hn
  generalize hZ : decide (l = m) = Z at ⊢
  have HZ := Lib.hid hZ
  clear hZ
  go_enter Tryz.func42, Tryz.ntmps42
  go_wp2
  go_loopw [5] (fun i wr => SameRel l m w i wr) (fun i _ => n - (intOf i).toNat)
  case atStart => exact ⟨0, rfl, by omega, fun j h => absurd h (by omega), Upd.refl _ _⟩
  case round =>
    obtain ⟨k, rfl, hk, hch, hu⟩ := hrel
    have hnn := HN.out
    have hll := HL.out
    have HU := Lib.hid hu
    by_cases hlt : k < n
    · obtain ⟨s, hx⟩ : ∃ x, l[k]? = some x := ⟨_, List.getElem?_eq_getElem (by omega)⟩
      obtain ⟨t, hy⟩ : ∃ x, m[k]? = some x := ⟨_, List.getElem?_eq_getElem (by omega)⟩
      have t1 : decide ((k : Int) < (n : Int)) = true := by simp; omega
      by_cases he : s = t
      · have GEQ := Lib.hid (show (s == t) = true from by simp [he])
        have HCH := Lib.hid (hch.next hx hy he)
        obtain ⟨g, o, Au, cu, rfl, r1, r2, -⟩ := (HA.out.keep hu).at_ hx
        obtain ⟨g2, o2, Av, cv, rfl, r3, r4, -⟩ := (HB.out.keep hu).at_ hy
        have XA := Lib.hid (show wr.drew.cell? ⟨g, o + k, none⟩ = some (.slice Au s.length cu) from r1)
        have XB := Lib.hid (show wr.drew.cell? ⟨g2, o2 + k, none⟩ = some (.slice Av t.length cv) from r3)
        have STA := Lib.hid (show ∀ wq, Upd NoF wr.drew wq → (convert 28 9 (.slice Au s.length cu)).run Tryz.prog wq = .ok (strV s) wq from fun wq hq => run_str (Rd.keep r2 ((((Upd.refl NoF wr).drew)).trans hq (fun _ _ h => h))))
        have STB := Lib.hid (show ∀ wq, Upd NoF wr.drew wq → (convert 28 9 (.slice Av t.length cv)).run Tryz.prog wq = .ok (strV t) wq from fun wq hq => run_str (Rd.keep r4 ((((Upd.refl NoF wr).drew)).trans hq (fun _ _ h => h))))
        clear r1 r2 r3 r4
        clear hx hy hch he hu hnn hll
        go_wp2
        refine wp_region_rgw (rgR [isV (.slice (some ⟨g, o, none⟩) n ca), isV (.int .i64 (k : Int)), isV (.pointer (some ⟨g, o + k, none⟩)), isV (.slice Au s.length cu), isV (strV s), isV (.slice (some ⟨g2, o2, none⟩) n cb), isV (.int .i64 (k : Int)), isV (.pointer (some ⟨g2, o2 + k, none⟩)), isV (.slice Av t.length cv), isV (strV t), isV (.bool false)]) (fun w w' => Upd NoF w w') (fun _ wq => Upd NoF wr.drew wq) (by kernel_rfl) (by kernel_rfl) (by kernel_rfl) (by rfl) (fun w => Upd.refl _ _) (rgR_keep (by
          intro p hp; simp only [List.mem_cons, List.not_mem_nil, or_false] at hp; rcases hp with rfl | rfl | rfl | rfl | rfl | rfl | rfl | rfl | rfl | rfl | rfl <;> first | exact stb_isV _ | exact stb_any)) (Upd.refl _ _) ?_ ?_
        · refine ⟨?_, ?_, ?_, ?_, ?_, ?_, ?_, ?_, ?_, ?_, ?_, trivial⟩
          · refine fun ρ w' L hW hLi hcl hd hdep hext hc hg hf => ?_
            rw [if_pos (show wantedR _ _ _ = true from rfl)]
            have e0 : ρ (.tmp 0) = .slice (some ⟨g, o, none⟩) n ca := hext 0 (by kernel_rfl)
            clear hdep hext hcl
            have HW := Lib.hid hW
            clear hW
            unfold OpDone
            go_simp
            exact ⟨rfl, Upd.refl _ _, HW.out⟩
          · refine fun ρ w' L hW hLi hcl hd hdep hext hc hg hf => ?_
            rw [if_pos (show wantedR _ _ _ = true from rfl)]
            have e5 : ρ (.tmp 5) = .int .i64 (k : Int) := hext 5 (by kernel_rfl)
            clear hdep hext hcl
            have HW := Lib.hid hW
            clear hW
            unfold OpDone
            go_simp
            exact ⟨rfl, Upd.refl _ _, HW.out⟩
          · refine fun ρ w' L hW hLi hcl hd hdep hext hc hg hf => ?_
            rw [if_pos (show wantedR _ _ _ = true from rfl)]
            have e17 : ρ (.tmp 17) = .slice (some ⟨g, o, none⟩) n ca := hdep 0 _ rfl (by kernel_rfl)
            have e18 : ρ (.tmp 18) = .int .i64 (k : Int) := hdep 1 _ rfl (by kernel_rfl)
            have q0 : (0 : Int) ≤ (k : Int) := by omega
            have q1 : (k : Int) < (n : Int) := by omega
            have q2 : k < n := by omega
            clear hdep hext hcl
            have HW := Lib.hid hW
            clear hW
            unfold OpDone
            go_simp
            exact ⟨rfl, Upd.refl _ _, HW.out⟩
          · refine fun ρ w' L hW hLi hcl hd hdep hext hc hg hf => ?_
            rw [if_pos (show wantedR _ _ _ = true from rfl)]
            have e19 : ρ (.tmp 19) = .pointer (some ⟨g, o + k, none⟩) := hdep 2 _ rfl (by kernel_rfl)
            have yy : w'.cell? ⟨g, o + k, none⟩ = some (.slice Au s.length cu) := hW.cell XA.out (fun h => h)
            clear hdep hext hcl
            have HW := Lib.hid hW
            clear hW
            unfold OpDone
            go_simp
            exact ⟨rfl, Upd.refl _ _, HW.out⟩
          · refine fun ρ w' L hW hLi hcl hd hdep hext hc hg hf => ?_
            rw [if_pos (show wantedR _ _ _ = true from rfl)]
            have e20 : ρ (.tmp 20) = .slice Au s.length cu := hdep 3 _ rfl (by kernel_rfl)
            have kk := STA.out w' hW
            clear hdep hext hcl
            have HW := Lib.hid hW
            clear hW
            unfold OpDone
            go_simp
            exact ⟨rfl, Upd.refl _ _, HW.out⟩
          · refine fun ρ w' L hW hLi hcl hd hdep hext hc hg hf => ?_
            rw [if_pos (show wantedR _ _ _ = true from rfl)]
            have e1 : ρ (.tmp 1) = .slice (some ⟨g2, o2, none⟩) n cb := hext 1 (by kernel_rfl)
            clear hdep hext hcl
            have HW := Lib.hid hW
            clear hW
            unfold OpDone
            go_simp
            exact ⟨rfl, Upd.refl _ _, HW.out⟩
          · refine fun ρ w' L hW hLi hcl hd hdep hext hc hg hf => ?_
            rw [if_pos (show wantedR _ _ _ = true from rfl)]
            have e5 : ρ (.tmp 5) = .int .i64 (k : Int) := hext 5 (by kernel_rfl)
            clear hdep hext hcl
            have HW := Lib.hid hW
            clear hW
            unfold OpDone
            go_simp
            exact ⟨rfl, Upd.refl _ _, HW.out⟩
          · refine fun ρ w' L hW hLi hcl hd hdep hext hc hg hf => ?_
            rw [if_pos (show wantedR _ _ _ = true from rfl)]
            have e22 : ρ (.tmp 22) = .slice (some ⟨g2, o2, none⟩) n cb := hdep 5 _ rfl (by kernel_rfl)
            have e23 : ρ (.tmp 23) = .int .i64 (k : Int) := hdep 6 _ rfl (by kernel_rfl)
            have q0 : (0 : Int) ≤ (k : Int) := by omega
            have q1 : (k : Int) < (n : Int) := by omega
            have q2 : k < n := by omega
            clear hdep hext hcl
            have HW := Lib.hid hW
            clear hW
            unfold OpDone
            go_simp
            exact ⟨rfl, Upd.refl _ _, HW.out⟩
          · refine fun ρ w' L hW hLi hcl hd hdep hext hc hg hf => ?_
            rw [if_pos (show wantedR _ _ _ = true from rfl)]
            have e24 : ρ (.tmp 24) = .pointer (some ⟨g2, o2 + k, none⟩) := hdep 7 _ rfl (by kernel_rfl)
            have yy : w'.cell? ⟨g2, o2 + k, none⟩ = some (.slice Av t.length cv) := hW.cell XB.out (fun h => h)
            clear hdep hext hcl
            have HW := Lib.hid hW
            clear hW
            unfold OpDone
            go_simp
            exact ⟨rfl, Upd.refl _ _, HW.out⟩
          · refine fun ρ w' L hW hLi hcl hd hdep hext hc hg hf => ?_
            rw [if_pos (show wantedR _ _ _ = true from rfl)]
            have e25 : ρ (.tmp 25) = .slice Av t.length cv := hdep 8 _ rfl (by kernel_rfl)
            have kk := STB.out w' hW
            clear hdep hext hcl
            have HW := Lib.hid hW
            clear hW
            unfold OpDone
            go_simp
            exact ⟨rfl, Upd.refl _ _, HW.out⟩
          · refine fun ρ w' L hW hLi hcl hd hdep hext hc hg hf => ?_
            rw [if_pos (show wantedR _ _ _ = true from rfl)]
            have e21 : ρ (.tmp 21) = strV s := hdep 4 _ rfl (by kernel_rfl)
            have e26 : ρ (.tmp 26) = strV t := hdep 9 _ rfl (by kernel_rfl)
            have gg := GEQ.out
            clear hdep hext hcl
            have HW := Lib.hid hW
            clear hW
            unfold OpDone
            go_simp
            exact ⟨rfl, Upd.refl _ _, HW.out⟩
        intro vs W8 L8 hL8 hW8 hR
        have hv0 : vs 0 = .slice (some ⟨g, o, none⟩) n ca := hR 0 _ rfl
        have hv1 : vs 1 = .int .i64 (k : Int) := hR 1 _ rfl
        have hv2 : vs 2 = .pointer (some ⟨g, o + k, none⟩) := hR 2 _ rfl
        have hv3 : vs 3 = .slice Au s.length cu := hR 3 _ rfl
        have hv4 : vs 4 = strV s := hR 4 _ rfl
        have hv5 : vs 5 = .slice (some ⟨g2, o2, none⟩) n cb := hR 5 _ rfl
        have hv6 : vs 6 = .int .i64 (k : Int) := hR 6 _ rfl
        have hv7 : vs 7 = .pointer (some ⟨g2, o2 + k, none⟩) := hR 7 _ rfl
        have hv8 : vs 8 = .slice Av t.length cv := hR 8 _ rfl
        have hv9 : vs 9 = strV t := hR 9 _ rfl
        have hv10 : vs 10 = .bool false := hR 10 _ rfl
        simp only [putAll, Act.put, List.setIfInBounds_toArray, List.set_cons_zero, List.set_cons_succ, hv0, hv1, hv2, hv3, hv4, hv5, hv6, hv7, hv8, hv9, hv10]
        clear hR hv0 hv1 hv2 hv3 hv4 hv5 hv6 hv7 hv8 hv9 hv10
        have U8 := Lib.hid (show Upd NoF w W8 from (HU.out.drew).trans hW8 (fun _ _ h => h))
        clear hW8 hL8
        go_wp2
        go_roundw
        case rel => exact ⟨k + 1, by go_num, by have := HN.out; omega, HCH.out, U8.out⟩
        case measure => simp [intOf]; omega
      · have GEQ := Lib.hid (show (s == t) = false from by simp [he])
        have HCH := Lib.hid (same_no hx hy he)
        obtain ⟨g, o, Au, cu, rfl, r1, r2, -⟩ := (HA.out.keep hu).at_ hx
        obtain ⟨g2, o2, Av, cv, rfl, r3, r4, -⟩ := (HB.out.keep hu).at_ hy
        have XA := Lib.hid (show wr.drew.cell? ⟨g, o + k, none⟩ = some (.slice Au s.length cu) from r1)
        have XB := Lib.hid (show wr.drew.cell? ⟨g2, o2 + k, none⟩ = some (.slice Av t.length cv) from r3)
        have STA := Lib.hid (show ∀ wq, Upd NoF wr.drew wq → (convert 28 9 (.slice Au s.length cu)).run Tryz.prog wq = .ok (strV s) wq from fun wq hq => run_str (Rd.keep r2 ((((Upd.refl NoF wr).drew)).trans hq (fun _ _ h => h))))
        have STB := Lib.hid (show ∀ wq, Upd NoF wr.drew wq → (convert 28 9 (.slice Av t.length cv)).run Tryz.prog wq = .ok (strV t) wq from fun wq hq => run_str (Rd.keep r4 ((((Upd.refl NoF wr).drew)).trans hq (fun _ _ h => h))))
        clear r1 r2 r3 r4
        clear hx hy hch he hu hnn hll
        go_wp2
        refine wp_region_rgw (rgR [isV (.slice (some ⟨g, o, none⟩) n ca), isV (.int .i64 (k : Int)), isV (.pointer (some ⟨g, o + k, none⟩)), isV (.slice Au s.length cu), isV (strV s), isV (.slice (some ⟨g2, o2, none⟩) n cb), isV (.int .i64 (k : Int)), isV (.pointer (some ⟨g2, o2 + k, none⟩)), isV (.slice Av t.length cv), isV (strV t), isV (.bool true)]) (fun w w' => Upd NoF w w') (fun _ wq => Upd NoF wr.drew wq) (by kernel_rfl) (by kernel_rfl) (by kernel_rfl) (by rfl) (fun w => Upd.refl _ _) (rgR_keep (by
          intro p hp; simp only [List.mem_cons, List.not_mem_nil, or_false] at hp; rcases hp with rfl | rfl | rfl | rfl | rfl | rfl | rfl | rfl | rfl | rfl | rfl <;> first | exact stb_isV _ | exact stb_any)) (Upd.refl _ _) ?_ ?_
        · refine ⟨?_, ?_, ?_, ?_, ?_, ?_, ?_, ?_, ?_, ?_, ?_, trivial⟩
          · refine fun ρ w' L hW hLi hcl hd hdep hext hc hg hf => ?_
            rw [if_pos (show wantedR _ _ _ = true from rfl)]
            have e0 : ρ (.tmp 0) = .slice (some ⟨g, o, none⟩) n ca := hext 0 (by kernel_rfl)
            clear hdep hext hcl
            have HW := Lib.hid hW
            clear hW
            unfold OpDone
            go_simp
            exact ⟨rfl, Upd.refl _ _, HW.out⟩
          · refine fun ρ w' L hW hLi hcl hd hdep hext hc hg hf => ?_
            rw [if_pos (show wantedR _ _ _ = true from rfl)]
            have e5 : ρ (.tmp 5) = .int .i64 (k : Int) := hext 5 (by kernel_rfl)
            clear hdep hext hcl
            have HW := Lib.hid hW
            clear hW
            unfold OpDone
            go_simp
            exact ⟨rfl, Upd.refl _ _, HW.out⟩
          · refine fun ρ w' L hW hLi hcl hd hdep hext hc hg hf => ?_
            rw [if_pos (show wantedR _ _ _ = true from rfl)]
            have e17 : ρ (.tmp 17) = .slice (some ⟨g, o, none⟩) n ca := hdep 0 _ rfl (by kernel_rfl)
            have e18 : ρ (.tmp 18) = .int .i64 (k : Int) := hdep 1 _ rfl (by kernel_rfl)
            have q0 : (0 : Int) ≤ (k : Int) := by omega
            have q1 : (k : Int) < (n : Int) := by omega
            have q2 : k < n := by omega
            clear hdep hext hcl
            have HW := Lib.hid hW
            clear hW
            unfold OpDone
            go_simp
            exact ⟨rfl, Upd.refl _ _, HW.out⟩
          · refine fun ρ w' L hW hLi hcl hd hdep hext hc hg hf => ?_
            rw [if_pos (show wantedR _ _ _ = true from rfl)]
            have e19 : ρ (.tmp 19) = .pointer (some ⟨g, o + k, none⟩) := hdep 2 _ rfl (by kernel_rfl)
            have yy : w'.cell? ⟨g, o + k, none⟩ = some (.slice Au s.length cu) := hW.cell XA.out (fun h => h)
            clear hdep hext hcl
            have HW := Lib.hid hW
            clear hW
            unfold OpDone
            go_simp
            exact ⟨rfl, Upd.refl _ _, HW.out⟩
          · refine fun ρ w' L hW hLi hcl hd hdep hext hc hg hf => ?_
            rw [if_pos (show wantedR _ _ _ = true from rfl)]
            have e20 : ρ (.tmp 20) = .slice Au s.length cu := hdep 3 _ rfl (by kernel_rfl)
            have kk := STA.out w' hW
            clear hdep hext hcl
            have HW := Lib.hid hW
            clear hW
            unfold OpDone
            go_simp
            exact ⟨rfl, Upd.refl _ _, HW.out⟩
          · refine fun ρ w' L hW hLi hcl hd hdep hext hc hg hf => ?_
            rw [if_pos (show wantedR _ _ _ = true from rfl)]
            have e1 : ρ (.tmp 1) = .slice (some ⟨g2, o2, none⟩) n cb := hext 1 (by kernel_rfl)
            clear hdep hext hcl
            have HW := Lib.hid hW
            clear hW
            unfold OpDone
            go_simp
            exact ⟨rfl, Upd.refl _ _, HW.out⟩
          · refine fun ρ w' L hW hLi hcl hd hdep hext hc hg hf => ?_
            rw [if_pos (show wantedR _ _ _ = true from rfl)]
            have e5 : ρ (.tmp 5) = .int .i64 (k : Int) := hext 5 (by kernel_rfl)
            clear hdep hext hcl
            have HW := Lib.hid hW
            clear hW
            unfold OpDone
            go_simp
            exact ⟨rfl, Upd.refl _ _, HW.out⟩
          · refine fun ρ w' L hW hLi hcl hd hdep hext hc hg hf => ?_
            rw [if_pos (show wantedR _ _ _ = true from rfl)]
            have e22 : ρ (.tmp 22) = .slice (some ⟨g2, o2, none⟩) n cb := hdep 5 _ rfl (by kernel_rfl)
            have e23 : ρ (.tmp 23) = .int .i64 (k : Int) := hdep 6 _ rfl (by kernel_rfl)
            have q0 : (0 : Int) ≤ (k : Int) := by omega
            have q1 : (k : Int) < (n : Int) := by omega
            have q2 : k < n := by omega
            clear hdep hext hcl
            have HW := Lib.hid hW
            clear hW
            unfold OpDone
            go_simp
            exact ⟨rfl, Upd.refl _ _, HW.out⟩
          · refine fun ρ w' L hW hLi hcl hd hdep hext hc hg hf => ?_
            rw [if_pos (show wantedR _ _ _ = true from rfl)]
            have e24 : ρ (.tmp 24) = .pointer (some ⟨g2, o2 + k, none⟩) := hdep 7 _ rfl (by kernel_rfl)
            have yy : w'.cell? ⟨g2, o2 + k, none⟩ = some (.slice Av t.length cv) := hW.cell XB.out (fun h => h)
            clear hdep hext hcl
            have HW := Lib.hid hW
            clear hW
            unfold OpDone
            go_simp
            exact ⟨rfl, Upd.refl _ _, HW.out⟩
          · refine fun ρ w' L hW hLi hcl hd hdep hext hc hg hf => ?_
            rw [if_pos (show wantedR _ _ _ = true from rfl)]
            have e25 : ρ (.tmp 25) = .slice Av t.length cv := hdep 8 _ rfl (by kernel_rfl)
            have kk := STB.out w' hW
            clear hdep hext hcl
            have HW := Lib.hid hW
            clear hW
            unfold OpDone
            go_simp
            exact ⟨rfl, Upd.refl _ _, HW.out⟩
          · refine fun ρ w' L hW hLi hcl hd hdep hext hc hg hf => ?_
            rw [if_pos (show wantedR _ _ _ = true from rfl)]
            have e21 : ρ (.tmp 21) = strV s := hdep 4 _ rfl (by kernel_rfl)
            have e26 : ρ (.tmp 26) = strV t := hdep 9 _ rfl (by kernel_rfl)
            have gg := GEQ.out
            clear hdep hext hcl
            have HW := Lib.hid hW
            clear hW
            unfold OpDone
            go_simp
            exact ⟨rfl, Upd.refl _ _, HW.out⟩
        intro vs W8 L8 hL8 hW8 hR
        have hv0 : vs 0 = .slice (some ⟨g, o, none⟩) n ca := hR 0 _ rfl
        have hv1 : vs 1 = .int .i64 (k : Int) := hR 1 _ rfl
        have hv2 : vs 2 = .pointer (some ⟨g, o + k, none⟩) := hR 2 _ rfl
        have hv3 : vs 3 = .slice Au s.length cu := hR 3 _ rfl
        have hv4 : vs 4 = strV s := hR 4 _ rfl
        have hv5 : vs 5 = .slice (some ⟨g2, o2, none⟩) n cb := hR 5 _ rfl
        have hv6 : vs 6 = .int .i64 (k : Int) := hR 6 _ rfl
        have hv7 : vs 7 = .pointer (some ⟨g2, o2 + k, none⟩) := hR 7 _ rfl
        have hv8 : vs 8 = .slice Av t.length cv := hR 8 _ rfl
        have hv9 : vs 9 = strV t := hR 9 _ rfl
        have hv10 : vs 10 = .bool true := hR 10 _ rfl
        simp only [putAll, Act.put, List.setIfInBounds_toArray, List.set_cons_zero, List.set_cons_succ, hv0, hv1, hv2, hv3, hv4, hv5, hv6, hv7, hv8, hv9, hv10]
        clear hR hv0 hv1 hv2 hv3 hv4 hv5 hv6 hv7 hv8 hv9 hv10
        have U8 := Lib.hid (show Upd NoF w W8 from (HU.out.drew).trans hW8 (fun _ _ h => h))
        clear hW8 hL8
        go_wp2
        go_ret
        exact ⟨retb (by rw [← HZ.out, decide_eq_false HCH.out]), U8.out⟩
    · have t1 : decide ((k : Int) < (n : Int)) = false := by simp; omega
      have HCV := Lib.hid (hch.end_ hll (by omega))
      clear hnn hch hu hll
      go_wp2
      go_ret
      exact ⟨retb (by rw [← HZ.out, decide_eq_true HCV.out]), HU.out⟩
end

section
open Go.RowKit

theorem view_eq {V V' : ViewS} : decide (V = V') = (decide (V.votes = V'.votes) && decide (V.texts = V'.texts)) := by
  rw [Bool.eq_iff_iff, Bool.and_eq_true, decide_eq_true_eq, decide_eq_true_eq, decide_eq_true_eq]
  exact ⟨fun e => by rw [e]; exact ⟨rfl, rfl⟩, fun ⟨e1, e2⟩ => ViewS.ext' e1 e2⟩
set_option maxRecDepth 100000 in
set_option maxHeartbeats 8000000 in
theorem SameView_any {w : World} {a b a' b' : Value} {V V' : ViewS} (h : VwR w a b V) (h' : VwR w a' b' V') (hs1 : V.votes.length ≤ 1099511627776) (hs2 : V.texts.length ≤ 1099511627776) (hs1' : V'.votes.length ≤ 1099511627776) (hs2' : V'.texts.length ≤ 1099511627776) : Calls Tryz.prog 12 #[.agg #[a, b], .agg #[a', b']] w fun e w' => e = .returned (.bool (decide (V = V'))) ∧ Upd NoF w w' := by
  obtain ⟨A, ca, rfl, hlc, hcm⟩ := h.1.form
  obtain ⟨A', cb, rfl, hlc', hcm'⟩ := h'.1.form
  obtain ⟨Tx, ta, rfl, -, -⟩ := h.2.form
  obtain ⟨Tx', tb, rfl, -, -⟩ := h'.2.form
  have HA := Lib.hid h.1
  have HB := Lib.hid h'.1
  have HTA := Lib.hid h.2
  have HTB := Lib.hid h'.2
  obtain ⟨tA, htA⟩ : ∃ x, Value.slice Tx V.texts.length ta = x := ⟨_, rfl⟩
  obtain ⟨tB, htB⟩ : ∃ x, Value.slice Tx' V'.texts.length tb = x := ⟨_, rfl⟩
  rw [htA] at HTA ⊢
  rw [htB] at HTB ⊢
  have OA := Lib.hid (show tA.oneCell' = true from by rw [← htA]; rfl)
  have OB := Lib.hid (show tB.oneCell' = true from by rw [← htB]; rfl)
  obtain ⟨n, hn⟩ : ∃ n, V.votes.length = n := ⟨_, rfl⟩
  obtain ⟨n', hn'⟩ : ∃ n, V'.votes.length = n := ⟨_, rfl⟩
  have HN := Lib.hid hn
  have HN' := Lib.hid hn'
  have B1 := Lib.hid ((Blk.new w 25 #[.slice A V.votes.length ca, tA]).alloc (.cells #[.slice A' V'.votes.length cb, tB] 25))
  have B2 := Lib.hid (show Blk ((w.alloc (.cells #[.slice A V.votes.length ca, tA] 25)).alloc (.cells #[.slice A' V'.votes.length cb, tB] 25)) (w.heap.size + 1) 25 #[.slice A' V'.votes.length cb, tB] from by have := Blk.new (w.alloc (.cells #[.slice A V.votes.length ca, tA] 25)) 25 #[.slice A' V'.votes.length cb, tB]; simpa using this)
  have UW := Lib.hid (((Upd.refl NoF w).alloc (.cells #[.slice A V.votes.length ca, tA] 25)).alloc (.cells #[.slice A' V'.votes.length cb, tB] 25))
  rw [hn] at hlc hs1 HA B1 B2 UW ⊢
  rw [hn'] at hlc' hs1' HB B1 B2 UW ⊢
  obtain ⟨W1, hW1⟩ : ∃ x, x = (w.alloc (.cells #[.slice A n ca, tA] 25)).alloc (.cells #[.slice A' n' cb, tB] 25) := ⟨_, rfl⟩
  rw [← hW1] at B1 B2 UW
  have HZ := Lib.hid (view_eq (V := V) (V' := V'))
  generalize decide (V = V') = Z at HZ ⊢
  clear h h' htA htB hn hn'
  have c10 : W1.cell? ⟨w.heap.size, 0, none⟩ = some (.slice A n ca) := B1.out.cell 0
  have c20 : W1.cell? ⟨(w.heap.size + 1), 0, none⟩ = some (.slice A' n' cb) := B2.out.cell 0
  by_cases hlen : n = n'
  rotate_left
  · have t0 : decide ((n : Int) = (n' : Int)) = false := by simp; omega
    have t0' : decide (n = n') = false := by simp; omega
    have HV := Lib.hid (show decide (V.votes = V'.votes) = false from by rw [decide_eq_false_iff_not]; intro e; exact hlen (by rw [← HN.out, ← HN'.out, e]))
    go_enter Tryz.func12, Tryz.ntmps12
    go_wp2
    go_ret
    refine ⟨retb (by rw [HZ.out, HV.out]; rfl), ?_⟩
    rw [← hW1]
    exact UW.out
  have HL := Lib.hid hlen
  subst hlen
  go_enter Tryz.func12, Tryz.ntmps12
  go_wp2
  rw [← hW1]
  clear hW1 c10 c20
  go_loopw [5] (fun i wr => SameRel V.votes V'.votes W1 i wr) (fun i _ => n - (intOf i).toNat)
  case atStart => exact ⟨0, rfl, by omega, fun j h => absurd h (by omega), Upd.refl _ _⟩
  case round =>
    obtain ⟨k, rfl, hk, hch, hu⟩ := hrel
    have hnn := HN.out
    have hll := HN'.out
    have HU := Lib.hid hu
    have c00 : wr.cell? ⟨w.heap.size, 0, none⟩ = some (.slice A n ca) := (hu.blk B1.out (fun h => h)).cell 0
    by_cases hlt : k < n
    · obtain ⟨s, hx⟩ : ∃ x, V.votes[k]? = some x := ⟨_, List.getElem?_eq_getElem (by omega)⟩
      obtain ⟨t, hy⟩ : ∃ x, V'.votes[k]? = some x := ⟨_, List.getElem?_eq_getElem (by omega)⟩
      have t1 : decide ((k : Int) < (n : Int)) = true := by simp; omega
      by_cases he : s = t
      · have HCH := Lib.hid (hch.next hx hy he)
        obtain ⟨g, o, Au, cu, rfl, r1, r2, -⟩ := (HA.out.keep (UW.out.trans hu (fun _ _ h => h))).at_ hx
        obtain ⟨g2, o2, Av, cv, rfl, r3, r4, -⟩ := (HB.out.keep (UW.out.trans hu (fun _ _ h => h))).at_ hy
        have FS := Lib.hid (HA.out.fit hx)
        have FT := Lib.hid (HB.out.fit hy)
        have c0 : wr.drew.cell? ⟨w.heap.size, 0, none⟩ = some (.slice (some ⟨g, o, none⟩) n ca) := (hu.blk B1.out (fun h => h)).cell 0
        have c1 : wr.drew.cell? ⟨(w.heap.size + 1), 0, none⟩ = some (.slice (some ⟨g2, o2, none⟩) n cb) := (hu.blk B2.out (fun h => h)).cell 0
        have RA := Lib.hid (show ∀ wq, Upd NoF wr.drew wq → wq.rangeAt g (o + k * 23) (rowS s (.slice Au s.sig.length cu)) from fun wq hq j x hj => hq.cell (r1 j x hj) (fun h => h))
        have RB := Lib.hid (show ∀ wq, Upd NoF wr.drew wq → wq.rangeAt g2 (o2 + k * 23) (rowS t (.slice Av t.sig.length cv)) from fun wq hq j x hj => hq.cell (r3 j x hj) (fun h => h))
        obtain ⟨ra, hra⟩ : ∃ z, (rowS s (.slice Au s.sig.length cu)).toArray = z := ⟨_, rfl⟩
        obtain ⟨rb, hrb⟩ : ∃ z, (rowS t (.slice Av t.sig.length cv)).toArray = z := ⟨_, rfl⟩
        have HRA := Lib.hid hra
        have HRB := Lib.hid hrb
        have CALL := Lib.hid (show ∀ wq, Upd NoF wr.drew wq → Calls Tryz.prog 41 #[.agg ra, .agg rb] wq (fun e w' => e = .returned (.bool true) ∧ Upd NoF wq w') from fun wq hq => by
          rw [← hra, ← hrb]
          have h := SameSigned_any FS.out FT.out wq (Rd.keep r2 ((((Upd.refl NoF wr).drew)).trans hq (fun _ _ h => h))) (Rd.keep r4 ((((Upd.refl NoF wr).drew)).trans hq (fun _ _ h => h)))
          rw [show decide (s = t) = true by simp [he]] at h
          exact h)
        clear r1 r2 r3 r4 hra hrb
        clear hx hy hch he hu hnn hll
        go_wp2
        refine wp_region_rgw (rgR [isV (.pointer (some ⟨w.heap.size, 0, none⟩)), isV (.slice (some ⟨g, o, none⟩) n ca), isV (.int .i64 (k : Int)), isV (.pointer (some ⟨g, o + k * 23, none⟩)), isV (.agg ra), isV (.pointer (some ⟨(w.heap.size + 1), 0, none⟩)), isV (.slice (some ⟨g2, o2, none⟩) n cb), isV (.int .i64 (k : Int)), isV (.pointer (some ⟨g2, o2 + k * 23, none⟩)), isV (.agg rb), isV (.bool true), isV (.bool false)]) (fun w w' => Upd NoF w w') (fun _ wq => Upd NoF wr.drew wq) (by kernel_rfl) (by kernel_rfl) (by kernel_rfl) (by rfl) (fun w => Upd.refl _ _) (rgR_keep (by
          intro p hp; simp only [List.mem_cons, List.not_mem_nil, or_false] at hp; rcases hp with rfl | rfl | rfl | rfl | rfl | rfl | rfl | rfl | rfl | rfl | rfl | rfl <;> first | exact stb_isV _ | exact stb_any)) (Upd.refl _ _) ?_ ?_
        · refine ⟨?_, ?_, ?_, ?_, ?_, ?_, ?_, ?_, ?_, ?_, ?_, ?_, trivial⟩
          · refine fun ρ w' L hW hLi hcl hd hdep hext hc hg hf => ?_
            rw [if_pos (show wantedR _ _ _ = true from rfl)]
            have e2 : ρ (.tmp 2) = .pointer (some ⟨w.heap.size, 0, none⟩) := hext 2 (by kernel_rfl)
            clear hdep hext hcl
            have HW := Lib.hid hW
            clear hW
            unfold OpDone
            go_simp
            exact ⟨rfl, Upd.refl _ _, HW.out⟩
          · refine fun ρ w' L hW hLi hcl hd hdep hext hc hg hf => ?_
            rw [if_pos (show wantedR _ _ _ = true from rfl)]
            have e20 : ρ (.tmp 20) = .pointer (some ⟨w.heap.size, 0, none⟩) := hdep 0 _ rfl (by kernel_rfl)
            have xx : w'.cell? ⟨w.heap.size, 0, none⟩ = some (.slice (some ⟨g, o, none⟩) n ca) := hW.cell c0 (fun h => h)
            clear hdep hext hcl
            have HW := Lib.hid hW
            clear hW
            unfold OpDone
            go_simp
            exact ⟨rfl, Upd.refl _ _, HW.out⟩
          · refine fun ρ w' L hW hLi hcl hd hdep hext hc hg hf => ?_
            rw [if_pos (show wantedR _ _ _ = true from rfl)]
            have e5 : ρ (.tmp 5) = .int .i64 (k : Int) := hext 5 (by kernel_rfl)
            clear hdep hext hcl
            have HW := Lib.hid hW
            clear hW
            unfold OpDone
            go_simp
            exact ⟨rfl, Upd.refl _ _, HW.out⟩
          · refine fun ρ w' L hW hLi hcl hd hdep hext hc hg hf => ?_
            rw [if_pos (show wantedR _ _ _ = true from rfl)]
            have e21 : ρ (.tmp 21) = .slice (some ⟨g, o, none⟩) n ca := hdep 1 _ rfl (by kernel_rfl)
            have e22 : ρ (.tmp 22) = .int .i64 (k : Int) := hdep 2 _ rfl (by kernel_rfl)
            have q0 : (0 : Int) ≤ (k : Int) := by omega
            have q1 : (k : Int) < (n : Int) := by omega
            have q2 : k < n := by omega
            clear hdep hext hcl
            have HW := Lib.hid hW
            clear hW
            unfold OpDone
            go_simp
            exact ⟨rfl, Upd.refl _ _, HW.out⟩
          · refine fun ρ w' L hW hLi hcl hd hdep hext hc hg hf => ?_
            rw [if_pos (show wantedR _ _ _ = true from rfl)]
            have e23 : ρ (.tmp 23) = .pointer (some ⟨g, o + k * 23, none⟩) := hdep 3 _ rfl (by kernel_rfl)
            clear hdep hext
            refine od_load_row 57 (.tmp 23) rfl g (o + k * 23) e23 (rowS s (.slice Au s.sig.length cu)) _ (RA.out w' hW) Tryz.underlying57 rfl (by rw [signed_size, rowS_len FS.out]) ?_
            rw [HRA.out]
            exact ⟨rfl, Upd.refl _ _, hW⟩
          · refine fun ρ w' L hW hLi hcl hd hdep hext hc hg hf => ?_
            rw [if_pos (show wantedR _ _ _ = true from rfl)]
            have e3 : ρ (.tmp 3) = .pointer (some ⟨(w.heap.size + 1), 0, none⟩) := hext 3 (by kernel_rfl)
            clear hdep hext hcl
            have HW := Lib.hid hW
            clear hW
            unfold OpDone
            go_simp
            exact ⟨rfl, Upd.refl _ _, HW.out⟩
          · refine fun ρ w' L hW hLi hcl hd hdep hext hc hg hf => ?_
            rw [if_pos (show wantedR _ _ _ = true from rfl)]
            have e25 : ρ (.tmp 25) = .pointer (some ⟨(w.heap.size + 1), 0, none⟩) := hdep 5 _ rfl (by kernel_rfl)
            have xx : w'.cell? ⟨(w.heap.size + 1), 0, none⟩ = some (.slice (some ⟨g2, o2, none⟩) n cb) := hW.cell c1 (fun h => h)
            clear hdep hext hcl
            have HW := Lib.hid hW
            clear hW
            unfold OpDone
            go_simp
            exact ⟨rfl, Upd.refl _ _, HW.out⟩
          · refine fun ρ w' L hW hLi hcl hd hdep hext hc hg hf => ?_
            rw [if_pos (show wantedR _ _ _ = true from rfl)]
            have e5 : ρ (.tmp 5) = .int .i64 (k : Int) := hext 5 (by kernel_rfl)
            clear hdep hext hcl
            have HW := Lib.hid hW
            clear hW
            unfold OpDone
            go_simp
            exact ⟨rfl, Upd.refl _ _, HW.out⟩
          · refine fun ρ w' L hW hLi hcl hd hdep hext hc hg hf => ?_
            rw [if_pos (show wantedR _ _ _ = true from rfl)]
            have e26 : ρ (.tmp 26) = .slice (some ⟨g2, o2, none⟩) n cb := hdep 6 _ rfl (by kernel_rfl)
            have e27 : ρ (.tmp 27) = .int .i64 (k : Int) := hdep 7 _ rfl (by kernel_rfl)
            have q0 : (0 : Int) ≤ (k : Int) := by omega
            have q1 : (k : Int) < (n : Int) := by omega
            have q2 : k < n := by omega
            clear hdep hext hcl
            have HW := Lib.hid hW
            clear hW
            unfold OpDone
            go_simp
            exact ⟨rfl, Upd.refl _ _, HW.out⟩
          · refine fun ρ w' L hW hLi hcl hd hdep hext hc hg hf => ?_
            rw [if_pos (show wantedR _ _ _ = true from rfl)]
            have e28 : ρ (.tmp 28) = .pointer (some ⟨g2, o2 + k * 23, none⟩) := hdep 8 _ rfl (by kernel_rfl)
            clear hdep hext
            refine od_load_row 57 (.tmp 28) rfl g2 (o2 + k * 23) e28 (rowS t (.slice Av t.sig.length cv)) _ (RB.out w' hW) Tryz.underlying57 rfl (by rw [signed_size, rowS_len FT.out]) ?_
            rw [HRB.out]
            exact ⟨rfl, Upd.refl _ _, hW⟩
          · refine fun ρ w' L hW hLi hcl hd hdep hext hc hg hf => ?_
            rw [if_pos (show wantedR _ _ _ = true from rfl)]
            have e24 : ρ (.tmp 24) = .agg ra := hdep 4 _ rfl (by kernel_rfl)
            have e29 : ρ (.tmp 29) = .agg rb := hdep 9 _ rfl (by kernel_rfl)
            clear hdep hext
            have CL := Lib.hid (CALL.out w' hW)
            have HW := Lib.hid hW
            clear hW
            unfold OpDone
            go_simp
            refine CL.out.mono ?_
            rintro e w5 ⟨rfl, hu5⟩
            exact ⟨_, rfl, rfl, hu5, HW.out.trans hu5 (fun _ _ f => f)⟩
          · refine fun ρ w' L hW hLi hcl hd hdep hext hc hg hf => ?_
            rw [if_pos (show wantedR _ _ _ = true from rfl)]
            have e30 : ρ (.tmp 30) = .bool true := hdep 10 _ rfl (by kernel_rfl)
            clear hdep hext hcl
            have HW := Lib.hid hW
            clear hW
            unfold OpDone
            go_simp
            exact ⟨rfl, Upd.refl _ _, HW.out⟩
        intro vs W8 L8 hL8 hW8 hR
        have hv0 : vs 0 = .pointer (some ⟨w.heap.size, 0, none⟩) := hR 0 _ rfl
        have hv1 : vs 1 = .slice (some ⟨g, o, none⟩) n ca := hR 1 _ rfl
        have hv2 : vs 2 = .int .i64 (k : Int) := hR 2 _ rfl
        have hv3 : vs 3 = .pointer (some ⟨g, o + k * 23, none⟩) := hR 3 _ rfl
        have hv4 : vs 4 = .agg ra := hR 4 _ rfl
        have hv5 : vs 5 = .pointer (some ⟨(w.heap.size + 1), 0, none⟩) := hR 5 _ rfl
        have hv6 : vs 6 = .slice (some ⟨g2, o2, none⟩) n cb := hR 6 _ rfl
        have hv7 : vs 7 = .int .i64 (k : Int) := hR 7 _ rfl
        have hv8 : vs 8 = .pointer (some ⟨g2, o2 + k * 23, none⟩) := hR 8 _ rfl
        have hv9 : vs 9 = .agg rb := hR 9 _ rfl
        have hv10 : vs 10 = .bool true := hR 10 _ rfl
        have hv11 : vs 11 = .bool false := hR 11 _ rfl
        simp only [putAll, Act.put, List.setIfInBounds_toArray, List.set_cons_zero, List.set_cons_succ, hv0, hv1, hv2, hv3, hv4, hv5, hv6, hv7, hv8, hv9, hv10, hv11]
        clear hR hv0 hv1 hv2 hv3 hv4 hv5 hv6 hv7 hv8 hv9 hv10 hv11
        have U8 := Lib.hid (show Upd NoF W1 W8 from (HU.out.drew).trans hW8 (fun _ _ h => h))
        clear hW8 hL8 c00 c0 c1
        go_wp2
        go_roundw
        case rel => exact ⟨k + 1, by go_num, by have := HN.out; omega, HCH.out, U8.out⟩
        case measure => simp [intOf]; omega
      · have HCH := Lib.hid (same_no hx hy he)
        obtain ⟨g, o, Au, cu, rfl, r1, r2, -⟩ := (HA.out.keep (UW.out.trans hu (fun _ _ h => h))).at_ hx
        obtain ⟨g2, o2, Av, cv, rfl, r3, r4, -⟩ := (HB.out.keep (UW.out.trans hu (fun _ _ h => h))).at_ hy
        have FS := Lib.hid (HA.out.fit hx)
        have FT := Lib.hid (HB.out.fit hy)
        have c0 : wr.drew.cell? ⟨w.heap.size, 0, none⟩ = some (.slice (some ⟨g, o, none⟩) n ca) := (hu.blk B1.out (fun h => h)).cell 0
        have c1 : wr.drew.cell? ⟨(w.heap.size + 1), 0, none⟩ = some (.slice (some ⟨g2, o2, none⟩) n cb) := (hu.blk B2.out (fun h => h)).cell 0
        have RA := Lib.hid (show ∀ wq, Upd NoF wr.drew wq → wq.rangeAt g (o + k * 23) (rowS s (.slice Au s.sig.length cu)) from fun wq hq j x hj => hq.cell (r1 j x hj) (fun h => h))
        have RB := Lib.hid (show ∀ wq, Upd NoF wr.drew wq → wq.rangeAt g2 (o2 + k * 23) (rowS t (.slice Av t.sig.length cv)) from fun wq hq j x hj => hq.cell (r3 j x hj) (fun h => h))
        obtain ⟨ra, hra⟩ : ∃ z, (rowS s (.slice Au s.sig.length cu)).toArray = z := ⟨_, rfl⟩
        obtain ⟨rb, hrb⟩ : ∃ z, (rowS t (.slice Av t.sig.length cv)).toArray = z := ⟨_, rfl⟩
        have HRA := Lib.hid hra
        have HRB := Lib.hid hrb
        have CALL := Lib.hid (show ∀ wq, Upd NoF wr.drew wq → Calls Tryz.prog 41 #[.agg ra, .agg rb] wq (fun e w' => e = .returned (.bool false) ∧ Upd NoF wq w') from fun wq hq => by
          rw [← hra, ← hrb]
          have h := SameSigned_any FS.out FT.out wq (Rd.keep r2 ((((Upd.refl NoF wr).drew)).trans hq (fun _ _ h => h))) (Rd.keep r4 ((((Upd.refl NoF wr).drew)).trans hq (fun _ _ h => h)))
          rw [show decide (s = t) = false by simp [he]] at h
          exact h)
        clear r1 r2 r3 r4 hra hrb
        clear hx hy hch he hu hnn hll
        go_wp2
        refine wp_region_rgw (rgR [isV (.pointer (some ⟨w.heap.size, 0, none⟩)), isV (.slice (some ⟨g, o, none⟩) n ca), isV (.int .i64 (k : Int)), isV (.pointer (some ⟨g, o + k * 23, none⟩)), isV (.agg ra), isV (.pointer (some ⟨(w.heap.size + 1), 0, none⟩)), isV (.slice (some ⟨g2, o2, none⟩) n cb), isV (.int .i64 (k : Int)), isV (.pointer (some ⟨g2, o2 + k * 23, none⟩)), isV (.agg rb), isV (.bool false), isV (.bool true)]) (fun w w' => Upd NoF w w') (fun _ wq => Upd NoF wr.drew wq) (by kernel_rfl) (by kernel_rfl) (by kernel_rfl) (by rfl) (fun w => Upd.refl _ _) (rgR_keep (by
          intro p hp; simp only [List.mem_cons, List.not_mem_nil, or_false] at hp; rcases hp with rfl | rfl | rfl | rfl | rfl | rfl | rfl | rfl | rfl | rfl | rfl | rfl <;> first | exact stb_isV _ | exact stb_any)) (Upd.refl _ _) ?_ ?_
        · refine ⟨?_, ?_, ?_, ?_, ?_, ?_, ?_, ?_, ?_, ?_, ?_, ?_, trivial⟩
          · refine fun ρ w' L hW hLi hcl hd hdep hext hc hg hf => ?_
            rw [if_pos (show wantedR _ _ _ = true from rfl)]
            have e2 : ρ (.tmp 2) = .pointer (some ⟨w.heap.size, 0, none⟩) := hext 2 (by kernel_rfl)
            clear hdep hext hcl
            have HW := Lib.hid hW
            clear hW
            unfold OpDone
            go_simp
            exact ⟨rfl, Upd.refl _ _, HW.out⟩
          · refine fun ρ w' L hW hLi hcl hd hdep hext hc hg hf => ?_
            rw [if_pos (show wantedR _ _ _ = true from rfl)]
            have e20 : ρ (.tmp 20) = .pointer (some ⟨w.heap.size, 0, none⟩) := hdep 0 _ rfl (by kernel_rfl)
            have xx : w'.cell? ⟨w.heap.size, 0, none⟩ = some (.slice (some ⟨g, o, none⟩) n ca) := hW.cell c0 (fun h => h)
            clear hdep hext hcl
            have HW := Lib.hid hW
            clear hW
            unfold OpDone
            go_simp
            exact ⟨rfl, Upd.refl _ _, HW.out⟩
          · refine fun ρ w' L hW hLi hcl hd hdep hext hc hg hf => ?_
            rw [if_pos (show wantedR _ _ _ = true from rfl)]
            have e5 : ρ (.tmp 5) = .int .i64 (k : Int) := hext 5 (by kernel_rfl)
            clear hdep hext hcl
            have HW := Lib.hid hW
            clear hW
            unfold OpDone
            go_simp
            exact ⟨rfl, Upd.refl _ _, HW.out⟩
          · refine fun ρ w' L hW hLi hcl hd hdep hext hc hg hf => ?_
            rw [if_pos (show wantedR _ _ _ = true from rfl)]
            have e21 : ρ (.tmp 21) = .slice (some ⟨g, o, none⟩) n ca := hdep 1 _ rfl (by kernel_rfl)
            have e22 : ρ (.tmp 22) = .int .i64 (k : Int) := hdep 2 _ rfl (by kernel_rfl)
            have q0 : (0 : Int) ≤ (k : Int) := by omega
            have q1 : (k : Int) < (n : Int) := by omega
            have q2 : k < n := by omega
            clear hdep hext hcl
            have HW := Lib.hid hW
            clear hW
            unfold OpDone
            go_simp
            exact ⟨rfl, Upd.refl _ _, HW.out⟩
          · refine fun ρ w' L hW hLi hcl hd hdep hext hc hg hf => ?_
            rw [if_pos (show wantedR _ _ _ = true from rfl)]
            have e23 : ρ (.tmp 23) = .pointer (some ⟨g, o + k * 23, none⟩) := hdep 3 _ rfl (by kernel_rfl)
            clear hdep hext
            refine od_load_row 57 (.tmp 23) rfl g (o + k * 23) e23 (rowS s (.slice Au s.sig.length cu)) _ (RA.out w' hW) Tryz.underlying57 rfl (by rw [signed_size, rowS_len FS.out]) ?_
            rw [HRA.out]
            exact ⟨rfl, Upd.refl _ _, hW⟩
          · refine fun ρ w' L hW hLi hcl hd hdep hext hc hg hf => ?_
            rw [if_pos (show wantedR _ _ _ = true from rfl)]
            have e3 : ρ (.tmp 3) = .pointer (some ⟨(w.heap.size + 1), 0, none⟩) := hext 3 (by kernel_rfl)
            clear hdep hext hcl
            have HW := Lib.hid hW
            clear hW
            unfold OpDone
            go_simp
            exact ⟨rfl, Upd.refl _ _, HW.out⟩
          · refine fun ρ w' L hW hLi hcl hd hdep hext hc hg hf => ?_
            rw [if_pos (show wantedR _ _ _ = true from rfl)]
            have e25 : ρ (.tmp 25) = .pointer (some ⟨(w.heap.size + 1), 0, none⟩) := hdep 5 _ rfl (by kernel_rfl)
            have xx : w'.cell? ⟨(w.heap.size + 1), 0, none⟩ = some (.slice (some ⟨g2, o2, none⟩) n cb) := hW.cell c1 (fun h => h)
            clear hdep hext hcl
            have HW := Lib.hid hW
            clear hW
            unfold OpDone
            go_simp
            exact ⟨rfl, Upd.refl _ _, HW.out⟩
          · refine fun ρ w' L hW hLi hcl hd hdep hext hc hg hf => ?_
            rw [if_pos (show wantedR _ _ _ = true from rfl)]
            have e5 : ρ (.tmp 5) = .int .i64 (k : Int) := hext 5 (by kernel_rfl)
            clear hdep hext hcl
            have HW := Lib.hid hW
            clear hW
            unfold OpDone
            go_simp
            exact ⟨rfl, Upd.refl _ _, HW.out⟩
          · refine fun ρ w' L hW hLi hcl hd hdep hext hc hg hf => ?_
            rw [if_pos (show wantedR _ _ _ = true from rfl)]
            have e26 : ρ (.tmp 26) = .slice (some ⟨g2, o2, none⟩) n cb := hdep 6 _ rfl (by kernel_rfl)
            have e27 : ρ (.tmp 27) = .int .i64 (k : Int) := hdep 7 _ rfl (by kernel_rfl)
            have q0 : (0 : Int) ≤ (k : Int) := by omega
            have q1 : (k : Int) < (n : Int) := by omega
            have q2 : k < n := by omega
            clear hdep hext hcl
            have HW := Lib.hid hW
            clear hW
            unfold OpDone
            go_simp
            exact ⟨rfl, Upd.refl _ _, HW.out⟩
          · refine fun ρ w' L hW hLi hcl hd hdep hext hc hg hf => ?_
            rw [if_pos (show wantedR _ _ _ = true from rfl)]
            have e28 : ρ (.tmp 28) = .pointer (some ⟨g2, o2 + k * 23, none⟩) := hdep 8 _ rfl (by kernel_rfl)
            clear hdep hext
            refine od_load_row 57 (.tmp 28) rfl g2 (o2 + k * 23) e28 (rowS t (.slice Av t.sig.length cv)) _ (RB.out w' hW) Tryz.underlying57 rfl (by rw [signed_size, rowS_len FT.out]) ?_
            rw [HRB.out]
            exact ⟨rfl, Upd.refl _ _, hW⟩
          · refine fun ρ w' L hW hLi hcl hd hdep hext hc hg hf => ?_
            rw [if_pos (show wantedR _ _ _ = true from rfl)]
            have e24 : ρ (.tmp 24) = .agg ra := hdep 4 _ rfl (by kernel_rfl)
            have e29 : ρ (.tmp 29) = .agg rb := hdep 9 _ rfl (by kernel_rfl)
            clear hdep hext
            have CL := Lib.hid (CALL.out w' hW)
            have HW := Lib.hid hW
            clear hW
            unfold OpDone
            go_simp
            refine CL.out.mono ?_
            rintro e w5 ⟨rfl, hu5⟩
            exact ⟨_, rfl, rfl, hu5, HW.out.trans hu5 (fun _ _ f => f)⟩
          · refine fun ρ w' L hW hLi hcl hd hdep hext hc hg hf => ?_
            rw [if_pos (show wantedR _ _ _ = true from rfl)]
            have e30 : ρ (.tmp 30) = .bool false := hdep 10 _ rfl (by kernel_rfl)
            clear hdep hext hcl
            have HW := Lib.hid hW
            clear hW
            unfold OpDone
            go_simp
            exact ⟨rfl, Upd.refl _ _, HW.out⟩
        intro vs W8 L8 hL8 hW8 hR
        have hv0 : vs 0 = .pointer (some ⟨w.heap.size, 0, none⟩) := hR 0 _ rfl
        have hv1 : vs 1 = .slice (some ⟨g, o, none⟩) n ca := hR 1 _ rfl
        have hv2 : vs 2 = .int .i64 (k : Int) := hR 2 _ rfl
        have hv3 : vs 3 = .pointer (some ⟨g, o + k * 23, none⟩) := hR 3 _ rfl
        have hv4 : vs 4 = .agg ra := hR 4 _ rfl
        have hv5 : vs 5 = .pointer (some ⟨(w.heap.size + 1), 0, none⟩) := hR 5 _ rfl
        have hv6 : vs 6 = .slice (some ⟨g2, o2, none⟩) n cb := hR 6 _ rfl
        have hv7 : vs 7 = .int .i64 (k : Int) := hR 7 _ rfl
        have hv8 : vs 8 = .pointer (some ⟨g2, o2 + k * 23, none⟩) := hR 8 _ rfl
        have hv9 : vs 9 = .agg rb := hR 9 _ rfl
        have hv10 : vs 10 = .bool false := hR 10 _ rfl
        have hv11 : vs 11 = .bool true := hR 11 _ rfl
        simp only [putAll, Act.put, List.setIfInBounds_toArray, List.set_cons_zero, List.set_cons_succ, hv0, hv1, hv2, hv3, hv4, hv5, hv6, hv7, hv8, hv9, hv10, hv11]
        clear hR hv0 hv1 hv2 hv3 hv4 hv5 hv6 hv7 hv8 hv9 hv10 hv11
        have U8 := Lib.hid (show Upd NoF W1 W8 from (HU.out.drew).trans hW8 (fun _ _ h => h))
        clear hW8 hL8 c00 c0 c1
        go_wp2
        go_ret
        exact ⟨retb (by rw [HZ.out, decide_eq_false HCH.out]; rfl), UW.out.trans U8.out (fun _ _ h => h)⟩
    · have t1 : decide ((k : Int) < (n : Int)) = false := by simp; omega
      have HCV := Lib.hid (hch.end_ (by rw [hnn, hll]) (by omega))
      have d1 : wr.cell? ⟨w.heap.size, 1, none⟩ = some tA := (hu.blk B1.out (fun h => h)).cell 1
      have d2 : wr.cell? ⟨(w.heap.size + 1), 1, none⟩ = some tB := (hu.blk B2.out (fun h => h)).cell 1
      have CT := Lib.hid (SameTexts_any (HTA.out.keep (UW.out.trans hu (fun _ _ h => h))) (HTB.out.keep (UW.out.trans hu (fun _ _ h => h))) hs2 hs2')
      clear hnn hch hu hll
      go_wp2_with fail
      refine CT.out.mono ?_
      rintro e w3 ⟨rfl, hu3⟩
      have U3 := Lib.hid hu3
      clear hu3
      go_wp2
      go_ret
      exact ⟨retb (by rw [HZ.out, decide_eq_true HCV.out, Bool.true_and]), UW.out.trans (HU.out.trans U3.out (fun _ _ h => h)) (fun _ _ h => h)⟩
end

section
open Go.RowKit

def fnV (k : Nat) : Value := .func (.func k) #[] #[]

set_option maxRecDepth 100000 in
set_option maxHeartbeats 4000000 in
theorem equalVotes_ne {s t : SignedS} {u v : Value} (hf : s.vote.Fit) (hg : t.vote.Fit) (w : World) (hu : Rd w 1 u s.sig.length (s.sig.map byteV)) (hv : Rd w 1 v t.sig.length (t.sig.map byteV)) (he : s.vote ≠ t.vote) : Calls Tryz.prog 63 #[.agg (rowS s u).toArray, .agg (rowS t v).toArray] w fun e w' => e = .returned (.bool (decide (s = t))) ∧ Upd NoF w w' := by
  have HZ := Lib.hid (show decide (s = t) = false from by rw [decide_eq_false_iff_not]; intro e; exact he (by rw [e]))
  have hne : ∀ w, (binOp .eql 55 (voteV s.vote) (voteV t.vote)).run Tryz.prog w = .ok (.bool false) w := fun w => by rw [vote_eql _ _ hf hg]; simp [he]
  obtain ⟨A, c, rfl, hlc, hcm⟩ := hu.slice
  obtain ⟨B, d, rfl, hld, hdm⟩ := hv.slice
  obtain ⟨za, hza⟩ : ∃ z, voteV s.vote = .agg z := ⟨_, rfl⟩
  obtain ⟨zb, hzb⟩ : ∃ z, voteV t.vote = .agg z := ⟨_, rfl⟩
  rw [hza, hzb] at hne
  have HZA := Lib.hid hza
  have HZB := Lib.hid hzb
  have HF := Lib.hid hf
  have HG := Lib.hid hg
  obtain ⟨ra, hra⟩ : ∃ row, (rowS s (.slice A s.sig.length c)).toArray = row := ⟨_, rfl⟩
  obtain ⟨rb, hrb⟩ : ∃ row, (rowS t (.slice B t.sig.length d)).toArray = row := ⟨_, rfl⟩
  rw [hra, hrb]
  have HRA := Lib.hid hra
  have HRB := Lib.hid hrb
  have RA := Lib.hid (show ∀ W, Blk W w.heap.size 57 ra → W.rangeAt w.heap.size 0 (rowS s (.slice A s.sig.length c)) from fun W h => by rw [← HRA.out] at h; exact range_blk h)
  have RB := Lib.hid (show ∀ W, Blk W (w.heap.size + 1) 57 rb → W.rangeAt (w.heap.size + 1) 0 (rowS t (.slice B t.sig.length d)) from fun W h => by rw [← HRB.out] at h; exact range_blk h)
  have ba : Blk ((w.alloc (.cells ra 57)).alloc (.cells rb 57)) w.heap.size 57 ra := (Blk.new w 57 ra).alloc _
  have bb : Blk ((w.alloc (.cells ra 57)).alloc (.cells rb 57)) (w.heap.size + 1) 57 rb := by have := Blk.new (w.alloc (.cells ra 57)) 57 rb; simpa using this
  have BA := Lib.hid ba
  have BB := Lib.hid bb
  clear hf hg hu hv hza hzb hra hrb hcm hdm ba bb he
  generalize decide (s = t) = Z at HZ ⊢
  go_enter Tryz.func63, Tryz.ntmps63
  go_wp2_with (first
    | (refine wpList_load_vote' rfl (.tmp 5) rfl w.heap.size 0 rfl s.vote HF.out (range_vote (RA.out _ BA.out)) (.agg za) HZA.out ?_)
    | (refine wpList_load_vote' rfl (.tmp 7) rfl (w.heap.size + 1) 0 rfl t.vote HG.out (range_vote (RB.out _ BB.out)) (.agg zb) HZB.out ?_))
  go_ret
  exact ⟨retb HZ.out.symm, ((Upd.refl NoF w).alloc _).alloc _⟩

set_option maxRecDepth 100000 in
set_option maxHeartbeats 4000000 in
theorem equalVotes_eq {s t : SignedS} {u v : Value} (hf : s.vote.Fit) (hg : t.vote.Fit) (w : World) (hu : Rd w 1 u s.sig.length (s.sig.map byteV)) (hv : Rd w 1 v t.sig.length (t.sig.map byteV)) (he : s.vote = t.vote) : Calls Tryz.prog 63 #[.agg (rowS s u).toArray, .agg (rowS t v).toArray] w fun e w' => e = .returned (.bool (decide (s = t))) ∧ Upd NoF w w' := by
  have HZ := Lib.hid (show decide (s = t) = (s.sig == t.sig) from by
    rw [Bool.eq_iff_iff, decide_eq_true_eq, beq_iff_eq]
    exact ⟨fun e => by rw [e], fun e => SignedS.ext' he e⟩)
  have hne : ∀ w, (binOp .eql 55 (voteV s.vote) (voteV t.vote)).run Tryz.prog w = .ok (.bool true) w := fun w => by rw [vote_eql _ _ hf hg]; simp [he]
  obtain ⟨A, c, rfl, hlc, hcm⟩ := hu.slice
  obtain ⟨B, d, rfl, hld, hdm⟩ := hv.slice
  obtain ⟨za, hza⟩ : ∃ z, voteV s.vote = .agg z := ⟨_, rfl⟩
  obtain ⟨zb, hzb⟩ : ∃ z, voteV t.vote = .agg z := ⟨_, rfl⟩
  rw [hza, hzb] at hne
  have HZA := Lib.hid hza
  have HZB := Lib.hid hzb
  have HF := Lib.hid hf
  have HG := Lib.hid hg
  obtain ⟨ra, hra⟩ : ∃ row, (rowS s (.slice A s.sig.length c)).toArray = row := ⟨_, rfl⟩
  obtain ⟨rb, hrb⟩ : ∃ row, (rowS t (.slice B t.sig.length d)).toArray = row := ⟨_, rfl⟩
  rw [hra, hrb]
  have HRA := Lib.hid hra
  have HRB := Lib.hid hrb
  have RA := Lib.hid (show ∀ W, Blk W w.heap.size 57 ra → W.rangeAt w.heap.size 0 (rowS s (.slice A s.sig.length c)) from fun W h => by rw [← HRA.out] at h; exact range_blk h)
  have RB := Lib.hid (show ∀ W, Blk W (w.heap.size + 1) 57 rb → W.rangeAt (w.heap.size + 1) 0 (rowS t (.slice B t.sig.length d)) from fun W h => by rw [← HRB.out] at h; exact range_blk h)
  have ba : Blk ((w.alloc (.cells ra 57)).alloc (.cells rb 57)) w.heap.size 57 ra := (Blk.new w 57 ra).alloc _
  have bb : Blk ((w.alloc (.cells ra 57)).alloc (.cells rb 57)) (w.heap.size + 1) 57 rb := by have := Blk.new (w.alloc (.cells ra 57)) 57 rb; simpa using this
  have BA := Lib.hid ba
  have BB := Lib.hid bb
  have c1 : ((w.alloc (.cells ra 57)).alloc (.cells rb 57)).cell? ⟨w.heap.size, 22, none⟩ = some (.slice A s.sig.length c) := by have := range_sig hf (RA.out _ ba); simpa using this
  have c2 : ((w.alloc (.cells ra 57)).alloc (.cells rb 57)).cell? ⟨w.heap.size + 1, 22, none⟩ = some (.slice B t.sig.length d) := by have := range_sig hg (RB.out _ bb); simpa using this
  have CB := Lib.hid (bEqual_any (hu.keep (((Upd.refl NoF w).alloc (.cells ra 57)).alloc (.cells rb 57))) (hv.keep (((Upd.refl NoF w).alloc (.cells ra 57)).alloc (.cells rb 57))))
  clear hf hg hu hv hza hzb hra hrb hcm hdm ba bb he
  generalize decide (s = t) = Z at HZ ⊢
  go_enter Tryz.func63, Tryz.ntmps63
  go_wp2_with (first
    | (refine wpList_load_vote' rfl (.tmp 5) rfl w.heap.size 0 rfl s.vote HF.out (range_vote (RA.out _ BA.out)) (.agg za) HZA.out ?_)
    | (refine wpList_load_vote' rfl (.tmp 7) rfl (w.heap.size + 1) 0 rfl t.vote HG.out (range_vote (RB.out _ BB.out)) (.agg zb) HZB.out ?_))
  refine CB.out.mono ?_
  rintro e w3 ⟨rfl, rfl⟩
  go_wp2
  go_ret
  exact ⟨retb HZ.out.symm, ((Upd.refl NoF w).alloc _).alloc _⟩

theorem equalVotes_any {s t : SignedS} {u v : Value} (hf : s.vote.Fit) (hg : t.vote.Fit) (w : World) (hu : Rd w 1 u s.sig.length (s.sig.map byteV)) (hv : Rd w 1 v t.sig.length (t.sig.map byteV)) : Calls Tryz.prog 63 #[.agg (rowS s u).toArray, .agg (rowS t v).toArray] w fun e w' => e = .returned (.bool (decide (s = t))) ∧ Upd NoF w w' := by
  by_cases he : s.vote = t.vote
  · exact equalVotes_eq hf hg w hu hv he
  · exact equalVotes_ne hf hg w hu hv he
end
end Go.Proofs.YtbgificdilpdcaaGreat
