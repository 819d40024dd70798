/- slices.Compact of names. Conditions: sizes. items.Parents. Conditions: sizes. items.Graph.Item. Conditions: sizes. -/
import Derived.Test.YtengcmfdfmnacaaGreatJn16
import Derived.Test.YtengcmfdfmnacaaGreatJn11
import Derived.Test.YtengcmfdfmnacaaGreatJn12
import Derived.Test.YtengcmfdfmnacaaGreatJn14
import Derived.Test.YtengcmfdfmnacaaGreatJn13
namespace Go.Proofs.YtengcmfdfmnacaaGreat
section
open Go.RowKit Go.Shelf Go.Lib

theorem neq_name' {a b : List UInt8} (ha : a.length = 8) (hb : b.length = 8) (w : World) : (binOp .neq 28 (nameV a) (nameV b)).run Tryz.prog w = .ok (.bool (!(decide (a = b)))) w := by
  rw [name_neq a b ha hb, show (a == b) = decide (a = b) from by by_cases h : a = b <;> simp [h]]
/-- The block while it is compacted: the first rows hold what was kept, the rows from p on are as they were. -/
structure CpN (l : List (List UInt8)) (size p q : Nat) (cur : Array Value) : Prop where
  size : cur.size = size
  len : (compL (l.take (p + 1))).length = q
  le : q ≤ p
  cells : ∀ (i : Nat) t, (compL (l.take (p + 1)))[i]? = some t → RowIn cur i t
  rest : ∀ (i : Nat) t, p ≤ i → l[i]? = some t → RowIn cur i t
section
variable {l : List (List UInt8)} {size p q : Nat} {cur cur' : Array Value} {s t : List UInt8}
theorem comp_mem {m : List (List UInt8)} {x : List UInt8} (h : x ∈ compL m) : x ∈ m := by rw [← compN_eq] at h; exact (mem_compN x m).1 h
theorem CpN.skip (h : CpN l size p q cur) (h1 : l[p]? = some s) (h2 : l[p + 1]? = some t) (he : s = t) : CpN l size (p + 1) q cur := by
  have e : compL (l.take (p + 1 + 1)) = compL (l.take (p + 1)) := by rw [comp_next h1 h2, if_pos he]
  exact ⟨h.size, by rw [e]; exact h.len, Nat.le_succ_of_le h.le, by rw [e]; exact h.cells, fun i x hi => h.rest i x (by omega)⟩
theorem CpN.keep (h : CpN l size p q cur) (h8 : All8 l) (h1 : l[p]? = some s) (h2 : l[p + 1]? = some t) (he : s ≠ t) (hr : RowSet cur cur' q (t.map byteV).toArray) : CpN l size (p + 1) (q + 1) cur' := by
  have e : compL (l.take (p + 1 + 1)) = compL (l.take (p + 1)) ++ [t] := by rw [comp_next h1 h2, if_neg he]
  have h8t := h8 t (List.mem_of_getElem? h2)
  have hq := h.le
  have hln := h.len
  refine ⟨hr.1.trans h.size, by rw [e]; simp [hln], by omega, fun i x hx => ?_, fun i x hi hx => ?_⟩
  · rw [e] at hx
    rcases Nat.lt_or_ge i q with hlt' | hge
    · rw [List.getElem?_append_left (by omega)] at hx
      exact hr.other h8t (h8 x (List.mem_of_mem_take (comp_mem (List.mem_of_getElem? hx)))) (by omega) (h.cells i x hx)
    · rw [List.getElem?_append_right (by omega)] at hx
      have h0 : i - (compL (l.take (p + 1))).length = 0 := by have := (List.getElem?_eq_some_iff.1 hx).1; simp at this; omega
      rw [h0] at hx
      simp at hx
      subst hx
      have hi : i = q := by omega
      subst hi
      exact hr.same
  · exact hr.other h8t (h8 x (List.mem_of_getElem? hx)) (by omega) (h.rest i x (by omega) hx)
end
def Cn1Rel (w : World) (l : List (List UInt8)) (i : Value) (wr : World) : Prop := ∃ k : Nat, i = .int .i64 ((k : Int) + 1) ∧ k + 1 ≤ l.length ∧ compL (l.take (k + 1)) = l.take (k + 1) ∧ Upd NoF w wr
def Cn2Rel (w : World) (g : Nat) (l : List (List UInt8)) (size k0 : Nat) (x i : Value) (wr : World) : Prop :=
  ∃ (j q : Nat) (cur : Array Value), x = .int .i64 (q : Int) ∧ i = .int .i64 ((j : Int) + 1) ∧ k0 + j + 1 ≤ l.length ∧ CpN l size (k0 + j) q cur ∧ Blk wr g 28 cur ∧ Upd (fun k => k = g) w wr
set_option maxRecDepth 100000 in
set_option maxHeartbeats 16000000 in
theorem CompactNames_any {w : World} {A : Option Addr} {c n : Nat} {l : List (List UInt8)} (h8 : All8 l) (hl : l.length = n) (h : Own w 28 8 (.slice A n c) n ((l.map (·.map byteV)).flatten)) (hs : n ≤ 100000000) :
    Calls Tryz.prog 40 #[.slice A n c] w fun e w' => e = .returned (.slice A (compL l).length c) ∧ Own w' 28 8 (.slice A (compL l).length c) (compL l).length (((compL l).map (·.map byteV)).flatten) ∧ Upd (OwnB (.slice A n c)) w w' := by
  rcases Nat.lt_or_ge n 2 with h2 | h2
  · have HC := Lib.hid (comp_small (l := l) (by omega))
    have HH := Lib.hid h
    have HN := Lib.hid hl
    have t0 : decide ((n : Int) < 2) = true := by simp; omega
    have t0' : decide (n < 2) = true := by simp; omega
    rw [HC.out, hl]
    clear h8 h hl
    go_enter Tryz.func40, Tryz.ntmps40
    go_wp2
    go_ret
    exact ⟨rfl, HH.out, Upd.refl _ _⟩
  rcases h.2 with ⟨_, hz⟩ | ⟨g, cap, cur, hv, hb, hnc, hcm, hcs, hx⟩
  · omega
  injection hv with hA _ hc
  subst hA
  subst hc
  have HROW := Lib.hid (fun (i : Nat) (t : List UInt8) (hi : l[i]? = some t) => rows_own (w := w) (g := g) (c := c) (e := 28) h8 hx hi)
  have H8 := Lib.hid h8
  have HB := Lib.hid hb
  have HCS := Lib.hid hcs
  have HOW := Lib.hid h
  have hcm' : c ≤ 9223372036854775807 := hcm
  have HN := Lib.hid hl
  have t0 : decide ((n : Int) < 2) = false := by simp; omega
  have t0' : decide (n < 2) = false := by simp; omega
  clear h8 h hb hx hcs hl hcm
  go_enter Tryz.func40, Tryz.ntmps40
  go_wp2
  clear t0 t0'
  go_loopw [3] (fun i wr => Cn1Rel w l i wr) (fun i _ => n - (intOf i).toNat)
  case atStart => exact ⟨0, rfl, by have := HN.out; omega, comp_one l, Upd.refl _ _⟩
  case round =>
    obtain ⟨k, rfl, hk, hcp, hu⟩ := hrel
    have HCP := Lib.hid hcp
    have HU := Lib.hid hu
    have hnn := HN.out
    by_cases hlt : k + 1 < n
    · have t1 : decide ((k : Int) + 1 < (n : Int)) = true := by simp; omega
      obtain ⟨s, hsx⟩ : ∃ x, l[k]? = some x := ⟨_, List.getElem?_eq_getElem (by omega)⟩
      obtain ⟨t, htx⟩ : ∃ x, l[k + 1]? = some x := ⟨_, List.getElem?_eq_getElem (by omega)⟩
      have HSX := Lib.hid hsx
      have HTY := Lib.hid htx
      have H8S := Lib.hid (H8.out s (List.mem_of_getElem? hsx))
      have H8T := Lib.hid (H8.out t (List.mem_of_getElem? htx))
      obtain ⟨zs, hzs⟩ : ∃ x, (s.map byteV).toArray = x := ⟨_, rfl⟩
      obtain ⟨zt, hzt⟩ : ∃ x, (t.map byteV).toArray = x := ⟨_, rfl⟩
      have HZs := Lib.hid hzs
      have HZt := Lib.hid hzt
      have XS := Lib.hid (show ∀ wq, Upd NoF wr.drew wq → wq.rangeAt g (k * 8) (s.map byteV) from fun wq hq => (HROW.out k s hsx).range (hq.blk (Blk.drew (hu.blk HB.out (fun f => f))) (fun f => f)))
      have XT := Lib.hid (show ∀ wq, Upd NoF wr.drew wq → wq.rangeAt g ((k + 1) * 8) (t.map byteV) from fun wq hq => (HROW.out (k + 1) t htx).range (hq.blk (Blk.drew (hu.blk HB.out (fun f => f))) (fun f => f)))
      have HE := Lib.hid (show ∀ w, (binOp .eql 28 (.agg zt) (.agg zs)).run Tryz.prog w = .ok (.bool (decide (t = s))) w from fun w => by rw [← hzt, ← hzs]; exact eql_name' H8T.out H8S.out w)
      clear hsx htx hu hcp hnn hzs hzt
      go_wp2_with fail
      refine wp_region_rgw (rgR [isV (.slice (some ⟨g, 0, none⟩) n c), isV (.int .i64 ((k : Int) + 1)), isV (.pointer (some ⟨g, (k + 1) * 8, none⟩)), isV (.agg zt), isV (.slice (some ⟨g, 0, none⟩) n c), isV (.int .i64 ((k : Int) + 1)), isV (.int .i64 (k : Int)), isV (.pointer (some ⟨g, k * 8, none⟩)), isV (.agg zs), isV (.bool (decide (t = s)))]) (fun w w' => Upd NoF w w') (fun _ wq => Upd NoF wr.drew wq) (by kernel_rfl) (by kernel_rfl) (by kernel_rfl) (by rfl) (fun w => Upd.refl _ _) (rgR_keep (by
        intro p hp; simp only [List.mem_cons, List.not_mem_nil, or_false] at hp; rcases hp with rfl | rfl | rfl | rfl | rfl | rfl | rfl | rfl | rfl | rfl <;> first | exact stb_isV _ | exact stb_any)) (Upd.refl _ _) ?_ ?_
      · refine ⟨?_, ?_, ?_, ?_, ?_, ?_, ?_, ?_, ?_, ?_, trivial⟩
        · refine fun ρ w' L hW hLi hcl hd hdep hext hc hg hf => ?_
          rw [if_pos (show wantedR _ _ _ = true from rfl)]
          have e0 : ρ (.tmp 0) = .slice (some ⟨g, 0, none⟩) n c := hext 0 (by kernel_rfl)
          clear hdep hext hcl
          have HW := Lib.hid hW
          clear hW
          unfold OpDone
          go_simp
          exact ⟨rfl, Upd.refl _ _, HW.out⟩
        · refine fun ρ w' L hW hLi hcl hd hdep hext hc hg hf => ?_
          rw [if_pos (show wantedR _ _ _ = true from rfl)]
          have e3 : ρ (.tmp 3) = .int .i64 ((k : Int) + 1) := hext 3 (by kernel_rfl)
          clear hdep hext hcl
          have HW := Lib.hid hW
          clear hW
          unfold OpDone
          go_simp
          exact ⟨rfl, Upd.refl _ _, HW.out⟩
        · refine fun ρ w' L hW hLi hcl hd hdep hext hc hg hf => ?_
          rw [if_pos (show wantedR _ _ _ = true from rfl)]
          have e16 : ρ (.tmp 16) = .slice (some ⟨g, 0, none⟩) n c := hdep 0 _ rfl (by kernel_rfl)
          have e17 : ρ (.tmp 17) = .int .i64 ((k : Int) + 1) := hdep 1 _ rfl (by kernel_rfl)
          have q0 : (0 : Int) ≤ (k : Int) + 1 := by omega
          have q1 : (k : Int) + 1 < (n : Int) := by omega
          have q3 : ((k : Int) + 1).toNat = k + 1 := by omega
          have q2 : k + 1 < n := by omega
          clear hdep hext hcl
          have HW := Lib.hid hW
          clear hW
          unfold OpDone
          go_simp
          exact ⟨rfl, Upd.refl _ _, HW.out⟩
        · refine fun ρ w' L hW hLi hcl hd hdep hext hc hg hf => ?_
          rw [if_pos (show wantedR _ _ _ = true from rfl)]
          have e18 : ρ (.tmp 18) = .pointer (some ⟨g, (k + 1) * 8, none⟩) := hdep 2 _ rfl (by kernel_rfl)
          clear hdep hext
          refine od_load_row 28 (.tmp 18) rfl _ _ e18 (t.map byteV) _ (XT.out w' hW) Tryz.underlying28 rfl (by rw [name_size]; simp [H8T.out]) ?_
          rw [HZt.out]
          exact ⟨rfl, Upd.refl _ _, hW⟩
        · refine fun ρ w' L hW hLi hcl hd hdep hext hc hg hf => ?_
          rw [if_pos (show wantedR _ _ _ = true from rfl)]
          have e0 : ρ (.tmp 0) = .slice (some ⟨g, 0, none⟩) n c := hext 0 (by kernel_rfl)
          clear hdep hext hcl
          have HW := Lib.hid hW
          clear hW
          unfold OpDone
          go_simp
          exact ⟨rfl, Upd.refl _ _, HW.out⟩
        · refine fun ρ w' L hW hLi hcl hd hdep hext hc hg hf => ?_
          rw [if_pos (show wantedR _ _ _ = true from rfl)]
          have e3 : ρ (.tmp 3) = .int .i64 ((k : Int) + 1) := hext 3 (by kernel_rfl)
          clear hdep hext hcl
          have HW := Lib.hid hW
          clear hW
          unfold OpDone
          go_simp
          exact ⟨rfl, Upd.refl _ _, HW.out⟩
        · refine fun ρ w' L hW hLi hcl hd hdep hext hc hg hf => ?_
          rw [if_pos (show wantedR _ _ _ = true from rfl)]
          have e21 : ρ (.tmp 21) = .int .i64 ((k : Int) + 1) := hdep 5 _ rfl (by kernel_rfl)
          have ww : IntKind.i64.wrap (k : Int) = k := IntWalk.i64_in _ (by omega)
          clear hdep hext hcl
          have HW := Lib.hid hW
          clear hW
          unfold OpDone
          go_simp
          exact ⟨rfl, Upd.refl _ _, HW.out⟩
        · refine fun ρ w' L hW hLi hcl hd hdep hext hc hg hf => ?_
          rw [if_pos (show wantedR _ _ _ = true from rfl)]
          have e20 : ρ (.tmp 20) = .slice (some ⟨g, 0, none⟩) n c := hdep 4 _ rfl (by kernel_rfl)
          have e22 : ρ (.tmp 22) = .int .i64 (k : Int) := hdep 6 _ rfl (by kernel_rfl)
          have q0 : (0 : Int) ≤ (k : Int) := by omega
          have q1 : (k : Int) < (n : Int) := by omega
          have q2 : k < n := by omega
          clear hdep hext hcl
          have HW := Lib.hid hW
          clear hW
          unfold OpDone
          go_simp
          exact ⟨rfl, Upd.refl _ _, HW.out⟩
        · refine fun ρ w' L hW hLi hcl hd hdep hext hc hg hf => ?_
          rw [if_pos (show wantedR _ _ _ = true from rfl)]
          have e23 : ρ (.tmp 23) = .pointer (some ⟨g, k * 8, none⟩) := hdep 7 _ rfl (by kernel_rfl)
          clear hdep hext
          refine od_load_row 28 (.tmp 23) rfl _ _ e23 (s.map byteV) _ (XS.out w' hW) Tryz.underlying28 rfl (by rw [name_size]; simp [H8S.out]) ?_
          rw [HZs.out]
          exact ⟨rfl, Upd.refl _ _, hW⟩
        · refine fun ρ w' L hW hLi hcl hd hdep hext hc hg hf => ?_
          rw [if_pos (show wantedR _ _ _ = true from rfl)]
          have e19 : ρ (.tmp 19) = .agg zt := hdep 3 _ rfl (by kernel_rfl)
          have e24 : ρ (.tmp 24) = .agg zs := hdep 8 _ rfl (by kernel_rfl)
          clear hdep hext
          have hE : ∀ w, (binOp .eql 28 (.agg zt) (.agg zs)).run Tryz.prog w = .ok (.bool (decide (t = s))) w := fun w => HE.out w
          have HW := Lib.hid hW
          clear hW
          unfold OpDone
          go_simp
          exact ⟨rfl, Upd.refl _ _, HW.out⟩
      intro vs W8 L8 hL8 hW8 hR
      have hv0 : vs 0 = .slice (some ⟨g, 0, none⟩) n c := hR 0 _ rfl
      have hv1 : vs 1 = .int .i64 ((k : Int) + 1) := hR 1 _ rfl
      have hv2 : vs 2 = .pointer (some ⟨g, (k + 1) * 8, none⟩) := hR 2 _ rfl
      have hv3 : vs 3 = .agg zt := hR 3 _ rfl
      have hv4 : vs 4 = .slice (some ⟨g, 0, none⟩) n c := hR 4 _ rfl
      have hv5 : vs 5 = .int .i64 ((k : Int) + 1) := hR 5 _ rfl
      have hv6 : vs 6 = .int .i64 (k : Int) := hR 6 _ rfl
      have hv7 : vs 7 = .pointer (some ⟨g, k * 8, none⟩) := hR 7 _ rfl
      have hv8 : vs 8 = .agg zs := hR 8 _ rfl
      have hv9 : vs 9 = .bool (decide (t = s)) := hR 9 _ rfl
      simp only [putAll, Act.put, List.setIfInBounds_toArray, List.set_cons_zero, List.set_cons_succ, hv0, hv1, hv2, hv3, hv4, hv5, hv6, hv7, hv8, hv9]
      clear hR hv0 hv1 hv2 hv3 hv4 hv5 hv6 hv7 hv8 hv9
      have HU8 := Lib.hid (show Upd NoF w W8 from HU.out.trans (((Upd.refl NoF wr).drew).trans hW8 (fun _ _ f => f)) (fun _ _ f => f))
      clear hW8
      cases hst : decide (t = s) with
      | false =>
        have HNE := Lib.hid (show s ≠ t from fun e => by rw [e] at hst; simp at hst)
        clear hst
        go_wp2
        go_roundw
        case rel => exact ⟨k + 1, by go_num, by have := HN.out; omega, comp_two HSX.out HTY.out HNE.out HCP.out, HU8.out⟩
        case measure => simp [intOf]; omega
      | true =>
        have HEQ := Lib.hid (show s = t from (of_decide_eq_true hst).symm)
        clear hst
        obtain ⟨k0, hk0⟩ : ∃ x, x = k + 1 := ⟨_, rfl⟩
        have hk0i : (k : Int) + 1 = (k0 : Int) := by omega
        have hk0n : k0 < n := by omega
        have HK0 := Lib.hid hk0
        rw [hk0i]
        have z1 : (0 : Int) ≤ (k0 : Int) := by omega
        have z2 : (k0 : Int) ≤ (n : Int) := by omega
        have z3 : (k0 : Int) ≤ (c : Int) := by omega
        clear t1 hk0 hk0i hlt hk
        go_wp2
        obtain ⟨n2, hn2⟩ : ∃ x, n - k0 = x := ⟨_, rfl⟩
        obtain ⟨c2, hc2⟩ : ∃ x, c - k0 = x := ⟨_, rfl⟩
        rw [hn2, hc2]
        have hn2' : k0 + n2 = n := by omega
        have hc2' : k0 + c2 = c := by omega
        have HC0 := Lib.hid (show CpN l cur.size (k0 + 0) k0 cur from by
          have hq := HK0.out
          have e : compL (l.take (k + 1 + 1)) = l.take (k + 1) := by rw [comp_next HSX.out HTY.out, if_pos HEQ.out, HCP.out]
          subst hq
          refine ⟨rfl, ?_, Nat.le_refl _, fun i x hx => ?_, fun i x hi hx => HROW.out i x hx⟩
          · rw [Nat.add_zero, e, List.length_take]
            have := HN.out
            omega
          · rw [Nat.add_zero, e, List.getElem?_take] at hx
            split at hx
            · exact HROW.out i x hx
            · cases hx)
        clear hn2 hc2 z1 z2 z3
        obtain ⟨wo, rfl⟩ : ∃ wo : World, wo = wr := ⟨_, rfl⟩
        go_loopw [3, 5] (fun x i wr => Cn2Rel w g l cur.size k0 x i wr) (fun _ i _ => n2 - (intOf i).toNat)
        case atStart => exact ⟨0, k0, cur, rfl, rfl, by have := HN.out; omega, HC0.out, HU8.out.blk HB.out (fun f => f), HU8.out.mono (fun _ _ f => f.elim)⟩
        case round =>
          clear XS XT HE HSX HTY HEQ HCP HU HU8 HC0 H8S H8T HZs HZt
          obtain ⟨j, q, cu1, rfl, rfl, hj, hst, hb1, hu⟩ := hrel
          have HST := Lib.hid hst
          have HB1 := Lib.hid hb1
          have HU := Lib.hid hu
          have hnn := HN.out
          have hqj : q ≤ k0 + j := hst.le
          by_cases hlt : j + 1 < n2
          · have t1 : decide ((j : Int) + 1 < (n2 : Int)) = true := by simp; omega
            obtain ⟨s, hsx⟩ : ∃ x, l[k0 + j]? = some x := ⟨_, List.getElem?_eq_getElem (by omega)⟩
            obtain ⟨t, htx⟩ : ∃ x, l[k0 + j + 1]? = some x := ⟨_, List.getElem?_eq_getElem (by omega)⟩
            have HSX := Lib.hid hsx
            have HTY := Lib.hid htx
            have H8S := Lib.hid (H8.out s (List.mem_of_getElem? hsx))
            have H8T := Lib.hid (H8.out t (List.mem_of_getElem? htx))
            obtain ⟨zs, hzs⟩ : ∃ x, (s.map byteV).toArray = x := ⟨_, rfl⟩
            obtain ⟨zt, hzt⟩ : ∃ x, (t.map byteV).toArray = x := ⟨_, rfl⟩
            have HZs := Lib.hid hzs
            have HZt := Lib.hid hzt
            have XS := Lib.hid (show ∀ wq, Upd NoF wr.drew wq → wq.rangeAt g (k0 * 8 + j * 8) (s.map byteV) from fun wq hq => by rw [← Nat.add_mul]; exact (hst.rest _ s (Nat.le_refl _) hsx).range (hq.blk (Blk.drew hb1) (fun f => f)))
            have XT := Lib.hid (show ∀ wq, Upd NoF wr.drew wq → wq.rangeAt g (k0 * 8 + (j + 1) * 8) (t.map byteV) from fun wq hq => by rw [← Nat.add_mul]; exact (hst.rest _ t (by omega) htx).range (hq.blk (Blk.drew hb1) (fun f => f)))
            have HE := Lib.hid (show ∀ w, (binOp .neq 28 (.agg zt) (.agg zs)).run Tryz.prog w = .ok (.bool (!(decide (t = s)))) w from fun w => by rw [← hzt, ← hzs]; exact neq_name' H8T.out H8S.out w)
            clear hsx htx hu hst hb1 hnn hzs hzt
            go_wp2_with fail
            refine wp_region_rgw (rgR [isV (.slice (some ⟨g, k0 * 8, none⟩) n2 c2), isV (.int .i64 ((j : Int) + 1)), isV (.pointer (some ⟨g, k0 * 8 + (j + 1) * 8, none⟩)), isV (.agg zt), isV (.slice (some ⟨g, k0 * 8, none⟩) n2 c2), isV (.int .i64 ((j : Int) + 1)), isV (.int .i64 (j : Int)), isV (.pointer (some ⟨g, k0 * 8 + j * 8, none⟩)), isV (.agg zs), isV (.bool (!(decide (t = s))))]) (fun w w' => Upd NoF w w') (fun _ wq => Upd NoF wr.drew wq) (by kernel_rfl) (by kernel_rfl) (by kernel_rfl) (by rfl) (fun w => Upd.refl _ _) (rgR_keep (by
              intro p hp; simp only [List.mem_cons, List.not_mem_nil, or_false] at hp; rcases hp with rfl | rfl | rfl | rfl | rfl | rfl | rfl | rfl | rfl | rfl <;> first | exact stb_isV _ | exact stb_any)) (Upd.refl _ _) ?_ ?_
            · refine ⟨?_, ?_, ?_, ?_, ?_, ?_, ?_, ?_, ?_, ?_, trivial⟩
              · refine fun ρ w' L hW hLi hcl hd hdep hext hc hg hf => ?_
                rw [if_pos (show wantedR _ _ _ = true from rfl)]
                have e4 : ρ (.tmp 4) = .slice (some ⟨g, k0 * 8, none⟩) n2 c2 := hext 4 (by kernel_rfl)
                clear hdep hext hcl
                have HW := Lib.hid hW
                clear hW
                unfold OpDone
                go_simp
                exact ⟨rfl, Upd.refl _ _, HW.out⟩
              · refine fun ρ w' L hW hLi hcl hd hdep hext hc hg hf => ?_
                rw [if_pos (show wantedR _ _ _ = true from rfl)]
                have e5 : ρ (.tmp 5) = .int .i64 ((j : Int) + 1) := hext 5 (by kernel_rfl)
                clear hdep hext hcl
                have HW := Lib.hid hW
                clear hW
                unfold OpDone
                go_simp
                exact ⟨rfl, Upd.refl _ _, HW.out⟩
              · refine fun ρ w' L hW hLi hcl hd hdep hext hc hg hf => ?_
                rw [if_pos (show wantedR _ _ _ = true from rfl)]
                have e35 : ρ (.tmp 35) = .slice (some ⟨g, k0 * 8, none⟩) n2 c2 := hdep 0 _ rfl (by kernel_rfl)
                have e36 : ρ (.tmp 36) = .int .i64 ((j : Int) + 1) := hdep 1 _ rfl (by kernel_rfl)
                have q0 : (0 : Int) ≤ (j : Int) + 1 := by omega
                have q1 : (j : Int) + 1 < (n2 : Int) := by omega
                have q3 : ((j : Int) + 1).toNat = j + 1 := by omega
                have q2 : j + 1 < n2 := by omega
                clear hdep hext hcl
                have HW := Lib.hid hW
                clear hW
                unfold OpDone
                go_simp
                exact ⟨rfl, Upd.refl _ _, HW.out⟩
              · refine fun ρ w' L hW hLi hcl hd hdep hext hc hg hf => ?_
                rw [if_pos (show wantedR _ _ _ = true from rfl)]
                have e37 : ρ (.tmp 37) = .pointer (some ⟨g, k0 * 8 + (j + 1) * 8, none⟩) := hdep 2 _ rfl (by kernel_rfl)
                clear hdep hext
                refine od_load_row 28 (.tmp 37) rfl _ _ e37 (t.map byteV) _ (XT.out w' hW) Tryz.underlying28 rfl (by rw [name_size]; simp [H8T.out]) ?_
                rw [HZt.out]
                exact ⟨rfl, Upd.refl _ _, hW⟩
              · refine fun ρ w' L hW hLi hcl hd hdep hext hc hg hf => ?_
                rw [if_pos (show wantedR _ _ _ = true from rfl)]
                have e4 : ρ (.tmp 4) = .slice (some ⟨g, k0 * 8, none⟩) n2 c2 := hext 4 (by kernel_rfl)
                clear hdep hext hcl
                have HW := Lib.hid hW
                clear hW
                unfold OpDone
                go_simp
                exact ⟨rfl, Upd.refl _ _, HW.out⟩
              · refine fun ρ w' L hW hLi hcl hd hdep hext hc hg hf => ?_
                rw [if_pos (show wantedR _ _ _ = true from rfl)]
                have e5 : ρ (.tmp 5) = .int .i64 ((j : Int) + 1) := hext 5 (by kernel_rfl)
                clear hdep hext hcl
                have HW := Lib.hid hW
                clear hW
                unfold OpDone
                go_simp
                exact ⟨rfl, Upd.refl _ _, HW.out⟩
              · refine fun ρ w' L hW hLi hcl hd hdep hext hc hg hf => ?_
                rw [if_pos (show wantedR _ _ _ = true from rfl)]
                have e40 : ρ (.tmp 40) = .int .i64 ((j : Int) + 1) := hdep 5 _ rfl (by kernel_rfl)
                have ww : IntKind.i64.wrap (j : Int) = j := IntWalk.i64_in _ (by omega)
                clear hdep hext hcl
                have HW := Lib.hid hW
                clear hW
                unfold OpDone
                go_simp
                exact ⟨rfl, Upd.refl _ _, HW.out⟩
              · refine fun ρ w' L hW hLi hcl hd hdep hext hc hg hf => ?_
                rw [if_pos (show wantedR _ _ _ = true from rfl)]
                have e39 : ρ (.tmp 39) = .slice (some ⟨g, k0 * 8, none⟩) n2 c2 := hdep 4 _ rfl (by kernel_rfl)
                have e41 : ρ (.tmp 41) = .int .i64 (j : Int) := hdep 6 _ rfl (by kernel_rfl)
                have q0 : (0 : Int) ≤ (j : Int) := by omega
                have q1 : (j : Int) < (n2 : Int) := by omega
                have q2 : j < n2 := by omega
                clear hdep hext hcl
                have HW := Lib.hid hW
                clear hW
                unfold OpDone
                go_simp
                exact ⟨rfl, Upd.refl _ _, HW.out⟩
              · refine fun ρ w' L hW hLi hcl hd hdep hext hc hg hf => ?_
                rw [if_pos (show wantedR _ _ _ = true from rfl)]
                have e42 : ρ (.tmp 42) = .pointer (some ⟨g, k0 * 8 + j * 8, none⟩) := hdep 7 _ rfl (by kernel_rfl)
                clear hdep hext
                refine od_load_row 28 (.tmp 42) rfl _ _ e42 (s.map byteV) _ (XS.out w' hW) Tryz.underlying28 rfl (by rw [name_size]; simp [H8S.out]) ?_
                rw [HZs.out]
                exact ⟨rfl, Upd.refl _ _, hW⟩
              · refine fun ρ w' L hW hLi hcl hd hdep hext hc hg hf => ?_
                rw [if_pos (show wantedR _ _ _ = true from rfl)]
                have e38 : ρ (.tmp 38) = .agg zt := hdep 3 _ rfl (by kernel_rfl)
                have e43 : ρ (.tmp 43) = .agg zs := hdep 8 _ rfl (by kernel_rfl)
                clear hdep hext
                have hE : ∀ w, (binOp .neq 28 (.agg zt) (.agg zs)).run Tryz.prog w = .ok (.bool (!(decide (t = s)))) w := fun w => HE.out w
                have HW := Lib.hid hW
                clear hW
                unfold OpDone
                go_simp
                exact ⟨rfl, Upd.refl _ _, HW.out⟩
            intro vs W8 L8 hL8 hW8 hR
            have hv0 : vs 0 = .slice (some ⟨g, k0 * 8, none⟩) n2 c2 := hR 0 _ rfl
            have hv1 : vs 1 = .int .i64 ((j : Int) + 1) := hR 1 _ rfl
            have hv2 : vs 2 = .pointer (some ⟨g, k0 * 8 + (j + 1) * 8, none⟩) := hR 2 _ rfl
            have hv3 : vs 3 = .agg zt := hR 3 _ rfl
            have hv4 : vs 4 = .slice (some ⟨g, k0 * 8, none⟩) n2 c2 := hR 4 _ rfl
            have hv5 : vs 5 = .int .i64 ((j : Int) + 1) := hR 5 _ rfl
            have hv6 : vs 6 = .int .i64 (j : Int) := hR 6 _ rfl
            have hv7 : vs 7 = .pointer (some ⟨g, k0 * 8 + j * 8, none⟩) := hR 7 _ rfl
            have hv8 : vs 8 = .agg zs := hR 8 _ rfl
            have hv9 : vs 9 = .bool (!(decide (t = s))) := hR 9 _ rfl
            simp only [putAll, Act.put, List.setIfInBounds_toArray, List.set_cons_zero, List.set_cons_succ, hv0, hv1, hv2, hv3, hv4, hv5, hv6, hv7, hv8, hv9]
            clear hR hv0 hv1 hv2 hv3 hv4 hv5 hv6 hv7 hv8 hv9
            have HB8 := Lib.hid (show Blk W8 g 28 cu1 from hW8.blk (Blk.drew HB1.out) (fun f => f))
            have HU8 := Lib.hid (show Upd (fun k => k = g) w W8 from HU.out.trans (((Upd.refl NoF wr).drew).trans hW8 (fun _ _ f => f)) (fun _ _ f => f.elim))
            have XT8 := Lib.hid (XT.out W8 hW8)
            clear hW8
            cases hst : decide (t = s) with
            | true =>
              have HEQ := Lib.hid (show s = t from (of_decide_eq_true hst).symm)
              clear hst
              go_wp2
              go_roundw
              case rel => exact ⟨j + 1, q, cu1, rfl, by go_num, by have := HN.out; omega, HST.out.skip HSX.out HTY.out HEQ.out, HB8.out, HU8.out⟩
              case measure => simp [intOf]; omega
            | false =>
              have HNE := Lib.hid (show s ≠ t from fun e => by rw [e] at hst; simp at hst)
              have q0 : (0 : Int) ≤ (j : Int) + 1 := by omega
              have q1 : (j : Int) + 1 < (n2 : Int) := by omega
              have q3 : ((j : Int) + 1).toNat = j + 1 := by omega
              have q2 : j + 1 < n2 := by omega
              have r0 : (0 : Int) ≤ (q : Int) := by omega
              have r1 : (q : Int) < (n : Int) := by omega
              have r2 : q < n := by omega
              have HZT8 := Lib.hid (show zt.size = 8 from by rw [← HZt.out]; simp [H8T.out])
              have HZTO := Lib.hid (show zt.all (·.oneCell') = true from by
                rw [← HZt.out, List.all_toArray, List.all_eq_true]
                intro u hu
                obtain ⟨b, -, rfl⟩ := List.mem_map.1 hu
                rfl)
              have HROOM := Lib.hid (show q * 8 + zt.size ≤ cu1.size from by have := HST.out.size; have := HCS.out; have := HZT8.out; omega)
              clear hst
              go_wp2_with (first
                | (refine wl_load rfl 28 (.tmp 49) rfl _ _ rfl (t.map byteV) _ XT8.out Tryz.underlying28 rfl (by rw [name_size]; simp [H8T.out]) zt HZt.out ?_)
                | (refine wl_storeAt rfl 28 (.tmp 51) (.tmp 50) rfl g q (by first | rfl | simp) zt rfl 28 cu1 HB8.out HROOM.out (by rw [name_size, HZT8.out]) HZTO.out ?_; intro w9 cu9 hb9 hr9 hu9 hs9; have B9 := Lib.hid hb9; have R9 := Lib.hid hr9; have U9 := Lib.hid (HU8.out.trans hu9 (fun _ _ f => f)); clear hb9 hr9 hu9 hs9))
              go_roundw
              case rel => exact ⟨j + 1, q + 1, cu9, by go_num, by go_num, by have := HN.out; omega, HST.out.keep H8.out HSX.out HTY.out HNE.out (by rw [HZt.out]; exact R9.out), B9.out, U9.out⟩
              case measure => simp [intOf]; omega
          · have t1 : decide ((j : Int) + 1 < (n2 : Int)) = false := by simp; omega
            have HFIN := Lib.hid (show l.take (k0 + j + 1) = l from List.take_of_length_le (by omega))
            have HQN := Lib.hid (show q < n by omega)
            have z1 : (0 : Int) ≤ (q : Int) := by omega
            have z2 : (q : Int) ≤ (n : Int) := by omega
            have z3 : (q : Int) ≤ (c : Int) := by omega
            have z4 : q < c := by omega
            have z5 : q < n := by omega
            clear hst hb1 hu hnn hlt hqj hj hn2' hc2' hk0n
            obtain ⟨w9, cu9, hcl, hb9, hs9, hp9, hu9⟩ := run_clearN (q := q) (n := n - q) (by omega) HB1.out (by have := HST.out.size; have := HCS.out; omega)
            have B9 := Lib.hid hb9
            have S9 := Lib.hid hs9
            have P9 := Lib.hid hp9
            have U9 := Lib.hid hu9
            clear hb9 hu9 hs9 hp9
            go_wp2
            go_ret
            have hsc := HST.out.len
            have hcells := HST.out.cells
            rw [HFIN.out] at hsc hcells
            refine ⟨by rw [hsc]; rfl, ?_, (HU.out.trans U9.out (fun _ _ f => f)).mono (fun k _ e => by rw [show k = g from e]; simp [OwnB, Value.ownBlock])⟩
            rw [hsc]
            refine own_rows B9.out (fun y hy => H8.out y (comp_mem hy)) hsc (fun i t hi => ?_) (by omega) hcm' (by have := S9.out; have := HST.out.size; have := HCS.out; omega)
            intro jj v hj
            have h8t := H8.out t (comp_mem (List.mem_of_getElem? hi))
            have hiq : i < q := by rw [← hsc]; exact (List.getElem?_eq_some_iff.1 hi).1
            have hj8 : jj < 8 := by have := (List.getElem?_eq_some_iff.1 hj).1; simpa [h8t] using this
            rw [P9.out _ (by omega)]
            exact hcells i t hi jj v hj
    · have t1 : decide ((k : Int) + 1 < (n : Int)) = false := by simp; omega
      have HFIN := Lib.hid (show compL l = l from by have := HCP.out; rw [List.take_of_length_le (by omega)] at this; exact this)
      clear hcp hu hnn
      go_wp2
      go_ret
      rw [HFIN.out, HN.out]
      exact ⟨rfl, HOW.out.upd HU.out (fun _ _ f => f), HU.out.mono (fun _ _ f => f.elim)⟩
end

section
open Go.RowKit Go.Shelf Go.Lib

def zH : Array Value := (choiceC (0, List.replicate 8 0)).toArray
theorem head_alloc (w : World) : (Instr.alloc 78 true (.tuple #[])).run Tryz.prog w = .ok (.pointer (some ⟨w.heap.size, 0, none⟩)) (w.alloc (.cells zH 78)) := by kernel_rfl
theorem zH_size : zH.size = 9 := rfl
theorem head_size : (Tryz.prog.info? 78).map (·.size) = some 9 := by kernel_rfl
theorem head_arr {s : Int × List UInt8} (hs : s.2.length = 8) {za : Array Value} (hz : (choiceC s).toArray = za) : za.size = 9 ∧ za.all (·.oneCell') = true := by
  subst hz
  refine ⟨by simp [choiceC, hs], ?_⟩
  rw [List.all_toArray, List.all_eq_true]
  exact choice_one s.1 s.2
theorem head_name {s : Int × List UInt8} {W : World} {V : Nat} {T : TypeId} {za : Array Value} (hz : (choiceC s).toArray = za) (hb : Blk W V T za) : W.rangeAt V 1 (s.2.map byteV) := fun j v hj => by
  rw [hb.cell, ← hz, List.getElem?_toArray, Nat.add_comm]
  exact hj
/-- Sorted and without repetitions. -/
theorem tail_sort (raw : List (List UInt8)) (h8 : All8 raw) (n : Nat) (hn : raw.length = n) (hm : n ≤ 1000000) : ∀ W A c, Own W 28 8 (.slice A n c) n (rowsN raw) → Calls Tryz.prog 38 #[.slice A n c, (.func (.func 39) #[] #[])] W fun e w' => e = .returned (.tuple #[]) ∧ ∃ m : List (List UInt8), m.Perm raw ∧ m.Pairwise (fun a b => be a ≤ be b) ∧ Own w' 28 8 (.slice A n c) n (rowsN m) ∧ Upd (OwnB (.slice A n c)) W w' :=
  fun _ _ _ h => SortNames_any h8 hn h (by omega)
theorem tail_comp (raw : List (List UInt8)) (h8 : All8 raw) (n : Nat) (hn : raw.length = n) (hm : n ≤ 1000000) : ∀ W A c m, m.Perm raw → m.Pairwise (fun a b => be a ≤ be b) → Own W 28 8 (.slice A n c) n (rowsN m) → Calls Tryz.prog 40 #[.slice A n c] W fun e w' => e = .returned (.slice A (ascSet raw).length c) ∧ Own w' 28 8 (.slice A (ascSet raw).length c) (ascSet raw).length (rowsN (ascSet raw)) ∧ Upd (OwnB (.slice A n c)) W w' := by
  intro W A c m hp hs ho
  have e0 : compL m = ascSet raw := by rw [← compN_eq]; exact compN_sorted h8 hp hs
  have := CompactNames_any (fun y hy => h8 y (hp.mem_iff.1 hy)) (hp.length_eq.trans hn) ho (by omega)
  rw [e0] at this
  exact this
theorem ownB_len {A : Option Addr} {n c m d : Nat} : OwnB (.slice A n c) = OwnB (.slice A m d) := by
  funext k
  cases A <;> rfl
/-- From the list as it was collected to the post. -/
theorem tail_post {w W w8 w9 : World} {A : Option Addr} {n c : Nat} {raw : List (List UInt8)} (hu : Upd NoF w W) (hnew : ∀ k, OwnB (.slice A n c) k → w.heap.size ≤ k) (h8 : Upd (OwnB (.slice A n c)) W w8) (h9 : Upd (OwnB (.slice A n c)) w8 w9) (ho : Own w9 28 8 (.slice A (ascSet raw).length c) (ascSet raw).length (rowsN (ascSet raw))) : AscPost w (ascSet raw) (.returned (.slice A (ascSet raw).length c)) w9 :=
  ⟨A, c, rfl, ⟨ho, fun k hk => hnew k (by rw [ownB_len (m := n) (d := c)] at hk; exact hk)⟩, (hu.trans h8 (fun k hk f => by have := hnew k f; omega)).trans h9 (fun k hk f => by have := hnew k f; omega)⟩

set_option maxRecDepth 100000 in
set_option maxHeartbeats 8000000 in
theorem Parents_none {w : World} {i : ItP} {rest : List Value} (h : ItOk w i rest) (h3 : i.kind ≠ 3) (h4 : i.kind ≠ 4) : Calls Tryz.prog 12 #[.agg (itemC i.name rest).toArray] w (AscPost w (ascSet ([]))) := by
  obtain ⟨kd, hk⟩ : ∃ kd, i.kind = kd := ⟨_, rfl⟩
  obtain ⟨i0, hi0, hz0, hz1, hz2⟩ := info_parts name_info
  have HBS := Lib.hid (fun (n : List UInt8) (hn : n.length = 8) (za : Array Value) (hz : (n.map byteV).toArray = za) w => bs_name hn hz w)
  obtain ⟨ra, hra⟩ : ∃ y, (itemC i.name rest).toArray = y := ⟨_, rfl⟩
  have HRA := Lib.hid hra
  have HOK := Lib.hid h
  have CK := Lib.hid (show ra[8]? = some (.int .i64 kd) from by have := item_cell hra h h.kind; rw [hk] at this; exact this)
  obtain ⟨pb, hpb⟩ : ∃ y, (i.parent.map byteV).toArray = y := ⟨_, rfl⟩
  have HPB := Lib.hid hpb
  have HA8 := Lib.hid (show All8 ([]) from by intro n hn; cases hn)
  have TS := Lib.hid (tail_sort [] HA8.out 0 rfl (by omega))
  have TC := Lib.hid (tail_comp [] HA8.out 0 rfl (by omega))
  have t3 : decide (kd = 3) = false := by rw [hk] at h3; simpa using h3
  have t4 : decide (kd = 4) = false := by rw [hk] at h4; simpa using h4
  have t3' : ¬ kd = 3 := by rw [hk] at h3; exact h3
  have t4' : ¬ kd = 4 := by rw [hk] at h4; exact h4
  rw [hra]
  clear h h3 h4 hk hra hpb
  go_enter Tryz.func12, Tryz.ntmps12
  go_wp2_with (first
    | (refine wl_box rfl 38 (.tmp 0) rfl ra (by rfl) ?_; intro W0 hb0 hu0 hs0; have BX := Lib.hid hb0; have UW := Lib.hid hu0; have SW := Lib.hid hs0; have ck := (hb0.cell 8).trans CK.out; clear hb0 hu0 hs0)
    | (refine (TS.out _ _ _ (Own.nil _ _ _)).mono ?_; rintro e w8 ⟨rfl, q, hp, hsrt, ho, hu⟩; have HQ := Lib.hid hp; have HS := Lib.hid hsrt; have HO := Lib.hid ho; have HU8 := Lib.hid hu; clear hp hsrt ho hu)
    | (refine (TC.out _ _ _ _ HQ.out HS.out HO.out).mono ?_; rintro e w9 ⟨rfl, ho9, hu9⟩; have HO9 := Lib.hid ho9; have HU9 := Lib.hid hu9; clear ho9 hu9))
  go_ret
  exact tail_post UW.out (fun k hk => by simp [OwnB, Value.ownBlock] at hk) HU8.out HU9.out HO9.out

set_option maxRecDepth 100000 in
set_option maxHeartbeats 8000000 in
theorem Parents_block {w : World} {i : ItP} {rest : List Value} (h : ItOk w i rest) (hk : i.kind = 3) : Calls Tryz.prog 12 #[.agg (itemC i.name rest).toArray] w (AscPost w (ascSet ([i.parent]))) := by
  obtain ⟨i0, hi0, hz0, hz1, hz2⟩ := info_parts name_info
  have HBS := Lib.hid (fun (n : List UInt8) (hn : n.length = 8) (za : Array Value) (hz : (n.map byteV).toArray = za) w => bs_name hn hz w)
  obtain ⟨ra, hra⟩ : ∃ y, (itemC i.name rest).toArray = y := ⟨_, rfl⟩
  have HRA := Lib.hid hra
  have HOK := Lib.hid h
  have CK := Lib.hid (show ra[8]? = some (.int .i64 3) from by have := item_cell hra h h.kind; rw [hk] at this; exact this)
  obtain ⟨pb, hpb⟩ : ∃ y, (i.parent.map byteV).toArray = y := ⟨_, rfl⟩
  have HPB := Lib.hid hpb
  have HA8 := Lib.hid (show All8 ([i.parent]) from by intro n hn; rw [List.mem_singleton.1 hn]; exact h.fit.parent)
  have TS := Lib.hid (tail_sort [i.parent] HA8.out 1 rfl (by omega))
  have TC := Lib.hid (tail_comp [i.parent] HA8.out 1 rfl (by omega))
  rw [hra]
  clear h hk hra hpb
  go_enter Tryz.func12, Tryz.ntmps12
  go_wp2_with (first
    | (refine wl_box rfl 38 (.tmp 0) rfl ra (by rfl) ?_; intro W0 hb0 hu0 hs0; have BX := Lib.hid hb0; have UW := Lib.hid hu0; have SW := Lib.hid hs0; have ck := (hb0.cell 8).trans CK.out; clear hb0 hu0 hs0)
    | (refine wl_load rfl 28 (.tmp 11) rfl _ _ rfl (i.parent.map byteV) _ (item_par HRA.out BX.out HOK.out) Tryz.underlying28 rfl (by rw [name_size]; simp [HOK.out.fit.parent]) pb HPB.out ?_)
    | (refine wpList_bsRow rfl 22 28 (.tmp 12) rfl (.agg pb) (by rfl) pb (HBS.out _ HOK.out.fit.parent _ HPB.out _) ?_; intro w6 hb6 hu6 hs6; have B6 := Lib.hid hb6; have U6 := Lib.hid hu6; clear hb6 hu6 hs6)
    | (at_builtin; refine wpList_append_to _ rfl (.tmp 10) (.tmp 13) 22 rfl 28 i0 _ 8 8 Tryz.underlying22 hi0 hz0 hz1 hz2 (by kernel_rfl) (.slice none 0 0) 0 [] (by rfl) (Own.nil _ _ _) _ 1 (i.parent.map byteV) rfl (rd_name HOK.out.fit.parent HPB.out B6.out) (name_ones _) (by unfold maxLen; omega) (by omega) ?_; intro A7 c7 w7 hown hupd hnew; have O7 := Lib.hid (show Own w7 28 8 (.slice A7 1 c7) 1 (rowsN [i.parent]) from by simpa [rowsN] using hown); have D7 := Lib.hid (show Upd NoF W0 w7 from U6.out.trans hupd (fun k hk f => by simp [OwnB, Value.ownBlock] at f)); have N7 := Lib.hid (show ∀ k, OwnB (.slice A7 1 c7) k → w.heap.size + 1 ≤ k from fun k hk => by rcases hnew k hk with f | f; (· simp [OwnB, Value.ownBlock] at f); have := U6.out.size; have := SW.out; omega); clear hown hupd hnew)
    | (refine (TS.out _ _ _ (O7.out)).mono ?_; rintro e w8 ⟨rfl, q, hp, hsrt, ho, hu⟩; have HQ := Lib.hid hp; have HS := Lib.hid hsrt; have HO := Lib.hid ho; have HU8 := Lib.hid hu; clear hp hsrt ho hu)
    | (refine (TC.out _ _ _ _ HQ.out HS.out HO.out).mono ?_; rintro e w9 ⟨rfl, ho9, hu9⟩; have HO9 := Lib.hid ho9; have HU9 := Lib.hid hu9; clear ho9 hu9))
  go_ret
  exact tail_post (UW.out.trans D7.out (fun _ _ f => f)) (fun k hk => by have := N7.out k (by simpa using hk); omega) HU8.out HU9.out HO9.out

set_option maxRecDepth 100000 in
set_option maxHeartbeats 8000000 in
theorem Parents_record {w : World} {i : ItP} {rest : List Value} (h : ItOk w i rest) (hk : i.kind = 4) (hh : i.heads.length ≤ 1000) (ht : i.tips.length ≤ 1000) : Calls Tryz.prog 12 #[.agg (itemC i.name rest).toArray] w (AscPost w (ascSet (i.parent :: i.heads.map (·.2) ++ i.tips))) := by
  obtain ⟨i0, hi0, hz0, hz1, hz2⟩ := info_parts name_info
  have HBS := Lib.hid (fun (n : List UInt8) (hn : n.length = 8) (za : Array Value) (hz : (n.map byteV).toArray = za) w => bs_name hn hz w)
  obtain ⟨ra, hra⟩ : ∃ y, (itemC i.name rest).toArray = y := ⟨_, rfl⟩
  have HRA := Lib.hid hra
  have HOK := Lib.hid h
  have CK := Lib.hid (show ra[8]? = some (.int .i64 4) from by have := item_cell hra h h.kind; rw [hk] at this; exact this)
  obtain ⟨pb, hpb⟩ : ∃ y, (i.parent.map byteV).toArray = y := ⟨_, rfl⟩
  have HPB := Lib.hid hpb
  obtain ⟨H, ch, hh1, hh2⟩ := h.heads
  obtain ⟨T, ct, ht1, ht2⟩ := h.tips
  have CH := Lib.hid (item_cell hra h hh1)
  have CT := Lib.hid (item_cell hra h ht1)
  have HCH := Lib.hid hh2
  have HCT := Lib.hid ht2
  obtain ⟨hn, hhn⟩ : ∃ n, i.heads.length = n := ⟨_, rfl⟩
  obtain ⟨tn, htn⟩ : ∃ n, i.tips.length = n := ⟨_, rfl⟩
  rw [hhn] at CH HCH hh
  rw [htn] at CT HCT ht
  have HHN := Lib.hid hhn
  have HTN := Lib.hid htn
  have HA8 := Lib.hid (show All8 (i.parent :: i.heads.map (·.2) ++ i.tips) from by have := rawPar_all8 h.fit; unfold rawPar at this; rw [if_neg (by rw [hk]; decide), if_pos hk] at this; exact this)
  have TS := Lib.hid (tail_sort (i.parent :: i.heads.map (·.2) ++ i.tips) HA8.out (hn + 1 + tn) (by rw [List.length_append, List.length_cons, List.length_map, hhn, htn]) (by omega))
  have TC := Lib.hid (tail_comp (i.parent :: i.heads.map (·.2) ++ i.tips) HA8.out (hn + 1 + tn) (by rw [List.length_append, List.length_cons, List.length_map, hhn, htn]) (by omega))
  rw [hra]
  clear h hk hra hpb hh1 hh2 ht1 ht2 hhn htn
  go_enter Tryz.func12, Tryz.ntmps12
  go_wp2_with (first
    | (refine wl_box rfl 38 (.tmp 0) rfl ra (by rfl) ?_; intro W0 hb0 hu0 hs0; have BX := Lib.hid hb0; have UW := Lib.hid hu0; have SW := Lib.hid hs0; have ck := (hb0.cell 8).trans CK.out; have HSX := Lib.hid hs0; clear hb0 hu0 hs0)
    | (refine wl_load rfl 28 (.tmp 18) rfl _ _ rfl (i.parent.map byteV) _ (item_par HRA.out BX.out HOK.out) Tryz.underlying28 rfl (by rw [name_size]; simp [HOK.out.fit.parent]) pb HPB.out ?_)
    | (refine wpList_bsRow rfl 22 28 (.tmp 19) rfl (.agg pb) (by rfl) pb (HBS.out _ HOK.out.fit.parent _ HPB.out _) ?_; intro w6 hb6 hu6 hs6; have B6 := Lib.hid hb6; have U6 := Lib.hid hu6; clear hb6 hu6 hs6)
    | (at_builtin; refine wpList_append_to _ rfl (.tmp 17) (.tmp 20) 22 rfl 28 i0 _ 8 8 Tryz.underlying22 hi0 hz0 hz1 hz2 (by kernel_rfl) (.slice none 0 0) 0 [] (by rfl) (Own.nil _ _ _) _ 1 (i.parent.map byteV) rfl (rd_name HOK.out.fit.parent HPB.out B6.out) (name_ones _) (by unfold maxLen; omega) (by omega) ?_; intro A7 c7 w7 hown hupd hnew; have O7 := Lib.hid (show Own w7 28 8 (.slice A7 1 c7) 1 (rowsN [i.parent]) from by simpa [rowsN] using hown); have D7 := Lib.hid (show Upd NoF W0 w7 from U6.out.trans hupd (fun k hk f => by simp [OwnB, Value.ownBlock] at f)); have N7 := Lib.hid (show ∀ k, OwnB (.slice A7 1 c7) k → w.heap.size + 1 ≤ k from fun k hk => by rcases hnew k hk with f | f; (· simp [OwnB, Value.ownBlock] at f); have := U6.out.size; have := SW.out; omega); have ch7 := (hupd.blk (U6.out.blk BX.out (fun f => f)) (fun f => by simp [OwnB, Value.ownBlock] at f)).cell 18 |>.trans CH.out; clear hown hupd hnew))
  obtain ⟨X, hX⟩ : ∃ x, w.heap.size = x := ⟨_, rfl⟩
  rw [hX] at BX SW N7 ⊢
  have HX := Lib.hid hX
  clear hX ck ch7 U6 B6
  go_loopg [3, 25] hn (fun kx s3 s25 wr => ∃ (k : Nat) (A : Option Addr) (c : Nat), s25 = .int .i64 (k : Int) ∧ k ≤ hn ∧ hn - k ≤ kx ∧ s3 = .slice A (k + 1) c ∧ Hid (NwA (X + 1) 28 8 (k + 1) (rowsN (i.parent :: (i.heads.take k).map (·.2))) A c wr) ∧ Hid (Upd NoF W0 wr))
  case atStart => exact ⟨0, A7, c7, rfl, by omega, by omega, rfl, Lib.hid ⟨O7.out, N7.out⟩, D7⟩
  case round =>
    clear O7 N7 D7
    obtain ⟨k, A, c, rfl, hkn, hkx, rfl, HN, HU⟩ := hrel
    have HB1 := Lib.hid (show k + 1 + 1 ≤ maxLen ∧ (k + 1 + 1) * 8 ≤ 140737488355328 from by unfold maxLen; omega)
    by_cases hlt : k < hn
    · have hltz : (k : Int) < (hn : Int) := by omega
      obtain ⟨s, hs⟩ : ∃ s, i.heads[k]? = some s := ⟨_, List.getElem?_eq_getElem (by have := HHN.out; omega)⟩
      obtain ⟨g, oo, rfl, hrg⟩ := ((HCH.out.keep UW.out).keep HU.out).at_ hs hlt
      have HRG := Lib.hid hrg
      have HS := Lib.hid hs
      have HS8 := Lib.hid (HOK.out.fit.heads s (List.mem_of_getElem? hs))
      obtain ⟨ha, hha⟩ : ∃ y, (choiceC s).toArray = y := ⟨_, rfl⟩
      have HHA := Lib.hid hha
      obtain ⟨nb, hnb⟩ : ∃ y, (s.2.map byteV).toArray = y := ⟨_, rfl⟩
      have HNB := Lib.hid hnb
      have e1 : ((k : Int)).toNat = k := by omega
      clear hs hrg hha hnb
      go_wp2_with (first
        | (refine wpList_load_row rfl 78 (.tmp 27) rfl g (oo + k * 9) (by first | rfl | simp) (choiceC s) _ HRG.out Tryz.underlying78 rfl (by rw [head_size]; simp [choiceC, HS8.out]) ha HHA.out ?_)
        | (refine wpList_alloc_row rfl 78 rfl zH head_alloc ?_; intro w3 hb3 hu3 hs3; have B3 := Lib.hid hb3; have U3 := Lib.hid hu3; clear hb3 hu3 hs3)
        | (refine wpList_store_row rfl 78 (.tmp 5) (.tmp 28) rfl _ rfl ha rfl 78 _ B3.out (by rw [(head_arr HS8.out HHA.out).1]; exact zH_size) (by rw [head_size, (head_arr HS8.out HHA.out).1]) (head_arr HS8.out HHA.out).2 ?_; intro w4 hb4 hu4 hs4; have B4 := Lib.hid hb4; have U4 := Lib.hid (U3.out.trans hu4 (F := NoF) (fun j hj e => by have e : j = wr.heap.size := e; omega)); clear hb4 hu4 hs4)
        | (refine wl_load rfl 28 (.tmp 30) rfl _ _ rfl (s.2.map byteV) _ (head_name HHA.out B4.out) Tryz.underlying28 rfl (by rw [name_size]; simp [HS8.out]) nb HNB.out ?_)
        | (refine wpList_bsRow rfl 22 28 (.tmp 31) rfl (.agg nb) (by rfl) nb (HBS.out _ HS8.out _ HNB.out _) ?_; intro w5 hb5 hu5 hs5; have B5 := Lib.hid hb5; have U5 := Lib.hid (U4.out.trans hu5 (fun _ _ f => f)); clear hb5 hu5 hs5)
        | (at_builtin; refine wpList_append_to _ rfl (.tmp 29) (.tmp 32) 22 rfl 28 i0 _ 8 8 Tryz.underlying22 hi0 hz0 hz1 hz2 (by kernel_rfl) (.slice A (k + 1) c) (k + 1) (rowsN (i.parent :: (i.heads.take k).map (·.2))) (by rfl) ((HN.out.keep U5.out).1) _ 1 (s.2.map byteV) rfl (rd_name HS8.out HNB.out B5.out) (name_ones _) HB1.out.1 HB1.out.2 ?_; intro A7 c7 w7 hown hupd hnew; have N7 := Lib.hid (NwA.app HN.out U5.out (by have := HU.out.size; have := SW.out; omega) hown hupd hnew); clear hown hupd hnew))
      go_roundg (hn - (k + 1))
      case measure => omega
      case rel =>
        have e : rowsN (i.parent :: (i.heads.take (k + 1)).map (·.2)) = rowsN (i.parent :: (i.heads.take k).map (·.2)) ++ s.2.map byteV := by
          obtain ⟨hlt', rfl⟩ := List.getElem?_eq_some_iff.1 HS.out
          rw [List.take_succ_eq_append_getElem hlt', List.map_append, ← List.cons_append, rowsN_append]
          simp [rowsN]
        exact ⟨k + 1, A7, c7, by first | rfl | go_num, by omega, by omega, by first | rfl | (congr 1; done), Lib.hid (by rw [e]; exact N7.out.1), Lib.hid (N7.out.2 (w := W0) (by have := SW.out; omega) HU.out)⟩
    · have hltz : ¬ (k : Int) < (hn : Int) := by omega
      obtain rfl : k = hn := by omega
      have ct1 : wr.cell? ⟨X, 19, none⟩ = some (.slice T tn ct) := ((HU.out.blk BX.out (fun f => f)).cell 19).trans CT.out
      have HB2 := Lib.hid (show k + 1 + tn ≤ maxLen ∧ (k + 1 + tn) * 8 ≤ 140737488355328 from by unfold maxLen; omega)
      have HTR := Lib.hid (show Rd wr 8 (.slice T tn ct) tn (rowsN i.tips) from by have := ((HCT.out.keep UW.out).keep HU.out).2; rw [HTN.out] at this; exact this)
      go_wp2_with (first
        | (at_builtin; refine wpList_append_to _ rfl (.tmp 35) (.tmp 37) 22 rfl 28 i0 _ 8 8 Tryz.underlying22 hi0 hz0 hz1 hz2 (by kernel_rfl) (.slice A (k + 1) c) (k + 1) (rowsN (i.parent :: (i.heads.take k).map (·.2))) (by rfl) HN.out.1 _ tn (rowsN i.tips) rfl HTR.out (rowsN_one _) HB2.out.1 HB2.out.2 ?_; intro A7 c7 w7 hown hupd hnew; have O7 := Lib.hid (show Own w7 28 8 (.slice A7 (k + 1 + tn) c7) (k + 1 + tn) (rowsN (i.parent :: i.heads.map (·.2) ++ i.tips)) from by rw [rowsN_append]; have e := hown; rw [List.take_of_length_le (by have := HHN.out; omega)] at e; exact e); have D7 := Lib.hid (show Upd NoF W0 w7 from HU.out.trans hupd (fun j hj f => by have := HN.out.2 j f; have := SW.out; omega)); have N7 := Lib.hid (show ∀ j, OwnB (.slice A7 (k + 1 + tn) c7) j → X ≤ j from fun j hj => by rcases hnew j hj with f | f; (· have := HN.out.2 j f; omega); have := HU.out.size; have := SW.out; omega); clear hown hupd hnew)
        | (refine (TS.out _ _ _ (O7.out)).mono ?_; rintro e w8 ⟨rfl, q, hp, hsrt, ho, hu⟩; have HQ := Lib.hid hp; have HS := Lib.hid hsrt; have HO := Lib.hid ho; have HU8 := Lib.hid hu; clear hp hsrt ho hu)
        | (refine (TC.out _ _ _ _ HQ.out HS.out HO.out).mono ?_; rintro e w9 ⟨rfl, ho9, hu9⟩; have HO9 := Lib.hid ho9; have HU9 := Lib.hid hu9; clear ho9 hu9))
      go_ret
      exact tail_post (UW.out.trans D7.out (fun _ _ f => f)) (fun j hj => by have := N7.out j hj; have := HX.out; omega) HU8.out HU9.out HO9.out
/-- items.Parents, whatever the kind. -/
theorem Parents_any {w : World} {i : ItP} {rest : List Value} (h : ItOk w i rest) (hh : i.heads.length ≤ 1000) (ht : i.tips.length ≤ 1000) : Calls Tryz.prog 12 #[.agg (itemC i.name rest).toArray] w (AscPost w (parents i)) := by
  unfold parents rawPar
  by_cases h3 : i.kind = 3
  · rw [if_pos h3]; exact Parents_block h h3
  · rw [if_neg h3]
    by_cases h4 : i.kind = 4
    · rw [if_pos h4]; exact Parents_record h h4 hh ht
    · rw [if_neg h4]; exact Parents_none h h3 h4
end

section
open Go.RowKit Go.Shelf Go.Lib

set_option maxRecDepth 100000 in
set_option maxHeartbeats 8000000 in
theorem grItem_hit {w : World} {A : Option Addr} {n c r k : Nat} {its : List (ItP × List Value)} {x : ItP × List Value} {nm : List UInt8} (hn : its.length = n) (h : GrR w (.slice A n c) its) (hr : NmI w r (its.map (·.1.name))) (hk : its[k]? = some x) (hf : (its.map (·.1.name)).findIdx? (fun y => y = nm) = some k) (h8 : nm.length = 8) :
    Calls Tryz.prog 79 #[.agg #[.slice A n c, .map (some r)], nameV nm] w fun e w' => e = .returned (.tuple #[.agg (itemC x.1.name x.2).toArray, .bool true]) ∧ Upd NoF w w' := by
  have hlt : k < n := by rw [← hn]; exact (List.getElem?_eq_some_iff.1 hk).1
  obtain ⟨g, o, rfl, hrg⟩ := h.at_ hn hk
  obtain ⟨es, he1, he2⟩ := hr
  have HE := Lib.hid he1
  have HGT := Lib.hid (show getT es nm = some (.int .i64 (k : Int)) from by rw [he2, hf]; rfl)
  have HOK := Lib.hid (h.ok x (List.mem_of_getElem? hk))
  obtain ⟨kk, hkk⟩ : ∃ k, k = 28 := ⟨_, rfl⟩
  have HK := Lib.hid hkk
  rw [← hkk] at hrg
  have HRG := Lib.hid hrg
  have aE : ∀ w, (isAgg 38).run Tryz.prog w = .ok true w := fun w => by kernel_rfl
  have zE : ∀ w, (Go.sizeOf 38).run Tryz.prog w = .ok 28 w := fun w => by kernel_rfl
  rw [← hkk] at zE
  obtain ⟨ra, hra⟩ : ∃ y, (itemC x.1.name x.2).toArray = y := ⟨_, rfl⟩
  have HRA := Lib.hid hra
  have HR8 := Lib.hid (show ra.size = 28 from by rw [← hra]; simpa using itemC_len HOK.out)
  have HRO := Lib.hid (show ra.all (·.oneCell') = true from by rw [← hra]; exact itemC_one HOK.out)
  obtain ⟨nb, hnb⟩ : ∃ y, (nm.map byteV).toArray = y := ⟨_, rfl⟩
  have HNB := Lib.hid hnb
  rw [show nameV nm = .agg nb from congrArg Value.agg hnb, hra]
  have H8 := Lib.hid h8
  have IA := Lib.hid item_alloc
  obtain ⟨iz, hiz⟩ : ∃ x, itZ = x := ⟨_, rfl⟩
  rw [hiz] at IA
  have HI8 := Lib.hid (show iz.size = 28 from by rw [← hiz]; exact itZ_size)
  have e1 : ((k : Int)).toNat = k := by omega
  have hltz : (k : Int) < (n : Int) := by omega
  have hge : (0 : Int) ≤ (k : Int) := by omega
  have U0 := Lib.hid (((Upd.refl NoF w).alloc (.cells #[.slice (some ⟨g, o, none⟩) n c, .map (some r)] 89)).alloc (.cells nb 28))
  have BG0 := Lib.hid ((Blk.new w 89 #[.slice (some ⟨g, o, none⟩) n c, .map (some r)]).alloc (.cells nb 28))
  have BN0 := Lib.hid (show Blk ((w.alloc (.cells #[.slice (some ⟨g, o, none⟩) n c, .map (some r)] 89)).alloc (.cells nb 28)) (w.heap.size + 1) 28 nb from by
    have := Blk.new (w.alloc (.cells #[.slice (some ⟨g, o, none⟩) n c, .map (some r)] 89)) 28 nb
    rw [World.size_alloc] at this; exact this)
  clear hn h hk hf h8 he1 he2 hkk hra hnb hiz hrg
  go_enter Tryz.func79, Tryz.ntmps79
  go_wp2_with (first
    | (refine wpList_alloc_row rfl 38 rfl iz IA.out ?_; intro w1 hb1 hu1 hs1; have B1 := Lib.hid hb1; have BG := hu1.blk BG0.out (fun f => f); have c0 := BG.cell 0; have c1 := BG.cell 1; have BN := Lib.hid (hu1.blk BN0.out (fun f => f)); have V1 := Lib.hid (U0.out.trans hu1 (fun _ _ f => f)); have HBG := Lib.hid BG; clear hb1 hu1 hs1 BG)
    | (refine wl_load rfl 28 (.tmp 3) rfl _ _ rfl (nm.map byteV) _ (name_cells HNB.out BN.out) Tryz.underlying28 rfl (by rw [name_size]; simp [H8.out]) nb HNB.out ?_)
    | (refine wl_lookup rfl 87 _ (.tmp 10) (.tmp 11) true rfl rfl rfl HNB.out H8.out (HE.out.keep V1.out) Tryz.underlying87 (.int .i64 0) (fun w => by kernel_rfl) (.tuple #[.int .i64 (k : Int), .bool true]) (by rw [HGT.out]; rfl) ?_)
    | (refine wpList_load_row rfl 38 (.tmp 21) rfl g (o + k * kk) rfl (itemC x.1.name x.2) _ (fun j u hj => V1.out.cell (HRG.out j u hj) (fun f => f)) Tryz.underlying38 rfl (by rw [item_size, itemC_len HOK.out]) ra HRA.out ?_)
    | (refine wpList_store_row rfl 38 (.tmp 4) (.tmp 22) rfl _ rfl ra rfl 38 _ (by first | exact B1.out | simpa only [World.size_alloc] using B1.out) (by rw [HI8.out, HR8.out]) (by rw [item_size, HR8.out]) HRO.out ?_; intro w9 hb9 hu9 hs9))
  refine bodyPost_ret (results_cell_tmp Tryz.results79 _ _ _ ra.toList _ rfl (range_blk (by rw [Array.toArray_toList]; exact hb9)) Tryz.underlying38 rfl (by rw [Array.length_toList, HR8.out]; exact item_size)) rfl ?_
  exact ⟨by simp, V1.out.trans hu9 (fun j hj f => by have f : j = _ := f; exfalso; first | omega | (simp at f; omega))⟩
set_option maxRecDepth 100000 in
set_option maxHeartbeats 8000000 in
theorem grItem_miss {w : World} {A : Option Addr} {n c r : Nat} {names : List (List UInt8)} {nm : List UInt8} (hr : NmI w r names) (hf : names.findIdx? (fun y => y = nm) = none) (h8 : nm.length = 8) :
    Calls Tryz.prog 79 #[.agg #[.slice A n c, .map (some r)], nameV nm] w fun e w' => e = .returned (.tuple #[.agg itZ, .bool false]) ∧ Upd NoF w w' := by
  obtain ⟨es, he1, he2⟩ := hr
  have HE := Lib.hid he1
  have HGT := Lib.hid (show getT es nm = none from by rw [he2, hf]; rfl)
  obtain ⟨nb, hnb⟩ : ∃ y, (nm.map byteV).toArray = y := ⟨_, rfl⟩
  have HNB := Lib.hid hnb
  rw [show nameV nm = .agg nb from congrArg Value.agg hnb]
  have H8 := Lib.hid h8
  have IA := Lib.hid item_alloc
  have IO := Lib.hid itZ_one
  have IS := Lib.hid (show (Tryz.prog.info? 38).map (·.size) = some itZ.size from by rw [itZ_size, item_size])
  obtain ⟨iz, hiz⟩ : ∃ x, itZ = x := ⟨_, rfl⟩
  rw [hiz] at IA IO IS ⊢
  have HIZ := Lib.hid hiz
  have U0 := Lib.hid (((Upd.refl NoF w).alloc (.cells #[.slice A n c, .map (some r)] 89)).alloc (.cells nb 28))
  have BG0 := Lib.hid ((Blk.new w 89 #[.slice A n c, .map (some r)]).alloc (.cells nb 28))
  have BN0 := Lib.hid (show Blk ((w.alloc (.cells #[.slice A n c, .map (some r)] 89)).alloc (.cells nb 28)) (w.heap.size + 1) 28 nb from by
    have := Blk.new (w.alloc (.cells #[.slice A n c, .map (some r)] 89)) 28 nb
    rw [World.size_alloc] at this; exact this)
  clear hf h8 he1 he2 hnb hiz
  go_enter Tryz.func79, Tryz.ntmps79
  go_wp2_with (first
    | (refine wpList_alloc_row rfl 38 rfl iz IA.out ?_; intro w1 hb1 hu1 hs1; have B1 := Lib.hid hb1; have BG := hu1.blk BG0.out (fun f => f); have c0 := BG.cell 0; have c1 := BG.cell 1; have BN := Lib.hid (hu1.blk BN0.out (fun f => f)); have V1 := Lib.hid (U0.out.trans hu1 (fun _ _ f => f)); clear hb1 hu1 hs1 BG)
    | (refine wl_load rfl 28 (.tmp 3) rfl _ _ rfl (nm.map byteV) _ (name_cells HNB.out BN.out) Tryz.underlying28 rfl (by rw [name_size]; simp [H8.out]) nb HNB.out ?_)
    | (refine wl_lookup rfl 87 _ (.tmp 10) (.tmp 11) true rfl rfl rfl HNB.out H8.out (HE.out.keep V1.out) Tryz.underlying87 (.int .i64 0) (fun w => by kernel_rfl) (.tuple #[.int .i64 0, .bool false]) (by rw [HGT.out]; rfl) ?_)
    | (refine wpList_store_row rfl 38 (.tmp 4) (.tmp 17) rfl _ rfl iz (by rw [← HIZ.out]; kernel_rfl) 38 _ (by first | exact B1.out | simpa only [World.size_alloc] using B1.out) rfl IS.out IO.out ?_; intro w9 hb9 hu9 hs9))
  refine bodyPost_ret (results_cell_tmp Tryz.results79 _ _ _ iz.toList _ rfl (range_blk (by rw [Array.toArray_toList]; exact hb9)) Tryz.underlying38 rfl (by rw [Array.length_toList]; exact IS.out)) rfl ?_
  exact ⟨by simp, V1.out.trans hu9 (fun j hj f => by have f : j = _ := f; exfalso; first | omega | (simp at f; omega))⟩
end
end Go.Proofs.YtengcmfdfmnacaaGreat
