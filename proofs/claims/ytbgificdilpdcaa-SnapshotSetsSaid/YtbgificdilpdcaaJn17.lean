/- slices.CompactFunc of texts. Conditions: sizes. The rule of text Rgl with a predicate of the world that looks at the slots too. No condition. -/
import Derived.Test.YtbgificdilpdcaaJn16
import Derived.Test.YtbgificdilpdcaaJn13
namespace Go.Proofs.Ytbgificdilpdcaa
section
open Go.RowKit

def CompTPost (w : World) (M : Nat → Prop) (A : Option Addr) (c : Nat) (l : List (List UInt8)) (e : Ending) (w' : World) : Prop := e = .returned (.slice A (compL l).length c) ∧ TxM w' M A c (compL l) ∧ Upd (OwnB (.slice A l.length c)) w w'
/-- The block while it is compacted: the first cells hold what was kept, the cells from p on are as they were. -/
structure CpSt (w : World) (M : Nat → Prop) (g : Nat) (us : List Value) (l : List (List UInt8)) (size p q : Nat) (cur : Array Value) : Prop where
  size : cur.size = size
  len : (compL (l.take (p + 1))).length = q
  le : q ≤ p
  cells : ∀ (i : Nat) t, (compL (l.take (p + 1)))[i]? = some t → ∃ u, cur[i]? = some u ∧ u.oneCell' = true ∧ RdF M w 1 u t.length (t.map byteV)
  rest : ∀ i, p ≤ i → i < l.length → cur[i]? = us[i]?
def Cp1Rel (w : World) (l : List (List UInt8)) (i : Value) (wr : World) : Prop := ∃ k : Nat, i = .int .i64 ((k : Int) + 1) ∧ k + 1 ≤ l.length ∧ compL (l.take (k + 1)) = l.take (k + 1) ∧ Upd NoF w wr
def Cp2Rel (w : World) (M : Nat → Prop) (g : Nat) (us : List Value) (l : List (List UInt8)) (size k0 : Nat) (x i : Value) (wr : World) : Prop :=
  ∃ (j q : Nat) (cur : Array Value), x = .int .i64 (q : Int) ∧ i = .int .i64 ((j : Int) + 1) ∧ k0 + j + 1 ≤ l.length ∧ CpSt w M g us l size (k0 + j) q cur ∧ Blk wr g 36 cur ∧ Upd (fun k => k = g) w wr
section
variable {w : World} {M : Nat → Prop} {g : Nat} {us : List Value} {l : List (List UInt8)} {size p q : Nat} {cur : Array Value} {s t : List UInt8} {u : Value}
theorem CpSt.skip (h : CpSt w M g us l size p q cur) (h1 : l[p]? = some s) (h2 : l[p + 1]? = some t) (he : s = t) : CpSt w M g us l size (p + 1) q cur := by
  have e : compL (l.take (p + 1 + 1)) = compL (l.take (p + 1)) := by rw [comp_next h1 h2, if_pos he]
  exact ⟨h.size, by rw [e]; exact h.len, Nat.le_succ_of_le h.le, by rw [e]; exact h.cells, fun i hi => h.rest i (by omega)⟩
theorem CpSt.keep (h : CpSt w M g us l size p q cur) (h1 : l[p]? = some s) (h2 : l[p + 1]? = some t) (he : s ≠ t) (hu : u.oneCell' = true) (hr : RdF M w 1 u t.length (t.map byteV)) (hs : l.length ≤ size) : CpSt w M g us l size (p + 1) (q + 1) (cur.setIfInBounds q u) := by
  have e : compL (l.take (p + 1 + 1)) = compL (l.take (p + 1)) ++ [t] := by rw [comp_next h1 h2, if_neg he]
  have hlt : p + 1 < l.length := (List.getElem?_eq_some_iff.1 h2).1
  have hq := h.le
  have hsz := h.size
  have hln := h.len
  refine ⟨by simp [hsz], by rw [e]; simp [hln], by omega, fun i x hx => ?_, fun i hi hi2 => ?_⟩
  · rw [e] at hx
    rcases Nat.lt_or_ge i q with hlt' | hge
    · rw [List.getElem?_append_left (by omega)] at hx
      obtain ⟨y, a, b⟩ := h.cells i x hx
      refine ⟨y, ?_, b⟩
      rw [Array.getElem?_setIfInBounds, if_neg (by omega)]
      exact a
    · rw [List.getElem?_append_right (by omega)] at hx
      have h0 : i - (compL (l.take (p + 1))).length = 0 := by have := (List.getElem?_eq_some_iff.1 hx).1; simp at this; omega
      rw [h0] at hx
      simp at hx
      subst hx
      have hi : i = q := by omega
      subst hi
      refine ⟨u, ?_, hu, hr⟩
      rw [Array.getElem?_setIfInBounds, if_pos rfl, if_pos (by omega)]
  · rw [Array.getElem?_setIfInBounds, if_neg (by omega)]
    exact h.rest i (by omega) hi2
end
theorem run_clear_t {w : World} {g b n : Nat} (hn : 0 < n) {cur : Array Value} (hb : Blk w g 36 cur) (hs : b + n ≤ cur.size) : ∃ w', (∀ ty c, (Builtin.clear_ #[23] ty #[.slice (some ⟨g, b, none⟩) n c]).run Try.prog w = .ok (.tuple #[]) w') ∧ Blk w' g 36 (cur.toList.take b ++ List.replicate n (Value.slice none 0 0) ++ cur.toList.drop (b + n)).toArray ∧ Upd (fun k => k = g) w w' :=
  ⟨_, fun ty c => run_clear (P := Try.prog) w 23 36 ty (.slice none 0 0) Try.underlying23 (fun w => by kernel_rfl) rfl rfl g b n c hn cur hb hs, hb.row _, (Upd.refl (fun k => k = g) w).setRow (.inl rfl) _⟩


set_option maxRecDepth 100000 in
set_option maxHeartbeats 16000000 in
theorem CompactT_any {w : World} {M : Nat → Prop} {A : Option Addr} {c : Nat} {l : List (List UInt8)} (hT : TxM w M A c l) (hM : ∀ k, OwnB (.slice A l.length c) k → M k) (hs : l.length ≤ 100000000) : Calls Try.prog 24 #[.slice A l.length c, fnV 25] w (CompTPost w M A c l) := by
  obtain ⟨us, e1, e2, e0, e3⟩ := hT
  rcases Nat.lt_or_ge l.length 2 with h2 | h2
  · have HC := Lib.hid (comp_small h2)
    have HTX := Lib.hid (show TxM w M A c l from ⟨us, e1, e2, e0, e3⟩)
    obtain ⟨n, hn⟩ : ∃ n, l.length = n := ⟨_, rfl⟩
    have HN := Lib.hid hn
    rw [hn] at h2 hs ⊢
    have t0 : decide ((n : Int) < 2) = true := by simp; omega
    have t0' : decide (n < 2) = true := by simp; omega
    unfold fnV
    clear e1 e2 e0 e3 hM hn
    go_enter Try.func24, Try.ntmps24
    go_wp2
    go_ret
    unfold CompTPost
    rw [HC.out]
    exact ⟨by rw [HN.out]; rfl, HTX.out, Upd.refl _ _⟩
  rcases e2.2 with ⟨_, hz⟩ | ⟨g, cap, cur, hv, hb, hnc, hcm, hcs, hx⟩
  · omega
  injection hv with hA _ hc
  subst hA
  subst hc
  have hMg : M g := hM g (by simp [OwnB, Value.ownBlock])
  have hcell : ∀ j u, us[j]? = some u → cur[j]? = some u := fun j u hu => by
    rw [← hx, List.getElem?_take] at hu
    split at hu
    · simpa using hu
    · cases hu
  have HCE := Lib.hid hcell
  have H3 := Lib.hid e3
  have H0 := Lib.hid e0
  have HMG := Lib.hid hMg
  have HOW := Lib.hid e2
  have HTX := Lib.hid (show TxM w M (some ⟨g, 0, none⟩) c l from ⟨us, e1, e2, e0, e3⟩)
  have HB := Lib.hid hb
  have HCS := Lib.hid (show c ≤ cur.size by omega)
  have HUL := Lib.hid e1
  have hcm' : c ≤ 9223372036854775807 := hcm
  obtain ⟨n, hn⟩ : ∃ n, l.length = n := ⟨_, rfl⟩
  have HN := Lib.hid hn
  rw [hn] at h2 hs hnc ⊢
  have t0 : decide ((n : Int) < 2) = false := by simp; omega
  have t0' : decide (n < 2) = false := by simp; omega
  clear e1 e2 e0 e3 hM hb hx hcs hcell hMg hn hcm
  go_enter Try.func24, Try.ntmps24
  go_wp2
  clear t0 t0'
  go_loopw [5] (fun i wr => Cp1Rel w l i wr) (fun i _ => n - (intOf i).toNat)
  case atStart => exact ⟨0, rfl, by have := HN.out; omega, comp_one l, Upd.refl _ _⟩
  case round =>
    obtain ⟨k, rfl, hk, hcp, hu⟩ := hrel
    have HCP := Lib.hid hcp
    have HU := Lib.hid hu
    have hnn := HN.out
    by_cases hlt : k + 1 < n
    · obtain ⟨s, hsx⟩ : ∃ x, l[k]? = some x := ⟨_, List.getElem?_eq_getElem (by omega)⟩
      obtain ⟨t, htx⟩ : ∃ x, l[k + 1]? = some x := ⟨_, List.getElem?_eq_getElem (by omega)⟩
      obtain ⟨us', hs1, hs2⟩ := H3.out k s hsx
      obtain ⟨ut', ht1, ht2⟩ := H3.out (k + 1) t htx
      obtain ⟨Au, cu, rfl, -⟩ := hs2.now.slice
      obtain ⟨Av, cv, rfl, -⟩ := ht2.now.slice
      have t1 : decide ((k : Int) + 1 < (n : Int)) = true := by simp; omega
      have XS := Lib.hid (show ∀ wq, Upd NoF wr.drew wq → wq.cell? ⟨g, k, none⟩ = some (.slice Au s.length cu) from fun wq hq => ((hq.blk (Blk.drew (hu.blk HB.out (fun f => f))) (fun f => f)).cell k).trans (HCE.out k _ hs1))
      have XT := Lib.hid (show ∀ wq, Upd NoF wr.drew wq → wq.cell? ⟨g, k + 1, none⟩ = some (.slice Av t.length cv) from fun wq hq => ((hq.blk (Blk.drew (hu.blk HB.out (fun f => f))) (fun f => f)).cell (k + 1)).trans (HCE.out (k + 1) _ ht1))
      have CALL := Lib.hid (show ∀ wq, Upd NoF wr.drew wq → Calls Try.prog 25 #[.slice Av t.length cv, .slice Au s.length cu] wq (fun e w' => e = .returned (.bool (t == s)) ∧ w' = wq) from fun wq hq => by
        have h1 : Upd M w wq := ((hu.trans (((Upd.refl NoF wr).drew).trans hq (fun _ _ f => f)) (fun _ _ f => f))).mono (fun _ _ f => f.elim)
        exact bEqual_any (ht2 wq h1) (hs2 wq h1))
      have HSX := Lib.hid hsx
      have HTY := Lib.hid htx
      have HS2 := Lib.hid hs2
      have HT2 := Lib.hid ht2
      have HT1 := Lib.hid ht1
      clear hsx htx hs1 ht1 hs2 ht2 hu hcp hnn
      go_wp2_with fail
      refine wp_region_rgw (rgR [isV (fnV 25), isV (.slice (some ⟨g, 0, none⟩) n c), isV (.int .i64 ((k : Int) + 1)), isV (.pointer (some ⟨g, k + 1, none⟩)), isV (.slice Av t.length cv), isV (.slice (some ⟨g, 0, none⟩) n c), isV (.int .i64 ((k : Int) + 1)), isV (.int .i64 (k : Int)), isV (.pointer (some ⟨g, k, none⟩)), isV (.slice Au s.length cu), isV (.bool (t == s))]) (fun w w' => Upd NoF w w') (fun _ wq => Upd NoF wr.drew wq) (by kernel_rfl) (by kernel_rfl) (by kernel_rfl) (by rfl) (fun w => Upd.refl _ _) (rgR_keep (by
        intro p hp; simp only [List.mem_cons, List.not_mem_nil, or_false] at hp; rcases hp with rfl | rfl | rfl | rfl | rfl | rfl | rfl | rfl | rfl | rfl | rfl <;> first | exact stb_isV _ | exact stb_any)) (Upd.refl _ _) ?_ ?_
      · refine ⟨?_, ?_, ?_, ?_, ?_, ?_, ?_, ?_, ?_, ?_, ?_, trivial⟩
        · refine fun ρ w' L hW hLi hcl hd hdep hext hc hg hf => ?_
          rw [if_pos (show wantedR _ _ _ = true from rfl)]
          have e1 : ρ (.tmp 1) = fnV 25 := hext 1 (by kernel_rfl)
          clear hdep hext hcl
          have HW := Lib.hid hW
          clear hW
          unfold OpDone
          go_simp
          exact ⟨rfl, Upd.refl _ _, HW.out⟩
        · refine fun ρ w' L hW hLi hcl hd hdep hext hc hg hf => ?_
          rw [if_pos (show wantedR _ _ _ = true from rfl)]
          have e0 : ρ (.tmp 0) = .slice (some ⟨g, 0, none⟩) n c := hext 0 (by kernel_rfl)
          clear hdep hext hcl
          have HW := Lib.hid hW
          clear hW
          unfold OpDone
          go_simp
          exact ⟨rfl, Upd.refl _ _, HW.out⟩
        · refine fun ρ w' L hW hLi hcl hd hdep hext hc hg hf => ?_
          rw [if_pos (show wantedR _ _ _ = true from rfl)]
          have e5 : ρ (.tmp 5) = .int .i64 ((k : Int) + 1) := hext 5 (by kernel_rfl)
          clear hdep hext hcl
          have HW := Lib.hid hW
          clear hW
          unfold OpDone
          go_simp
          exact ⟨rfl, Upd.refl _ _, HW.out⟩
        · refine fun ρ w' L hW hLi hcl hd hdep hext hc hg hf => ?_
          rw [if_pos (show wantedR _ _ _ = true from rfl)]
          have e19 : ρ (.tmp 19) = .slice (some ⟨g, 0, none⟩) n c := hdep 1 _ rfl (by kernel_rfl)
          have e20 : ρ (.tmp 20) = .int .i64 ((k : Int) + 1) := hdep 2 _ rfl (by kernel_rfl)
          have q0 : (0 : Int) ≤ (k : Int) + 1 := by omega
          have q1 : (k : Int) + 1 < (n : Int) := by omega
          have q3 : ((k : Int) + 1).toNat = k + 1 := by omega
          have q2 : k + 1 < n := by omega
          clear hdep hext hcl
          have HW := Lib.hid hW
          clear hW
          unfold OpDone
          go_simp
          exact ⟨rfl, Upd.refl _ _, HW.out⟩
        · refine fun ρ w' L hW hLi hcl hd hdep hext hc hg hf => ?_
          rw [if_pos (show wantedR _ _ _ = true from rfl)]
          have e21 : ρ (.tmp 21) = .pointer (some ⟨g, k + 1, none⟩) := hdep 3 _ rfl (by kernel_rfl)
          have yy := XT.out w' hW
          clear hdep hext hcl
          have HW := Lib.hid hW
          clear hW
          unfold OpDone
          go_simp
          exact ⟨rfl, Upd.refl _ _, HW.out⟩
        · refine fun ρ w' L hW hLi hcl hd hdep hext hc hg hf => ?_
          rw [if_pos (show wantedR _ _ _ = true from rfl)]
          have e0 : ρ (.tmp 0) = .slice (some ⟨g, 0, none⟩) n c := hext 0 (by kernel_rfl)
          clear hdep hext hcl
          have HW := Lib.hid hW
          clear hW
          unfold OpDone
          go_simp
          exact ⟨rfl, Upd.refl _ _, HW.out⟩
        · refine fun ρ w' L hW hLi hcl hd hdep hext hc hg hf => ?_
          rw [if_pos (show wantedR _ _ _ = true from rfl)]
          have e5 : ρ (.tmp 5) = .int .i64 ((k : Int) + 1) := hext 5 (by kernel_rfl)
          clear hdep hext hcl
          have HW := Lib.hid hW
          clear hW
          unfold OpDone
          go_simp
          exact ⟨rfl, Upd.refl _ _, HW.out⟩
        · refine fun ρ w' L hW hLi hcl hd hdep hext hc hg hf => ?_
          rw [if_pos (show wantedR _ _ _ = true from rfl)]
          have e24 : ρ (.tmp 24) = .int .i64 ((k : Int) + 1) := hdep 6 _ rfl (by kernel_rfl)
          have ww : IntKind.i64.wrap (k : Int) = k := IntWalk.i64_in _ (by omega)
          clear hdep hext hcl
          have HW := Lib.hid hW
          clear hW
          unfold OpDone
          go_simp
          exact ⟨rfl, Upd.refl _ _, HW.out⟩
        · refine fun ρ w' L hW hLi hcl hd hdep hext hc hg hf => ?_
          rw [if_pos (show wantedR _ _ _ = true from rfl)]
          have e23 : ρ (.tmp 23) = .slice (some ⟨g, 0, none⟩) n c := hdep 5 _ rfl (by kernel_rfl)
          have e25 : ρ (.tmp 25) = .int .i64 (k : Int) := hdep 7 _ rfl (by kernel_rfl)
          have q0 : (0 : Int) ≤ (k : Int) := by omega
          have q1 : (k : Int) < (n : Int) := by omega
          have q2 : k < n := by omega
          clear hdep hext hcl
          have HW := Lib.hid hW
          clear hW
          unfold OpDone
          go_simp
          exact ⟨rfl, Upd.refl _ _, HW.out⟩
        · refine fun ρ w' L hW hLi hcl hd hdep hext hc hg hf => ?_
          rw [if_pos (show wantedR _ _ _ = true from rfl)]
          have e26 : ρ (.tmp 26) = .pointer (some ⟨g, k, none⟩) := hdep 8 _ rfl (by kernel_rfl)
          have yy := XS.out w' hW
          clear hdep hext hcl
          have HW := Lib.hid hW
          clear hW
          unfold OpDone
          go_simp
          exact ⟨rfl, Upd.refl _ _, HW.out⟩
        · refine fun ρ w' L hW hLi hcl hd hdep hext hc hg hf => ?_
          rw [if_pos (show wantedR _ _ _ = true from rfl)]
          have e18 : ρ (.tmp 18) = fnV 25 := hdep 0 _ rfl (by kernel_rfl)
          have e22 : ρ (.tmp 22) = .slice Av t.length cv := hdep 4 _ rfl (by kernel_rfl)
          have e27 : ρ (.tmp 27) = .slice Au s.length cu := hdep 9 _ rfl (by kernel_rfl)
          clear hdep hext
          have CL := Lib.hid (CALL.out w' hW)
          have HW := Lib.hid hW
          clear hW
          unfold OpDone
          unfold fnV at *
          go_simp
          refine CL.out.mono ?_
          rintro e w5 ⟨rfl, rfl⟩
          exact ⟨_, rfl, rfl, Upd.refl _ _, HW.out⟩
      intro vs W8 L8 hL8 hW8 hR
      have hv0 : vs 0 = fnV 25 := hR 0 _ rfl
      have hv1 : vs 1 = .slice (some ⟨g, 0, none⟩) n c := hR 1 _ rfl
      have hv2 : vs 2 = .int .i64 ((k : Int) + 1) := hR 2 _ rfl
      have hv3 : vs 3 = .pointer (some ⟨g, k + 1, none⟩) := hR 3 _ rfl
      have hv4 : vs 4 = .slice Av t.length cv := hR 4 _ rfl
      have hv5 : vs 5 = .slice (some ⟨g, 0, none⟩) n c := hR 5 _ rfl
      have hv6 : vs 6 = .int .i64 ((k : Int) + 1) := hR 6 _ rfl
      have hv7 : vs 7 = .int .i64 (k : Int) := hR 7 _ rfl
      have hv8 : vs 8 = .pointer (some ⟨g, k, none⟩) := hR 8 _ rfl
      have hv9 : vs 9 = .slice Au s.length cu := hR 9 _ rfl
      have hv10 : vs 10 = .bool (t == s) := hR 10 _ rfl
      simp only [putAll, Act.put, List.setIfInBounds_toArray, List.set_cons_zero, List.set_cons_succ, hv0, hv1, hv2, hv3, hv4, hv5, hv6, hv7, hv8, hv9, hv10]
      clear hR hv0 hv1 hv2 hv3 hv4 hv5 hv6 hv7 hv8 hv9 hv10
      have HU8 := Lib.hid (show Upd NoF w W8 from HU.out.trans (((Upd.refl NoF wr).drew).trans hW8 (fun _ _ f => f)) (fun _ _ f => f))
      clear hW8
      cases hst : (t == s) with
      | false =>
        have HNE := Lib.hid (show s ≠ t from fun e => by rw [e] at hst; simp at hst)
        clear hst
        go_wp2
        go_roundw
        case rel => exact ⟨k + 1, by go_num, by have := HN.out; omega, comp_two HSX.out HTY.out HNE.out HCP.out, HU8.out⟩
        case measure => simp [intOf]; omega
      | true =>
        have HEQ := Lib.hid (show s = t from (eq_of_beq hst).symm)
        clear hst
        obtain ⟨k0, hk0⟩ : ∃ x, x = k + 1 := ⟨_, rfl⟩
        have hk0i : (k : Int) + 1 = (k0 : Int) := by omega
        have hk0n : k0 < n := by omega
        have HK0 := Lib.hid hk0
        rw [hk0i]
        have z1 : (0 : Int) ≤ (k0 : Int) := by omega
        have z2 : (k0 : Int) ≤ (n : Int) := by omega
        have z3 : (k0 : Int) ≤ (c : Int) := by omega
        clear t1 hk0 hk0i hlt hk
        go_wp2
        obtain ⟨n2, hn2⟩ : ∃ x, n - k0 = x := ⟨_, rfl⟩
        obtain ⟨c2, hc2⟩ : ∃ x, c - k0 = x := ⟨_, rfl⟩
        rw [hn2, hc2]
        have hn2' : k0 + n2 = n := by omega
        have hc2' : k0 + c2 = c := by omega
        have HC0 := Lib.hid (show CpSt w M g us l cur.size (k0 + 0) k0 cur from by
          have hq := HK0.out
          have e : compL (l.take (k + 1 + 1)) = l.take (k + 1) := by rw [comp_next HSX.out HTY.out, if_pos HEQ.out, HCP.out]
          subst hq
          refine ⟨rfl, ?_, Nat.le_refl _, fun i x hx => ?_, fun i hi hi2 => ?_⟩
          · rw [Nat.add_zero, e, List.length_take]
            have := HN.out
            omega
          · rw [Nat.add_zero, e, List.getElem?_take] at hx
            split at hx
            · obtain ⟨u, h1, h2⟩ := H3.out i x hx
              exact ⟨u, HCE.out i u h1, H0.out u (List.mem_of_getElem? h1), h2⟩
            · cases hx
          · obtain ⟨u, hu⟩ : ∃ u, us[i]? = some u := ⟨_, List.getElem?_eq_getElem (by have := HUL.out; omega)⟩
            rw [hu, HCE.out i u hu])
        clear hn2 hc2 z1 z2 z3
        obtain ⟨wo, rfl⟩ : ∃ wo : World, wo = wr := ⟨_, rfl⟩
        go_loopw [5, 7] (fun x i wr => Cp2Rel w M g us l cur.size k0 x i wr) (fun _ i _ => n2 - (intOf i).toNat)
        case atStart => exact ⟨0, k0, cur, rfl, rfl, by have := HN.out; omega, HC0.out, HU8.out.blk HB.out (fun f => f), HU8.out.mono (fun _ _ f => f.elim)⟩
        case round =>
          clear XS XT CALL HS2 HT2 HT1 HSX HTY HEQ HCP HU HU8 HC0
          obtain ⟨j, q, cu1, rfl, rfl, hj, hst, hb1, hu⟩ := hrel
          have HST := Lib.hid hst
          have HB1 := Lib.hid hb1
          have HU := Lib.hid hu
          have hnn := HN.out
          have hqj : q ≤ k0 + j := hst.le
          by_cases hlt : j + 1 < n2
          · obtain ⟨s, hsx⟩ : ∃ x, l[k0 + j]? = some x := ⟨_, List.getElem?_eq_getElem (by omega)⟩
            obtain ⟨t, htx⟩ : ∃ x, l[k0 + j + 1]? = some x := ⟨_, List.getElem?_eq_getElem (by omega)⟩
            obtain ⟨us', hs1, hs2⟩ := H3.out (k0 + j) s hsx
            obtain ⟨ut', ht1, ht2⟩ := H3.out (k0 + j + 1) t htx
            obtain ⟨Au, cu, rfl, -⟩ := hs2.now.slice
            obtain ⟨Av, cv, rfl, -⟩ := ht2.now.slice
            have t1 : decide ((j : Int) + 1 < (n2 : Int)) = true := by simp; omega
            have XS := Lib.hid (show ∀ wq, Upd NoF wr.drew wq → wq.cell? ⟨g, k0 + j, none⟩ = some (.slice Au s.length cu) from fun wq hq => ((hq.blk (Blk.drew hb1) (fun f => f)).cell (k0 + j)).trans ((hst.rest _ (Nat.le_refl _) (by omega)).trans hs1))
            have XT := Lib.hid (show ∀ wq, Upd NoF wr.drew wq → wq.cell? ⟨g, k0 + (j + 1), none⟩ = some (.slice Av t.length cv) from fun wq hq => ((hq.blk (Blk.drew hb1) (fun f => f)).cell (k0 + (j + 1))).trans ((hst.rest _ (by omega) (by omega)).trans ht1))
            have CALL := Lib.hid (show ∀ wq, Upd NoF wr.drew wq → Calls Try.prog 25 #[.slice Av t.length cv, .slice Au s.length cu] wq (fun e w' => e = .returned (.bool (t == s)) ∧ w' = wq) from fun wq hq => by
              have h1 : Upd M w wq := (hu.mono (fun k _ e => by rw [show k = g from e]; exact HMG.out)).trans (((Upd.refl NoF wr).drew).trans hq (fun _ _ f => f)) (fun _ _ f => f.elim)
              exact bEqual_any (ht2 wq h1) (hs2 wq h1))
            have HSX := Lib.hid hsx
            have HTY := Lib.hid htx
            have HT2 := Lib.hid ht2
            clear hsx htx hs1 ht1 hs2 ht2 hu hst hb1 hnn
            go_wp2_with fail
            refine wp_region_rgw (rgR [isV (fnV 25), isV (.slice (some ⟨g, k0, none⟩) n2 c2), isV (.int .i64 ((j : Int) + 1)), isV (.pointer (some ⟨g, k0 + (j + 1), none⟩)), isV (.slice Av t.length cv), isV (.slice (some ⟨g, k0, none⟩) n2 c2), isV (.int .i64 ((j : Int) + 1)), isV (.int .i64 (j : Int)), isV (.pointer (some ⟨g, k0 + j, none⟩)), isV (.slice Au s.length cu), isV (.bool (t == s)), isV (.bool (!(t == s)))]) (fun w w' => Upd NoF w w') (fun _ wq => Upd NoF wr.drew wq) (by kernel_rfl) (by kernel_rfl) (by kernel_rfl) (by rfl) (fun w => Upd.refl _ _) (rgR_keep (by
              intro p hp; simp only [List.mem_cons, List.not_mem_nil, or_false] at hp; rcases hp with rfl | rfl | rfl | rfl | rfl | rfl | rfl | rfl | rfl | rfl | rfl | rfl <;> first | exact stb_isV _ | exact stb_any)) (Upd.refl _ _) ?_ ?_
            · refine ⟨?_, ?_, ?_, ?_, ?_, ?_, ?_, ?_, ?_, ?_, ?_, ?_, trivial⟩
              · refine fun ρ w' L hW hLi hcl hd hdep hext hc hg hf => ?_
                rw [if_pos (show wantedR _ _ _ = true from rfl)]
                have e1 : ρ (.tmp 1) = fnV 25 := hext 1 (by kernel_rfl)
                clear hdep hext hcl
                have HW := Lib.hid hW
                clear hW
                unfold OpDone
                go_simp
                exact ⟨rfl, Upd.refl _ _, HW.out⟩
              · refine fun ρ w' L hW hLi hcl hd hdep hext hc hg hf => ?_
                rw [if_pos (show wantedR _ _ _ = true from rfl)]
                have e6 : ρ (.tmp 6) = .slice (some ⟨g, k0, none⟩) n2 c2 := hext 6 (by kernel_rfl)
                clear hdep hext hcl
                have HW := Lib.hid hW
                clear hW
                unfold OpDone
                go_simp
                exact ⟨rfl, Upd.refl _ _, HW.out⟩
              · refine fun ρ w' L hW hLi hcl hd hdep hext hc hg hf => ?_
                rw [if_pos (show wantedR _ _ _ = true from rfl)]
                have e7 : ρ (.tmp 7) = .int .i64 ((j : Int) + 1) := hext 7 (by kernel_rfl)
                clear hdep hext hcl
                have HW := Lib.hid hW
                clear hW
                unfold OpDone
                go_simp
                exact ⟨rfl, Upd.refl _ _, HW.out⟩
              · refine fun ρ w' L hW hLi hcl hd hdep hext hc hg hf => ?_
                rw [if_pos (show wantedR _ _ _ = true from rfl)]
                have e39 : ρ (.tmp 39) = .slice (some ⟨g, k0, none⟩) n2 c2 := hdep 1 _ rfl (by kernel_rfl)
                have e40 : ρ (.tmp 40) = .int .i64 ((j : Int) + 1) := hdep 2 _ rfl (by kernel_rfl)
                have q0 : (0 : Int) ≤ (j : Int) + 1 := by omega
                have q1 : (j : Int) + 1 < (n2 : Int) := by omega
                have q3 : ((j : Int) + 1).toNat = j + 1 := by omega
                have q2 : j + 1 < n2 := by omega
                clear hdep hext hcl
                have HW := Lib.hid hW
                clear hW
                unfold OpDone
                go_simp
                exact ⟨rfl, Upd.refl _ _, HW.out⟩
              · refine fun ρ w' L hW hLi hcl hd hdep hext hc hg hf => ?_
                rw [if_pos (show wantedR _ _ _ = true from rfl)]
                have e41 : ρ (.tmp 41) = .pointer (some ⟨g, k0 + (j + 1), none⟩) := hdep 3 _ rfl (by kernel_rfl)
                have yy := XT.out w' hW
                clear hdep hext hcl
                have HW := Lib.hid hW
                clear hW
                unfold OpDone
                go_simp
                exact ⟨rfl, Upd.refl _ _, HW.out⟩
              · refine fun ρ w' L hW hLi hcl hd hdep hext hc hg hf => ?_
                rw [if_pos (show wantedR _ _ _ = true from rfl)]
                have e6 : ρ (.tmp 6) = .slice (some ⟨g, k0, none⟩) n2 c2 := hext 6 (by kernel_rfl)
                clear hdep hext hcl
                have HW := Lib.hid hW
                clear hW
                unfold OpDone
                go_simp
                exact ⟨rfl, Upd.refl _ _, HW.out⟩
              · refine fun ρ w' L hW hLi hcl hd hdep hext hc hg hf => ?_
                rw [if_pos (show wantedR _ _ _ = true from rfl)]
                have e7 : ρ (.tmp 7) = .int .i64 ((j : Int) + 1) := hext 7 (by kernel_rfl)
                clear hdep hext hcl
                have HW := Lib.hid hW
                clear hW
                unfold OpDone
                go_simp
                exact ⟨rfl, Upd.refl _ _, HW.out⟩
              · refine fun ρ w' L hW hLi hcl hd hdep hext hc hg hf => ?_
                rw [if_pos (show wantedR _ _ _ = true from rfl)]
                have e44 : ρ (.tmp 44) = .int .i64 ((j : Int) + 1) := hdep 6 _ rfl (by kernel_rfl)
                have ww : IntKind.i64.wrap (j : Int) = j := IntWalk.i64_in _ (by omega)
                clear hdep hext hcl
                have HW := Lib.hid hW
                clear hW
                unfold OpDone
                go_simp
                exact ⟨rfl, Upd.refl _ _, HW.out⟩
              · refine fun ρ w' L hW hLi hcl hd hdep hext hc hg hf => ?_
                rw [if_pos (show wantedR _ _ _ = true from rfl)]
                have e43 : ρ (.tmp 43) = .slice (some ⟨g, k0, none⟩) n2 c2 := hdep 5 _ rfl (by kernel_rfl)
                have e45 : ρ (.tmp 45) = .int .i64 (j : Int) := hdep 7 _ rfl (by kernel_rfl)
                have q0 : (0 : Int) ≤ (j : Int) := by omega
                have q1 : (j : Int) < (n2 : Int) := by omega
                have q2 : j < n2 := by omega
                clear hdep hext hcl
                have HW := Lib.hid hW
                clear hW
                unfold OpDone
                go_simp
                exact ⟨rfl, Upd.refl _ _, HW.out⟩
              · refine fun ρ w' L hW hLi hcl hd hdep hext hc hg hf => ?_
                rw [if_pos (show wantedR _ _ _ = true from rfl)]
                have e46 : ρ (.tmp 46) = .pointer (some ⟨g, k0 + j, none⟩) := hdep 8 _ rfl (by kernel_rfl)
                have yy := XS.out w' hW
                clear hdep hext hcl
                have HW := Lib.hid hW
                clear hW
                unfold OpDone
                go_simp
                exact ⟨rfl, Upd.refl _ _, HW.out⟩
              · refine fun ρ w' L hW hLi hcl hd hdep hext hc hg hf => ?_
                rw [if_pos (show wantedR _ _ _ = true from rfl)]
                have e38 : ρ (.tmp 38) = fnV 25 := hdep 0 _ rfl (by kernel_rfl)
                have e42 : ρ (.tmp 42) = .slice Av t.length cv := hdep 4 _ rfl (by kernel_rfl)
                have e47 : ρ (.tmp 47) = .slice Au s.length cu := hdep 9 _ rfl (by kernel_rfl)
                clear hdep hext
                have CL := Lib.hid (CALL.out w' hW)
                have HW := Lib.hid hW
                clear hW
                unfold OpDone
                unfold fnV at *
                go_simp
                refine CL.out.mono ?_
                rintro e w5 ⟨rfl, rfl⟩
                exact ⟨_, rfl, rfl, Upd.refl _ _, HW.out⟩
              · refine fun ρ w' L hW hLi hcl hd hdep hext hc hg hf => ?_
                rw [if_pos (show wantedR _ _ _ = true from rfl)]
                have e48 : ρ (.tmp 48) = .bool (t == s) := hdep 10 _ rfl (by kernel_rfl)
                clear hdep hext hcl
                have HW := Lib.hid hW
                clear hW
                unfold OpDone
                go_simp
                exact ⟨rfl, Upd.refl _ _, HW.out⟩
            intro vs W8 L8 hL8 hW8 hR
            have hv0 : vs 0 = fnV 25 := hR 0 _ rfl
            have hv1 : vs 1 = .slice (some ⟨g, k0, none⟩) n2 c2 := hR 1 _ rfl
            have hv2 : vs 2 = .int .i64 ((j : Int) + 1) := hR 2 _ rfl
            have hv3 : vs 3 = .pointer (some ⟨g, k0 + (j + 1), none⟩) := hR 3 _ rfl
            have hv4 : vs 4 = .slice Av t.length cv := hR 4 _ rfl
            have hv5 : vs 5 = .slice (some ⟨g, k0, none⟩) n2 c2 := hR 5 _ rfl
            have hv6 : vs 6 = .int .i64 ((j : Int) + 1) := hR 6 _ rfl
            have hv7 : vs 7 = .int .i64 (j : Int) := hR 7 _ rfl
            have hv8 : vs 8 = .pointer (some ⟨g, k0 + j, none⟩) := hR 8 _ rfl
            have hv9 : vs 9 = .slice Au s.length cu := hR 9 _ rfl
            have hv10 : vs 10 = .bool (t == s) := hR 10 _ rfl
            have hv11 : vs 11 = .bool (!(t == s)) := hR 11 _ rfl
            simp only [putAll, Act.put, List.setIfInBounds_toArray, List.set_cons_zero, List.set_cons_succ, hv0, hv1, hv2, hv3, hv4, hv5, hv6, hv7, hv8, hv9, hv10, hv11]
            clear hR hv0 hv1 hv2 hv3 hv4 hv5 hv6 hv7 hv8 hv9 hv10 hv11
            have HB8 := Lib.hid (show Blk W8 g 36 cu1 from hW8.blk (Blk.drew HB1.out) (fun f => f))
            have HU8 := Lib.hid (show Upd (fun k => k = g) w W8 from HU.out.trans (((Upd.refl NoF wr).drew).trans hW8 (fun _ _ f => f)) (fun _ _ f => f.elim))
            have XT8 := Lib.hid (XT.out W8 hW8)
            clear hW8
            cases hst : (t == s) with
            | true =>
              have HEQ := Lib.hid (show s = t from (eq_of_beq hst).symm)
              clear hst
              go_wp2
              go_roundw
              case rel => exact ⟨j + 1, q, cu1, rfl, by go_num, by have := HN.out; omega, HST.out.skip HSX.out HTY.out HEQ.out, HB8.out, HU8.out⟩
              case measure => simp [intOf]; omega
            | false =>
              have HNE := Lib.hid (show s ≠ t from fun e => by rw [e] at hst; simp at hst)
              have x1 := XT8.out
              have q0 : (0 : Int) ≤ (j : Int) + 1 := by omega
              have q1 : (j : Int) + 1 < (n2 : Int) := by omega
              have q3 : ((j : Int) + 1).toNat = j + 1 := by omega
              have q2 : j + 1 < n2 := by omega
              have r0 : (0 : Int) ≤ (q : Int) := by omega
              have r1 : (q : Int) < (n : Int) := by omega
              have r2 : q < n := by omega
              have r3 : W8.frozen? ⟨g, q, none⟩ = false := HB8.out.frozen q
              obtain ⟨v0, hv0⟩ : ∃ v, W8.cell? ⟨g, q, none⟩ = some v := ⟨_, (HB8.out.cell q).trans (Array.getElem?_eq_getElem (by have := HST.out.size; have := HCS.out; omega))⟩
              clear hst
              go_wp2
              go_roundw
              case rel => exact ⟨j + 1, q + 1, _, by go_num, by go_num, by have := HN.out; omega, HST.out.keep HSX.out HTY.out HNE.out rfl HT2.out (by have := HCS.out; have := HN.out; omega), HB8.out.put q _, HU8.out.setCell (p := ⟨g, q, none⟩) (.inl rfl) _⟩
              case measure => simp [intOf]; omega
          · have t1 : decide ((j : Int) + 1 < (n2 : Int)) = false := by simp; omega
            have HFIN := Lib.hid (show l.take (k0 + j + 1) = l from List.take_of_length_le (by omega))
            have HQN := Lib.hid (show q < n by omega)
            have HQN' := Lib.hid (show q + (n - q) = n by omega)
            have z1 : (0 : Int) ≤ (q : Int) := by omega
            have z2 : (q : Int) ≤ (n : Int) := by omega
            have z3 : (q : Int) ≤ (c : Int) := by omega
            have z4 : q < c := by omega
            have z5 : q < n := by omega
            clear hst hb1 hu hnn hlt hqj hj hn2' hc2' hk0n
            obtain ⟨w9, hcl, hb9, hu9⟩ := run_clear_t (b := q) (n := n - q) (by omega) HB1.out (by have := HST.out.size; have := HCS.out; omega)
            have B9 := Lib.hid hb9
            have U9 := Lib.hid hu9
            clear hb9 hu9
            go_wp2
            go_ret
            have hsc := HST.out.len
            rw [HFIN.out] at hsc
            have U := HU.out.trans U9.out (fun _ _ f => f)
            have UM : Upd M w w9 := U.mono (fun k _ e => by rw [show k = g from e]; exact HMG.out)
            have hszc := HST.out.size
            have hcs := HCS.out
            have hpick : ∀ i, i < q → ((cu1.toList.take q ++ List.replicate (n - q) (Value.slice none 0 0) ++ cu1.toList.drop (q + (n - q))))[i]? = cu1[i]? := fun i hi => by
              rw [List.append_assoc, List.getElem?_append_left (by simp; omega), List.getElem?_take, if_pos hi]
              simp
            refine ⟨?_, ⟨cu1.toList.take q, by rw [hsc]; simp; omega, ?_, ?_, fun i s hs => ?_⟩, U.mono (fun k _ e => by rw [show k = g from e]; simp [OwnB, Value.ownBlock])⟩
            · rw [hsc]; rfl
            · rw [hsc]
              refine ⟨by simp; omega, .inr ⟨g, c, _, rfl, B9.out, by omega, hcm', ?_, ?_⟩⟩
              · simp; omega
              · rw [Nat.mul_one, List.append_assoc, List.take_append_of_le_length (by simp; omega), List.take_take, Nat.min_self]
            · intro u hu
              obtain ⟨i, hi⟩ := List.getElem?_of_mem hu
              rw [List.getElem?_take] at hi
              split at hi
              · next hiq =>
                obtain ⟨t, ht⟩ : ∃ t, (compL l)[i]? = some t := ⟨_, List.getElem?_eq_getElem (by omega)⟩
                obtain ⟨y, y1, y2, _⟩ := HST.out.cells i t (by rw [HFIN.out]; exact ht)
                rw [Array.getElem?_toList, y1] at hi
                rw [← Option.some.inj hi]
                exact y2
              · cases hi
            · obtain ⟨y, y1, y2, y3⟩ := HST.out.cells i s (by rw [HFIN.out]; exact hs)
              have hiq : i < q := by rw [← hsc]; exact (List.getElem?_eq_some_iff.1 hs).1
              exact ⟨y, by rw [List.getElem?_take, if_pos hiq, Array.getElem?_toList]; exact y1, y3.upd UM⟩
    · have t1 : decide ((k : Int) + 1 < (n : Int)) = false := by simp; omega
      have HFIN := Lib.hid (show compL l = l from by have := HCP.out; rw [List.take_of_length_le (by omega)] at this; exact this)
      clear hcp hu hnn
      go_wp2
      go_ret
      unfold CompTPost
      rw [HFIN.out, HN.out]
      exact ⟨rfl, TxM.upd HTX.out HU.out (fun _ _ f => f) (fun _ _ f => f.elim), HU.out.mono (fun _ _ f => f.elim)⟩
end

section
open Go.RowKit

/-- What op number i is owed: L says which operations have run; W what the world is like then. -/
def OpStepV (P : Program) (l : List Oper) (R : Nat → Value → World → Prop) (St : (Nat → Bool) → World → World → Prop) (W : (Nat → Bool) → (Operand → Value) → World → Prop) (ρ0 : Operand → Value) (i : Nat) (o : Oper) : Prop :=
  ∀ (ρ : Operand → Value) (w : World) (L : Nat → Bool), W L ρ w → L i = false → (∀ j k, L j = true → depOn l j k = true → L k = true) → (∀ k, depOn l i k = true → L k = true) → (∀ j oj, l[j]? = some oj → depOn l i j = true → R j (slotV ρ oj) w) → (∀ t, extOk l i t = true → ρ (.tmp t) = ρ0 (.tmp t)) → (∀ v, ρ (.const v) = v) → (∀ g, ρ (.global g) = .pointer (some ⟨g, 0, none⟩)) → (∀ f, ρ (.func f) = .func (.func f) #[] #[]) →
    if wantedR l o ρ = true then OpDone P o ρ w (fun v w' => R i (leftV o v) w' ∧ St L w w' ∧ (∀ ρ' : Operand → Value, (∀ t, o.dst ≠ some t → ρ' (.tmp t) = ρ (.tmp t)) → (∀ d, o.dst = some d → ρ' (.tmp d) = v) → W (fun j => j == i || L j) ρ' w')) else R i undef w ∧ (∀ ρ' : Operand → Value, (∀ t, o.dst ≠ some t → ρ' (.tmp t) = ρ (.tmp t)) → (∀ d, o.dst = some d → ρ' (.tmp d) = undef) → W (fun j => j == i || L j) ρ' w)

def AllOpsV (P : Program) (l : List Oper) (R : Nat → Value → World → Prop) (St : (Nat → Bool) → World → World → Prop) (W : (Nat → Bool) → (Operand → Value) → World → Prop) (ρ0 : Operand → Value) : Nat → List Oper → Prop
  | _, [] => True
  | i, o :: r => OpStepV P l R St W ρ0 i o ∧ AllOpsV P l R St W ρ0 (i + 1) r

structure RgAtV (l : List Oper) (R : Nat → Value → World → Prop) (W : (Nat → Bool) → (Operand → Value) → World → Prop) (a0 : Act) (listed : Array Bool) (a : Act) (w : World) : Prop where
  ls : listed.size = l.length
  size : a.tmps.size = a0.tmps.size
  defers : a.defers = a0.defers
  st : W (lst listed) a.eval w
  done : ∀ (j : Nat) oj, l[j]? = some oj → listed[j]? = some true → R j (slotV a.eval oj) w
  ext : ∀ t, (∀ (j : Nat) oj, l[j]? = some oj → oj.dst = some t → listed[j]? = some false) → a.tmps[t]? = a0.tmps[t]?
  closed : ∀ (j k : Nat), listed[j]? = some true → depOn l j k = true → listed[k]? = some true
theorem RgAtV.toAt {l : List Oper} {R : Nat → Value → World → Prop} {W : (Nat → Bool) → (Operand → Value) → World → Prop} {a0 : Act} {listed : Array Bool} {a : Act} {w : World} (h : RgAtV l R W a0 listed a w) : RgAt l R (fun _ _ => True) a0 listed a w :=
  ⟨h.ls, h.size, h.defers, trivial, h.done, h.ext, h.closed⟩

section
variable {P : Program} {l : List Oper} {R : Nat → Value → World → Prop} {St : (Nat → Bool) → World → World → Prop} {W : (Nat → Bool) → (Operand → Value) → World → Prop} {a0 : Act}

theorem AllOpsV.get {ρ0 : Operand → Value} : ∀ {r : List Oper} {k : Nat}, AllOpsV P l R St W ρ0 k r → ∀ {i : Nat} {o : Oper}, r[i]? = some o → OpStepV P l R St W ρ0 (k + i) o
  | [], _, _, i, o, h => by cases h
  | x :: r, k, h, 0, o, hi => by
    simp at hi
    subst hi
    exact h.1
  | x :: r, k, h, i + 1, o, hi => by
    have := AllOpsV.get h.2 (i := i) (o := o) (by simpa using hi)
    rw [show k + (i + 1) = k + 1 + i by omega]
    exact this

theorem RgAtV.stepV (st_refl : ∀ L w, St L w w) (keep : ∀ L i v w w', L i = true → R i v w → St L w w' → R i v w') (hdi : distinctB l = true) (hdst : ∀ o ∈ l, ∀ d, o.dst = some d → d < a0.tmps.size) {Q : Exit → Act → World → Prop} (hops : AllOpsV P l R St W a0.eval 0 l) {listed : Array Bool} {a : Act} {w : World} (h : RgAtV l R W a0 listed a w) {i : Nat} {o : Oper} (ho : l[i]? = some o) (hun : listed[i]? = some false) (hrdy : ∀ k, depOn l i k = true → listed[k]? = some true) :
    if Region.wanted o (yielded l.toArray a.tmps) then o.wp P a w (fun a' w' => RgAtV l R W a0 (listed.setIfInBounds i true) a' w') Q else RgAtV l R W a0 (listed.setIfInBounds i true) (a.put o.dst undef) w := by
  have hi : i < listed.size := (Array.getElem?_eq_some_iff.1 hun).1
  have hs := (hops.get ho) a.eval w (lst listed) h.st (by simp [lst, hun]) (fun j k hj hk => by unfold lst at hj ⊢; rw [beq_iff_eq] at hj ⊢; exact h.closed j k hj hk) (fun k hk => by unfold lst; rw [beq_iff_eq]; exact hrdy k (by simpa using hk)) (fun j oj hj hd => h.done j oj hj (hrdy j (by simpa using hd))) (fun t ht => by
    have hx := h.ext t (fun j oj hj hd => by
      have hdep := extFrom_get ht hj hd
      rw [Nat.zero_add, Nat.zero_add] at hdep
      have hjl : j < listed.size := by rw [h.ls]; exact (List.getElem?_eq_some_iff.1 hj).1
      rw [Array.getElem?_eq_getElem hjl]
      cases hb : listed[j] with
      | false => rfl
      | true =>
        have := h.closed j i (by rw [Array.getElem?_eq_getElem hjl, hb]) hdep
        rw [hun] at this
        cases this)
    simp only [Act.eval, Array.getD_eq_getD_getElem?, hx]) (fun _ => rfl) (fun _ => rfl) (fun _ => rfl)
  rw [Nat.zero_add] at hs
  have hlst : lst (listed.setIfInBounds i true) = fun j => j == i || lst listed j := by
    funext j
    unfold lst
    by_cases hji : j = i
    · subst hji; simp [hi]
    · rw [Array.getElem?_setIfInBounds_ne (fun e => hji e.symm)]; simp [hji]
  have next : ∀ v w', R i (leftV o v) w' → St (lst listed) w w' → (∀ ρ' : Operand → Value, (∀ t, o.dst ≠ some t → ρ' (.tmp t) = a.eval (.tmp t)) → (∀ d, o.dst = some d → ρ' (.tmp d) = v) → W (fun j => j == i || lst listed j) ρ' w') → RgAtV l R W a0 (listed.setIfInBounds i true) (a.put o.dst v) w' := by
    intro v w' hv hst hW
    have hset : ∀ j, j ≠ i → (listed.setIfInBounds i true)[j]? = listed[j]? := fun j hj => Array.getElem?_setIfInBounds_ne (fun e => hj e.symm)
    have hseti : (listed.setIfInBounds i true)[i]? = some true := by simp [hi]
    refine ⟨by simp [h.ls], by rw [put_size, h.size], by rw [put_defers, h.defers], by
      rw [hlst]
      refine hW _ (fun t ht => ?_) (fun d hd => ?_)
      · simp only [Act.eval, Array.getD_eq_getD_getElem?, put_get_ne a ht]
      · have hlt : d < a.tmps.size := by rw [h.size]; exact hdst o (List.mem_of_getElem? ho) d hd
        rw [hd]
        simp only [Act.eval, Array.getD_eq_getD_getElem?, put_get_same a hlt, Option.getD_some], ?_, ?_, ?_⟩
    · intro j oj hj hl
      by_cases hji : j = i
      · subst hji
        have e := ho.symm.trans hj
        have e := Option.some.inj e
        subst e
        have : slotV (a.put o.dst v).eval o = leftV o v := by
          unfold slotV leftV
          cases hd : o.dst with
          | none => rfl
          | some d =>
            have hlt : d < a.tmps.size := by rw [h.size]; exact hdst o (List.mem_of_getElem? ho) d hd
            simp only [Act.eval, Array.getD_eq_getD_getElem?, put_get_same a hlt]
            rfl
        rw [this]
        exact hv
      · rw [hset j hji] at hl
        have hr := h.done j oj hj hl
        have e : slotV (a.put o.dst v).eval oj = slotV a.eval oj := by
          unfold slotV
          cases hd : oj.dst with
          | none => rfl
          | some d =>
            have : o.dst ≠ some d := fun e => hji (distinct_get hdi hj ho hd e)
            simp only [Act.eval, Array.getD_eq_getD_getElem?, put_get_ne a this]
        rw [e]
        exact keep (lst listed) _ _ _ _ (by unfold lst; rw [hl]; rfl) hr hst
    · intro t ht
      have hne : o.dst ≠ some t := fun e => by
        have := ht i o ho e
        rw [hseti] at this
        cases this
      rw [put_get_ne a hne]
      refine h.ext t (fun j oj hj hd => ?_)
      have := ht j oj hj hd
      by_cases hji : j = i
      · subst hji; rw [hseti] at this; cases this
      · rw [hset j hji] at this; exact this
    · intro j k hj hd
      by_cases hji : j = i
      · subst hji
        have := hrdy k hd
        by_cases hki : k = j
        · subst hki; exact hseti
        · rw [hset k hki]; exact this
      · rw [hset j hji] at hj
        have := h.closed j k hj hd
        by_cases hki : k = i
        · subst hki; exact hseti
        · rw [hset k hki]; exact this
  rw [wanted_eq]
  by_cases hw : wantedR l o a.eval = true
  · rw [if_pos hw] at hs ⊢
    exact hs.wp (fun v w' ⟨h1, h2, h3⟩ => next v w' h1 h2 h3)
  · rw [if_neg hw] at hs ⊢
    have e : leftV o undef = undef := by unfold leftV; cases o.dst <;> rfl
    exact next undef w (by rw [e]; exact hs.1) (st_refl _ w) hs.2


theorem RgAtV.anyV (st_refl : ∀ L w, St L w w) (keep : ∀ L i v w w', L i = true → R i v w → St L w w' → R i v w') (hac : acycFrom 0 l = true) (hdi : distinctB l = true) (hdst : ∀ o ∈ l, ∀ d, o.dst = some d → d < a0.tmps.size) {Q : Exit → Act → World → Prop} (hops : AllOpsV P l R St W a0.eval 0 l) (hend : ∀ (vs : Nat → Value) (w : World) (L : Nat → Bool), (∀ i, i < l.length → L i = true) → W L (putAll l vs 0 a0).eval w → (∀ (i : Nat) o, l[i]? = some o → R i (leftV o (vs i)) w) → Q .normal (putAll l vs 0 a0) w) :
    ∀ (fuel : Nat) (listed : Array Bool) (a : Act) (w : World), unl listed.toList ≤ fuel → RgAtV l R W a0 listed a w → wpAny P .any l.toArray Q fuel listed a w := by
  have fin : ∀ (listed : Array Bool) (a : Act) (w : World), RgAtV l R W a0 listed a w → Region.ready .any l.toArray listed = [] → Q .normal a w := by
    intro listed a w h hr
    have hn := not_ready hac h.ls hr
    obtain ⟨vs, rfl, hv⟩ := h.toAt.fin hdi (fun b hb => by
      obtain ⟨i, hi⟩ := List.getElem?_of_mem hb
      have hlt : i < l.length := by rw [← h.ls]; have := (List.getElem?_eq_some_iff.1 hi).1; simpa using this
      have := hn i hlt
      have hi' : listed[i]? = some b := by simpa using hi
      rw [hi'] at this
      exact Option.some.inj this)
    exact hend vs w (lst listed) (fun i hi => by unfold lst; rw [beq_iff_eq]; exact hn i hi) h.st hv
  intro fuel
  induction fuel with
  | zero =>
    intro listed a w hu h
    have hz := unl_zero _ (by omega : unl listed.toList = 0)
    have hr : Region.ready .any l.toArray listed = [] := by
      apply List.eq_nil_iff_forall_not_mem.2
      intro i hi
      obtain ⟨o, _, h2, _⟩ := ready_iff h.ls hi
      have := hz false (List.mem_of_getElem? (i := i) (by simpa using h2))
      cases this
    exact ⟨hr, fin listed a w h hr⟩
  | succ fuel ih =>
    intro listed a w hu h
    refine ⟨fun hr => fin listed a w h hr, fun i hi => ?_⟩
    obtain ⟨o, h1, h2, h3⟩ := ready_iff h.ls hi
    have hs := h.stepV st_refl keep hdi hdst (Q := Q) hops h1 h2 h3
    have hun : unl (listed.setIfInBounds i true).toList ≤ fuel := by
      have := unl_set listed.toList i (by simpa using h2)
      rw [Array.toList_setIfInBounds]
      omega
    unfold wpOp
    simp only [List.getElem?_toArray, h1]
    split
    · rename_i hw
      rw [if_pos hw] at hs
      exact .inl (Oper.wp_mono (fun a' w' h' => ih _ a' w' hun h') hs)
    · rename_i hw
      rw [if_neg hw] at hs
      exact ih _ _ _ hun hs
end


theorem wp_region_rgv {P : Program} {l : List Oper} {a0 : Act} {w0 : World} {Q : Exit → Act → World → Prop} {id : Nat} (R : Nat → Value → World → Prop) (St : (Nat → Bool) → World → World → Prop) (W : (Nat → Bool) → (Operand → Value) → World → Prop) (hm : P.follows .mixedOrders = true) (hac : acycFrom 0 l = true) (hdi : distinctB l = true) (hdst : (l.all fun o => match o.dst with | some d => decide (d < a0.tmps.size) | none => true) = true)
    (st_refl : ∀ L w, St L w w) (keep : ∀ L i v w w', L i = true → R i v w → St L w w' → R i v w') (hW : W (fun _ => false) a0.eval w0.drew)
    (hops : AllOpsV P l R St W a0.eval 0 l) (hend : ∀ (vs : Nat → Value) (w : World) (L : Nat → Bool), (∀ i, i < l.length → L i = true) → W L (putAll l vs 0 a0).eval w → (∀ (i : Nat) o, l[i]? = some o → R i (leftV o (vs i)) w) → Q .normal (putAll l vs 0 a0) w) : (Code.region id l.toArray true).wp P Q a0 w0 := by
  have hdst' : ∀ o ∈ l, ∀ d, o.dst = some d → d < a0.tmps.size := fun o ho d hd => by
    have := List.all_eq_true.1 hdst o ho
    rw [hd] at this
    simpa using this
  have hl0 : lst (Array.replicate l.length false) = fun _ => false := by
    funext j
    unfold lst
    rw [Array.getElem?_replicate]
    split <;> rfl
  refine wp_region_any hm ?_
  refine RgAtV.anyV (R := R) (St := St) (W := W) (a0 := a0) st_refl keep hac hdi hdst' hops hend _ _ _ _ ?_ ?_
  · simp [unl_replicate]
  · refine ⟨by simp, rfl, rfl, by simp only [List.size_toArray]; rw [hl0]; exact hW, fun j oj _ h => ?_, fun _ _ => rfl, fun j k h => ?_⟩
    · rw [Array.getElem?_replicate] at h
      split at h
      · cases h
      · cases h
    · rw [Array.getElem?_replicate] at h
      split at h
      · cases h
      · cases h
end
end Go.Proofs.Ytbgificdilpdcaa
