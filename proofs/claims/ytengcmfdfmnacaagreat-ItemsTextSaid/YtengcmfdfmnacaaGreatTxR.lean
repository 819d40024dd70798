/- The reference's Text. Conditions: sizes. -/
import Derived.Test.YtengcmfdfmnacaaGreatTxN
import Derived.WalkSpells
namespace Go.Proofs.YtengcmfdfmnacaaGreat
open Go.RowKit Go.Lib

def TxRelR (v0 w : World) (nm : List UInt8) (l : List (List UInt8)) (n : Nat) (s6 s7 s8 : Value) (wr : World) : Prop :=
  ∃ (k : Nat) (po : Option (List UInt8)) (A6 : Option Addr) (m6 c6 : Nat), s6 = .slice A6 m6 c6 ∧ s7 = .bool po.isSome ∧ s8 = .int .i64 (k : Int) ∧ k ≤ n ∧ po = pickT nm (l.take k) ∧ (po.getD []).length = m6 ∧ Rd w 1 (.slice A6 m6 c6) m6 ((po.getD []).map byteV) ∧ Upd NoF v0 wr
set_option maxRecDepth 100000 in
set_option maxHeartbeats 16000000 in
theorem r25Text_any {w : World} {A : Option Addr} {c n : Nat} {nm : List UInt8} {l : List (List UInt8)} (hl : l.length = n) (h : TxR w (.slice A n c) l) (hs : n ≤ 100000000) (hb : ∀ t ∈ l, t.length ≤ 1000000) (h8 : nm.length = 8) :
    Calls Tryz.prog 24 #[.slice A n c, nameV nm] w fun e w' => ∃ A' c', e = .returned (.tuple #[.slice A' (pickB nm l).length c', .bool (pickT nm l).isSome]) ∧ Rd w' 1 (.slice A' (pickB nm l).length c') (pickB nm l).length ((pickB nm l).map byteV) ∧ Upd NoF w w' := by
  obtain ⟨zn, hzn⟩ : ∃ y, (nm.map byteV).toArray = y := ⟨_, rfl⟩
  have HZN := Lib.hid hzn
  have H8N := Lib.hid h8
  have HTX := Lib.hid h
  have HN := Lib.hid hl
  have HB := Lib.hid hb
  rw [show nameV nm = .agg zn from congrArg Value.agg hzn]
  obtain ⟨pb, hpb⟩ : ∃ x, pickB nm l = x := ⟨_, rfl⟩
  obtain ⟨ps, hps⟩ : ∃ x, (pickT nm l).isSome = x := ⟨_, rfl⟩
  rw [hpb, hps]
  have HPB0 := Lib.hid hpb
  have HPS0 := Lib.hid hps
  clear hl h hb h8 hzn hpb hps
  go_enter Tryz.func24, Tryz.ntmps24
  go_wp2_with (first
    | (refine wl_box rfl 28 (.tmp 1) rfl zn (by rfl) ?_; intro v0 hb0 hu0 hs0; have BX0 := Lib.hid hb0; have V0 := Lib.hid hu0; clear hb0 hu0 hs0))
  obtain ⟨X, hX⟩ : ∃ x, w.heap.size = x := ⟨_, rfl⟩
  rw [hX] at BX0 ⊢
  clear hX
  go_loopw [6, 7, 8] (fun s6 s7 s8 wr => TxRelR v0 w nm l n s6 s7 s8 wr) (fun _ _ i _ => n - (intOf i).toNat)
  case atStart => exact ⟨0, none, none, 0, 0, rfl, rfl, rfl, Nat.zero_le _, rfl, rfl, Rd.nil w 1, Upd.refl _ _⟩
  case round =>
    obtain ⟨k, po, A6, m6, c6, rfl, rfl, rfl, hk, hpo, hml, hru, hu⟩ := hrel
    have HPO := Lib.hid hpo
    have HML := Lib.hid hml
    have HRU := Lib.hid hru
    have HU := Lib.hid hu
    clear hpo hml hru hu
    by_cases hlt : k < n
    · obtain ⟨t, ht⟩ : ∃ t, l[k]? = some t := ⟨_, List.getElem?_eq_getElem (by rw [HN.out]; exact hlt)⟩
      obtain ⟨g, oo, Au, cu, rfl, hcw, hrt0, hle, hcm⟩ := HTX.out.at_ ht
      have hc0 : wr.cell? ⟨g, oo + k, none⟩ = some (.slice Au t.length cu) := (V0.out.trans HU.out (fun _ _ f => f)).cell hcw (fun f => f)
      have HTK := Lib.hid (show l.take (k + 1) = l.take k ++ [t] from by rw [List.take_add_one, ht]; rfl)
      have HTB := Lib.hid (HB.out t (List.mem_of_getElem? ht))
      obtain ⟨tl, htl⟩ : ∃ x, t.length = x := ⟨_, rfl⟩
      rw [htl] at hc0 hrt0 hle
      clear hcw
      have HTL := Lib.hid (show ((some t).getD []).length = tl from htl)
      have HRT := Lib.hid (show Rd w 1 (.slice Au tl cu) tl (((some t).getD []).map byteV) from hrt0)
      have UW := Lib.hid (show ∀ wq, Upd NoF wr.drew wq → Upd NoF w wq from fun wq hq => (V0.out.trans HU.out (fun _ _ f => f)).drew.trans hq (fun _ _ f => f))
      obtain ⟨zt, hzt⟩ : ∃ y, ((hsum t).map byteV).toArray = y := ⟨_, rfl⟩
      have HZT := Lib.hid hzt
      have CNM := Lib.hid (show ∀ wq, Upd NoF wr.drew wq → Calls Tryz.prog 22 #[.slice Au tl cu] wq (fun e w' => e = .returned (.agg zt) ∧ Upd NoF wq w') from fun wq hq => by
        have q := r20TextName_any (w := wq) (v := .slice Au tl cu) (bs := t) (by rw [htl]; exact (hrt0.keep (UW.out wq hq))) (by have := HTB.out; omega)
        rw [show nameV (hsum t) = .agg zt from congrArg Value.agg hzt] at q
        exact q)
      have XA := Lib.hid (show wr.drew.cell? ⟨g, oo + k, none⟩ = some (.slice Au tl cu) from hc0)
      have HBX := Lib.hid (show Blk wr.drew X 28 zn from (HU.out.blk BX0.out (fun f => f)).drew)
      have q0 : (0 : Int) ≤ (k : Int) := by omega
      have q1 : (k : Int) < (n : Int) := by omega
      have t1 : decide ((k : Int) < (n : Int)) = true := by simp; omega
      have q3 : ((k : Int)).toNat = k := by omega
      have ww : IntKind.i64.wrap ((k : Int) + 1) = (k : Int) + 1 := IntWalk.i64_in _ (by omega)
      clear hrt0 ht htl hzt
      by_cases hq : hsum t = nm
      · have HQ := Lib.hid hq
        have HE := Lib.hid (show ∀ w, (binOp .eql 28 (.agg zt) (.agg zn)).run Tryz.prog w = .ok (.bool true) w from fun w => by
          have q := eql_name' (hsum_len t) H8N.out w
          rw [show decide (hsum t = nm) = true from decide_eq_true HQ.out] at q
          rw [← HZT.out, ← HZN.out]
          exact q)
        clear hq
        cases po with
        | none =>
          go_wp2_with fail
          refine wp_region_rgw (rgR [isV (.slice (some ⟨g, oo, none⟩) n c), isV (.int .i64 (k : Int)), isV (.pointer (some ⟨g, oo + k, none⟩)), isV (.slice Au tl cu), isV (.agg zt), isV (.agg zn), isV (.bool true), isV (.bool true), isV (.bool false), isV (.bool true), isV (.bool true), isV (undef), isV (undef), isV (undef), isV (undef), isV (undef), isV (undef), isV (undef), isV (undef), isV (.bool true), isV (.bool true)]) (fun w w' => Upd NoF w w') (fun _ wq => Upd NoF wr.drew wq) (by kernel_rfl) (by kernel_rfl) (by kernel_rfl) (by rfl) (fun w => Upd.refl _ _) (rgR_keep (by
            intro p hp; simp only [List.mem_cons, List.not_mem_nil, or_false] at hp; rcases hp with rfl | rfl | rfl | rfl | rfl | rfl | rfl | rfl | rfl | rfl | rfl | rfl | rfl | rfl | rfl | rfl | rfl | rfl | rfl | rfl | rfl <;> first | exact stb_isV _ | exact stb_any)) (Upd.refl _ _) ?_ ?_
          · refine ⟨?_, ?_, ?_, ?_, ?_, ?_, ?_, ?_, ?_, ?_, ?_, ?_, ?_, ?_, ?_, ?_, ?_, ?_, ?_, ?_, ?_, trivial⟩
            · refine fun ρ w' L hW hLi hcl hd hdep hext hc hg hf => ?_
              rw [if_pos (show wantedR _ _ _ = true from rfl)]
              have e0 : ρ (.tmp 0) = .slice (some ⟨g, oo, none⟩) n c := hext 0 (by kernel_rfl)
              clear hdep hext hcl
              have HW := Lib.hid hW
              clear hW
              unfold OpDone
              go_simp
              exact ⟨rfl, Upd.refl _ _, HW.out⟩
            · refine fun ρ w' L hW hLi hcl hd hdep hext hc hg hf => ?_
              rw [if_pos (show wantedR _ _ _ = true from rfl)]
              have e8 : ρ (.tmp 8) = .int .i64 (k : Int) := hext 8 (by kernel_rfl)
              clear hdep hext hcl
              have HW := Lib.hid hW
              clear hW
              unfold OpDone
              go_simp
              exact ⟨rfl, Upd.refl _ _, HW.out⟩
            · refine fun ρ w' L hW hLi hcl hd hdep hext hc hg hf => ?_
              rw [if_pos (show wantedR _ _ _ = true from rfl)]
              have e15 : ρ (.tmp 15) = .slice (some ⟨g, oo, none⟩) n c := hdep 0 _ rfl (by kernel_rfl)
              have e16 : ρ (.tmp 16) = .int .i64 (k : Int) := hdep 1 _ rfl (by kernel_rfl)
              have q0 : (0 : Int) ≤ (k : Int) := by omega
              have q1 : (k : Int) < (n : Int) := by omega
              have q2 : k < n := by omega
              clear hdep hext hcl
              have HW := Lib.hid hW
              clear hW
              unfold OpDone
              go_simp
              exact ⟨rfl, Upd.refl _ _, HW.out⟩
            · refine fun ρ w' L hW hLi hcl hd hdep hext hc hg hf => ?_
              rw [if_pos (show wantedR _ _ _ = true from rfl)]
              have e17 : ρ (.tmp 17) = .pointer (some ⟨g, oo + k, none⟩) := hdep 2 _ rfl (by kernel_rfl)
              have yy : w'.cell? ⟨g, oo + k, none⟩ = some (.slice Au tl cu) := hW.cell XA.out (fun h => h)
              clear hdep hext hcl
              have HW := Lib.hid hW
              clear hW
              unfold OpDone
              go_simp
              exact ⟨rfl, Upd.refl _ _, HW.out⟩
            · refine fun ρ w' L hW hLi hcl hd hdep hext hc hg hf => ?_
              rw [if_pos (show wantedR _ _ _ = true from rfl)]
              have e18 : ρ (.tmp 18) = .slice Au tl cu := hdep 3 _ rfl (by kernel_rfl)
              clear hdep hext
              have CL := Lib.hid (CNM.out w' hW)
              have HW := Lib.hid hW
              clear hW hcl hd hLi
              unfold OpDone
              go_simp
              refine CL.out.mono ?_
              rintro e w2 ⟨rfl, hu⟩
              exact ⟨_, rfl, rfl, hu, HW.out.trans hu (fun _ _ f => f)⟩
            · refine fun ρ w' L hW hLi hcl hd hdep hext hc hg hf => ?_
              rw [if_pos (show wantedR _ _ _ = true from rfl)]
              have e3 : ρ (.tmp 3) = .pointer (some ⟨X, 0, none⟩) := hext 3 (by kernel_rfl)
              clear hdep hext
              refine od_load_row 28 (.tmp 3) rfl X 0 e3 (nm.map byteV) _ (name_cells HZN.out (hW.blk HBX.out (fun f => f))) Tryz.underlying28 rfl (by rw [name_size]; simp [H8N.out]) ?_
              rw [HZN.out]
              exact ⟨rfl, Upd.refl _ _, hW⟩
            · refine fun ρ w' L hW hLi hcl hd hdep hext hc hg hf => ?_
              rw [if_pos (show wantedR _ _ _ = true from rfl)]
              have e19 : ρ (.tmp 19) = .agg zt := hdep 4 _ rfl (by kernel_rfl)
              have e20 : ρ (.tmp 20) = .agg zn := hdep 5 _ rfl (by kernel_rfl)
              clear hdep hext
              have hE : ∀ w, (binOp .eql 28 (.agg zt) (.agg zn)).run Tryz.prog w = .ok (.bool true) w := fun w => HE.out w
              have HW := Lib.hid hW
              clear hW
              unfold OpDone
              go_simp
              exact ⟨rfl, Upd.refl _ _, HW.out⟩
            · refine fun ρ w' L hW hLi hcl hd hdep hext hc hg hf => ?_
              rw [if_pos (show wantedR _ _ _ = true from rfl)]
              have e21 : ρ (.tmp 21) = .bool true := hdep 6 _ rfl (by kernel_rfl)
              clear hdep hext hcl
              have HW := Lib.hid hW
              clear hW
              unfold OpDone
              go_simp
              exact ⟨rfl, Upd.refl _ _, HW.out⟩
            · refine fun ρ w' L hW hLi hcl hd hdep hext hc hg hf => ?_
              have eg : ρ (.tmp 22) = .bool true := hdep 7 _ rfl (by kernel_rfl)
              refine wanted_go ?_ ?_
              · show (match ρ (.tmp 22) with | .bool c => c == true | _ => false) = true
                rw [eg]
                rfl
              clear eg
              have e7 : ρ (.tmp 7) = .bool false := hext 7 (by kernel_rfl)
              clear hdep hext hcl
              have HW := Lib.hid hW
              clear hW
              unfold OpDone
              go_simp
              exact ⟨rfl, Upd.refl _ _, HW.out⟩
            · refine fun ρ w' L hW hLi hcl hd hdep hext hc hg hf => ?_
              have eg : ρ (.tmp 22) = .bool true := hdep 7 _ rfl (by kernel_rfl)
              refine wanted_go ?_ ?_
              · show (match ρ (.tmp 22) with | .bool c => c == true | _ => false) = true
                rw [eg]
                rfl
              clear eg
              have e23 : ρ (.tmp 23) = .bool false := hdep 8 _ rfl (by kernel_rfl)
              clear hdep hext hcl
              have HW := Lib.hid hW
              clear hW
              unfold OpDone
              go_simp
              exact ⟨rfl, Upd.refl _ _, HW.out⟩
            · refine fun ρ w' L hW hLi hcl hd hdep hext hc hg hf => ?_
              have eg : ρ (.tmp 22) = .bool true := hdep 7 _ rfl (by kernel_rfl)
              refine wanted_go ?_ ?_
              · show (match ρ (.tmp 22) with | .bool c => c == true | _ => false) = true
                rw [eg]
                rfl
              clear eg
              have e24 : ρ (.tmp 24) = .bool true := hdep 9 _ rfl (by kernel_rfl)
              clear hdep hext hcl
              have HW := Lib.hid hW
              clear hW
              unfold OpDone
              go_simp
              exact ⟨rfl, Upd.refl _ _, HW.out⟩
            · refine fun ρ w' L hW hLi hcl hd hdep hext hc hg hf => ?_
              have eg : ρ (.tmp 25) = .bool true := hdep 10 _ rfl (by kernel_rfl)
              rw [if_neg (show ¬ wantedR _ _ _ = true from by show ¬ (match ρ (.tmp 25) with | .bool c => c == false | _ => false) = true; rw [eg]; decide)]
              exact ⟨rfl, hW⟩
            · refine fun ρ w' L hW hLi hcl hd hdep hext hc hg hf => ?_
              have eg : ρ (.tmp 25) = .bool true := hdep 10 _ rfl (by kernel_rfl)
              rw [if_neg (show ¬ wantedR _ _ _ = true from by show ¬ (match ρ (.tmp 25) with | .bool c => c == false | _ => false) = true; rw [eg]; decide)]
              exact ⟨rfl, hW⟩
            · refine fun ρ w' L hW hLi hcl hd hdep hext hc hg hf => ?_
              have eg : ρ (.tmp 25) = .bool true := hdep 10 _ rfl (by kernel_rfl)
              rw [if_neg (show ¬ wantedR _ _ _ = true from by show ¬ (match ρ (.tmp 25) with | .bool c => c == false | _ => false) = true; rw [eg]; decide)]
              exact ⟨rfl, hW⟩
            · refine fun ρ w' L hW hLi hcl hd hdep hext hc hg hf => ?_
              have eg : ρ (.tmp 25) = .bool true := hdep 10 _ rfl (by kernel_rfl)
              rw [if_neg (show ¬ wantedR _ _ _ = true from by show ¬ (match ρ (.tmp 25) with | .bool c => c == false | _ => false) = true; rw [eg]; decide)]
              exact ⟨rfl, hW⟩
            · refine fun ρ w' L hW hLi hcl hd hdep hext hc hg hf => ?_
              have eg : ρ (.tmp 25) = .bool true := hdep 10 _ rfl (by kernel_rfl)
              rw [if_neg (show ¬ wantedR _ _ _ = true from by show ¬ (match ρ (.tmp 25) with | .bool c => c == false | _ => false) = true; rw [eg]; decide)]
              exact ⟨rfl, hW⟩
            · refine fun ρ w' L hW hLi hcl hd hdep hext hc hg hf => ?_
              have eg : ρ (.tmp 25) = .bool true := hdep 10 _ rfl (by kernel_rfl)
              rw [if_neg (show ¬ wantedR _ _ _ = true from by show ¬ (match ρ (.tmp 25) with | .bool c => c == false | _ => false) = true; rw [eg]; decide)]
              exact ⟨rfl, hW⟩
            · refine fun ρ w' L hW hLi hcl hd hdep hext hc hg hf => ?_
              have eg : ρ (.tmp 25) = .bool true := hdep 10 _ rfl (by kernel_rfl)
              rw [if_neg (show ¬ wantedR _ _ _ = true from by show ¬ (match ρ (.tmp 25) with | .bool c => c == false | _ => false) = true; rw [eg]; decide)]
              exact ⟨rfl, hW⟩
            · refine fun ρ w' L hW hLi hcl hd hdep hext hc hg hf => ?_
              have eg : ρ (.tmp 25) = .bool true := hdep 10 _ rfl (by kernel_rfl)
              rw [if_neg (show ¬ wantedR _ _ _ = true from by show ¬ (match ρ (.tmp 25) with | .bool c => c == false | _ => false) = true; rw [eg]; decide)]
              exact ⟨rfl, hW⟩
            · refine fun ρ w' L hW hLi hcl hd hdep hext hc hg hf => ?_
              have eg : ρ (.tmp 22) = .bool true := hdep 7 _ rfl (by kernel_rfl)
              refine wanted_go ?_ ?_
              · show (match ρ (.tmp 22) with | .bool c => c == true | _ => false) = true
                rw [eg]
                rfl
              clear eg
              have e25 : ρ (.tmp 25) = .bool true := hdep 10 _ rfl (by kernel_rfl)
              have e33 : ρ (.tmp 33) = undef := hdep 18 _ rfl (by kernel_rfl)
              clear hdep hext hcl
              have HW := Lib.hid hW
              clear hW
              unfold OpDone
              go_simp
              exact ⟨rfl, Upd.refl _ _, HW.out⟩
            · refine fun ρ w' L hW hLi hcl hd hdep hext hc hg hf => ?_
              rw [if_pos (show wantedR _ _ _ = true from rfl)]
              have e22 : ρ (.tmp 22) = .bool true := hdep 7 _ rfl (by kernel_rfl)
              have e34 : ρ (.tmp 34) = .bool true := hdep 19 _ rfl (by kernel_rfl)
              clear hdep hext hcl
              have HW := Lib.hid hW
              clear hW
              unfold OpDone
              go_simp
              exact ⟨rfl, Upd.refl _ _, HW.out⟩
          intro vs W8 L8 hL8 hW8 hR
          have hv0 : vs 0 = .slice (some ⟨g, oo, none⟩) n c := hR 0 _ rfl
          have hv1 : vs 1 = .int .i64 (k : Int) := hR 1 _ rfl
          have hv2 : vs 2 = .pointer (some ⟨g, oo + k, none⟩) := hR 2 _ rfl
          have hv3 : vs 3 = .slice Au tl cu := hR 3 _ rfl
          have hv4 : vs 4 = .agg zt := hR 4 _ rfl
          have hv5 : vs 5 = .agg zn := hR 5 _ rfl
          have hv6 : vs 6 = .bool true := hR 6 _ rfl
          have hv7 : vs 7 = .bool true := hR 7 _ rfl
          have hv8 : vs 8 = .bool false := hR 8 _ rfl
          have hv9 : vs 9 = .bool true := hR 9 _ rfl
          have hv10 : vs 10 = .bool true := hR 10 _ rfl
          have hv11 : vs 11 = undef := hR 11 _ rfl
          have hv12 : vs 12 = undef := hR 12 _ rfl
          have hv13 : vs 13 = undef := hR 13 _ rfl
          have hv14 : vs 14 = undef := hR 14 _ rfl
          have hv15 : vs 15 = undef := hR 15 _ rfl
          have hv16 : vs 16 = undef := hR 16 _ rfl
          have hv17 : vs 17 = undef := hR 17 _ rfl
          have hv18 : vs 18 = undef := hR 18 _ rfl
          have hv19 : vs 19 = .bool true := hR 19 _ rfl
          have hv20 : vs 20 = .bool true := hR 20 _ rfl
          simp only [putAll, Act.put, List.setIfInBounds_toArray, List.set_cons_zero, List.set_cons_succ, hv0, hv1, hv2, hv3, hv4, hv5, hv6, hv7, hv8, hv9, hv10, hv11, hv12, hv13, hv14, hv15, hv16, hv17, hv18, hv19, hv20]
          clear hR hv0 hv1 hv2 hv3 hv4 hv5 hv6 hv7 hv8 hv9 hv10 hv11 hv12 hv13 hv14 hv15 hv16 hv17 hv18 hv19 hv20
          have HU8 := Lib.hid (show Upd NoF v0 W8 from HU.out.trans (((Upd.refl NoF wr).drew).trans hW8 (fun _ _ f => f)) (fun _ _ f => f))
          have y8 := hW8.cell XA.out (fun h => h)
          clear hW8
          go_wp2
          go_roundw
          case rel => exact ⟨k + 1, some t, Au, tl, cu, rfl, rfl, by go_num, by omega, by rw [HTK.out, pick_snoc, ← HPO.out]; unfold pickStep; rw [if_pos HQ.out], HTL.out, HRT.out, HU8.out⟩
          case measure => simp [intOf]; omega
        | some uu =>
          have h1 : t.length = tl := HTL.out
          have h2 : uu.length = m6 := HML.out
          have STA := Lib.hid (show ∀ wq, Upd NoF wr.drew wq → (convert 52 9 (.slice Au tl cu)).run Tryz.prog wq = .ok (strV t) wq from fun wq hq => run_str (by rw [h1]; exact (show Rd w 1 (.slice Au tl cu) tl (t.map byteV) from HRT.out).keep (UW.out wq hq)))
          have STB := Lib.hid (show ∀ wq, Upd NoF wr.drew wq → (convert 52 9 (.slice A6 m6 c6)).run Tryz.prog wq = .ok (strV uu) wq from fun wq hq => run_str (by rw [h2]; exact (show Rd w 1 (.slice A6 m6 c6) m6 (uu.map byteV) from HRU.out).keep (UW.out wq hq)))
          clear h1 h2
          by_cases hl : lessT t uu = true
          · have HL := Lib.hid hl
            have GEQ := Lib.hid (fun (_ : World) => (show Op.bytesLess t uu = true from hl))
            clear hl
            go_wp2_with fail
            refine wp_region_rgw (rgR [isV (.slice (some ⟨g, oo, none⟩) n c), isV (.int .i64 (k : Int)), isV (.pointer (some ⟨g, oo + k, none⟩)), isV (.slice Au tl cu), isV (.agg zt), isV (.agg zn), isV (.bool true), isV (.bool true), isV (.bool true), isV (.bool false), isV (.bool false), isV (.slice (some ⟨g, oo, none⟩) n c), isV (.int .i64 (k : Int)), isV (.pointer (some ⟨g, oo + k, none⟩)), isV (.slice Au tl cu), isV (strV t), isV (.slice A6 m6 c6), isV (strV uu), isV (.bool true), isV (.bool true), isV (.bool true)]) (fun w w' => Upd NoF w w') (fun _ wq => Upd NoF wr.drew wq) (by kernel_rfl) (by kernel_rfl) (by kernel_rfl) (by rfl) (fun w => Upd.refl _ _) (rgR_keep (by
              intro p hp; simp only [List.mem_cons, List.not_mem_nil, or_false] at hp; rcases hp with rfl | rfl | rfl | rfl | rfl | rfl | rfl | rfl | rfl | rfl | rfl | rfl | rfl | rfl | rfl | rfl | rfl | rfl | rfl | rfl | rfl <;> first | exact stb_isV _ | exact stb_any)) (Upd.refl _ _) ?_ ?_
            · refine ⟨?_, ?_, ?_, ?_, ?_, ?_, ?_, ?_, ?_, ?_, ?_, ?_, ?_, ?_, ?_, ?_, ?_, ?_, ?_, ?_, ?_, trivial⟩
              · refine fun ρ w' L hW hLi hcl hd hdep hext hc hg hf => ?_
                rw [if_pos (show wantedR _ _ _ = true from rfl)]
                have e0 : ρ (.tmp 0) = .slice (some ⟨g, oo, none⟩) n c := hext 0 (by kernel_rfl)
                clear hdep hext hcl
                have HW := Lib.hid hW
                clear hW
                unfold OpDone
                go_simp
                exact ⟨rfl, Upd.refl _ _, HW.out⟩
              · refine fun ρ w' L hW hLi hcl hd hdep hext hc hg hf => ?_
                rw [if_pos (show wantedR _ _ _ = true from rfl)]
                have e8 : ρ (.tmp 8) = .int .i64 (k : Int) := hext 8 (by kernel_rfl)
                clear hdep hext hcl
                have HW := Lib.hid hW
                clear hW
                unfold OpDone
                go_simp
                exact ⟨rfl, Upd.refl _ _, HW.out⟩
              · refine fun ρ w' L hW hLi hcl hd hdep hext hc hg hf => ?_
                rw [if_pos (show wantedR _ _ _ = true from rfl)]
                have e15 : ρ (.tmp 15) = .slice (some ⟨g, oo, none⟩) n c := hdep 0 _ rfl (by kernel_rfl)
                have e16 : ρ (.tmp 16) = .int .i64 (k : Int) := hdep 1 _ rfl (by kernel_rfl)
                have q0 : (0 : Int) ≤ (k : Int) := by omega
                have q1 : (k : Int) < (n : Int) := by omega
                have q2 : k < n := by omega
                clear hdep hext hcl
                have HW := Lib.hid hW
                clear hW
                unfold OpDone
                go_simp
                exact ⟨rfl, Upd.refl _ _, HW.out⟩
              · refine fun ρ w' L hW hLi hcl hd hdep hext hc hg hf => ?_
                rw [if_pos (show wantedR _ _ _ = true from rfl)]
                have e17 : ρ (.tmp 17) = .pointer (some ⟨g, oo + k, none⟩) := hdep 2 _ rfl (by kernel_rfl)
                have yy : w'.cell? ⟨g, oo + k, none⟩ = some (.slice Au tl cu) := hW.cell XA.out (fun h => h)
                clear hdep hext hcl
                have HW := Lib.hid hW
                clear hW
                unfold OpDone
                go_simp
                exact ⟨rfl, Upd.refl _ _, HW.out⟩
              · refine fun ρ w' L hW hLi hcl hd hdep hext hc hg hf => ?_
                rw [if_pos (show wantedR _ _ _ = true from rfl)]
                have e18 : ρ (.tmp 18) = .slice Au tl cu := hdep 3 _ rfl (by kernel_rfl)
                clear hdep hext
                have CL := Lib.hid (CNM.out w' hW)
                have HW := Lib.hid hW
                clear hW hcl hd hLi
                unfold OpDone
                go_simp
                refine CL.out.mono ?_
                rintro e w2 ⟨rfl, hu⟩
                exact ⟨_, rfl, rfl, hu, HW.out.trans hu (fun _ _ f => f)⟩
              · refine fun ρ w' L hW hLi hcl hd hdep hext hc hg hf => ?_
                rw [if_pos (show wantedR _ _ _ = true from rfl)]
                have e3 : ρ (.tmp 3) = .pointer (some ⟨X, 0, none⟩) := hext 3 (by kernel_rfl)
                clear hdep hext
                refine od_load_row 28 (.tmp 3) rfl X 0 e3 (nm.map byteV) _ (name_cells HZN.out (hW.blk HBX.out (fun f => f))) Tryz.underlying28 rfl (by rw [name_size]; simp [H8N.out]) ?_
                rw [HZN.out]
                exact ⟨rfl, Upd.refl _ _, hW⟩
              · refine fun ρ w' L hW hLi hcl hd hdep hext hc hg hf => ?_
                rw [if_pos (show wantedR _ _ _ = true from rfl)]
                have e19 : ρ (.tmp 19) = .agg zt := hdep 4 _ rfl (by kernel_rfl)
                have e20 : ρ (.tmp 20) = .agg zn := hdep 5 _ rfl (by kernel_rfl)
                clear hdep hext
                have hE : ∀ w, (binOp .eql 28 (.agg zt) (.agg zn)).run Tryz.prog w = .ok (.bool true) w := fun w => HE.out w
                have HW := Lib.hid hW
                clear hW
                unfold OpDone
                go_simp
                exact ⟨rfl, Upd.refl _ _, HW.out⟩
              · refine fun ρ w' L hW hLi hcl hd hdep hext hc hg hf => ?_
                rw [if_pos (show wantedR _ _ _ = true from rfl)]
                have e21 : ρ (.tmp 21) = .bool true := hdep 6 _ rfl (by kernel_rfl)
                clear hdep hext hcl
                have HW := Lib.hid hW
                clear hW
                unfold OpDone
                go_simp
                exact ⟨rfl, Upd.refl _ _, HW.out⟩
              · refine fun ρ w' L hW hLi hcl hd hdep hext hc hg hf => ?_
                have eg : ρ (.tmp 22) = .bool true := hdep 7 _ rfl (by kernel_rfl)
                refine wanted_go ?_ ?_
                · show (match ρ (.tmp 22) with | .bool c => c == true | _ => false) = true
                  rw [eg]
                  rfl
                clear eg
                have e7 : ρ (.tmp 7) = .bool true := hext 7 (by kernel_rfl)
                clear hdep hext hcl
                have HW := Lib.hid hW
                clear hW
                unfold OpDone
                go_simp
                exact ⟨rfl, Upd.refl _ _, HW.out⟩
              · refine fun ρ w' L hW hLi hcl hd hdep hext hc hg hf => ?_
                have eg : ρ (.tmp 22) = .bool true := hdep 7 _ rfl (by kernel_rfl)
                refine wanted_go ?_ ?_
                · show (match ρ (.tmp 22) with | .bool c => c == true | _ => false) = true
                  rw [eg]
                  rfl
                clear eg
                have e23 : ρ (.tmp 23) = .bool true := hdep 8 _ rfl (by kernel_rfl)
                clear hdep hext hcl
                have HW := Lib.hid hW
                clear hW
                unfold OpDone
                go_simp
                exact ⟨rfl, Upd.refl _ _, HW.out⟩
              · refine fun ρ w' L hW hLi hcl hd hdep hext hc hg hf => ?_
                have eg : ρ (.tmp 22) = .bool true := hdep 7 _ rfl (by kernel_rfl)
                refine wanted_go ?_ ?_
                · show (match ρ (.tmp 22) with | .bool c => c == true | _ => false) = true
                  rw [eg]
                  rfl
                clear eg
                have e24 : ρ (.tmp 24) = .bool false := hdep 9 _ rfl (by kernel_rfl)
                clear hdep hext hcl
                have HW := Lib.hid hW
                clear hW
                unfold OpDone
                go_simp
                exact ⟨rfl, Upd.refl _ _, HW.out⟩
              · refine fun ρ w' L hW hLi hcl hd hdep hext hc hg hf => ?_
                have eg : ρ (.tmp 25) = .bool false := hdep 10 _ rfl (by kernel_rfl)
                refine wanted_go ?_ ?_
                · show (match ρ (.tmp 25) with | .bool c => c == false | _ => false) = true
                  rw [eg]
                  rfl
                clear eg
                have e0 : ρ (.tmp 0) = .slice (some ⟨g, oo, none⟩) n c := hext 0 (by kernel_rfl)
                clear hdep hext hcl
                have HW := Lib.hid hW
                clear hW
                unfold OpDone
                go_simp
                exact ⟨rfl, Upd.refl _ _, HW.out⟩
              · refine fun ρ w' L hW hLi hcl hd hdep hext hc hg hf => ?_
                have eg : ρ (.tmp 25) = .bool false := hdep 10 _ rfl (by kernel_rfl)
                refine wanted_go ?_ ?_
                · show (match ρ (.tmp 25) with | .bool c => c == false | _ => false) = true
                  rw [eg]
                  rfl
                clear eg
                have e8 : ρ (.tmp 8) = .int .i64 (k : Int) := hext 8 (by kernel_rfl)
                clear hdep hext hcl
                have HW := Lib.hid hW
                clear hW
                unfold OpDone
                go_simp
                exact ⟨rfl, Upd.refl _ _, HW.out⟩
              · refine fun ρ w' L hW hLi hcl hd hdep hext hc hg hf => ?_
                have eg : ρ (.tmp 25) = .bool false := hdep 10 _ rfl (by kernel_rfl)
                refine wanted_go ?_ ?_
                · show (match ρ (.tmp 25) with | .bool c => c == false | _ => false) = true
                  rw [eg]
                  rfl
                clear eg
                have e26 : ρ (.tmp 26) = .slice (some ⟨g, oo, none⟩) n c := hdep 11 _ rfl (by kernel_rfl)
                have e27 : ρ (.tmp 27) = .int .i64 (k : Int) := hdep 12 _ rfl (by kernel_rfl)
                have q0 : (0 : Int) ≤ (k : Int) := by omega
                have q1 : (k : Int) < (n : Int) := by omega
                have q2 : k < n := by omega
                clear hdep hext hcl
                have HW := Lib.hid hW
                clear hW
                unfold OpDone
                go_simp
                exact ⟨rfl, Upd.refl _ _, HW.out⟩
              · refine fun ρ w' L hW hLi hcl hd hdep hext hc hg hf => ?_
                have eg : ρ (.tmp 25) = .bool false := hdep 10 _ rfl (by kernel_rfl)
                refine wanted_go ?_ ?_
                · show (match ρ (.tmp 25) with | .bool c => c == false | _ => false) = true
                  rw [eg]
                  rfl
                clear eg
                have e28 : ρ (.tmp 28) = .pointer (some ⟨g, oo + k, none⟩) := hdep 13 _ rfl (by kernel_rfl)
                have yy : w'.cell? ⟨g, oo + k, none⟩ = some (.slice Au tl cu) := hW.cell XA.out (fun h => h)
                clear hdep hext hcl
                have HW := Lib.hid hW
                clear hW
                unfold OpDone
                go_simp
                exact ⟨rfl, Upd.refl _ _, HW.out⟩
              · refine fun ρ w' L hW hLi hcl hd hdep hext hc hg hf => ?_
                have eg : ρ (.tmp 25) = .bool false := hdep 10 _ rfl (by kernel_rfl)
                refine wanted_go ?_ ?_
                · show (match ρ (.tmp 25) with | .bool c => c == false | _ => false) = true
                  rw [eg]
                  rfl
                clear eg
                have e29 : ρ (.tmp 29) = .slice Au tl cu := hdep 14 _ rfl (by kernel_rfl)
                have kk := STA.out w' hW
                clear hdep hext hcl
                have HW := Lib.hid hW
                clear hW
                unfold OpDone
                go_simp
                exact ⟨rfl, Upd.refl _ _, HW.out⟩
              · refine fun ρ w' L hW hLi hcl hd hdep hext hc hg hf => ?_
                have eg : ρ (.tmp 25) = .bool false := hdep 10 _ rfl (by kernel_rfl)
                refine wanted_go ?_ ?_
                · show (match ρ (.tmp 25) with | .bool c => c == false | _ => false) = true
                  rw [eg]
                  rfl
                clear eg
                have e6 : ρ (.tmp 6) = .slice A6 m6 c6 := hext 6 (by kernel_rfl)
                clear hdep hext hcl
                have HW := Lib.hid hW
                clear hW
                unfold OpDone
                go_simp
                exact ⟨rfl, Upd.refl _ _, HW.out⟩
              · refine fun ρ w' L hW hLi hcl hd hdep hext hc hg hf => ?_
                have eg : ρ (.tmp 25) = .bool false := hdep 10 _ rfl (by kernel_rfl)
                refine wanted_go ?_ ?_
                · show (match ρ (.tmp 25) with | .bool c => c == false | _ => false) = true
                  rw [eg]
                  rfl
                clear eg
                have e31 : ρ (.tmp 31) = .slice A6 m6 c6 := hdep 16 _ rfl (by kernel_rfl)
                have kk := STB.out w' hW
                clear hdep hext hcl
                have HW := Lib.hid hW
                clear hW
                unfold OpDone
                go_simp
                exact ⟨rfl, Upd.refl _ _, HW.out⟩
              · refine fun ρ w' L hW hLi hcl hd hdep hext hc hg hf => ?_
                have eg : ρ (.tmp 25) = .bool false := hdep 10 _ rfl (by kernel_rfl)
                refine wanted_go ?_ ?_
                · show (match ρ (.tmp 25) with | .bool c => c == false | _ => false) = true
                  rw [eg]
                  rfl
                clear eg
                have e30 : ρ (.tmp 30) = strV t := hdep 15 _ rfl (by kernel_rfl)
                have e32 : ρ (.tmp 32) = strV uu := hdep 17 _ rfl (by kernel_rfl)
                have gg := GEQ.out w'
                clear hdep hext hcl
                have HW := Lib.hid hW
                clear hW
                unfold OpDone
                go_simp
                exact ⟨rfl, Upd.refl _ _, HW.out⟩
              · refine fun ρ w' L hW hLi hcl hd hdep hext hc hg hf => ?_
                have eg : ρ (.tmp 22) = .bool true := hdep 7 _ rfl (by kernel_rfl)
                refine wanted_go ?_ ?_
                · show (match ρ (.tmp 22) with | .bool c => c == true | _ => false) = true
                  rw [eg]
                  rfl
                clear eg
                have e25 : ρ (.tmp 25) = .bool false := hdep 10 _ rfl (by kernel_rfl)
                have e33 : ρ (.tmp 33) = .bool true := hdep 18 _ rfl (by kernel_rfl)
                clear hdep hext hcl
                have HW := Lib.hid hW
                clear hW
                unfold OpDone
                go_simp
                exact ⟨rfl, Upd.refl _ _, HW.out⟩
              · refine fun ρ w' L hW hLi hcl hd hdep hext hc hg hf => ?_
                rw [if_pos (show wantedR _ _ _ = true from rfl)]
                have e22 : ρ (.tmp 22) = .bool true := hdep 7 _ rfl (by kernel_rfl)
                have e34 : ρ (.tmp 34) = .bool true := hdep 19 _ rfl (by kernel_rfl)
                clear hdep hext hcl
                have HW := Lib.hid hW
                clear hW
                unfold OpDone
                go_simp
                exact ⟨rfl, Upd.refl _ _, HW.out⟩
            intro vs W8 L8 hL8 hW8 hR
            have hv0 : vs 0 = .slice (some ⟨g, oo, none⟩) n c := hR 0 _ rfl
            have hv1 : vs 1 = .int .i64 (k : Int) := hR 1 _ rfl
            have hv2 : vs 2 = .pointer (some ⟨g, oo + k, none⟩) := hR 2 _ rfl
            have hv3 : vs 3 = .slice Au tl cu := hR 3 _ rfl
            have hv4 : vs 4 = .agg zt := hR 4 _ rfl
            have hv5 : vs 5 = .agg zn := hR 5 _ rfl
            have hv6 : vs 6 = .bool true := hR 6 _ rfl
            have hv7 : vs 7 = .bool true := hR 7 _ rfl
            have hv8 : vs 8 = .bool true := hR 8 _ rfl
            have hv9 : vs 9 = .bool false := hR 9 _ rfl
            have hv10 : vs 10 = .bool false := hR 10 _ rfl
            have hv11 : vs 11 = .slice (some ⟨g, oo, none⟩) n c := hR 11 _ rfl
            have hv12 : vs 12 = .int .i64 (k : Int) := hR 12 _ rfl
            have hv13 : vs 13 = .pointer (some ⟨g, oo + k, none⟩) := hR 13 _ rfl
            have hv14 : vs 14 = .slice Au tl cu := hR 14 _ rfl
            have hv15 : vs 15 = strV t := hR 15 _ rfl
            have hv16 : vs 16 = .slice A6 m6 c6 := hR 16 _ rfl
            have hv17 : vs 17 = strV uu := hR 17 _ rfl
            have hv18 : vs 18 = .bool true := hR 18 _ rfl
            have hv19 : vs 19 = .bool true := hR 19 _ rfl
            have hv20 : vs 20 = .bool true := hR 20 _ rfl
            simp only [putAll, Act.put, List.setIfInBounds_toArray, List.set_cons_zero, List.set_cons_succ, hv0, hv1, hv2, hv3, hv4, hv5, hv6, hv7, hv8, hv9, hv10, hv11, hv12, hv13, hv14, hv15, hv16, hv17, hv18, hv19, hv20]
            clear hR hv0 hv1 hv2 hv3 hv4 hv5 hv6 hv7 hv8 hv9 hv10 hv11 hv12 hv13 hv14 hv15 hv16 hv17 hv18 hv19 hv20
            have HU8 := Lib.hid (show Upd NoF v0 W8 from HU.out.trans (((Upd.refl NoF wr).drew).trans hW8 (fun _ _ f => f)) (fun _ _ f => f))
            have y8 := hW8.cell XA.out (fun h => h)
            clear hW8
            go_wp2
            go_roundw
            case rel => exact ⟨k + 1, some t, Au, tl, cu, rfl, rfl, by go_num, by omega, by rw [HTK.out, pick_snoc, ← HPO.out]; unfold pickStep; rw [if_pos HQ.out]; simp only [if_pos HL.out], HTL.out, HRT.out, HU8.out⟩
            case measure => simp [intOf]; omega
          · have HL := Lib.hid hl
            have GEQ := Lib.hid (fun (_ : World) => (show Op.bytesLess t uu = false from by simpa [lessT] using hl))
            clear hl
            go_wp2_with fail
            refine wp_region_rgw (rgR [isV (.slice (some ⟨g, oo, none⟩) n c), isV (.int .i64 (k : Int)), isV (.pointer (some ⟨g, oo + k, none⟩)), isV (.slice Au tl cu), isV (.agg zt), isV (.agg zn), isV (.bool true), isV (.bool true), isV (.bool true), isV (.bool false), isV (.bool false), isV (.slice (some ⟨g, oo, none⟩) n c), isV (.int .i64 (k : Int)), isV (.pointer (some ⟨g, oo + k, none⟩)), isV (.slice Au tl cu), isV (strV t), isV (.slice A6 m6 c6), isV (strV uu), isV (.bool false), isV (.bool false), isV (.bool false)]) (fun w w' => Upd NoF w w') (fun _ wq => Upd NoF wr.drew wq) (by kernel_rfl) (by kernel_rfl) (by kernel_rfl) (by rfl) (fun w => Upd.refl _ _) (rgR_keep (by
              intro p hp; simp only [List.mem_cons, List.not_mem_nil, or_false] at hp; rcases hp with rfl | rfl | rfl | rfl | rfl | rfl | rfl | rfl | rfl | rfl | rfl | rfl | rfl | rfl | rfl | rfl | rfl | rfl | rfl | rfl | rfl <;> first | exact stb_isV _ | exact stb_any)) (Upd.refl _ _) ?_ ?_
            · refine ⟨?_, ?_, ?_, ?_, ?_, ?_, ?_, ?_, ?_, ?_, ?_, ?_, ?_, ?_, ?_, ?_, ?_, ?_, ?_, ?_, ?_, trivial⟩
              · refine fun ρ w' L hW hLi hcl hd hdep hext hc hg hf => ?_
                rw [if_pos (show wantedR _ _ _ = true from rfl)]
                have e0 : ρ (.tmp 0) = .slice (some ⟨g, oo, none⟩) n c := hext 0 (by kernel_rfl)
                clear hdep hext hcl
                have HW := Lib.hid hW
                clear hW
                unfold OpDone
                go_simp
                exact ⟨rfl, Upd.refl _ _, HW.out⟩
              · refine fun ρ w' L hW hLi hcl hd hdep hext hc hg hf => ?_
                rw [if_pos (show wantedR _ _ _ = true from rfl)]
                have e8 : ρ (.tmp 8) = .int .i64 (k : Int) := hext 8 (by kernel_rfl)
                clear hdep hext hcl
                have HW := Lib.hid hW
                clear hW
                unfold OpDone
                go_simp
                exact ⟨rfl, Upd.refl _ _, HW.out⟩
              · refine fun ρ w' L hW hLi hcl hd hdep hext hc hg hf => ?_
                rw [if_pos (show wantedR _ _ _ = true from rfl)]
                have e15 : ρ (.tmp 15) = .slice (some ⟨g, oo, none⟩) n c := hdep 0 _ rfl (by kernel_rfl)
                have e16 : ρ (.tmp 16) = .int .i64 (k : Int) := hdep 1 _ rfl (by kernel_rfl)
                have q0 : (0 : Int) ≤ (k : Int) := by omega
                have q1 : (k : Int) < (n : Int) := by omega
                have q2 : k < n := by omega
                clear hdep hext hcl
                have HW := Lib.hid hW
                clear hW
                unfold OpDone
                go_simp
                exact ⟨rfl, Upd.refl _ _, HW.out⟩
              · refine fun ρ w' L hW hLi hcl hd hdep hext hc hg hf => ?_
                rw [if_pos (show wantedR _ _ _ = true from rfl)]
                have e17 : ρ (.tmp 17) = .pointer (some ⟨g, oo + k, none⟩) := hdep 2 _ rfl (by kernel_rfl)
                have yy : w'.cell? ⟨g, oo + k, none⟩ = some (.slice Au tl cu) := hW.cell XA.out (fun h => h)
                clear hdep hext hcl
                have HW := Lib.hid hW
                clear hW
                unfold OpDone
                go_simp
                exact ⟨rfl, Upd.refl _ _, HW.out⟩
              · refine fun ρ w' L hW hLi hcl hd hdep hext hc hg hf => ?_
                rw [if_pos (show wantedR _ _ _ = true from rfl)]
                have e18 : ρ (.tmp 18) = .slice Au tl cu := hdep 3 _ rfl (by kernel_rfl)
                clear hdep hext
                have CL := Lib.hid (CNM.out w' hW)
                have HW := Lib.hid hW
                clear hW hcl hd hLi
                unfold OpDone
                go_simp
                refine CL.out.mono ?_
                rintro e w2 ⟨rfl, hu⟩
                exact ⟨_, rfl, rfl, hu, HW.out.trans hu (fun _ _ f => f)⟩
              · refine fun ρ w' L hW hLi hcl hd hdep hext hc hg hf => ?_
                rw [if_pos (show wantedR _ _ _ = true from rfl)]
                have e3 : ρ (.tmp 3) = .pointer (some ⟨X, 0, none⟩) := hext 3 (by kernel_rfl)
                clear hdep hext
                refine od_load_row 28 (.tmp 3) rfl X 0 e3 (nm.map byteV) _ (name_cells HZN.out (hW.blk HBX.out (fun f => f))) Tryz.underlying28 rfl (by rw [name_size]; simp [H8N.out]) ?_
                rw [HZN.out]
                exact ⟨rfl, Upd.refl _ _, hW⟩
              · refine fun ρ w' L hW hLi hcl hd hdep hext hc hg hf => ?_
                rw [if_pos (show wantedR _ _ _ = true from rfl)]
                have e19 : ρ (.tmp 19) = .agg zt := hdep 4 _ rfl (by kernel_rfl)
                have e20 : ρ (.tmp 20) = .agg zn := hdep 5 _ rfl (by kernel_rfl)
                clear hdep hext
                have hE : ∀ w, (binOp .eql 28 (.agg zt) (.agg zn)).run Tryz.prog w = .ok (.bool true) w := fun w => HE.out w
                have HW := Lib.hid hW
                clear hW
                unfold OpDone
                go_simp
                exact ⟨rfl, Upd.refl _ _, HW.out⟩
              · refine fun ρ w' L hW hLi hcl hd hdep hext hc hg hf => ?_
                rw [if_pos (show wantedR _ _ _ = true from rfl)]
                have e21 : ρ (.tmp 21) = .bool true := hdep 6 _ rfl (by kernel_rfl)
                clear hdep hext hcl
                have HW := Lib.hid hW
                clear hW
                unfold OpDone
                go_simp
                exact ⟨rfl, Upd.refl _ _, HW.out⟩
              · refine fun ρ w' L hW hLi hcl hd hdep hext hc hg hf => ?_
                have eg : ρ (.tmp 22) = .bool true := hdep 7 _ rfl (by kernel_rfl)
                refine wanted_go ?_ ?_
                · show (match ρ (.tmp 22) with | .bool c => c == true | _ => false) = true
                  rw [eg]
                  rfl
                clear eg
                have e7 : ρ (.tmp 7) = .bool true := hext 7 (by kernel_rfl)
                clear hdep hext hcl
                have HW := Lib.hid hW
                clear hW
                unfold OpDone
                go_simp
                exact ⟨rfl, Upd.refl _ _, HW.out⟩
              · refine fun ρ w' L hW hLi hcl hd hdep hext hc hg hf => ?_
                have eg : ρ (.tmp 22) = .bool true := hdep 7 _ rfl (by kernel_rfl)
                refine wanted_go ?_ ?_
                · show (match ρ (.tmp 22) with | .bool c => c == true | _ => false) = true
                  rw [eg]
                  rfl
                clear eg
                have e23 : ρ (.tmp 23) = .bool true := hdep 8 _ rfl (by kernel_rfl)
                clear hdep hext hcl
                have HW := Lib.hid hW
                clear hW
                unfold OpDone
                go_simp
                exact ⟨rfl, Upd.refl _ _, HW.out⟩
              · refine fun ρ w' L hW hLi hcl hd hdep hext hc hg hf => ?_
                have eg : ρ (.tmp 22) = .bool true := hdep 7 _ rfl (by kernel_rfl)
                refine wanted_go ?_ ?_
                · show (match ρ (.tmp 22) with | .bool c => c == true | _ => false) = true
                  rw [eg]
                  rfl
                clear eg
                have e24 : ρ (.tmp 24) = .bool false := hdep 9 _ rfl (by kernel_rfl)
                clear hdep hext hcl
                have HW := Lib.hid hW
                clear hW
                unfold OpDone
                go_simp
                exact ⟨rfl, Upd.refl _ _, HW.out⟩
              · refine fun ρ w' L hW hLi hcl hd hdep hext hc hg hf => ?_
                have eg : ρ (.tmp 25) = .bool false := hdep 10 _ rfl (by kernel_rfl)
                refine wanted_go ?_ ?_
                · show (match ρ (.tmp 25) with | .bool c => c == false | _ => false) = true
                  rw [eg]
                  rfl
                clear eg
                have e0 : ρ (.tmp 0) = .slice (some ⟨g, oo, none⟩) n c := hext 0 (by kernel_rfl)
                clear hdep hext hcl
                have HW := Lib.hid hW
                clear hW
                unfold OpDone
                go_simp
                exact ⟨rfl, Upd.refl _ _, HW.out⟩
              · refine fun ρ w' L hW hLi hcl hd hdep hext hc hg hf => ?_
                have eg : ρ (.tmp 25) = .bool false := hdep 10 _ rfl (by kernel_rfl)
                refine wanted_go ?_ ?_
                · show (match ρ (.tmp 25) with | .bool c => c == false | _ => false) = true
                  rw [eg]
                  rfl
                clear eg
                have e8 : ρ (.tmp 8) = .int .i64 (k : Int) := hext 8 (by kernel_rfl)
                clear hdep hext hcl
                have HW := Lib.hid hW
                clear hW
                unfold OpDone
                go_simp
                exact ⟨rfl, Upd.refl _ _, HW.out⟩
              · refine fun ρ w' L hW hLi hcl hd hdep hext hc hg hf => ?_
                have eg : ρ (.tmp 25) = .bool false := hdep 10 _ rfl (by kernel_rfl)
                refine wanted_go ?_ ?_
                · show (match ρ (.tmp 25) with | .bool c => c == false | _ => false) = true
                  rw [eg]
                  rfl
                clear eg
                have e26 : ρ (.tmp 26) = .slice (some ⟨g, oo, none⟩) n c := hdep 11 _ rfl (by kernel_rfl)
                have e27 : ρ (.tmp 27) = .int .i64 (k : Int) := hdep 12 _ rfl (by kernel_rfl)
                have q0 : (0 : Int) ≤ (k : Int) := by omega
                have q1 : (k : Int) < (n : Int) := by omega
                have q2 : k < n := by omega
                clear hdep hext hcl
                have HW := Lib.hid hW
                clear hW
                unfold OpDone
                go_simp
                exact ⟨rfl, Upd.refl _ _, HW.out⟩
              · refine fun ρ w' L hW hLi hcl hd hdep hext hc hg hf => ?_
                have eg : ρ (.tmp 25) = .bool false := hdep 10 _ rfl (by kernel_rfl)
                refine wanted_go ?_ ?_
                · show (match ρ (.tmp 25) with | .bool c => c == false | _ => false) = true
                  rw [eg]
                  rfl
                clear eg
                have e28 : ρ (.tmp 28) = .pointer (some ⟨g, oo + k, none⟩) := hdep 13 _ rfl (by kernel_rfl)
                have yy : w'.cell? ⟨g, oo + k, none⟩ = some (.slice Au tl cu) := hW.cell XA.out (fun h => h)
                clear hdep hext hcl
                have HW := Lib.hid hW
                clear hW
                unfold OpDone
                go_simp
                exact ⟨rfl, Upd.refl _ _, HW.out⟩
              · refine fun ρ w' L hW hLi hcl hd hdep hext hc hg hf => ?_
                have eg : ρ (.tmp 25) = .bool false := hdep 10 _ rfl (by kernel_rfl)
                refine wanted_go ?_ ?_
                · show (match ρ (.tmp 25) with | .bool c => c == false | _ => false) = true
                  rw [eg]
                  rfl
                clear eg
                have e29 : ρ (.tmp 29) = .slice Au tl cu := hdep 14 _ rfl (by kernel_rfl)
                have kk := STA.out w' hW
                clear hdep hext hcl
                have HW := Lib.hid hW
                clear hW
                unfold OpDone
                go_simp
                exact ⟨rfl, Upd.refl _ _, HW.out⟩
              · refine fun ρ w' L hW hLi hcl hd hdep hext hc hg hf => ?_
                have eg : ρ (.tmp 25) = .bool false := hdep 10 _ rfl (by kernel_rfl)
                refine wanted_go ?_ ?_
                · show (match ρ (.tmp 25) with | .bool c => c == false | _ => false) = true
                  rw [eg]
                  rfl
                clear eg
                have e6 : ρ (.tmp 6) = .slice A6 m6 c6 := hext 6 (by kernel_rfl)
                clear hdep hext hcl
                have HW := Lib.hid hW
                clear hW
                unfold OpDone
                go_simp
                exact ⟨rfl, Upd.refl _ _, HW.out⟩
              · refine fun ρ w' L hW hLi hcl hd hdep hext hc hg hf => ?_
                have eg : ρ (.tmp 25) = .bool false := hdep 10 _ rfl (by kernel_rfl)
                refine wanted_go ?_ ?_
                · show (match ρ (.tmp 25) with | .bool c => c == false | _ => false) = true
                  rw [eg]
                  rfl
                clear eg
                have e31 : ρ (.tmp 31) = .slice A6 m6 c6 := hdep 16 _ rfl (by kernel_rfl)
                have kk := STB.out w' hW
                clear hdep hext hcl
                have HW := Lib.hid hW
                clear hW
                unfold OpDone
                go_simp
                exact ⟨rfl, Upd.refl _ _, HW.out⟩
              · refine fun ρ w' L hW hLi hcl hd hdep hext hc hg hf => ?_
                have eg : ρ (.tmp 25) = .bool false := hdep 10 _ rfl (by kernel_rfl)
                refine wanted_go ?_ ?_
                · show (match ρ (.tmp 25) with | .bool c => c == false | _ => false) = true
                  rw [eg]
                  rfl
                clear eg
                have e30 : ρ (.tmp 30) = strV t := hdep 15 _ rfl (by kernel_rfl)
                have e32 : ρ (.tmp 32) = strV uu := hdep 17 _ rfl (by kernel_rfl)
                have gg := GEQ.out w'
                clear hdep hext hcl
                have HW := Lib.hid hW
                clear hW
                unfold OpDone
                go_simp
                exact ⟨rfl, Upd.refl _ _, HW.out⟩
              · refine fun ρ w' L hW hLi hcl hd hdep hext hc hg hf => ?_
                have eg : ρ (.tmp 22) = .bool true := hdep 7 _ rfl (by kernel_rfl)
                refine wanted_go ?_ ?_
                · show (match ρ (.tmp 22) with | .bool c => c == true | _ => false) = true
                  rw [eg]
                  rfl
                clear eg
                have e25 : ρ (.tmp 25) = .bool false := hdep 10 _ rfl (by kernel_rfl)
                have e33 : ρ (.tmp 33) = .bool false := hdep 18 _ rfl (by kernel_rfl)
                clear hdep hext hcl
                have HW := Lib.hid hW
                clear hW
                unfold OpDone
                go_simp
                exact ⟨rfl, Upd.refl _ _, HW.out⟩
              · refine fun ρ w' L hW hLi hcl hd hdep hext hc hg hf => ?_
                rw [if_pos (show wantedR _ _ _ = true from rfl)]
                have e22 : ρ (.tmp 22) = .bool true := hdep 7 _ rfl (by kernel_rfl)
                have e34 : ρ (.tmp 34) = .bool false := hdep 19 _ rfl (by kernel_rfl)
                clear hdep hext hcl
                have HW := Lib.hid hW
                clear hW
                unfold OpDone
                go_simp
                exact ⟨rfl, Upd.refl _ _, HW.out⟩
            intro vs W8 L8 hL8 hW8 hR
            have hv0 : vs 0 = .slice (some ⟨g, oo, none⟩) n c := hR 0 _ rfl
            have hv1 : vs 1 = .int .i64 (k : Int) := hR 1 _ rfl
            have hv2 : vs 2 = .pointer (some ⟨g, oo + k, none⟩) := hR 2 _ rfl
            have hv3 : vs 3 = .slice Au tl cu := hR 3 _ rfl
            have hv4 : vs 4 = .agg zt := hR 4 _ rfl
            have hv5 : vs 5 = .agg zn := hR 5 _ rfl
            have hv6 : vs 6 = .bool true := hR 6 _ rfl
            have hv7 : vs 7 = .bool true := hR 7 _ rfl
            have hv8 : vs 8 = .bool true := hR 8 _ rfl
            have hv9 : vs 9 = .bool false := hR 9 _ rfl
            have hv10 : vs 10 = .bool false := hR 10 _ rfl
            have hv11 : vs 11 = .slice (some ⟨g, oo, none⟩) n c := hR 11 _ rfl
            have hv12 : vs 12 = .int .i64 (k : Int) := hR 12 _ rfl
            have hv13 : vs 13 = .pointer (some ⟨g, oo + k, none⟩) := hR 13 _ rfl
            have hv14 : vs 14 = .slice Au tl cu := hR 14 _ rfl
            have hv15 : vs 15 = strV t := hR 15 _ rfl
            have hv16 : vs 16 = .slice A6 m6 c6 := hR 16 _ rfl
            have hv17 : vs 17 = strV uu := hR 17 _ rfl
            have hv18 : vs 18 = .bool false := hR 18 _ rfl
            have hv19 : vs 19 = .bool false := hR 19 _ rfl
            have hv20 : vs 20 = .bool false := hR 20 _ rfl
            simp only [putAll, Act.put, List.setIfInBounds_toArray, List.set_cons_zero, List.set_cons_succ, hv0, hv1, hv2, hv3, hv4, hv5, hv6, hv7, hv8, hv9, hv10, hv11, hv12, hv13, hv14, hv15, hv16, hv17, hv18, hv19, hv20]
            clear hR hv0 hv1 hv2 hv3 hv4 hv5 hv6 hv7 hv8 hv9 hv10 hv11 hv12 hv13 hv14 hv15 hv16 hv17 hv18 hv19 hv20
            have HU8 := Lib.hid (show Upd NoF v0 W8 from HU.out.trans (((Upd.refl NoF wr).drew).trans hW8 (fun _ _ f => f)) (fun _ _ f => f))
            have y8 := hW8.cell XA.out (fun h => h)
            clear hW8
            go_wp2
            go_roundw
            case rel => exact ⟨k + 1, some uu, A6, m6, c6, rfl, rfl, by go_num, by omega, by rw [HTK.out, pick_snoc, ← HPO.out]; unfold pickStep; rw [if_pos HQ.out]; simp only [if_neg HL.out], HML.out, HRU.out, HU8.out⟩
            case measure => simp [intOf]; omega
      · have HQ := Lib.hid hq
        have HE := Lib.hid (show ∀ w, (binOp .eql 28 (.agg zt) (.agg zn)).run Tryz.prog w = .ok (.bool false) w from fun w => by
          have q := eql_name' (hsum_len t) H8N.out w
          rw [show decide (hsum t = nm) = false from decide_eq_false HQ.out] at q
          rw [← HZT.out, ← HZN.out]
          exact q)
        clear hq
        go_wp2_with fail
        refine wp_region_rgw (rgR [isV (.slice (some ⟨g, oo, none⟩) n c), isV (.int .i64 (k : Int)), isV (.pointer (some ⟨g, oo + k, none⟩)), isV (.slice Au tl cu), isV (.agg zt), isV (.agg zn), isV (.bool false), isV (.bool false), isV (undef), isV (undef), isV (undef), isV (undef), isV (undef), isV (undef), isV (undef), isV (undef), isV (undef), isV (undef), isV (undef), isV (undef), isV (.bool false)]) (fun w w' => Upd NoF w w') (fun _ wq => Upd NoF wr.drew wq) (by kernel_rfl) (by kernel_rfl) (by kernel_rfl) (by rfl) (fun w => Upd.refl _ _) (rgR_keep (by
          intro p hp; simp only [List.mem_cons, List.not_mem_nil, or_false] at hp; rcases hp with rfl | rfl | rfl | rfl | rfl | rfl | rfl | rfl | rfl | rfl | rfl | rfl | rfl | rfl | rfl | rfl | rfl | rfl | rfl | rfl | rfl <;> first | exact stb_isV _ | exact stb_any)) (Upd.refl _ _) ?_ ?_
        · refine ⟨?_, ?_, ?_, ?_, ?_, ?_, ?_, ?_, ?_, ?_, ?_, ?_, ?_, ?_, ?_, ?_, ?_, ?_, ?_, ?_, ?_, trivial⟩
          · refine fun ρ w' L hW hLi hcl hd hdep hext hc hg hf => ?_
            rw [if_pos (show wantedR _ _ _ = true from rfl)]
            have e0 : ρ (.tmp 0) = .slice (some ⟨g, oo, none⟩) n c := hext 0 (by kernel_rfl)
            clear hdep hext hcl
            have HW := Lib.hid hW
            clear hW
            unfold OpDone
            go_simp
            exact ⟨rfl, Upd.refl _ _, HW.out⟩
          · refine fun ρ w' L hW hLi hcl hd hdep hext hc hg hf => ?_
            rw [if_pos (show wantedR _ _ _ = true from rfl)]
            have e8 : ρ (.tmp 8) = .int .i64 (k : Int) := hext 8 (by kernel_rfl)
            clear hdep hext hcl
            have HW := Lib.hid hW
            clear hW
            unfold OpDone
            go_simp
            exact ⟨rfl, Upd.refl _ _, HW.out⟩
          · refine fun ρ w' L hW hLi hcl hd hdep hext hc hg hf => ?_
            rw [if_pos (show wantedR _ _ _ = true from rfl)]
            have e15 : ρ (.tmp 15) = .slice (some ⟨g, oo, none⟩) n c := hdep 0 _ rfl (by kernel_rfl)
            have e16 : ρ (.tmp 16) = .int .i64 (k : Int) := hdep 1 _ rfl (by kernel_rfl)
            have q0 : (0 : Int) ≤ (k : Int) := by omega
            have q1 : (k : Int) < (n : Int) := by omega
            have q2 : k < n := by omega
            clear hdep hext hcl
            have HW := Lib.hid hW
            clear hW
            unfold OpDone
            go_simp
            exact ⟨rfl, Upd.refl _ _, HW.out⟩
          · refine fun ρ w' L hW hLi hcl hd hdep hext hc hg hf => ?_
            rw [if_pos (show wantedR _ _ _ = true from rfl)]
            have e17 : ρ (.tmp 17) = .pointer (some ⟨g, oo + k, none⟩) := hdep 2 _ rfl (by kernel_rfl)
            have yy : w'.cell? ⟨g, oo + k, none⟩ = some (.slice Au tl cu) := hW.cell XA.out (fun h => h)
            clear hdep hext hcl
            have HW := Lib.hid hW
            clear hW
            unfold OpDone
            go_simp
            exact ⟨rfl, Upd.refl _ _, HW.out⟩
          · refine fun ρ w' L hW hLi hcl hd hdep hext hc hg hf => ?_
            rw [if_pos (show wantedR _ _ _ = true from rfl)]
            have e18 : ρ (.tmp 18) = .slice Au tl cu := hdep 3 _ rfl (by kernel_rfl)
            clear hdep hext
            have CL := Lib.hid (CNM.out w' hW)
            have HW := Lib.hid hW
            clear hW hcl hd hLi
            unfold OpDone
            go_simp
            refine CL.out.mono ?_
            rintro e w2 ⟨rfl, hu⟩
            exact ⟨_, rfl, rfl, hu, HW.out.trans hu (fun _ _ f => f)⟩
          · refine fun ρ w' L hW hLi hcl hd hdep hext hc hg hf => ?_
            rw [if_pos (show wantedR _ _ _ = true from rfl)]
            have e3 : ρ (.tmp 3) = .pointer (some ⟨X, 0, none⟩) := hext 3 (by kernel_rfl)
            clear hdep hext
            refine od_load_row 28 (.tmp 3) rfl X 0 e3 (nm.map byteV) _ (name_cells HZN.out (hW.blk HBX.out (fun f => f))) Tryz.underlying28 rfl (by rw [name_size]; simp [H8N.out]) ?_
            rw [HZN.out]
            exact ⟨rfl, Upd.refl _ _, hW⟩
          · refine fun ρ w' L hW hLi hcl hd hdep hext hc hg hf => ?_
            rw [if_pos (show wantedR _ _ _ = true from rfl)]
            have e19 : ρ (.tmp 19) = .agg zt := hdep 4 _ rfl (by kernel_rfl)
            have e20 : ρ (.tmp 20) = .agg zn := hdep 5 _ rfl (by kernel_rfl)
            clear hdep hext
            have hE : ∀ w, (binOp .eql 28 (.agg zt) (.agg zn)).run Tryz.prog w = .ok (.bool false) w := fun w => HE.out w
            have HW := Lib.hid hW
            clear hW
            unfold OpDone
            go_simp
            exact ⟨rfl, Upd.refl _ _, HW.out⟩
          · refine fun ρ w' L hW hLi hcl hd hdep hext hc hg hf => ?_
            rw [if_pos (show wantedR _ _ _ = true from rfl)]
            have e21 : ρ (.tmp 21) = .bool false := hdep 6 _ rfl (by kernel_rfl)
            clear hdep hext hcl
            have HW := Lib.hid hW
            clear hW
            unfold OpDone
            go_simp
            exact ⟨rfl, Upd.refl _ _, HW.out⟩
          · refine fun ρ w' L hW hLi hcl hd hdep hext hc hg hf => ?_
            have eg : ρ (.tmp 22) = .bool false := hdep 7 _ rfl (by kernel_rfl)
            rw [if_neg (show ¬ wantedR _ _ _ = true from by show ¬ (match ρ (.tmp 22) with | .bool c => c == true | _ => false) = true; rw [eg]; decide)]
            exact ⟨rfl, hW⟩
          · refine fun ρ w' L hW hLi hcl hd hdep hext hc hg hf => ?_
            have eg : ρ (.tmp 22) = .bool false := hdep 7 _ rfl (by kernel_rfl)
            rw [if_neg (show ¬ wantedR _ _ _ = true from by show ¬ (match ρ (.tmp 22) with | .bool c => c == true | _ => false) = true; rw [eg]; decide)]
            exact ⟨rfl, hW⟩
          · refine fun ρ w' L hW hLi hcl hd hdep hext hc hg hf => ?_
            have eg : ρ (.tmp 22) = .bool false := hdep 7 _ rfl (by kernel_rfl)
            rw [if_neg (show ¬ wantedR _ _ _ = true from by show ¬ (match ρ (.tmp 22) with | .bool c => c == true | _ => false) = true; rw [eg]; decide)]
            exact ⟨rfl, hW⟩
          · refine fun ρ w' L hW hLi hcl hd hdep hext hc hg hf => ?_
            have eg : ρ (.tmp 25) = undef := hdep 10 _ rfl (by kernel_rfl)
            rw [if_neg (show ¬ wantedR _ _ _ = true from by show ¬ (match ρ (.tmp 25) with | .bool c => c == false | _ => false) = true; rw [eg]; decide)]
            exact ⟨rfl, hW⟩
          · refine fun ρ w' L hW hLi hcl hd hdep hext hc hg hf => ?_
            have eg : ρ (.tmp 25) = undef := hdep 10 _ rfl (by kernel_rfl)
            rw [if_neg (show ¬ wantedR _ _ _ = true from by show ¬ (match ρ (.tmp 25) with | .bool c => c == false | _ => false) = true; rw [eg]; decide)]
            exact ⟨rfl, hW⟩
          · refine fun ρ w' L hW hLi hcl hd hdep hext hc hg hf => ?_
            have eg : ρ (.tmp 25) = undef := hdep 10 _ rfl (by kernel_rfl)
            rw [if_neg (show ¬ wantedR _ _ _ = true from by show ¬ (match ρ (.tmp 25) with | .bool c => c == false | _ => false) = true; rw [eg]; decide)]
            exact ⟨rfl, hW⟩
          · refine fun ρ w' L hW hLi hcl hd hdep hext hc hg hf => ?_
            have eg : ρ (.tmp 25) = undef := hdep 10 _ rfl (by kernel_rfl)
            rw [if_neg (show ¬ wantedR _ _ _ = true from by show ¬ (match ρ (.tmp 25) with | .bool c => c == false | _ => false) = true; rw [eg]; decide)]
            exact ⟨rfl, hW⟩
          · refine fun ρ w' L hW hLi hcl hd hdep hext hc hg hf => ?_
            have eg : ρ (.tmp 25) = undef := hdep 10 _ rfl (by kernel_rfl)
            rw [if_neg (show ¬ wantedR _ _ _ = true from by show ¬ (match ρ (.tmp 25) with | .bool c => c == false | _ => false) = true; rw [eg]; decide)]
            exact ⟨rfl, hW⟩
          · refine fun ρ w' L hW hLi hcl hd hdep hext hc hg hf => ?_
            have eg : ρ (.tmp 25) = undef := hdep 10 _ rfl (by kernel_rfl)
            rw [if_neg (show ¬ wantedR _ _ _ = true from by show ¬ (match ρ (.tmp 25) with | .bool c => c == false | _ => false) = true; rw [eg]; decide)]
            exact ⟨rfl, hW⟩
          · refine fun ρ w' L hW hLi hcl hd hdep hext hc hg hf => ?_
            have eg : ρ (.tmp 25) = undef := hdep 10 _ rfl (by kernel_rfl)
            rw [if_neg (show ¬ wantedR _ _ _ = true from by show ¬ (match ρ (.tmp 25) with | .bool c => c == false | _ => false) = true; rw [eg]; decide)]
            exact ⟨rfl, hW⟩
          · refine fun ρ w' L hW hLi hcl hd hdep hext hc hg hf => ?_
            have eg : ρ (.tmp 25) = undef := hdep 10 _ rfl (by kernel_rfl)
            rw [if_neg (show ¬ wantedR _ _ _ = true from by show ¬ (match ρ (.tmp 25) with | .bool c => c == false | _ => false) = true; rw [eg]; decide)]
            exact ⟨rfl, hW⟩
          · refine fun ρ w' L hW hLi hcl hd hdep hext hc hg hf => ?_
            have eg : ρ (.tmp 22) = .bool false := hdep 7 _ rfl (by kernel_rfl)
            rw [if_neg (show ¬ wantedR _ _ _ = true from by show ¬ (match ρ (.tmp 22) with | .bool c => c == true | _ => false) = true; rw [eg]; decide)]
            exact ⟨rfl, hW⟩
          · refine fun ρ w' L hW hLi hcl hd hdep hext hc hg hf => ?_
            rw [if_pos (show wantedR _ _ _ = true from rfl)]
            have e22 : ρ (.tmp 22) = .bool false := hdep 7 _ rfl (by kernel_rfl)
            have e34 : ρ (.tmp 34) = undef := hdep 19 _ rfl (by kernel_rfl)
            clear hdep hext hcl
            have HW := Lib.hid hW
            clear hW
            unfold OpDone
            go_simp
            exact ⟨rfl, Upd.refl _ _, HW.out⟩
        intro vs W8 L8 hL8 hW8 hR
        have hv0 : vs 0 = .slice (some ⟨g, oo, none⟩) n c := hR 0 _ rfl
        have hv1 : vs 1 = .int .i64 (k : Int) := hR 1 _ rfl
        have hv2 : vs 2 = .pointer (some ⟨g, oo + k, none⟩) := hR 2 _ rfl
        have hv3 : vs 3 = .slice Au tl cu := hR 3 _ rfl
        have hv4 : vs 4 = .agg zt := hR 4 _ rfl
        have hv5 : vs 5 = .agg zn := hR 5 _ rfl
        have hv6 : vs 6 = .bool false := hR 6 _ rfl
        have hv7 : vs 7 = .bool false := hR 7 _ rfl
        have hv8 : vs 8 = undef := hR 8 _ rfl
        have hv9 : vs 9 = undef := hR 9 _ rfl
        have hv10 : vs 10 = undef := hR 10 _ rfl
        have hv11 : vs 11 = undef := hR 11 _ rfl
        have hv12 : vs 12 = undef := hR 12 _ rfl
        have hv13 : vs 13 = undef := hR 13 _ rfl
        have hv14 : vs 14 = undef := hR 14 _ rfl
        have hv15 : vs 15 = undef := hR 15 _ rfl
        have hv16 : vs 16 = undef := hR 16 _ rfl
        have hv17 : vs 17 = undef := hR 17 _ rfl
        have hv18 : vs 18 = undef := hR 18 _ rfl
        have hv19 : vs 19 = undef := hR 19 _ rfl
        have hv20 : vs 20 = .bool false := hR 20 _ rfl
        simp only [putAll, Act.put, List.setIfInBounds_toArray, List.set_cons_zero, List.set_cons_succ, hv0, hv1, hv2, hv3, hv4, hv5, hv6, hv7, hv8, hv9, hv10, hv11, hv12, hv13, hv14, hv15, hv16, hv17, hv18, hv19, hv20]
        clear hR hv0 hv1 hv2 hv3 hv4 hv5 hv6 hv7 hv8 hv9 hv10 hv11 hv12 hv13 hv14 hv15 hv16 hv17 hv18 hv19 hv20
        have HU8 := Lib.hid (show Upd NoF v0 W8 from HU.out.trans (((Upd.refl NoF wr).drew).trans hW8 (fun _ _ f => f)) (fun _ _ f => f))
        have y8 := hW8.cell XA.out (fun h => h)
        clear hW8
        go_wp2
        go_roundw
        case rel => exact ⟨k + 1, po, A6, m6, c6, rfl, rfl, by go_num, by omega, by rw [HTK.out, pick_snoc, ← HPO.out]; unfold pickStep; rw [if_neg HQ.out], HML.out, HRU.out, HU8.out⟩
        case measure => simp [intOf]; omega
    · have hkn : k = n := by omega
      subst hkn
      have t1 : decide ((k : Int) < (k : Int)) = false := by simp
      have HPB := Lib.hid (show po = pickT nm l from by rw [HPO.out, List.take_of_length_le (by rw [HN.out]; exact Nat.le_refl _)])
      have hpl : po.getD [] = pb := by rw [← HPB0.out, HPB.out]; rfl
      have HPS := Lib.hid (show po.isSome = ps from by rw [← HPS0.out, HPB.out])
      have UF := Lib.hid (V0.out.trans HU.out (fun _ _ f => f))
      have HLE := Lib.hid (show (po.getD []).length ≤ 1000000 from by
        cases hpo : po with
        | none => simp
        | some uu => have := HB.out uu (pick_mem (HPB.out.symm.trans hpo)); show uu.length ≤ _; omega)
      have HRF := Lib.hid (HRU.out.keep UF.out)
      rw [hpl] at HML HRF HLE
      clear hpl
      obtain ⟨i0, hi0, hz0, hz1, hz2⟩ := info_parts byte_info
      have HSZ := Lib.hid (show 0 + m6 ≤ maxLen ∧ (0 + m6) * 1 ≤ 140737488355328 from by have := HLE.out; have := HML.out; unfold maxLen; omega)
      go_wp2_with (first
        | (at_builtin; (refine wpList_append_to _ rfl (.tmp 40) (.tmp 41) 52 rfl 5 i0 _ 1 1 Tryz.underlying52 hi0 hz0 hz1 hz2 (by kernel_rfl) (.slice (some ⟨wr.heap.size, 0, none⟩) 0 0) 0 [] (by rfl) (NewR.fresh wr 5 1).1 (.slice A6 m6 c6) m6 (pb.map byteV) (by rfl) (HRF.out.keep ((Upd.refl NoF wr).alloc _)) (name_ones _) HSZ.out.1 HSZ.out.2 ?_; intro A10 c10 w10 hown hupd hnew; have O10 := Lib.hid hown; have D10 := Lib.hid hupd; clear hown hupd hnew)))
      go_ret2
      exact ⟨A10, c10, by rw [HPS.out, HML.out]; rfl, by rw [HML.out]; have q := O10.out.rd; simpa using q, UF.out.trans (((Upd.refl NoF wr).alloc _).trans D10.out (fun j hj f => by have f' := f; simp only [OwnB, Value.ownBlock] at f'; simp at f'; omega)) (fun _ _ f => f)⟩
end Go.Proofs.YtengcmfdfmnacaaGreat
