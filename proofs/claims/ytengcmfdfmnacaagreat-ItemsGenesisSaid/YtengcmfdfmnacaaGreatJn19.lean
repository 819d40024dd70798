/- The reference's SameInts, SameDeltas, SameState and the like at values that are alike. Conditions: sizes. The reference's SameItem at two genesis items, or two empty ones. Conditions: sizes. -/
import Derived.Test.YtengcmfdfmnacaaGreatJn16
import Derived.Test.YtengcmfdfmnacaaGreatJn18
import Derived.Test.YtengcmfdfmnacaaGreatJn15
namespace Go.Proofs.YtengcmfdfmnacaaGreat
section
open Go.RowKit Go.Lib

theorem rdI_at {w : World} {A : Option Addr} {n c k : Nat} {xs : List Value} {x : Value} (h : Rd w 1 (.slice A n c) n xs) (hx : xs[k]? = some x) (hk : k < n) : ∃ g o, A = some ⟨g, o, none⟩ ∧ w.cell? ⟨g, o + k, none⟩ = some x := by
  obtain ⟨A', c', e, h1, h2, h3, h4⟩ := h
  injection e with e1 e2 e3
  subst e1
  obtain ⟨g, o, rfl, hc⟩ := h4 (by omega)
  exact ⟨g, o, rfl, hc k x hx⟩
theorem eq_step (d : Nat) (xs ys : Array Value) (f : Field) (fs : List Field) (w : World) (hn : f.name ≠ "_") : (Op.eqFields d xs ys (f :: fs)).run Tryz.prog w = ((part f.type xs f.offset).run Tryz.prog w).andThen fun u w => ((part f.type ys f.offset).run Tryz.prog w).andThen fun z w => ((Op.equalIn d f.type u z).run Tryz.prog w).andThen fun r w => (if (!r) = true then (pure false : Sem Bool) else Op.eqFields d xs ys fs).run Tryz.prog w := by
  simp [Op.eqFields, hn]
set_option maxRecDepth 100000 in
theorem cell_self (d : Nat) (z0 z1 : Int) (p0 p1 p2 p3 p4 p5 p6 p7 : UInt8) (w : World) : (Op.equalIn (d + 3) 107 (.agg #[.int .i64 z0, .int .i64 z1, byteV p0, byteV p1, byteV p2, byteV p3, byteV p4, byteV p5, byteV p6, byteV p7]) (.agg #[.int .i64 z0, .int .i64 z1, byteV p0, byteV p1, byteV p2, byteV p3, byteV p4, byteV p5, byteV p6, byteV p7])).run Tryz.prog w = .ok true w := by
  have hS : Tryz.prog.underlying 107 = some (.struct (Tryz.prog.fieldsOf 107)) := by kernel_rfl
  have hp : Tryz.prog.stoodInHeld 107 = false := by kernel_rfl
  have I : ∀ (x y : Int) (w : World), (Op.equalIn (d + 2) 3 (.int .i64 x) (.int .i64 y)).run Tryz.prog w = .ok (x == y) w := fun x y w => run_equalIn_int w (d + 1) 3 .i64 .i64 x y Tryz.underlying3
  have N1 : ∀ w, (Op.equalIn (d + 2) 28 (nameV [p0, p1, p2, p3, p4, p5, p6, p7]) (nameV [p0, p1, p2, p3, p4, p5, p6, p7])).run Tryz.prog w = .ok true w := fun w => by
    rw [name_equal d _ _ rfl rfl w]
    simp
  have hfs : (Tryz.prog.fieldsOf 107).toList.map (fun f => (f.name, f.type, f.offset)) = [("Kind", 3, 0), ("ID", 3, 1), ("Lock", 28, 2)] := by kernel_rfl
  rw [run_equalIn_agg w (d + 2) 107 _ _ hS hp]
  generalize (Tryz.prog.fieldsOf 107).toList = fl at hfs ⊢
  obtain ⟨f0, l0, rfl⟩ : ∃ f l, fl = f :: l := List.exists_cons_of_ne_nil (by rintro rfl; simp at hfs)
  rw [List.map_cons, List.cons.injEq, Prod.mk.injEq, Prod.mk.injEq] at hfs
  obtain ⟨⟨n0, t0, o0⟩, hfs⟩ := hfs
  obtain ⟨f1, l1, rfl⟩ : ∃ f l, l0 = f :: l := List.exists_cons_of_ne_nil (by rintro rfl; simp at hfs)
  rw [List.map_cons, List.cons.injEq, Prod.mk.injEq, Prod.mk.injEq] at hfs
  obtain ⟨⟨n1, t1, o1⟩, hfs⟩ := hfs
  obtain ⟨f2, l2, rfl⟩ : ∃ f l, l1 = f :: l := List.exists_cons_of_ne_nil (by rintro rfl; simp at hfs)
  rw [List.map_cons, List.cons.injEq, Prod.mk.injEq, Prod.mk.injEq] at hfs
  obtain ⟨⟨n2, t2, o2⟩, hfs⟩ := hfs
  obtain rfl : l2 = [] := by simpa using hfs
  rw [eq_step _ _ _ _ _ _ (by rw [n0]; decide), t0, o0]
  simp only [Result.andThen_ok, part10_0, I]
  simp only [beq_self_eq_true, Bool.not_true, Bool.false_eq_true, if_false]
  rw [eq_step _ _ _ _ _ _ (by rw [n1]; decide), t1, o1]
  simp only [Result.andThen_ok, part10_1, I]
  simp only [beq_self_eq_true, Bool.not_true, Bool.false_eq_true, if_false]
  rw [eq_step _ _ _ _ _ _ (by rw [n2]; decide), t2, o2]
  simp only [Result.andThen_ok, part10_2, N1]
  simp [Op.eqFields]
theorem partD_0 (z0 z1 z2 : Int) (p0 p1 p2 p3 p4 p5 p6 p7 : UInt8) (w : World) : (part 107 #[.int .i64 z0, .int .i64 z1, byteV p0, byteV p1, byteV p2, byteV p3, byteV p4, byteV p5, byteV p6, byteV p7, .int .i64 z2] 0).run Tryz.prog w = .ok (.agg #[.int .i64 z0, .int .i64 z1, byteV p0, byteV p1, byteV p2, byteV p3, byteV p4, byteV p5, byteV p6, byteV p7]) w := by kernel_rfl
theorem partD_1 (z0 z1 z2 : Int) (p0 p1 p2 p3 p4 p5 p6 p7 : UInt8) (w : World) : (part 3 #[.int .i64 z0, .int .i64 z1, byteV p0, byteV p1, byteV p2, byteV p3, byteV p4, byteV p5, byteV p6, byteV p7, .int .i64 z2] 10).run Tryz.prog w = .ok (.int .i64 z2) w := by kernel_rfl
set_option maxRecDepth 100000 in
theorem delta_neq {d : DelS} (h : d.Fit) (w : World) : (binOp .neq 109 (.agg (rowD d).toArray) (.agg (rowD d).toArray)).run Tryz.prog w = .ok (.bool false) w := by
  obtain ⟨z0, z1, l, z2⟩ := d
  obtain ⟨p0, p1, p2, p3, p4, p5, p6, p7, rfl⟩ := name_spell h.lock
  have h1 : Value.agg (rowD ⟨z0, z1, [p0, p1, p2, p3, p4, p5, p6, p7], z2⟩).toArray = .agg #[.int .i64 z0, .int .i64 z1, byteV p0, byteV p1, byteV p2, byteV p3, byteV p4, byteV p5, byteV p6, byteV p7, .int .i64 z2] := rfl
  have hS : Tryz.prog.underlying 109 = some (.struct (Tryz.prog.fieldsOf 109)) := by kernel_rfl
  have hp : Tryz.prog.stoodInHeld 109 = false := by kernel_rfl
  have I : ∀ (x y : Int) (w : World), (Op.equalIn 9999 3 (.int .i64 x) (.int .i64 y)).run Tryz.prog w = .ok (x == y) w := fun x y w => run_equalIn_int w 9998 3 .i64 .i64 x y Tryz.underlying3
  have C1 : ∀ w, (Op.equalIn 9999 107 (.agg #[.int .i64 z0, .int .i64 z1, byteV p0, byteV p1, byteV p2, byteV p3, byteV p4, byteV p5, byteV p6, byteV p7]) (.agg #[.int .i64 z0, .int .i64 z1, byteV p0, byteV p1, byteV p2, byteV p3, byteV p4, byteV p5, byteV p6, byteV p7])).run Tryz.prog w = .ok true w := fun w => cell_self 9996 z0 z1 p0 p1 p2 p3 p4 p5 p6 p7 w
  have hfs : (Tryz.prog.fieldsOf 109).toList.map (fun f => (f.name, f.type, f.offset)) = [("Cell", 107, 0), ("Amount", 3, 10)] := by kernel_rfl
  rw [run_neq_struct, h1, show (10000 : Nat) = 9999 + 1 from rfl, run_equalIn_agg w 9999 109 _ _ hS hp]
  generalize (Tryz.prog.fieldsOf 109).toList = fl at hfs ⊢
  obtain ⟨f0, l0, rfl⟩ : ∃ f l, fl = f :: l := List.exists_cons_of_ne_nil (by rintro rfl; simp at hfs)
  rw [List.map_cons, List.cons.injEq, Prod.mk.injEq, Prod.mk.injEq] at hfs
  obtain ⟨⟨n0, t0, o0⟩, hfs⟩ := hfs
  obtain ⟨f1, l1, rfl⟩ : ∃ f l, l0 = f :: l := List.exists_cons_of_ne_nil (by rintro rfl; simp at hfs)
  rw [List.map_cons, List.cons.injEq, Prod.mk.injEq, Prod.mk.injEq] at hfs
  obtain ⟨⟨n1, t1, o1⟩, hfs⟩ := hfs
  obtain rfl : l1 = [] := by simpa using hfs
  rw [eq_step _ _ _ _ _ _ (by rw [n0]; decide), t0, o0]
  simp only [Result.andThen_ok, partD_0, C1]
  simp only [Bool.not_true, Bool.false_eq_true, if_false]
  rw [eq_step _ _ _ _ _ _ (by rw [n1]; decide), t1, o1]
  simp only [Result.andThen_ok, partD_1, I]
  simp [Op.eqFields]

set_option maxRecDepth 100000 in
set_option maxHeartbeats 2000000 in
theorem r20SameHeads_nil {A B : Option Addr} {c d : Nat} (w : World) : Calls Tryz.prog 34 #[.slice A 0 c, .slice B 0 d] w fun e w' => e = .returned (.bool true) ∧ w' = w := by
  go_enter Tryz.func34, Tryz.ntmps34
  go_wp2
  go_loopg [5] 1 (fun _ s5 wr => s5 = .int .i64 0 ∧ wr = w)
  case atStart => exact ⟨rfl, rfl⟩
  case round =>
    obtain ⟨rfl, rfl⟩ := hrel
    go_wp2
    go_ret
    exact ⟨rfl, rfl⟩

set_option maxRecDepth 100000 in
set_option maxHeartbeats 2000000 in
theorem r20SameTxs_nil {A B : Option Addr} {c d : Nat} (w : World) : Calls Tryz.prog 36 #[.slice A 0 c, .slice B 0 d] w fun e w' => e = .returned (.bool true) ∧ w' = w := by
  go_enter Tryz.func36, Tryz.ntmps36
  go_wp2
  go_loopg [5] 1 (fun _ s5 wr => s5 = .int .i64 0 ∧ wr = w)
  case atStart => exact ⟨rfl, rfl⟩
  case round =>
    obtain ⟨rfl, rfl⟩ := hrel
    go_wp2
    go_ret
    exact ⟨rfl, rfl⟩

set_option maxRecDepth 100000 in
set_option maxHeartbeats 2000000 in
theorem r20SameReceipts_nil {A B : Option Addr} {c d : Nat} (w : World) : Calls Tryz.prog 37 #[.slice A 0 c, .slice B 0 d] w fun e w' => e = .returned (.bool true) ∧ w' = w := by
  go_enter Tryz.func37, Tryz.ntmps37
  go_wp2
  go_loopg [5] 1 (fun _ s5 wr => s5 = .int .i64 0 ∧ wr = w)
  case atStart => exact ⟨rfl, rfl⟩
  case round =>
    obtain ⟨rfl, rfl⟩ := hrel
    go_wp2
    go_ret
    exact ⟨rfl, rfl⟩

set_option maxRecDepth 100000 in
set_option maxHeartbeats 8000000 in
theorem r20SameInts_eq {w : World} {A A2 : Option Addr} {n c c2 : Nat} {l : List Int} (hl : l.length = n) (h : Rd w 1 (.slice A n c) n (l.map (Value.int .i64))) (h2 : Rd w 1 (.slice A2 n c2) n (l.map (Value.int .i64))) (hn : n ≤ 1000000) : Calls Tryz.prog 71 #[.slice A n c, .slice A2 n c2] w fun e w' => e = .returned (.bool true) ∧ Upd NoF w w' := by
  have HR := Lib.hid h
  have HR2 := Lib.hid h2
  have HN := Lib.hid hl
  clear h h2 hl
  go_enter Tryz.func71, Tryz.ntmps71
  go_wp2
  go_loopw [5] (fun s5 wr => ∃ k : Nat, s5 = .int .i64 (k : Int) ∧ k ≤ n ∧ Upd NoF w wr) (fun i _ => n - (intOf i).toNat)
  case atStart => exact ⟨0, rfl, Nat.zero_le _, Upd.refl _ _⟩
  case round =>
    obtain ⟨k, rfl, hk, hu⟩ := hrel
    have HU := Lib.hid hu
    clear hu
    by_cases hlt : k < n
    · have t1 : decide ((k : Int) < (n : Int)) = true := by simp; omega
      obtain ⟨z, hz⟩ : ∃ y, l[k]? = some y := ⟨_, List.getElem?_eq_getElem (by rw [HN.out]; exact hlt)⟩
      obtain ⟨g, o, rfl, hc1⟩ := rdI_at HR.out (k := k) (x := .int .i64 z) (by rw [List.getElem?_map, hz]; rfl) hlt
      obtain ⟨g2, o2, rfl, hc2⟩ := rdI_at HR2.out (k := k) (x := .int .i64 z) (by rw [List.getElem?_map, hz]; rfl) hlt
      have Z1 := Lib.hid (show wr.drew.cell? ⟨g, o + k, none⟩ = some (.int .i64 z) from HU.out.cell hc1 (fun f => f))
      have Z2 := Lib.hid (show wr.drew.cell? ⟨g2, o2 + k, none⟩ = some (.int .i64 z) from HU.out.cell hc2 (fun f => f))
      clear hz hc1 hc2
      have ww : IntKind.i64.wrap ((k : Int) + 1) = (k : Int) + 1 := IntWalk.i64_in _ (by omega)
      go_wp2_with fail
      refine wp_region_rgw (rgR [isV (.slice (some ⟨g, o, none⟩) n c), isV (.int .i64 (k : Int)), isV (.pointer (some ⟨g, o + k, none⟩)), isV (.int .i64 z), isV (.slice (some ⟨g2, o2, none⟩) n c2), isV (.int .i64 (k : Int)), isV (.pointer (some ⟨g2, o2 + k, none⟩)), isV (.int .i64 z), isV (.bool false)]) (fun w w' => Upd NoF w w') (fun _ wq => Upd NoF wr.drew wq) (by kernel_rfl) (by kernel_rfl) (by kernel_rfl) (by rfl) (fun w => Upd.refl _ _) (rgR_keep (by
        intro p hp; simp only [List.mem_cons, List.not_mem_nil, or_false] at hp; rcases hp with rfl | rfl | rfl | rfl | rfl | rfl | rfl | rfl | rfl <;> first | exact stb_isV _ | exact stb_any)) (Upd.refl _ _) ?_ ?_
      · refine ⟨?_, ?_, ?_, ?_, ?_, ?_, ?_, ?_, ?_, trivial⟩
        · refine fun ρ w' L hW hLi hcl hd hdep hext hc hg hf => ?_
          rw [if_pos (show wantedR _ _ _ = true from rfl)]
          have e0 : ρ (.tmp 0) = .slice (some ⟨g, o, none⟩) n c := hext 0 (by kernel_rfl)
          clear hdep hext hcl
          have HW := Lib.hid hW
          clear hW
          unfold OpDone
          go_simp
          exact ⟨rfl, Upd.refl _ _, HW.out⟩
        · refine fun ρ w' L hW hLi hcl hd hdep hext hc hg hf => ?_
          rw [if_pos (show wantedR _ _ _ = true from rfl)]
          have e5 : ρ (.tmp 5) = .int .i64 (k : Int) := hext 5 (by kernel_rfl)
          clear hdep hext hcl
          have HW := Lib.hid hW
          clear hW
          unfold OpDone
          go_simp
          exact ⟨rfl, Upd.refl _ _, HW.out⟩
        · refine fun ρ w' L hW hLi hcl hd hdep hext hc hg hf => ?_
          rw [if_pos (show wantedR _ _ _ = true from rfl)]
          have e17 : ρ (.tmp 17) = .slice (some ⟨g, o, none⟩) n c := hdep 0 _ rfl (by kernel_rfl)
          have e18 : ρ (.tmp 18) = .int .i64 (k : Int) := hdep 1 _ rfl (by kernel_rfl)
          have q0 : (0 : Int) ≤ (k : Int) := by omega
          have q1 : (k : Int) < (n : Int) := by omega
          have q2 : k < n := by omega
          have q3 : ((k : Int)).toNat = k := by omega
          clear hdep hext hcl
          have HW := Lib.hid hW
          clear hW
          unfold OpDone
          go_simp
          exact ⟨rfl, Upd.refl _ _, HW.out⟩
        · refine fun ρ w' L hW hLi hcl hd hdep hext hc hg hf => ?_
          rw [if_pos (show wantedR _ _ _ = true from rfl)]
          have e19 : ρ (.tmp 19) = .pointer (some ⟨g, o + k, none⟩) := hdep 2 _ rfl (by kernel_rfl)
          have qz : w'.cell? ⟨g, o + k, none⟩ = some (.int .i64 z) := hW.cell Z1.out (fun f => f)
          clear hdep hext hcl
          have HW := Lib.hid hW
          clear hW
          unfold OpDone
          go_simp
          exact ⟨rfl, Upd.refl _ _, HW.out⟩
        · refine fun ρ w' L hW hLi hcl hd hdep hext hc hg hf => ?_
          rw [if_pos (show wantedR _ _ _ = true from rfl)]
          have e1 : ρ (.tmp 1) = .slice (some ⟨g2, o2, none⟩) n c2 := hext 1 (by kernel_rfl)
          clear hdep hext hcl
          have HW := Lib.hid hW
          clear hW
          unfold OpDone
          go_simp
          exact ⟨rfl, Upd.refl _ _, HW.out⟩
        · refine fun ρ w' L hW hLi hcl hd hdep hext hc hg hf => ?_
          rw [if_pos (show wantedR _ _ _ = true from rfl)]
          have e5 : ρ (.tmp 5) = .int .i64 (k : Int) := hext 5 (by kernel_rfl)
          clear hdep hext hcl
          have HW := Lib.hid hW
          clear hW
          unfold OpDone
          go_simp
          exact ⟨rfl, Upd.refl _ _, HW.out⟩
        · refine fun ρ w' L hW hLi hcl hd hdep hext hc hg hf => ?_
          rw [if_pos (show wantedR _ _ _ = true from rfl)]
          have e21 : ρ (.tmp 21) = .slice (some ⟨g2, o2, none⟩) n c2 := hdep 4 _ rfl (by kernel_rfl)
          have e22 : ρ (.tmp 22) = .int .i64 (k : Int) := hdep 5 _ rfl (by kernel_rfl)
          have q0 : (0 : Int) ≤ (k : Int) := by omega
          have q1 : (k : Int) < (n : Int) := by omega
          have q2 : k < n := by omega
          have q3 : ((k : Int)).toNat = k := by omega
          clear hdep hext hcl
          have HW := Lib.hid hW
          clear hW
          unfold OpDone
          go_simp
          exact ⟨rfl, Upd.refl _ _, HW.out⟩
        · refine fun ρ w' L hW hLi hcl hd hdep hext hc hg hf => ?_
          rw [if_pos (show wantedR _ _ _ = true from rfl)]
          have e23 : ρ (.tmp 23) = .pointer (some ⟨g2, o2 + k, none⟩) := hdep 6 _ rfl (by kernel_rfl)
          have qz : w'.cell? ⟨g2, o2 + k, none⟩ = some (.int .i64 z) := hW.cell Z2.out (fun f => f)
          clear hdep hext hcl
          have HW := Lib.hid hW
          clear hW
          unfold OpDone
          go_simp
          exact ⟨rfl, Upd.refl _ _, HW.out⟩
        · refine fun ρ w' L hW hLi hcl hd hdep hext hc hg hf => ?_
          rw [if_pos (show wantedR _ _ _ = true from rfl)]
          have e20 : ρ (.tmp 20) = .int .i64 z := hdep 3 _ rfl (by kernel_rfl)
          have e24 : ρ (.tmp 24) = .int .i64 z := hdep 7 _ rfl (by kernel_rfl)
          clear hdep hext hcl
          have HW := Lib.hid hW
          clear hW
          unfold OpDone
          go_simp
          exact ⟨rfl, Upd.refl _ _, HW.out⟩
      intro vs W8 L8 hL8 hW8 hR
      have hv0 : vs 0 = .slice (some ⟨g, o, none⟩) n c := hR 0 _ rfl
      have hv1 : vs 1 = .int .i64 (k : Int) := hR 1 _ rfl
      have hv2 : vs 2 = .pointer (some ⟨g, o + k, none⟩) := hR 2 _ rfl
      have hv3 : vs 3 = .int .i64 z := hR 3 _ rfl
      have hv4 : vs 4 = .slice (some ⟨g2, o2, none⟩) n c2 := hR 4 _ rfl
      have hv5 : vs 5 = .int .i64 (k : Int) := hR 5 _ rfl
      have hv6 : vs 6 = .pointer (some ⟨g2, o2 + k, none⟩) := hR 6 _ rfl
      have hv7 : vs 7 = .int .i64 z := hR 7 _ rfl
      have hv8 : vs 8 = .bool false := hR 8 _ rfl
      simp only [putAll, Act.put, List.setIfInBounds_toArray, List.set_cons_zero, List.set_cons_succ, hv0, hv1, hv2, hv3, hv4, hv5, hv6, hv7, hv8]
      clear hR hv0 hv1 hv2 hv3 hv4 hv5 hv6 hv7 hv8
      have HU8 := Lib.hid (show Upd NoF w W8 from HU.out.trans (((Upd.refl NoF wr).drew).trans hW8 (fun _ _ f => f)) (fun _ _ f => f))
      clear hW8
      go_wp2
      go_roundw
      case rel => exact ⟨k + 1, by go_num, by omega, HU8.out⟩
      case measure => simp [intOf]; omega
    · obtain rfl : k = n := by omega
      have t1 : decide ((k : Int) < (k : Int)) = false := by simp
      go_wp2
      go_ret
      exact ⟨rfl, HU.out⟩

set_option maxRecDepth 100000 in
set_option maxHeartbeats 8000000 in
theorem r20SameDeltas_eq {w : World} {A A2 : Option Addr} {n c c2 : Nat} {l : List DelS} (hf : ∀ d ∈ l, d.Fit) (hl : l.length = n) (h : Rd w 11 (.slice A n c) n (l.map rowD).flatten) (h2 : Rd w 11 (.slice A2 n c2) n (l.map rowD).flatten) (hn : n ≤ 1000000) : Calls Tryz.prog 70 #[.slice A n c, .slice A2 n c2] w fun e w' => e = .returned (.bool true) ∧ Upd NoF w w' := by
  have HR := Lib.hid h
  have HR2 := Lib.hid h2
  have HN := Lib.hid hl
  have HF := Lib.hid hf
  clear h h2 hl hf
  go_enter Tryz.func70, Tryz.ntmps70
  go_wp2
  go_loopw [5] (fun s5 wr => ∃ k : Nat, s5 = .int .i64 (k : Int) ∧ k ≤ n ∧ Upd NoF w wr) (fun i _ => n - (intOf i).toNat)
  case atStart => exact ⟨0, rfl, Nat.zero_le _, Upd.refl _ _⟩
  case round =>
    obtain ⟨k, rfl, hk, hu⟩ := hrel
    have HU := Lib.hid hu
    clear hu
    by_cases hlt : k < n
    · have t1 : decide ((k : Int) < (n : Int)) = true := by simp; omega
      obtain ⟨d, hd⟩ : ∃ y, l[k]? = some y := ⟨_, List.getElem?_eq_getElem (by rw [HN.out]; exact hlt)⟩
      have hdf := HF.out d (List.mem_of_getElem? hd)
      obtain ⟨g, o, rfl, hr1⟩ := rowsD_at HF.out HN.out HR.out hd
      obtain ⟨g2, o2, rfl, hr2⟩ := rowsD_at HF.out HN.out HR2.out hd
      have X1 := Lib.hid (show ∀ wq, Upd NoF wr.drew wq → wq.rangeAt g (o + k * 11) (rowD d) from fun wq hq j v hv => (HU.out.drew.trans hq (fun _ _ f => f)).cell (hr1 j v hv) (fun f => f))
      have X2 := Lib.hid (show ∀ wq, Upd NoF wr.drew wq → wq.rangeAt g2 (o2 + k * 11) (rowD d) from fun wq hq j v hv => (HU.out.drew.trans hq (fun _ _ f => f)).cell (hr2 j v hv) (fun f => f))
      have HDL := Lib.hid (rowD_len hdf)
      obtain ⟨zd, hzd⟩ : ∃ x, (rowD d).toArray = x := ⟨_, rfl⟩
      have HZD := Lib.hid hzd
      have HE := Lib.hid (show ∀ w, (binOp .neq 109 (.agg zd) (.agg zd)).run Tryz.prog w = .ok (.bool false) w from fun w => by rw [← hzd]; exact delta_neq hdf w)
      clear hd hdf hr1 hr2 hzd
      have ww : IntKind.i64.wrap ((k : Int) + 1) = (k : Int) + 1 := IntWalk.i64_in _ (by omega)
      go_wp2_with fail
      refine wp_region_rgw (rgR [isV (.slice (some ⟨g, o, none⟩) n c), isV (.int .i64 (k : Int)), isV (.pointer (some ⟨g, o + k * 11, none⟩)), isV (.agg zd), isV (.slice (some ⟨g2, o2, none⟩) n c2), isV (.int .i64 (k : Int)), isV (.pointer (some ⟨g2, o2 + k * 11, none⟩)), isV (.agg zd), isV (.bool false)]) (fun w w' => Upd NoF w w') (fun _ wq => Upd NoF wr.drew wq) (by kernel_rfl) (by kernel_rfl) (by kernel_rfl) (by rfl) (fun w => Upd.refl _ _) (rgR_keep (by
        intro p hp; simp only [List.mem_cons, List.not_mem_nil, or_false] at hp; rcases hp with rfl | rfl | rfl | rfl | rfl | rfl | rfl | rfl | rfl <;> first | exact stb_isV _ | exact stb_any)) (Upd.refl _ _) ?_ ?_
      · refine ⟨?_, ?_, ?_, ?_, ?_, ?_, ?_, ?_, ?_, trivial⟩
        · refine fun ρ w' L hW hLi hcl hd hdep hext hc hg hf => ?_
          rw [if_pos (show wantedR _ _ _ = true from rfl)]
          have e0 : ρ (.tmp 0) = .slice (some ⟨g, o, none⟩) n c := hext 0 (by kernel_rfl)
          clear hdep hext hcl
          have HW := Lib.hid hW
          clear hW
          unfold OpDone
          go_simp
          exact ⟨rfl, Upd.refl _ _, HW.out⟩
        · refine fun ρ w' L hW hLi hcl hd hdep hext hc hg hf => ?_
          rw [if_pos (show wantedR _ _ _ = true from rfl)]
          have e5 : ρ (.tmp 5) = .int .i64 (k : Int) := hext 5 (by kernel_rfl)
          clear hdep hext hcl
          have HW := Lib.hid hW
          clear hW
          unfold OpDone
          go_simp
          exact ⟨rfl, Upd.refl _ _, HW.out⟩
        · refine fun ρ w' L hW hLi hcl hd hdep hext hc hg hf => ?_
          rw [if_pos (show wantedR _ _ _ = true from rfl)]
          have e17 : ρ (.tmp 17) = .slice (some ⟨g, o, none⟩) n c := hdep 0 _ rfl (by kernel_rfl)
          have e18 : ρ (.tmp 18) = .int .i64 (k : Int) := hdep 1 _ rfl (by kernel_rfl)
          have q0 : (0 : Int) ≤ (k : Int) := by omega
          have q1 : (k : Int) < (n : Int) := by omega
          have q2 : k < n := by omega
          have q3 : ((k : Int)).toNat = k := by omega
          clear hdep hext hcl
          have HW := Lib.hid hW
          clear hW
          unfold OpDone
          go_simp
          exact ⟨rfl, Upd.refl _ _, HW.out⟩
        · refine fun ρ w' L hW hLi hcl hd hdep hext hc hg hf => ?_
          rw [if_pos (show wantedR _ _ _ = true from rfl)]
          have e19 : ρ (.tmp 19) = .pointer (some ⟨g, o + k * 11, none⟩) := hdep 2 _ rfl (by kernel_rfl)
          clear hdep hext
          refine od_load_row 109 (.tmp 19) rfl _ _ e19 (rowD d) _ (X1.out w' hW) Tryz.underlying109 rfl (by rw [HDL.out]; exact delta_size) ?_
          rw [HZD.out]
          exact ⟨rfl, Upd.refl _ _, hW⟩
        · refine fun ρ w' L hW hLi hcl hd hdep hext hc hg hf => ?_
          rw [if_pos (show wantedR _ _ _ = true from rfl)]
          have e1 : ρ (.tmp 1) = .slice (some ⟨g2, o2, none⟩) n c2 := hext 1 (by kernel_rfl)
          clear hdep hext hcl
          have HW := Lib.hid hW
          clear hW
          unfold OpDone
          go_simp
          exact ⟨rfl, Upd.refl _ _, HW.out⟩
        · refine fun ρ w' L hW hLi hcl hd hdep hext hc hg hf => ?_
          rw [if_pos (show wantedR _ _ _ = true from rfl)]
          have e5 : ρ (.tmp 5) = .int .i64 (k : Int) := hext 5 (by kernel_rfl)
          clear hdep hext hcl
          have HW := Lib.hid hW
          clear hW
          unfold OpDone
          go_simp
          exact ⟨rfl, Upd.refl _ _, HW.out⟩
        · refine fun ρ w' L hW hLi hcl hd hdep hext hc hg hf => ?_
          rw [if_pos (show wantedR _ _ _ = true from rfl)]
          have e21 : ρ (.tmp 21) = .slice (some ⟨g2, o2, none⟩) n c2 := hdep 4 _ rfl (by kernel_rfl)
          have e22 : ρ (.tmp 22) = .int .i64 (k : Int) := hdep 5 _ rfl (by kernel_rfl)
          have q0 : (0 : Int) ≤ (k : Int) := by omega
          have q1 : (k : Int) < (n : Int) := by omega
          have q2 : k < n := by omega
          have q3 : ((k : Int)).toNat = k := by omega
          clear hdep hext hcl
          have HW := Lib.hid hW
          clear hW
          unfold OpDone
          go_simp
          exact ⟨rfl, Upd.refl _ _, HW.out⟩
        · refine fun ρ w' L hW hLi hcl hd hdep hext hc hg hf => ?_
          rw [if_pos (show wantedR _ _ _ = true from rfl)]
          have e23 : ρ (.tmp 23) = .pointer (some ⟨g2, o2 + k * 11, none⟩) := hdep 6 _ rfl (by kernel_rfl)
          clear hdep hext
          refine od_load_row 109 (.tmp 23) rfl _ _ e23 (rowD d) _ (X2.out w' hW) Tryz.underlying109 rfl (by rw [HDL.out]; exact delta_size) ?_
          rw [HZD.out]
          exact ⟨rfl, Upd.refl _ _, hW⟩
        · refine fun ρ w' L hW hLi hcl hd hdep hext hc hg hf => ?_
          rw [if_pos (show wantedR _ _ _ = true from rfl)]
          have e20 : ρ (.tmp 20) = .agg zd := hdep 3 _ rfl (by kernel_rfl)
          have e24 : ρ (.tmp 24) = .agg zd := hdep 7 _ rfl (by kernel_rfl)
          clear hdep hext
          have hE : ∀ w, (binOp .neq 109 (.agg zd) (.agg zd)).run Tryz.prog w = .ok (.bool false) w := fun w => HE.out w
          have HW := Lib.hid hW
          clear hW
          unfold OpDone
          go_simp
          exact ⟨rfl, Upd.refl _ _, HW.out⟩
      intro vs W8 L8 hL8 hW8 hR
      have hv0 : vs 0 = .slice (some ⟨g, o, none⟩) n c := hR 0 _ rfl
      have hv1 : vs 1 = .int .i64 (k : Int) := hR 1 _ rfl
      have hv2 : vs 2 = .pointer (some ⟨g, o + k * 11, none⟩) := hR 2 _ rfl
      have hv3 : vs 3 = .agg zd := hR 3 _ rfl
      have hv4 : vs 4 = .slice (some ⟨g2, o2, none⟩) n c2 := hR 4 _ rfl
      have hv5 : vs 5 = .int .i64 (k : Int) := hR 5 _ rfl
      have hv6 : vs 6 = .pointer (some ⟨g2, o2 + k * 11, none⟩) := hR 6 _ rfl
      have hv7 : vs 7 = .agg zd := hR 7 _ rfl
      have hv8 : vs 8 = .bool false := hR 8 _ rfl
      simp only [putAll, Act.put, List.setIfInBounds_toArray, List.set_cons_zero, List.set_cons_succ, hv0, hv1, hv2, hv3, hv4, hv5, hv6, hv7, hv8]
      clear hR hv0 hv1 hv2 hv3 hv4 hv5 hv6 hv7 hv8
      have HU8 := Lib.hid (show Upd NoF w W8 from HU.out.trans (((Upd.refl NoF wr).drew).trans hW8 (fun _ _ f => f)) (fun _ _ f => f))
      clear hW8
      go_wp2
      go_roundw
      case rel => exact ⟨k + 1, by go_num, by omega, HU8.out⟩
      case measure => simp [intOf]; omega
    · obtain rfl : k = n := by omega
      have t1 : decide ((k : Int) < (k : Int)) = false := by simp
      go_wp2
      go_ret
      exact ⟨rfl, HU.out⟩

set_option maxRecDepth 100000 in
set_option maxHeartbeats 8000000 in
theorem r20SameState_eq {w : World} {n : Nat} {l : List DelS} {sa sb : Array Value} (h : StR w n l sa) (h2 : StR w n l sb) (hf : ∀ d ∈ l, d.Fit) (hn : n ≤ 1000) (hl : l.length ≤ 1000) : Calls Tryz.prog 35 #[.agg sa, .agg sb] w fun e w' => e = .returned (.bool true) ∧ Upd NoF w w' := by
  obtain ⟨A1, c1, A2, c2, A3, c3, A4, c4, rfl, a1, a2, a3, a4⟩ := h
  obtain ⟨B1, d1, B2, d2, B3, d3, B4, d4, rfl, b1, b2, b3, b4⟩ := h2
  have CD := Lib.hid (fun W (hu : Upd NoF w W) => r20SameDeltas_eq (w := W) hf rfl (a1.keep hu) (b1.keep hu) (by omega))
  have CI := Lib.hid (fun W (hu : Upd NoF w W) => r20SameInts_eq (w := W) (n := n) (l := List.replicate n 0) (by simp) (by rw [List.map_replicate]; exact a2.keep hu) (by rw [List.map_replicate]; exact b2.keep hu) (by omega))
  have CN := Lib.hid (fun W => show Calls Tryz.prog 11 #[.slice A4 0 c4, .slice B4 0 d4] W (fun e w' => e = .returned (.bool true) ∧ Upd NoF W w') from by
    have q := r20SameNames_any (w := W) (l := []) (m := []) (n := 0) (n2 := 0) (A := A4) (A2 := B4) (c := c4) (c2 := d4) rfl ⟨(fun n hn => by cases hn), Rd.of0' W 8 a4⟩ rfl ⟨(fun n hn => by cases hn), Rd.of0' W 8 b4⟩
    simpa using q)
  generalize l.length = q at CD ⊢
  clear a1 a2 a3 a4 b1 b2 b3 b4 hf hn hl
  go_enter Tryz.func35, Tryz.ntmps35
  go_wp2_with (first
    | (refine wl_box rfl 34 (.tmp 0) rfl #[.slice A1 q c1, .slice A2 n c2, .slice A3 0 c3, .slice A4 0 c4, .int .i64 0] (by rfl) ?_; intro v0 hb0 hu0 hs0; have BX0 := Lib.hid hb0; have V0 := Lib.hid hu0; clear hb0 hu0 hs0)
    | (refine wl_box rfl 34 (.tmp 1) rfl #[.slice B1 q d1, .slice B2 n d2, .slice B3 0 d3, .slice B4 0 d4, .int .i64 0] (by rfl) ?_; intro v1 hb1 hu1 hs1; have BY := Lib.hid hb1; have BX := Lib.hid (hu1.blk BX0.out (fun f => f)); have V1 := Lib.hid (V0.out.trans hu1 (fun _ _ f => f)); have x2 := BX.out.cell 2; have y2 := BY.out.cell 2; clear hb1 hu1 hs1))
  go_loopg [5] 1 (fun _ s5 wr => s5 = .int .i64 0 ∧ wr = v1)
  case atStart => exact ⟨rfl, rfl⟩
  case round =>
    obtain ⟨rfl, rfl⟩ := hrel
    have x0 := BX.out.cell 0
    have y0 := BY.out.cell 0
    go_wp2_with (first
      | (with_reducible show Calls _ 70 _ _ _; refine (CD.out _ V1.out).mono ?_; rintro e w2 ⟨rfl, hu2⟩; have U2 := Lib.hid (V1.out.trans hu2 (fun _ _ f => f)); have bx2 := hu2.blk BX.out (fun f => f); have by2 := hu2.blk BY.out (fun f => f); have HX2 := Lib.hid bx2; have HY2 := Lib.hid by2; have x1 := bx2.cell 1; have y1 := by2.cell 1; clear hu2 bx2 by2)
      | (with_reducible show Calls _ 71 _ _ _; refine (CI.out _ U2.out).mono ?_; rintro e w3 ⟨rfl, hu3⟩; have U3 := Lib.hid (U2.out.trans hu3 (fun _ _ f => f)); have bx3 := hu3.blk HX2.out (fun f => f); have by3 := hu3.blk HY2.out (fun f => f); have HX3 := Lib.hid bx3; have HY3 := Lib.hid by3; have x3 := bx3.cell 3; have y3 := by3.cell 3; clear hu3 bx3 by3)
      | (with_reducible show Calls _ 11 _ _ _; refine (CN.out _).mono ?_; rintro e w4 ⟨rfl, hu4⟩; have U4 := Lib.hid (U3.out.trans hu4 (fun _ _ f => f)); have x4 := (hu4.blk HX3.out (fun f => f)).cell 4; have y4 := (hu4.blk HY3.out (fun f => f)).cell 4; clear hu4))
    go_ret
    exact ⟨rfl, U4.out⟩
end

section
open Go.RowKit Go.Lib

/-- The row of an item without parent, heads, tips, transactions and receipts. -/
def itRow (n : List UInt8) (kd mk : Int) (sa : Array Value) : List Value := n.map byteV ++ ([.int .i64 kd, .int .i64 0] ++ (nm0.map byteV ++ ([.slice none 0 0, .slice none 0 0, .int .i64 mk] ++ (sa.toList ++ [.slice none 0 0, .slice none 0 0]))))
set_option maxRecDepth 100000 in
set_option maxHeartbeats 16000000 in
theorem SameItem_true {w : World} {n : List UInt8} {kd mk : Int} {m : Nat} {l : List DelS} {sa sb ra rb : Array Value} (hn : n.length = 8) (hra : (itRow n kd mk sa).toArray = ra) (hrb : (itRow n kd mk sb).toArray = rb) (h : StR w m l sa) (h2 : StR w m l sb) (hf : ∀ d ∈ l, d.Fit) (hm : m ≤ 1000) (hl : l.length ≤ 1000) : Calls Tryz.prog 9 #[.agg ra, .agg rb] w fun e w' => e = .returned (.bool true) ∧ Upd NoF w w' := by
  have CST := Lib.hid (fun W (hu : Upd NoF w W) => r20SameState_eq (w := W) (h.keep hu) (h2.keep hu) hf hm hl)
  obtain ⟨A1, c1, A2, c2, A3, c3, A4, c4, rfl, -⟩ := h
  obtain ⟨B1, d1, B2, d2, B3, d3, B4, d4, rfl, -⟩ := h2
  have CSN := Lib.hid (fun W => show Calls Tryz.prog 11 #[.slice none 0 0, .slice none 0 0] W (fun e w' => e = .returned (.bool true) ∧ Upd NoF W w') from by
    have q := r20SameNames_any (w := W) (l := []) (m := []) (n := 0) (n2 := 0) (A := none) (A2 := none) (c := 0) (c2 := 0) rfl (NmR.nil W) rfl (NmR.nil W)
    simpa using q)
  have CSH := Lib.hid (fun W => r20SameHeads_nil (A := none) (B := none) (c := 0) (d := 0) W)
  have CSX := Lib.hid (fun W => r20SameTxs_nil (A := none) (B := none) (c := 0) (d := 0) W)
  have CSR := Lib.hid (fun W => r20SameReceipts_nil (A := none) (B := none) (c := 0) (d := 0) W)
  obtain ⟨q, hq⟩ : ∃ q, l.length = q := ⟨_, rfl⟩
  rw [hq] at CST hra hrb
  obtain ⟨b0, b1, b2, b3, b4, b5, b6, b7, rfl⟩ := name_spell hn
  obtain rfl : ra = #[byteV b0, byteV b1, byteV b2, byteV b3, byteV b4, byteV b5, byteV b6, byteV b7, .int .i64 kd, .int .i64 0, .int .u8 0, .int .u8 0, .int .u8 0, .int .u8 0, .int .u8 0, .int .u8 0, .int .u8 0, .int .u8 0, .slice none 0 0, .slice none 0 0, .int .i64 mk, .slice A1 q c1, .slice A2 m c2, .slice A3 0 c3, .slice A4 0 c4, .int .i64 0, .slice none 0 0, .slice none 0 0] := hra.symm
  obtain rfl : rb = #[byteV b0, byteV b1, byteV b2, byteV b3, byteV b4, byteV b5, byteV b6, byteV b7, .int .i64 kd, .int .i64 0, .int .u8 0, .int .u8 0, .int .u8 0, .int .u8 0, .int .u8 0, .int .u8 0, .int .u8 0, .int .u8 0, .slice none 0 0, .slice none 0 0, .int .i64 mk, .slice B1 q d1, .slice B2 m d2, .slice B3 0 d3, .slice B4 0 d4, .int .i64 0, .slice none 0 0, .slice none 0 0] := hrb.symm
  have hE : ∀ w, (binOp .eql 28 (.agg #[byteV b0, byteV b1, byteV b2, byteV b3, byteV b4, byteV b5, byteV b6, byteV b7]) (.agg #[byteV b0, byteV b1, byteV b2, byteV b3, byteV b4, byteV b5, byteV b6, byteV b7])).run Tryz.prog w = .ok (.bool true) w := fun w => by
    have q := eql_name' (a := [b0, b1, b2, b3, b4, b5, b6, b7]) (b := [b0, b1, b2, b3, b4, b5, b6, b7]) rfl rfl w
    rw [decide_eq_true rfl] at q
    exact q
  have hE2 : ∀ w, (binOp .eql 28 (.agg #[.int .u8 0, .int .u8 0, .int .u8 0, .int .u8 0, .int .u8 0, .int .u8 0, .int .u8 0, .int .u8 0]) (.agg #[.int .u8 0, .int .u8 0, .int .u8 0, .int .u8 0, .int .u8 0, .int .u8 0, .int .u8 0, .int .u8 0])).run Tryz.prog w = .ok (.bool true) w := fun w => by
    have q := eql_name' (a := nm0) (b := nm0) rfl rfl w
    rw [decide_eq_true rfl] at q
    exact q
  clear hn hra hrb hf hm hl hq
  go_enter Tryz.func9, Tryz.ntmps9
  go_wp2_with (first
    | (refine wl_box rfl 38 (.tmp 0) rfl #[byteV b0, byteV b1, byteV b2, byteV b3, byteV b4, byteV b5, byteV b6, byteV b7, .int .i64 kd, .int .i64 0, .int .u8 0, .int .u8 0, .int .u8 0, .int .u8 0, .int .u8 0, .int .u8 0, .int .u8 0, .int .u8 0, .slice none 0 0, .slice none 0 0, .int .i64 mk, .slice A1 q c1, .slice A2 m c2, .slice A3 0 c3, .slice A4 0 c4, .int .i64 0, .slice none 0 0, .slice none 0 0] (by rfl) ?_; intro v0 hb0 hu0 hs0; have BX0 := Lib.hid hb0; have V0 := Lib.hid hu0; clear hb0 hu0 hs0)
    | (refine wl_box rfl 38 (.tmp 1) rfl #[byteV b0, byteV b1, byteV b2, byteV b3, byteV b4, byteV b5, byteV b6, byteV b7, .int .i64 kd, .int .i64 0, .int .u8 0, .int .u8 0, .int .u8 0, .int .u8 0, .int .u8 0, .int .u8 0, .int .u8 0, .int .u8 0, .slice none 0 0, .slice none 0 0, .int .i64 mk, .slice B1 q d1, .slice B2 m d2, .slice B3 0 d3, .slice B4 0 d4, .int .i64 0, .slice none 0 0, .slice none 0 0] (by rfl) ?_; intro v1 hb1 hu1 hs1; have BY := Lib.hid hb1; have BX := Lib.hid (hu1.blk BX0.out (fun f => f)); have V1 := Lib.hid (V0.out.trans hu1 (fun _ _ f => f)); have x0 := (BX.out).cell 0; have y0 := (BY.out).cell 0; have x1 := (BX.out).cell 1; have y1 := (BY.out).cell 1; have x2 := (BX.out).cell 2; have y2 := (BY.out).cell 2; have x3 := (BX.out).cell 3; have y3 := (BY.out).cell 3; have x4 := (BX.out).cell 4; have y4 := (BY.out).cell 4; have x5 := (BX.out).cell 5; have y5 := (BY.out).cell 5; have x6 := (BX.out).cell 6; have y6 := (BY.out).cell 6; have x7 := (BX.out).cell 7; have y7 := (BY.out).cell 7; have x8 := (BX.out).cell 8; have y8 := (BY.out).cell 8; have x9 := (BX.out).cell 9; have y9 := (BY.out).cell 9; have x10 := (BX.out).cell 10; have y10 := (BY.out).cell 10; have x11 := (BX.out).cell 11; have y11 := (BY.out).cell 11; have x12 := (BX.out).cell 12; have y12 := (BY.out).cell 12; have x13 := (BX.out).cell 13; have y13 := (BY.out).cell 13; have x14 := (BX.out).cell 14; have y14 := (BY.out).cell 14; have x15 := (BX.out).cell 15; have y15 := (BY.out).cell 15; have x16 := (BX.out).cell 16; have y16 := (BY.out).cell 16; have x17 := (BX.out).cell 17; have y17 := (BY.out).cell 17; have x18 := (BX.out).cell 18; have y18 := (BY.out).cell 18; have x19 := (BX.out).cell 19; have y19 := (BY.out).cell 19; have x20 := (BX.out).cell 20; have y20 := (BY.out).cell 20; clear hb1 hu1 hs1)
    | (with_reducible show Calls _ 34 _ _ _; refine (CSH.out _).mono ?_; rintro e w1 ⟨rfl, rfl⟩)
    | (with_reducible show Calls _ 11 _ _ _; refine (CSN.out _).mono ?_; rintro e w2 ⟨rfl, hu2⟩; have U2 := Lib.hid (V1.out.trans hu2 (fun _ _ f => f)); have BX2 := Lib.hid (hu2.blk BX.out (fun f => f)); have BY2 := Lib.hid (hu2.blk BY.out (fun f => f)); clear x0 y0 x1 y1 x2 y2 x3 y3 x4 y4 x5 y5 x6 y6 x7 y7 x8 y8 x9 y9 x10 y10 x11 y11 x12 y12 x13 y13 x14 y14 x15 y15 x16 y16 x17 y17 x18 y18 x19 y19 x20 y20; have x21 := (BX2.out).cell 21; have y21 := (BY2.out).cell 21; have x22 := (BX2.out).cell 22; have y22 := (BY2.out).cell 22; have x23 := (BX2.out).cell 23; have y23 := (BY2.out).cell 23; have x24 := (BX2.out).cell 24; have y24 := (BY2.out).cell 24; have x25 := (BX2.out).cell 25; have y25 := (BY2.out).cell 25; clear hu2)
    | (with_reducible show Calls _ 35 _ _ _; refine (CST.out _ U2.out).mono ?_; rintro e w3 ⟨rfl, hu3⟩; have U3 := Lib.hid (U2.out.trans hu3 (fun _ _ f => f)); clear x21 y21 x22 y22 x23 y23 x24 y24 x25 y25; have x26 := ((hu3.blk BX2.out (fun f => f))).cell 26; have y26 := ((hu3.blk BY2.out (fun f => f))).cell 26; have x27 := ((hu3.blk BX2.out (fun f => f))).cell 27; have y27 := ((hu3.blk BY2.out (fun f => f))).cell 27; clear hu3)
    | (with_reducible show Calls _ 36 _ _ _; refine (CSX.out _).mono ?_; rintro e w4 ⟨rfl, rfl⟩)
    | (with_reducible show Calls _ 37 _ _ _; refine (CSR.out _).mono ?_; rintro e w5 ⟨rfl, rfl⟩))
  go_ret
  exact ⟨rfl, U3.out⟩
end
end Go.Proofs.YtengcmfdfmnacaaGreat
