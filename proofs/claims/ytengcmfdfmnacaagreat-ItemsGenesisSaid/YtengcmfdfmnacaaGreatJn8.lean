/- state.Clone of a state without entries, locks and marks. No condition. cursor.Uint at any width. Conditions: sizes. cursor.Name. Conditions: sizes. block.Kind, block.open. Conditions: sizes. block.validBlock of a block that is valid. No condition. -/
import Derived.Test.YtengcmfdfmnacaaGreatJn7
import Derived.Test.YtengcmfdfmnacaaGreatJn5
import Derived.Test.YtengcmfdfmnacaaGreatJn2
import Derived.Test.YtengcmfdfmnacaaGreatJn6
namespace Go.Proofs.YtengcmfdfmnacaaGreat
section
open Go.RowKit

abbrev zSt : Array Value := #[.slice none 0 0, .slice none 0 0, .slice none 0 0, .slice none 0 0, .int .i64 0]
def StV (S0 n : Nat) (l : List Int) (v : Value) (w : World) : Prop := ∃ A c, v = .agg #[.slice none 0 0, .slice A n c, .slice none 0 0, .slice none 0 0, .int .i64 0] ∧ NwA S0 3 1 n (l.map (Value.int .i64)) A c w
theorem stbL_stV {X S0 i n : Nat} {l : List Int} (hX : X < S0) : StbL (StX X) i (StV S0 n l) := fun _ _ _ _ _ ⟨A, c, e', h⟩ hs => ⟨A, c, e', h.keepX hX hs⟩
set_option maxRecDepth 100000 in
set_option maxHeartbeats 16000000 in
theorem stClone_seqs {w : World} {a : Addr} {n c : Nat} {l : List Int} (hn : l.length = n) (h : InR w (.slice (some a) n c) l) (hm : n ≤ 1000000) :
    Calls Tryz.prog 99 #[.agg #[.slice none 0 0, .slice (some a) n c, .slice none 0 0, .slice none 0 0, .int .i64 0]] w fun e w' => ∃ A' c', e = .returned (.agg #[.slice none 0 0, .slice A' n c', .slice none 0 0, .slice none 0 0, .int .i64 0]) ∧ NwA w.heap.size 3 1 n (l.map (Value.int .i64)) A' c' w' ∧ Upd NoF w w' := by
  obtain ⟨W0, hW0⟩ : ∃ x, x = (w.alloc (.cells #[.slice none 0 0, .slice (some a) n c, .slice none 0 0, .slice none 0 0, .int .i64 0] 34)).alloc (.cells zSt 34) := ⟨_, rfl⟩
  have UW := Lib.hid (show Upd NoF w W0 from by rw [hW0]; exact ((Upd.refl NoF w).alloc _).alloc _)
  have BX := Lib.hid (show Blk W0.drew w.heap.size 34 #[.slice none 0 0, .slice (some a) n c, .slice none 0 0, .slice none 0 0, .int .i64 0] from by rw [hW0]; exact ((Blk.new w _ _).alloc _).drew)
  have BR := Lib.hid (show Blk W0.drew (w.heap.size + 1) 34 zSt from by rw [hW0]; have := Blk.new (w.alloc (.cells #[.slice none 0 0, .slice (some a) n c, .slice none 0 0, .slice none 0 0, .int .i64 0] 34)) 34 zSt; rw [World.size_alloc] at this; exact this.drew)
  have HIN := Lib.hid (h.keep UW.out.drew)
  have HLN := Lib.hid hn
  have HM := Lib.hid hm
  have HSZ := Lib.hid (show W0.drew.heap.size = w.heap.size + 2 from by rw [hW0]; show ((w.alloc _).alloc _).heap.size = _; simp)
  clear h hn hm
  go_enter Tryz.func99, Tryz.ntmps99
  go_wp2_with fail
  rw [← hW0]
  obtain ⟨X, hX⟩ : ∃ x, w.heap.size = x := ⟨_, rfl⟩
  rw [hX] at BX BR HSZ ⊢
  have HX := Lib.hid hX
  have HXS := Lib.hid (show X + 1 < W0.drew.heap.size from by rw [HSZ.out]; omega)
  clear hW0 hX
  refine wp_region_rgl (rgR [isV (.pointer (some ⟨X, 0, none⟩)), isV (.slice none 0 0), isV (.slice none 0 0), isV (.pointer (some ⟨X, 1, none⟩)), isV (.slice (some a) n c), NwAv W0.drew.heap.size 3 1 n (l.map (Value.int .i64)), isV (.pointer (some ⟨X, 2, none⟩)), isV (.slice none 0 0), isV (.slice none 0 0), isV (.pointer (some ⟨X, 3, none⟩)), isV (.slice none 0 0), isV (.slice none 0 0), isV (.pointer (some ⟨X, 4, none⟩)), isV (.int .i64 0), StV W0.drew.heap.size n l, anyV]) (StX (X + 1)) (LastSt W0.drew 15 (fun w => ∃ A c, Blk w (X + 1) 34 #[.slice none 0 0, .slice A n c, .slice none 0 0, .slice none 0 0, .int .i64 0] ∧ NwA W0.drew.heap.size 3 1 n (l.map (Value.int .i64)) A c w ∧ Upd (fun k => k = X + 1) W0.drew w)) (by kernel_rfl) (by kernel_rfl) (by kernel_rfl) (by rfl) (fun L w => StX.same) (rgR_keepL ⟨stbL_isV _, stbL_isV _, stbL_isV _, stbL_isV _, stbL_isV _, (stbL_nwA HXS.out), stbL_isV _, stbL_isV _, stbL_isV _, stbL_isV _, stbL_isV _, stbL_isV _, stbL_isV _, stbL_isV _, (stbL_stV HXS.out), stbL_any, trivial⟩) (LastSt.start) ?_ ?_
  · refine ⟨?_, ?_, ?_, ?_, ?_, ?_, ?_, ?_, ?_, ?_, ?_, ?_, ?_, ?_, ?_, ?_, trivial⟩
    · refine fun ρ w' L hW hLi hcl hd hdep hext hc hg hf => ?_
      rw [if_pos (show wantedR _ _ _ = true from rfl)]
      have e1 : ρ (.tmp 1) = .pointer (some ⟨X, 0, none⟩) := hext 1 (by kernel_rfl)
      clear hdep hext hcl
      have HW := Lib.hid hW
      clear hW
      unfold OpDone
      go_simp
      exact ⟨rfl, StX.same, (HW.out.same (by decide))⟩
    · refine fun ρ w' L hW hLi hcl hd hdep hext hc hg hf => ?_
      rw [if_pos (show wantedR _ _ _ = true from rfl)]
      have e3 : ρ (.tmp 3) = .pointer (some ⟨X, 0, none⟩) := hdep 0 _ rfl (by kernel_rfl)
      have h15 : L 15 = false := by
        cases h : L 15 with
        | false => rfl
        | true => exact absurd (hcl 2 1 (hcl 14 2 (hcl 15 14 h (by kernel_rfl)) (by kernel_rfl)) (by kernel_rfl)) (by rw [hLi]; decide)
      have q0 : w'.cell? ⟨X, 0, none⟩ = some (.slice none 0 0) := ((hW.u h15).blk BX.out (fun f => f)).cell 0
      clear hdep hext hcl
      have HW := Lib.hid hW
      clear hW
      unfold OpDone
      go_simp
      exact ⟨rfl, StX.same, (HW.out.same (by decide))⟩
    · refine fun ρ w' L hW hLi hcl hd hdep hext hc hg hf => ?_
      rw [if_pos (show wantedR _ _ _ = true from rfl)]
      have e4 : ρ (.tmp 4) = .slice none 0 0 := hdep 1 _ rfl (by kernel_rfl)
      clear hdep hext
      have h15 : L 15 = false := by
        cases h : L 15 with
        | false => rfl
        | true => exact absurd (hcl 14 2 (hcl 15 14 h (by kernel_rfl)) (by kernel_rfl)) (by rw [hLi]; decide)
      have CL := Lib.hid (CloneDelta_nil w')
      have HW := Lib.hid hW
      have H15 := Lib.hid h15
      clear hW hcl hd hLi h15
      unfold OpDone
      go_simp
      refine CL.out.mono ?_
      rintro e w2 ⟨rfl, rfl⟩
      exact ⟨_, rfl, rfl, StX.same, HW.out.same (by decide)⟩
    · refine fun ρ w' L hW hLi hcl hd hdep hext hc hg hf => ?_
      rw [if_pos (show wantedR _ _ _ = true from rfl)]
      have e1 : ρ (.tmp 1) = .pointer (some ⟨X, 0, none⟩) := hext 1 (by kernel_rfl)
      clear hdep hext hcl
      have HW := Lib.hid hW
      clear hW
      unfold OpDone
      go_simp
      exact ⟨rfl, StX.same, (HW.out.same (by decide))⟩
    · refine fun ρ w' L hW hLi hcl hd hdep hext hc hg hf => ?_
      rw [if_pos (show wantedR _ _ _ = true from rfl)]
      have e6 : ρ (.tmp 6) = .pointer (some ⟨X, 1, none⟩) := hdep 3 _ rfl (by kernel_rfl)
      have h15 : L 15 = false := by
        cases h : L 15 with
        | false => rfl
        | true => exact absurd (hcl 5 4 (hcl 14 5 (hcl 15 14 h (by kernel_rfl)) (by kernel_rfl)) (by kernel_rfl)) (by rw [hLi]; decide)
      have q0 : w'.cell? ⟨X, 1, none⟩ = some (.slice (some a) n c) := ((hW.u h15).blk BX.out (fun f => f)).cell 1
      clear hdep hext hcl
      have HW := Lib.hid hW
      clear hW
      unfold OpDone
      go_simp
      exact ⟨rfl, StX.same, (HW.out.same (by decide))⟩
    · refine fun ρ w' L hW hLi hcl hd hdep hext hc hg hf => ?_
      rw [if_pos (show wantedR _ _ _ = true from rfl)]
      have e7 : ρ (.tmp 7) = .slice (some a) n c := hdep 4 _ rfl (by kernel_rfl)
      clear hdep hext
      have h15 : L 15 = false := by
        cases h : L 15 with
        | false => rfl
        | true => exact absurd (hcl 14 5 (hcl 15 14 h (by kernel_rfl)) (by kernel_rfl)) (by rw [hLi]; decide)
      have CL := Lib.hid (CloneInt_some HLN.out (HIN.out.keep (hW.u h15)) HM.out)
      have HS := Lib.hid (hW.u h15).size
      have HW := Lib.hid hW
      have H15 := Lib.hid h15
      clear hW hcl hd hLi h15
      unfold OpDone
      go_simp
      refine CL.out.mono ?_
      rintro e w2 ⟨A5, c5, rfl, hN, hu⟩
      exact ⟨_, rfl, ⟨A5, c5, rfl, hN.1, fun k hk => Nat.le_trans HS.out (hN.2 k hk)⟩, StX.none hu, HW.out.step H15.out (by decide) hu⟩
    · refine fun ρ w' L hW hLi hcl hd hdep hext hc hg hf => ?_
      rw [if_pos (show wantedR _ _ _ = true from rfl)]
      have e1 : ρ (.tmp 1) = .pointer (some ⟨X, 0, none⟩) := hext 1 (by kernel_rfl)
      clear hdep hext hcl
      have HW := Lib.hid hW
      clear hW
      unfold OpDone
      go_simp
      exact ⟨rfl, StX.same, (HW.out.same (by decide))⟩
    · refine fun ρ w' L hW hLi hcl hd hdep hext hc hg hf => ?_
      rw [if_pos (show wantedR _ _ _ = true from rfl)]
      have e9 : ρ (.tmp 9) = .pointer (some ⟨X, 2, none⟩) := hdep 6 _ rfl (by kernel_rfl)
      have h15 : L 15 = false := by
        cases h : L 15 with
        | false => rfl
        | true => exact absurd (hcl 8 7 (hcl 14 8 (hcl 15 14 h (by kernel_rfl)) (by kernel_rfl)) (by kernel_rfl)) (by rw [hLi]; decide)
      have q0 : w'.cell? ⟨X, 2, none⟩ = some (.slice none 0 0) := ((hW.u h15).blk BX.out (fun f => f)).cell 2
      clear hdep hext hcl
      have HW := Lib.hid hW
      clear hW
      unfold OpDone
      go_simp
      exact ⟨rfl, StX.same, (HW.out.same (by decide))⟩
    · refine fun ρ w' L hW hLi hcl hd hdep hext hc hg hf => ?_
      rw [if_pos (show wantedR _ _ _ = true from rfl)]
      have e10 : ρ (.tmp 10) = .slice none 0 0 := hdep 7 _ rfl (by kernel_rfl)
      clear hdep hext
      have h15 : L 15 = false := by
        cases h : L 15 with
        | false => rfl
        | true => exact absurd (hcl 14 8 (hcl 15 14 h (by kernel_rfl)) (by kernel_rfl)) (by rw [hLi]; decide)
      have CL := Lib.hid (CloneLock_nil w')
      have HW := Lib.hid hW
      have H15 := Lib.hid h15
      clear hW hcl hd hLi h15
      unfold OpDone
      go_simp
      refine CL.out.mono ?_
      rintro e w2 ⟨rfl, rfl⟩
      exact ⟨_, rfl, rfl, StX.same, HW.out.same (by decide)⟩
    · refine fun ρ w' L hW hLi hcl hd hdep hext hc hg hf => ?_
      rw [if_pos (show wantedR _ _ _ = true from rfl)]
      have e1 : ρ (.tmp 1) = .pointer (some ⟨X, 0, none⟩) := hext 1 (by kernel_rfl)
      clear hdep hext hcl
      have HW := Lib.hid hW
      clear hW
      unfold OpDone
      go_simp
      exact ⟨rfl, StX.same, (HW.out.same (by decide))⟩
    · refine fun ρ w' L hW hLi hcl hd hdep hext hc hg hf => ?_
      rw [if_pos (show wantedR _ _ _ = true from rfl)]
      have e12 : ρ (.tmp 12) = .pointer (some ⟨X, 3, none⟩) := hdep 9 _ rfl (by kernel_rfl)
      have h15 : L 15 = false := by
        cases h : L 15 with
        | false => rfl
        | true => exact absurd (hcl 11 10 (hcl 14 11 (hcl 15 14 h (by kernel_rfl)) (by kernel_rfl)) (by kernel_rfl)) (by rw [hLi]; decide)
      have q0 : w'.cell? ⟨X, 3, none⟩ = some (.slice none 0 0) := ((hW.u h15).blk BX.out (fun f => f)).cell 3
      clear hdep hext hcl
      have HW := Lib.hid hW
      clear hW
      unfold OpDone
      go_simp
      exact ⟨rfl, StX.same, (HW.out.same (by decide))⟩
    · refine fun ρ w' L hW hLi hcl hd hdep hext hc hg hf => ?_
      rw [if_pos (show wantedR _ _ _ = true from rfl)]
      have e13 : ρ (.tmp 13) = .slice none 0 0 := hdep 10 _ rfl (by kernel_rfl)
      clear hdep hext
      have h15 : L 15 = false := by
        cases h : L 15 with
        | false => rfl
        | true => exact absurd (hcl 14 11 (hcl 15 14 h (by kernel_rfl)) (by kernel_rfl)) (by rw [hLi]; decide)
      have CL := Lib.hid (CloneName_nil w')
      have HW := Lib.hid hW
      have H15 := Lib.hid h15
      clear hW hcl hd hLi h15
      unfold OpDone
      go_simp
      refine CL.out.mono ?_
      rintro e w2 ⟨rfl, rfl⟩
      exact ⟨_, rfl, rfl, StX.same, HW.out.same (by decide)⟩
    · refine fun ρ w' L hW hLi hcl hd hdep hext hc hg hf => ?_
      rw [if_pos (show wantedR _ _ _ = true from rfl)]
      have e1 : ρ (.tmp 1) = .pointer (some ⟨X, 0, none⟩) := hext 1 (by kernel_rfl)
      clear hdep hext hcl
      have HW := Lib.hid hW
      clear hW
      unfold OpDone
      go_simp
      exact ⟨rfl, StX.same, (HW.out.same (by decide))⟩
    · refine fun ρ w' L hW hLi hcl hd hdep hext hc hg hf => ?_
      rw [if_pos (show wantedR _ _ _ = true from rfl)]
      have e15 : ρ (.tmp 15) = .pointer (some ⟨X, 4, none⟩) := hdep 12 _ rfl (by kernel_rfl)
      have h15 : L 15 = false := by
        cases h : L 15 with
        | false => rfl
        | true => exact absurd (hcl 14 13 (hcl 15 14 h (by kernel_rfl)) (by kernel_rfl)) (by rw [hLi]; decide)
      have q0 : w'.cell? ⟨X, 4, none⟩ = some (.int .i64 0) := ((hW.u h15).blk BX.out (fun f => f)).cell 4
      clear hdep hext hcl
      have HW := Lib.hid hW
      clear hW
      unfold OpDone
      go_simp
      exact ⟨rfl, StX.same, (HW.out.same (by decide))⟩
    · refine fun ρ w' L hW hLi hcl hd hdep hext hc hg hf => ?_
      rw [if_pos (show wantedR _ _ _ = true from rfl)]
      have e5 : ρ (.tmp 5) = .slice none 0 0 := hdep 2 _ rfl (by kernel_rfl)
      have e8 : (NwAv W0.drew.heap.size 3 1 n (l.map (Value.int .i64))) (ρ (.tmp 8)) w' := hdep 5 _ rfl (by kernel_rfl)
      have e11 : ρ (.tmp 11) = .slice none 0 0 := hdep 8 _ rfl (by kernel_rfl)
      have e14 : ρ (.tmp 14) = .slice none 0 0 := hdep 11 _ rfl (by kernel_rfl)
      have e16 : ρ (.tmp 16) = .int .i64 0 := hdep 13 _ rfl (by kernel_rfl)
      clear hdep hext
      obtain ⟨a5, k5, e8, h5⟩ := e8
      refine od_build 34 _ rfl #[(0, .slice none 0 0), (1, .slice a5 n k5), (2, .slice none 0 0), (3, .slice none 0 0), (4, .int .i64 0)] (by simp [e5, e8, e11, e14, e16]) (by kernel_rfl) ⟨⟨a5, k5, rfl, h5⟩, StX.same, hW.same (by decide)⟩
    · refine fun ρ w' L hW hLi hcl hd hdep hext hc hg hf => ?_
      rw [if_pos (show wantedR _ _ _ = true from rfl)]
      have e2 : ρ (.tmp 2) = .pointer (some ⟨X + 1, 0, none⟩) := hext 2 (by kernel_rfl)
      have e17 : (StV W0.drew.heap.size n l) (ρ (.tmp 17)) w' := hdep 14 _ rfl (by kernel_rfl)
      clear hdep hext
      obtain ⟨a5, k5, e17, h5⟩ := e17
      refine od_store_row 34 (.tmp 2) (.tmp 17) rfl (X + 1) e2 _ e17 34 zSt ((hW.u hLi).blk BR.out (fun f => f)) rfl (by kernel_rfl) (by kernel_rfl) (fun w5 hb5 hu5 hs5 => ?_)
      exact ⟨trivial, hu5, LastSt.last ⟨a5, k5, hb5, h5.keepX HXS.out hu5, ((hW.u hLi).mono (G := fun k => k = X + 1) (fun _ _ f => f.elim)).trans hu5 (fun _ _ f => f)⟩⟩
  intro vs W3 L3 hL3 hW3 hR
  have hv0 : vs 0 = .pointer (some ⟨X, 0, none⟩) := hR 0 _ rfl
  have hv1 : vs 1 = .slice none 0 0 := hR 1 _ rfl
  have hv2 : vs 2 = .slice none 0 0 := hR 2 _ rfl
  have hv3 : vs 3 = .pointer (some ⟨X, 1, none⟩) := hR 3 _ rfl
  have hv4 : vs 4 = .slice (some a) n c := hR 4 _ rfl
  have hr5 : (NwAv W0.drew.heap.size 3 1 n (l.map (Value.int .i64))) (vs 5) W3 := hR 5 _ rfl
  obtain ⟨a5, k5, hv5, -⟩ := hr5
  have hv6 : vs 6 = .pointer (some ⟨X, 2, none⟩) := hR 6 _ rfl
  have hv7 : vs 7 = .slice none 0 0 := hR 7 _ rfl
  have hv8 : vs 8 = .slice none 0 0 := hR 8 _ rfl
  have hv9 : vs 9 = .pointer (some ⟨X, 3, none⟩) := hR 9 _ rfl
  have hv10 : vs 10 = .slice none 0 0 := hR 10 _ rfl
  have hv11 : vs 11 = .slice none 0 0 := hR 11 _ rfl
  have hv12 : vs 12 = .pointer (some ⟨X, 4, none⟩) := hR 12 _ rfl
  have hv13 : vs 13 = .int .i64 0 := hR 13 _ rfl
  have hr14 : (StV W0.drew.heap.size n l) (vs 14) W3 := hR 14 _ rfl
  obtain ⟨a14, k14, hv14, -⟩ := hr14
  simp only [putAll, Act.put, List.setIfInBounds_toArray, List.set_cons_zero, List.set_cons_succ, hv0, hv1, hv2, hv3, hv4, hv5, hv6, hv7, hv8, hv9, hv10, hv11, hv12, hv13, hv14]
  clear hR hv0 hv1 hv2 hv3 hv4 hv5 hv6 hv7 hv8 hv9 hv10 hv11 hv12 hv13 hv14
  obtain ⟨A9, c9, hb9, hn9, hu9⟩ := hW3.f (hL3 15 (by decide))
  go_wp2_with fail
  refine bodyPost_ret (results_cell_row Tryz.results99 _ _ (X + 1) 34 _ (0, 0) _ rfl hb9 Tryz.underlying34 rfl (by kernel_rfl)) rfl ⟨A9, c9, rfl, ⟨hn9.1, fun k hk => ?_⟩, ?_⟩
  · have := hn9.2 k hk; have := HSZ.out; have := HX.out; omega
  · exact UW.out.drew.trans hu9 (fun k hk f => by have f : k = X + 1 := f; have := HX.out; omega)
end

section
open Go.RowKit

def UintOkK (w : World) (g : Nat) (v : Value) (a k x : Nat) (e : Ending) (w' : World) : Prop := e = .returned (.int .i64 (x : Int)) ∧ CurB w' g v (a + k) false ∧ Upd (fun k => k = g) w w'
def UintBadK (w : World) (g : Nat) (v : Value) (a : Nat) (e : Ending) (w' : World) : Prop := e = .returned (.int .i64 0) ∧ CurB w' g v a true ∧ Upd (fun k => k = g) w w'


set_option maxRecDepth 100000 in
set_option maxHeartbeats 4000000 in
theorem curUintK_ok {w : World} {g : Nat} {v : Value} {bs : List UInt8} {a k : Nat} (hk1 : 1 ≤ k) (hk7 : k ≤ 7) (h : CurB w g v a false) (hr : Rd w 1 v bs.length (bs.map byteV)) (hm : bs.length ≤ 1099511627776) (ha : a + k ≤ bs.length) : Calls Tryz.prog 130 #[ptrV g, .int .i64 (k : Int)] w (UintOkK w g v a k (be ((bs.drop a).take k))) := by
  obtain ⟨A, c, rfl, hlc, hcm⟩ := hr.slice
  have c0 : w.cell? ⟨g, 0, none⟩ = some (.slice A bs.length c) := Blk.cell h 0
  have c1 : w.cell? ⟨g, 1, none⟩ = some (.int .i64 (a : Int)) := Blk.cell h 1
  have f1 : w.frozen? ⟨g, 1, none⟩ = false := Blk.frozen h 1
  have f2 : w.frozen? ⟨g, 2, none⟩ = false := Blk.frozen h 2
  have c2 : w.cell? ⟨g, 2, none⟩ = some (.bool false) := Blk.cell h 2
  have CU := Lib.hid (fun q => (cUint_yes (hr.keep ((Upd.refl NoF w).drewN q)) a k (by omega) (by omega) ha (by omega)))
  have hx : be ((bs.drop a).take k) < 72057594037927936 := by have := be_take_lt (bs.drop a) k; have := Nat.pow_le_pow_right (show 0 < 256 by omega) hk7; omega
  generalize be ((bs.drop a).take k) = x at CU hx ⊢
  have wx : IntKind.i64.wrap (x : Int) = x := IntWalk.i64_in _ (by omega)
  have HB := Lib.hid h
  have qa : (a : Int) + (k : Int) ≤ 1099511627776 := by omega
  clear h hr
  go_enter Tryz.func130, Tryz.ntmps130
  go_wp2
  go_quiet ((go_at_call 162; exact Calls.quiet_of_same ((CU.out _).mono fun _ _ ⟨h1, h2⟩ => ⟨h1, h2.symm⟩)))
  go_wp2
  go_ret
  exact ⟨rfl, (HB.out.drewN _).move (by omega), ((Upd.refl (fun k => k = g) w).drewN _).setCell (p := ⟨g, 1, none⟩) (.inl rfl) _⟩

set_option maxRecDepth 100000 in
set_option maxHeartbeats 4000000 in
theorem curUintK_short {w : World} {g : Nat} {v : Value} {bs : List UInt8} {a k : Nat} (hk1 : 1 ≤ k) (hk7 : k ≤ 7) {bad : Bool} (h : CurB w g v a bad) (hr : Rd w 1 v bs.length (bs.map byteV)) (hm : bs.length ≤ 1099511627776) (ha : bs.length < a + k) (ha2 : a ≤ bs.length) : Calls Tryz.prog 130 #[ptrV g, .int .i64 (k : Int)] w (UintBadK w g v a) := by
  obtain ⟨A, c, rfl, hlc, hcm⟩ := hr.slice
  have c0 : w.cell? ⟨g, 0, none⟩ = some (.slice A bs.length c) := Blk.cell h 0
  have c1 : w.cell? ⟨g, 1, none⟩ = some (.int .i64 (a : Int)) := Blk.cell h 1
  have f1 : w.frozen? ⟨g, 1, none⟩ = false := Blk.frozen h 1
  have f2 : w.frozen? ⟨g, 2, none⟩ = false := Blk.frozen h 2
  have c2 : w.cell? ⟨g, 2, none⟩ = some (.bool bad) := Blk.cell h 2
  have CU := Lib.hid (fun q => (cUint_no (hr.keep ((Upd.refl NoF w).drewN q)) a k (by omega) (by omega) (by omega) ha))
  have HB := Lib.hid h
  clear h hr
  cases bad
  all_goals
    go_enter Tryz.func130, Tryz.ntmps130
    go_wp2
    go_quiet ((go_at_call 162; exact Calls.quiet_of_same ((CU.out _).mono fun _ _ ⟨h1, h2⟩ => ⟨h1, h2.symm⟩)))
    go_wp2
    go_ret
    exact ⟨rfl, (HB.out.drewN _).spoil, ((Upd.refl (fun k => k = g) w).drewN _).setCell (p := ⟨g, 2, none⟩) (.inl rfl) _⟩

set_option maxRecDepth 100000 in
set_option maxHeartbeats 4000000 in
theorem curUintK_bad {w : World} {g : Nat} {v : Value} {bs : List UInt8} {a k : Nat} (hk1 : 1 ≤ k) (hk7 : k ≤ 7) (h : CurB w g v a true) (hr : Rd w 1 v bs.length (bs.map byteV)) (hm : bs.length ≤ 1099511627776) (ha2 : a ≤ bs.length) : Calls Tryz.prog 130 #[ptrV g, .int .i64 (k : Int)] w (UintBadK w g v a) := by
  by_cases ha : bs.length < a + k
  · exact curUintK_short hk1 hk7 h hr hm ha ha2
  have ha : a + k ≤ bs.length := by omega
  obtain ⟨A, c, rfl, hlc, hcm⟩ := hr.slice
  have c0 : w.cell? ⟨g, 0, none⟩ = some (.slice A bs.length c) := Blk.cell h 0
  have c1 : w.cell? ⟨g, 1, none⟩ = some (.int .i64 (a : Int)) := Blk.cell h 1
  have f1 : w.frozen? ⟨g, 1, none⟩ = false := Blk.frozen h 1
  have f2 : w.frozen? ⟨g, 2, none⟩ = false := Blk.frozen h 2
  have c2 : w.cell? ⟨g, 2, none⟩ = some (.bool true) := Blk.cell h 2
  have CU := Lib.hid (fun q => (cUint_yes (hr.keep ((Upd.refl NoF w).drewN q)) a k (by omega) (by omega) ha (by omega)))
  have HB := Lib.hid h
  clear h hr
  go_enter Tryz.func130, Tryz.ntmps130
  go_wp2
  go_quiet ((go_at_call 162; exact Calls.quiet_of_same ((CU.out _).mono fun _ _ ⟨h1, h2⟩ => ⟨h1, h2.symm⟩)))
  go_wp2
  go_ret
  exact ⟨rfl, (HB.out.drewN _).spoil, ((Upd.refl (fun k => k = g) w).drewN _).setCell (p := ⟨g, 2, none⟩) (.inl rfl) _⟩
end

section
open Go.RowKit

def NameOk (w : World) (g : Nat) (v : Value) (a : Nat) (n : List UInt8) (e : Ending) (w' : World) : Prop := e = .returned (nameV n) ∧ CurB w' g v (a + 8) false ∧ Upd (fun k => k = g) w w'
def NameBad (w : World) (g : Nat) (v : Value) (a : Nat) (e : Ending) (w' : World) : Prop := e = .returned (nameV (List.replicate 8 0)) ∧ CurB w' g v a true ∧ Upd (fun k => k = g) w w'
abbrev zName : Array Value := #[.int .u8 0, .int .u8 0, .int .u8 0, .int .u8 0, .int .u8 0, .int .u8 0, .int .u8 0, .int .u8 0]
set_option maxRecDepth 100000 in
set_option maxHeartbeats 4000000 in
theorem curName_bad {w : World} {g : Nat} {A : Option Addr} {n c a : Nat} {bad : Bool} (h : CurB w g (.slice A n c) a bad) (hb : bad = true ∨ n < a + 8) (hm : n ≤ 1099511627776) (ha2 : a ≤ n) : Calls Tryz.prog 129 #[ptrV g] w (NameBad w g (.slice A n c) a) := by
  have hB := h.alloc (.cells zName 28)
  have hlt := h.lt
  have c0 : (w.alloc (.cells zName 28)).cell? ⟨g, 0, none⟩ = some (.slice A n c) := Blk.cell hB 0
  have c1 : (w.alloc (.cells zName 28)).cell? ⟨g, 1, none⟩ = some (.int .i64 (a : Int)) := Blk.cell hB 1
  have c2 : (w.alloc (.cells zName 28)).cell? ⟨g, 2, none⟩ = some (.bool bad) := Blk.cell hB 2
  have f2 : (w.alloc (.cells zName 28)).frozen? ⟨g, 2, none⟩ = false := Blk.frozen hB 2
  have HB := Lib.hid h
  have BR := Lib.hid (Blk.new w 28 zName)
  have wn : IntKind.i64.wrap ((n : Int) - (a : Int)) = (n : Int) - (a : Int) := IntWalk.i64_in _ (by omega)
  cases bad with
  | true =>
    clear h hb hB
    go_enter Tryz.func129, Tryz.ntmps129
    go_wp2
    go_quiet (fail)
    go_wp2_with (first
      | (refine wpList_load_row rfl 28 (.tmp 2) rfl w.heap.size 0 rfl zName.toList _ (range_blk ((BR.out.drewN _).far (p := ⟨g, 2, none⟩) (by show w.heap.size ≠ g; omega) _)) Tryz.underlying28 rfl (by kernel_rfl) zName rfl ?_)
      | (refine wpList_store_row rfl 28 (.tmp 2) (.tmp 23) rfl w.heap.size rfl zName rfl 28 zName ((BR.out.drewN _).far (p := ⟨g, 2, none⟩) (by show w.heap.size ≠ g; omega) _) rfl (by kernel_rfl) (by kernel_rfl) ?_; intro w3 hb3 hu3 hs3))
    refine bodyPost_ret (results_cell_row Tryz.results129 _ _ w.heap.size 28 zName (0, 0) _ rfl hb3 Tryz.underlying28 rfl (by kernel_rfl)) rfl ⟨rfl, ?_, ?_⟩
    · exact hu3.blk (CurB.spoil (show CurB _ g _ a _ from (HB.out.alloc (.cells zName 28)).drewN _)) (fun e => by have e : g = w.heap.size := e; omega)
    · exact ((((Upd.refl (fun k => k = g) w).alloc (.cells zName 28)).drewN _).setCell (p := ⟨g, 2, none⟩) (.inl rfl) _).trans hu3 (fun k hk e => by have e : k = w.heap.size := e; omega)
  | false =>
    have hs : n < a + 8 := hb.resolve_left (by decide)
    have t1 : decide ((n : Int) - (a : Int) < 8) = true := by simp; omega
    clear h hb hB
    go_enter Tryz.func129, Tryz.ntmps129
    go_wp2
    go_quiet (fail)
    go_wp2_with (first
      | (refine wpList_load_row rfl 28 (.tmp 2) rfl w.heap.size 0 rfl zName.toList _ (range_blk ((BR.out.drewN _).far (p := ⟨g, 2, none⟩) (by show w.heap.size ≠ g; omega) _)) Tryz.underlying28 rfl (by kernel_rfl) zName rfl ?_)
      | (refine wpList_store_row rfl 28 (.tmp 2) (.tmp 23) rfl w.heap.size rfl zName rfl 28 zName ((BR.out.drewN _).far (p := ⟨g, 2, none⟩) (by show w.heap.size ≠ g; omega) _) rfl (by kernel_rfl) (by kernel_rfl) ?_; intro w3 hb3 hu3 hs3))
    refine bodyPost_ret (results_cell_row Tryz.results129 _ _ w.heap.size 28 zName (0, 0) _ rfl hb3 Tryz.underlying28 rfl (by kernel_rfl)) rfl ⟨rfl, ?_, ?_⟩
    · exact hu3.blk (CurB.spoil (show CurB _ g _ a _ from (HB.out.alloc (.cells zName 28)).drewN _)) (fun e => by have e : g = w.heap.size := e; omega)
    · exact ((((Upd.refl (fun k => k = g) w).alloc (.cells zName 28)).drewN _).setCell (p := ⟨g, 2, none⟩) (.inl rfl) _).trans hu3 (fun k hk e => by have e : k = w.heap.size := e; omega)
/-! ### whole -/

def StA (_ : Nat → Bool) (_ _ : World) : Prop := True
theorem StA.any {L : Nat → Bool} {w w' : World} : StA L w w' := trivial
/-- Where the region stands that copies a name. -/
structure NmPh (w0 : World) (R g : Nat) (v : Value) (a : Nat) (nb : Array Value) (L : Nat → Bool) (w : World) : Prop where
  u0 : L 14 = false → Upd NoF w0 w
  u1 : Upd (fun k => k = R ∨ k = g) w0 w
  r0 : L 14 = false → Blk w R 28 zName
  r1 : L 14 = true → Blk w R 28 nb
  k0 : L 18 = false → CurB w g v a false
  k1 : L 18 = true → CurB w g v (a + 8) false
section
variable {w0 w w' : World} {R g a : Nat} {v : Value} {nb : Array Value} {L : Nat → Bool}
theorem NmPh.start (h1 : Blk w0 R 28 zName) (h2 : CurB w0 g v a false) : NmPh w0 R g v a nb (fun _ => false) w0 := ⟨fun _ => Upd.refl _ _, Upd.refl _ _, fun _ => h1, (fun e => by cases e), fun _ => h2, (fun e => by cases e)⟩
theorem NmPh.same (h : NmPh w0 R g v a nb L w) {i : Nat} (h1 : (14 == i) = false) (h2 : (18 == i) = false) : NmPh w0 R g v a nb (fun j => j == i || L j) w :=
  ⟨fun e => h.u0 (by simpa [h1] using e), h.u1, fun e => h.r0 (by simpa [h1] using e), fun e => h.r1 (by simpa [h1] using e), fun e => h.k0 (by simpa [h2] using e), fun e => h.k1 (by simpa [h2] using e)⟩
theorem NmPh.copied (h : NmPh w0 R g v a nb L w) (h18 : L 18 = false) (hb : Blk w' R 28 nb) (hu : Upd (fun k => k = R) w w') (hne : g ≠ R) : NmPh w0 R g v a nb (fun j => j == 14 || L j) w' :=
  ⟨fun e => by simp at e, h.u1.trans hu (fun _ _ f => .inl f), fun e => by simp at e, fun _ => hb, fun _ => hu.blk (h.k0 h18) (fun f => hne f), fun e => by simp [h18] at e⟩
theorem NmPh.moved (h : NmPh w0 R g v a nb L w) (h18 : L 18 = false) (h14 : L 14 = true) (hne : g ≠ R) : NmPh w0 R g v a nb (fun j => j == 18 || L j) (w.setCell ⟨g, 1, none⟩ (.int .i64 ((a : Int) + 8))) := by
  have hu : Upd (fun k => k = g) w (w.setCell ⟨g, 1, none⟩ (.int .i64 ((a : Int) + 8))) := (Upd.refl (fun k => k = g) w).setCell (p := ⟨g, 1, none⟩) (.inl rfl) _
  exact ⟨fun e => by simp [h14] at e, h.u1.trans hu (fun _ _ f => .inr f), fun e => by simp [h14] at e, fun _ => hu.blk (h.r1 h14) (fun f => hne f.symm), fun e => by simp at e, fun _ => (h.k0 h18).move (by omega)⟩
end
theorem run_from {P : Program} {w : World} {t e : TypeId} {gb ob a n c : Nat} (hu : P.underlying t = some (.slice e)) (hs : (sizeOf e).run P w = .ok 1 w) (h1 : a ≤ n) (_ : n ≤ c) (h3 : a < c) : (Instr.sliceAt t (.slice (some ⟨gb, ob, none⟩) n c) (some (.int .i64 (a : Int))) none none).run P w = .ok (.slice (some ⟨gb, ob + a, none⟩) (n - a) (c - a)) w := by
  have hkc : (0 : Int) ≤ (a : Int) ∧ (a : Int) ≤ (n : Int) := ⟨by omega, by omega⟩
  simp [Instr.sliceAt, Instr.slice, run_underlying hu, Instr.sliceBounds, Instr.sliceBound, asIntOf, hs, hkc, Addr.add]
  rw [if_pos h1, if_neg (show ¬ c = a by omega)]
  by_cases h0 : a = 0
  · subst h0; simp
  · rw [if_neg h0]
theorem od_copy {P : Program} {o : Oper} {ρ : Operand → Value} {w : World} {post : Value → World → Prop} (s x : Operand) (t : TypeId) (ho : o.op = .call { callee := .builtin .copy, args := #[s, x], argTypes := #[t, t] }) (v u : Value) (hs : ρ s = v) (hx : ρ x = u) {r : Value} {w' : World} (hr : (Builtin.copy_ #[t, t] o.type #[v, u]).run P w = .ok r w') (hp : post r w') : OpDone P o ρ w post := by
  unfold OpDone execOp
  simp only [ho, resolve, invoke, builtin, Sem.run_bind, Sem.run_pure, Result.andThen_ok, List.map_toArray, List.map_cons, List.map_nil, hs, hx, hr]
  exact hp

set_option maxRecDepth 100000 in
set_option maxHeartbeats 4000000 in
theorem curName_ok {w : World} {g : Nat} {v : Value} {bs : List UInt8} {a : Nat} (h : CurB w g v a false) (hr : Rd w 1 v bs.length (bs.map byteV)) (hm : bs.length ≤ 1099511627776) (ha : a + 8 ≤ bs.length) : Calls Tryz.prog 129 #[ptrV g] w (NameOk w g v a ((bs.drop a).take 8)) := by
  obtain ⟨A, c, rfl, hlc, hcm⟩ := hr.slice
  unfold maxLen at hcm
  obtain ⟨A', c', e', -, -, -, hx⟩ := id hr
  injection e' with e1 _ e3
  subst e1 e3
  obtain ⟨gb, ob, rfl, -⟩ := hx (by omega)
  clear hx
  have hB := h.alloc (.cells zName 28)
  have hlt := h.lt
  have c0 : (w.alloc (.cells zName 28)).cell? ⟨g, 0, none⟩ = some (.slice (some ⟨gb, ob, none⟩) bs.length c) := Blk.cell hB 0
  have c1 : (w.alloc (.cells zName 28)).cell? ⟨g, 1, none⟩ = some (.int .i64 (a : Int)) := Blk.cell hB 1
  have c2 : (w.alloc (.cells zName 28)).cell? ⟨g, 2, none⟩ = some (.bool false) := Blk.cell hB 2
  have wn : IntKind.i64.wrap ((bs.length : Int) - (a : Int)) = (bs.length : Int) - (a : Int) := IntWalk.i64_in _ (by omega)
  have wx : IntKind.i64.wrap ((a : Int) + 8) = (a : Int) + 8 := IntWalk.i64_in _ (by omega)
  have t1 : decide ((bs.length : Int) - (a : Int) < 8) = false := by simp; omega
  have BR := Lib.hid (Blk.new w 28 zName)
  have HB := Lib.hid h
  have HRF := Lib.hid (show Rd w 1 (.slice (some ⟨gb, ob + a, none⟩) (bs.length - a) (c - a)) (bs.length - a) ((bs.drop a).map byteV) from by
    have := hr.from_ (k := a) (by omega) (some ⟨gb, ob + a, none⟩) (fun _ => by rw [Nat.mul_one])
    rw [Nat.mul_one, ← List.map_drop] at this
    exact this)
  have HRG := Lib.hid (show g ≠ w.heap.size by omega)
  have h8 : ((bs.drop a).take 8).length = 8 := by simp; omega
  obtain ⟨nb, hnb⟩ : ∃ x, x = (((bs.drop a).take 8).map byteV).toArray := ⟨_, rfl⟩
  have HNB := Lib.hid hnb
  have HS8 := Lib.hid h8
  obtain ⟨n, hn⟩ : ∃ n, bs.length = n := ⟨_, rfl⟩
  rw [hn] at hB h ha hlc c0 wn t1 HB hm HRF ⊢
  clear h hr hB hlt hn hnb h8
  go_enter Tryz.func129, Tryz.ntmps129
  go_wp2
  go_quiet (fail)
  go_wp2_with fail
  obtain ⟨W1, hW1⟩ : ∃ x, x = (w.alloc (.cells zName 28)).drewN nq := ⟨_, rfl⟩
  have BR1 := Lib.hid (show Blk W1 w.heap.size 28 zName from by rw [hW1]; exact BR.out.drewN _)
  have HB1 := Lib.hid (show CurB W1 g (.slice (some ⟨gb, ob, none⟩) n c) a false from by rw [hW1]; exact (HB.out.alloc (.cells zName 28)).drewN _)
  have UW1 := Lib.hid (show Upd NoF w W1 from by rw [hW1]; exact ((Upd.refl NoF w).alloc _).drewN _)
  have HRD := Lib.hid (show ∀ W, Upd NoF W1.drew W → Rd W 1 (.slice (some ⟨gb, ob + a, none⟩) (n - a) (c - a)) (n - a) ((bs.drop a).map byteV) from fun W hu => HRF.out.keep ((UW1.out.drew).trans hu (fun _ _ f => f)))
  first | rw [← hW1] | rw [show _ = W1 from hW1.symm]
  clear hW1 c0 c1 c2 BR HB
  refine wp_region_rgl (rgR [isV (ptrV g), isV (.pointer (some ⟨g, 0, none⟩)), isV (.pointer (some ⟨g, 1, none⟩)), isV (.int .i64 (a : Int)), isV (.slice (some ⟨w.heap.size, 0, none⟩) 8 8), isV (ptrV g), isV (.pointer (some ⟨g, 0, none⟩)), isV (.pointer (some ⟨g, 0, none⟩)), isV (.slice (some ⟨gb, ob, none⟩) n c), isV (ptrV g), isV (.pointer (some ⟨g, 0, none⟩)), isV (.pointer (some ⟨g, 1, none⟩)), isV (.int .i64 (a : Int)), isV (.slice (some ⟨gb, ob + a, none⟩) (n - a) (c - a)), isV (.int .i64 8), isV (.int .i64 ((a : Int) + 8)), isV (.pointer (some ⟨g, 0, none⟩)), isV (.pointer (some ⟨g, 1, none⟩)), anyV]) (StA) (NmPh W1.drew w.heap.size g (.slice (some ⟨gb, ob, none⟩) n c) a nb) (by kernel_rfl) (by kernel_rfl) (by kernel_rfl) (by rfl) (fun L w => StA.any) (rgR_keepL ⟨stbL_isV _, stbL_isV _, stbL_isV _, stbL_isV _, stbL_isV _, stbL_isV _, stbL_isV _, stbL_isV _, stbL_isV _, stbL_isV _, stbL_isV _, stbL_isV _, stbL_isV _, stbL_isV _, stbL_isV _, stbL_isV _, stbL_isV _, stbL_isV _, stbL_any, trivial⟩) (NmPh.start (Blk.drew BR1.out) (Blk.drew HB1.out)) ?_ ?_
  · refine ⟨?_, ?_, ?_, ?_, ?_, ?_, ?_, ?_, ?_, ?_, ?_, ?_, ?_, ?_, ?_, ?_, ?_, ?_, ?_, trivial⟩
    · refine fun ρ w' L hW hLi hcl hd hdep hext hc hg hf => ?_
      rw [if_pos (show wantedR _ _ _ = true from rfl)]
      have e0 : ρ (.tmp 0) = ptrV g := hext 0 (by kernel_rfl)
      clear hdep hext hcl
      have HW := Lib.hid hW
      clear hW
      unfold OpDone
      go_simp
      exact ⟨rfl, StA.any, (HW.out.same (by decide) (by decide))⟩
    · refine fun ρ w' L hW hLi hcl hd hdep hext hc hg hf => ?_
      rw [if_pos (show wantedR _ _ _ = true from rfl)]
      have e24 : ρ (.tmp 24) = ptrV g := hdep 0 _ rfl (by kernel_rfl)
      clear hdep hext hcl
      have HW := Lib.hid hW
      clear hW
      unfold OpDone
      go_simp
      exact ⟨rfl, StA.any, (HW.out.same (by decide) (by decide))⟩
    · refine fun ρ w' L hW hLi hcl hd hdep hext hc hg hf => ?_
      rw [if_pos (show wantedR _ _ _ = true from rfl)]
      have e25 : ρ (.tmp 25) = .pointer (some ⟨g, 0, none⟩) := hdep 1 _ rfl (by kernel_rfl)
      clear hdep hext hcl
      have HW := Lib.hid hW
      clear hW
      unfold OpDone
      go_simp
      exact ⟨rfl, StA.any, (HW.out.same (by decide) (by decide))⟩
    · refine fun ρ w' L hW hLi hcl hd hdep hext hc hg hf => ?_
      rw [if_pos (show wantedR _ _ _ = true from rfl)]
      have e26 : ρ (.tmp 26) = .pointer (some ⟨g, 1, none⟩) := hdep 2 _ rfl (by kernel_rfl)
      have h18 : L 18 = false := by
        cases h : L 18 with
        | false => rfl
        | true => exact absurd (hcl 15 3 (hcl 18 15 h (by kernel_rfl)) (by kernel_rfl)) (by rw [hLi]; decide)
      have q0 : w'.cell? ⟨g, 1, none⟩ = some (.int .i64 (a : Int)) := Blk.cell (hW.k0 h18) 1
      clear hdep hext hcl
      have HW := Lib.hid hW
      clear hW
      unfold OpDone
      go_simp
      exact ⟨rfl, StA.any, (HW.out.same (by decide) (by decide))⟩
    · refine fun ρ w' L hW hLi hcl hd hdep hext hc hg hf => ?_
      rw [if_pos (show wantedR _ _ _ = true from rfl)]
      have e2 : ρ (.tmp 2) = .pointer (some ⟨w.heap.size, 0, none⟩) := hext 2 (by kernel_rfl)
      clear hdep hext hcl
      have HW := Lib.hid hW
      clear hW
      unfold OpDone
      go_simp
      exact ⟨rfl, StA.any, (HW.out.same (by decide) (by decide))⟩
    · refine fun ρ w' L hW hLi hcl hd hdep hext hc hg hf => ?_
      rw [if_pos (show wantedR _ _ _ = true from rfl)]
      have e0 : ρ (.tmp 0) = ptrV g := hext 0 (by kernel_rfl)
      clear hdep hext hcl
      have HW := Lib.hid hW
      clear hW
      unfold OpDone
      go_simp
      exact ⟨rfl, StA.any, (HW.out.same (by decide) (by decide))⟩
    · refine fun ρ w' L hW hLi hcl hd hdep hext hc hg hf => ?_
      rw [if_pos (show wantedR _ _ _ = true from rfl)]
      have e29 : ρ (.tmp 29) = ptrV g := hdep 5 _ rfl (by kernel_rfl)
      clear hdep hext hcl
      have HW := Lib.hid hW
      clear hW
      unfold OpDone
      go_simp
      exact ⟨rfl, StA.any, (HW.out.same (by decide) (by decide))⟩
    · refine fun ρ w' L hW hLi hcl hd hdep hext hc hg hf => ?_
      rw [if_pos (show wantedR _ _ _ = true from rfl)]
      have e30 : ρ (.tmp 30) = .pointer (some ⟨g, 0, none⟩) := hdep 6 _ rfl (by kernel_rfl)
      clear hdep hext hcl
      have HW := Lib.hid hW
      clear hW
      unfold OpDone
      go_simp
      exact ⟨rfl, StA.any, (HW.out.same (by decide) (by decide))⟩
    · refine fun ρ w' L hW hLi hcl hd hdep hext hc hg hf => ?_
      rw [if_pos (show wantedR _ _ _ = true from rfl)]
      have e31 : ρ (.tmp 31) = .pointer (some ⟨g, 0, none⟩) := hdep 7 _ rfl (by kernel_rfl)
      have h18 : L 18 = false := by
        cases h : L 18 with
        | false => rfl
        | true => exact absurd (hcl 13 8 (hcl 14 13 (hcl 15 14 (hcl 18 15 h (by kernel_rfl)) (by kernel_rfl)) (by kernel_rfl)) (by kernel_rfl)) (by rw [hLi]; decide)
      have q0 : w'.cell? ⟨g, 0, none⟩ = some (.slice (some ⟨gb, ob, none⟩) n c) := Blk.cell (hW.k0 h18) 0
      clear hdep hext hcl
      have HW := Lib.hid hW
      clear hW
      unfold OpDone
      go_simp
      exact ⟨rfl, StA.any, (HW.out.same (by decide) (by decide))⟩
    · refine fun ρ w' L hW hLi hcl hd hdep hext hc hg hf => ?_
      rw [if_pos (show wantedR _ _ _ = true from rfl)]
      have e0 : ρ (.tmp 0) = ptrV g := hext 0 (by kernel_rfl)
      clear hdep hext hcl
      have HW := Lib.hid hW
      clear hW
      unfold OpDone
      go_simp
      exact ⟨rfl, StA.any, (HW.out.same (by decide) (by decide))⟩
    · refine fun ρ w' L hW hLi hcl hd hdep hext hc hg hf => ?_
      rw [if_pos (show wantedR _ _ _ = true from rfl)]
      have e33 : ρ (.tmp 33) = ptrV g := hdep 9 _ rfl (by kernel_rfl)
      clear hdep hext hcl
      have HW := Lib.hid hW
      clear hW
      unfold OpDone
      go_simp
      exact ⟨rfl, StA.any, (HW.out.same (by decide) (by decide))⟩
    · refine fun ρ w' L hW hLi hcl hd hdep hext hc hg hf => ?_
      rw [if_pos (show wantedR _ _ _ = true from rfl)]
      have e34 : ρ (.tmp 34) = .pointer (some ⟨g, 0, none⟩) := hdep 10 _ rfl (by kernel_rfl)
      clear hdep hext hcl
      have HW := Lib.hid hW
      clear hW
      unfold OpDone
      go_simp
      exact ⟨rfl, StA.any, (HW.out.same (by decide) (by decide))⟩
    · refine fun ρ w' L hW hLi hcl hd hdep hext hc hg hf => ?_
      rw [if_pos (show wantedR _ _ _ = true from rfl)]
      have e35 : ρ (.tmp 35) = .pointer (some ⟨g, 1, none⟩) := hdep 11 _ rfl (by kernel_rfl)
      have h18 : L 18 = false := by
        cases h : L 18 with
        | false => rfl
        | true => exact absurd (hcl 13 12 (hcl 14 13 (hcl 15 14 (hcl 18 15 h (by kernel_rfl)) (by kernel_rfl)) (by kernel_rfl)) (by kernel_rfl)) (by rw [hLi]; decide)
      have q0 : w'.cell? ⟨g, 1, none⟩ = some (.int .i64 (a : Int)) := Blk.cell (hW.k0 h18) 1
      clear hdep hext hcl
      have HW := Lib.hid hW
      clear hW
      unfold OpDone
      go_simp
      exact ⟨rfl, StA.any, (HW.out.same (by decide) (by decide))⟩
    · refine fun ρ w' L hW hLi hcl hd hdep hext hc hg hf => ?_
      rw [if_pos (show wantedR _ _ _ = true from rfl)]
      have e32 : ρ (.tmp 32) = .slice (some ⟨gb, ob, none⟩) n c := hdep 8 _ rfl (by kernel_rfl)
      have e36 : ρ (.tmp 36) = .int .i64 (a : Int) := hdep 12 _ rfl (by kernel_rfl)
      clear hdep hext
      have hrun := run_from (P := Tryz.prog) (w := w') (gb := gb) (ob := ob) (a := a) (n := n) (c := c) Tryz.underlying52 (by kernel_rfl) (by omega) (by omega) (by omega)
      refine od_of_run (v := .slice (some ⟨gb, ob + a, none⟩) (n - a) (c - a)) (w' := w') (by simp [execOp, e32, e36, hrun]) ⟨rfl, StA.any, hW.same (by decide) (by decide)⟩
    · refine fun ρ w' L hW hLi hcl hd hdep hext hc hg hf => ?_
      rw [if_pos (show wantedR _ _ _ = true from rfl)]
      have e28 : ρ (.tmp 28) = .slice (some ⟨w.heap.size, 0, none⟩) 8 8 := hdep 4 _ rfl (by kernel_rfl)
      have e37 : ρ (.tmp 37) = .slice (some ⟨gb, ob + a, none⟩) (n - a) (c - a) := hdep 13 _ rfl (by kernel_rfl)
      clear hdep hext
      have h18 : L 18 = false := by
        cases h : L 18 with
        | false => rfl
        | true => exact absurd (hcl 15 14 (hcl 18 15 h (by kernel_rfl)) (by kernel_rfl)) (by rw [hLi]; decide)
      obtain ⟨w2, hc2, hb2, hu2⟩ := run_copy_bytes (dl := 8) (dc := 8) (o := 0) (hW.r0 hLi) (v := .slice (some ⟨gb, ob + a, none⟩) (n - a) (c - a)) (n := n - a) (bs := bs.drop a) (HRD.out w' (hW.u0 hLi)) (by omega) 8 (by simp only [Nat.min_def]; split <;> omega) (by simp) 3
      refine od_copy (.tmp 28) (.tmp 37) 52 rfl _ _ e28 e37 hc2 ⟨rfl, StA.any, ?_⟩
      exact hW.copied h18 (by rw [HNB.out]; simpa using hb2) hu2 HRG.out
    · refine fun ρ w' L hW hLi hcl hd hdep hext hc hg hf => ?_
      rw [if_pos (show wantedR _ _ _ = true from rfl)]
      have e27 : ρ (.tmp 27) = .int .i64 (a : Int) := hdep 3 _ rfl (by kernel_rfl)
      have e38 : ρ (.tmp 38) = .int .i64 8 := hdep 14 _ rfl (by kernel_rfl)
      clear hdep hext hcl
      have HW := Lib.hid hW
      clear hW
      unfold OpDone
      go_simp
      exact ⟨rfl, StA.any, (HW.out.same (by decide) (by decide))⟩
    · refine fun ρ w' L hW hLi hcl hd hdep hext hc hg hf => ?_
      rw [if_pos (show wantedR _ _ _ = true from rfl)]
      have e24 : ρ (.tmp 24) = ptrV g := hdep 0 _ rfl (by kernel_rfl)
      clear hdep hext hcl
      have HW := Lib.hid hW
      clear hW
      unfold OpDone
      go_simp
      exact ⟨rfl, StA.any, (HW.out.same (by decide) (by decide))⟩
    · refine fun ρ w' L hW hLi hcl hd hdep hext hc hg hf => ?_
      rw [if_pos (show wantedR _ _ _ = true from rfl)]
      have e40 : ρ (.tmp 40) = .pointer (some ⟨g, 0, none⟩) := hdep 16 _ rfl (by kernel_rfl)
      clear hdep hext hcl
      have HW := Lib.hid hW
      clear hW
      unfold OpDone
      go_simp
      exact ⟨rfl, StA.any, (HW.out.same (by decide) (by decide))⟩
    · refine fun ρ w' L hW hLi hcl hd hdep hext hc hg hf => ?_
      rw [if_pos (show wantedR _ _ _ = true from rfl)]
      have e41 : ρ (.tmp 41) = .pointer (some ⟨g, 1, none⟩) := hdep 17 _ rfl (by kernel_rfl)
      have e39 : ρ (.tmp 39) = .int .i64 ((a : Int) + 8) := hdep 15 _ rfl (by kernel_rfl)
      clear hdep hext
      have h14 : L 14 = true := hcl 15 14 (hd 15 (by kernel_rfl)) (by kernel_rfl)
      have q1 : w'.frozen? ⟨g, 1, none⟩ = false := Blk.frozen (hW.k0 hLi) 1
      have q0 : w'.cell? ⟨g, 1, none⟩ = some (.int .i64 (a : Int)) := Blk.cell (hW.k0 hLi) 1
      have HW := Lib.hid hW
      have HL := Lib.hid (And.intro hLi h14)
      clear hW hcl hd hLi h14
      unfold OpDone
      go_simp
      exact ⟨trivial, StA.any, HW.out.moved HL.out.1 HL.out.2 HRG.out⟩
  intro vs wz Lz hLz hWz hR
  have hv0 : vs 0 = ptrV g := hR 0 _ rfl
  have hv1 : vs 1 = .pointer (some ⟨g, 0, none⟩) := hR 1 _ rfl
  have hv2 : vs 2 = .pointer (some ⟨g, 1, none⟩) := hR 2 _ rfl
  have hv3 : vs 3 = .int .i64 (a : Int) := hR 3 _ rfl
  have hv4 : vs 4 = .slice (some ⟨w.heap.size, 0, none⟩) 8 8 := hR 4 _ rfl
  have hv5 : vs 5 = ptrV g := hR 5 _ rfl
  have hv6 : vs 6 = .pointer (some ⟨g, 0, none⟩) := hR 6 _ rfl
  have hv7 : vs 7 = .pointer (some ⟨g, 0, none⟩) := hR 7 _ rfl
  have hv8 : vs 8 = .slice (some ⟨gb, ob, none⟩) n c := hR 8 _ rfl
  have hv9 : vs 9 = ptrV g := hR 9 _ rfl
  have hv10 : vs 10 = .pointer (some ⟨g, 0, none⟩) := hR 10 _ rfl
  have hv11 : vs 11 = .pointer (some ⟨g, 1, none⟩) := hR 11 _ rfl
  have hv12 : vs 12 = .int .i64 (a : Int) := hR 12 _ rfl
  have hv13 : vs 13 = .slice (some ⟨gb, ob + a, none⟩) (n - a) (c - a) := hR 13 _ rfl
  have hv14 : vs 14 = .int .i64 8 := hR 14 _ rfl
  have hv15 : vs 15 = .int .i64 ((a : Int) + 8) := hR 15 _ rfl
  have hv16 : vs 16 = .pointer (some ⟨g, 0, none⟩) := hR 16 _ rfl
  have hv17 : vs 17 = .pointer (some ⟨g, 1, none⟩) := hR 17 _ rfl
  simp only [putAll, Act.put, List.setIfInBounds_toArray, List.set_cons_zero, List.set_cons_succ, hv0, hv1, hv2, hv3, hv4, hv5, hv6, hv7, hv8, hv9, hv10, hv11, hv12, hv13, hv14, hv15, hv16, hv17]
  clear hR hv0 hv1 hv2 hv3 hv4 hv5 hv6 hv7 hv8 hv9 hv10 hv11 hv12 hv13 hv14 hv15 hv16 hv17
  have hR : Blk wz w.heap.size 28 nb := hWz.r1 (hLz 14 (by decide))
  have hC : CurB wz g (.slice (some ⟨gb, ob, none⟩) n c) (a + 8) false := hWz.k1 (hLz 18 (by decide))
  have HR := Lib.hid hR
  have HC := Lib.hid hC
  have HU := Lib.hid (show Upd (fun k => k = g) w wz from (UW1.out.drew.mono (G := fun k => k = g) (fun _ _ f => f.elim)).trans hWz.u1 (fun k hk f => f.resolve_left (by omega)))
  have HSZ := Lib.hid (show nb.size = 8 ∧ nb.all (·.oneCell') = true from by
    rw [HNB.out]
    exact ⟨by simp only [List.size_toArray, List.length_map]; exact HS8.out, by rw [List.all_toArray, List.all_eq_true]; exact bytes_oneCell _⟩)
  clear hR hC hWz hLz
  go_wp2_with (first
    | (refine wpList_load_row rfl 28 (.tmp 2) rfl w.heap.size 0 rfl nb.toList _ (range_blk (by simpa using HR.out)) Tryz.underlying28 rfl (by rw [show (Tryz.prog.info? 28).map (·.size) = some 8 from by kernel_rfl]; simp [HSZ.out.1]) nb (by simp) ?_)
    | (refine wpList_store_row rfl 28 (.tmp 2) (.tmp 42) rfl w.heap.size rfl nb rfl 28 nb HR.out rfl (by rw [show (Tryz.prog.info? 28).map (·.size) = some 8 from by kernel_rfl]; simp [HSZ.out.1]) HSZ.out.2 ?_; intro w3 hb3 hu3 hs3))
  refine bodyPost_ret (results_cell_row Tryz.results129 _ _ w.heap.size 28 nb (0, 0) _ rfl hb3 Tryz.underlying28 rfl (by rw [show (Tryz.prog.info? 28).map (·.size) = some 8 from by kernel_rfl]; simp [HSZ.out.1])) rfl ⟨by rw [HNB.out], ?_, ?_⟩
  · exact hu3.blk HC.out (fun e => HRG.out e)
  · exact HU.out.trans hu3 (fun k hk e => by have e : k = w.heap.size := e; omega)
end

section
open Go.RowKit

def kindS (bs : List UInt8) : Int := match bs with | [] => 0 | b :: _ => if b.toNat < 1 ∨ 4 < b.toNat then 0 else b.toNat
set_option maxRecDepth 100000 in
set_option maxHeartbeats 4000000 in
theorem Kind_any {w : World} {v : Value} {bs : List UInt8} (h : Rd w 1 v bs.length (bs.map byteV)) : Calls Tryz.prog 160 #[v] w fun e w' => e = .returned (.int .i64 (kindS bs)) ∧ w' = w := by
  obtain ⟨A, c, rfl, hlc, hcm⟩ := h.slice
  cases bs with
  | nil =>
    clear h
    go_enter Tryz.func160, Tryz.ntmps160
    go_wp2
    go_ret
    exact ⟨rfl, rfl⟩
  | cons b l =>
    obtain ⟨g, o, rfl, hc⟩ := rd_cells h (by simp)
    have c0 : w.cell? ⟨g, o, none⟩ = some (byteV b) := hc 0 b rfl
    have hb := b.toNat_lt
    have k1 : decide ((l.length : Int) + 1 = 0) = false := by simp; omega
    obtain ⟨n, hn⟩ : ∃ n, (b :: l).length = n + 1 := ⟨l.length, rfl⟩
    have n0 : (0 : Int) ≤ (n : Int) := by omega
    have t0 : ((n : Int) + 1 == 0) = false := by simp; omega
    have t0' : decide ((n : Int) + 1 = 0) = false := by simp; omega
    rw [hn]
    have HN := Lib.hid hn
    clear h hc k1 hn
    unfold byteV at c0
    obtain ⟨z, hz⟩ : ∃ z, b.toNat = z := ⟨_, rfl⟩
    have HZ := Lib.hid (show kindS (b :: l) = if z < 1 ∨ 4 < z then 0 else (z : Int) from by rw [← hz]; rfl)
    rw [hz] at c0 hb
    clear hz
    have wz : IntKind.i64.wrap (z : Int) = z := IntWalk.i64_in _ (by omega)
    by_cases h1 : z < 1
    · have hz0 : z = 0 := by omega
      subst hz0
      go_enter Tryz.func160, Tryz.ntmps160
      go_wp2
      go_ret
      exact ⟨by rw [HZ.out, if_pos (by omega)]; rfl, rfl⟩
    · by_cases h4 : 4 < z
      · have t1 : decide ((z : Int) < 1) = false := by simp; omega
        have t1' : decide (z < 1) = false := by simp; omega
        have t4 : decide ((4 : Int) < z) = true := by simp; omega
        have t4' : decide (4 < z) = true := by simp; omega
        go_enter Tryz.func160, Tryz.ntmps160
        go_wp2
        go_ret
        exact ⟨by rw [HZ.out, if_pos (by omega)]; rfl, rfl⟩
      · have t1 : decide ((z : Int) < 1) = false := by simp; omega
        have t1' : decide (z < 1) = false := by simp; omega
        have t4 : decide ((4 : Int) < z) = false := by simp; omega
        have t4' : decide (4 < z) = false := by simp; omega
        go_enter Tryz.func160, Tryz.ntmps160
        go_wp2
        go_ret
        exact ⟨by rw [HZ.out, if_neg (by omega)]; rfl, rfl⟩
def OpenOk (w : World) (l : List UInt8) (e : Ending) (w' : World) : Prop := ∃ g A c, e = .returned (ptrV g) ∧ CurB w' g (.slice A l.length c) 0 false ∧ (∀ W, Upd NoF w W → Rd W 1 (.slice A l.length c) l.length (l.map byteV)) ∧ w.heap.size ≤ g ∧ Upd NoF w w'
set_option maxRecDepth 100000 in
set_option maxHeartbeats 4000000 in
theorem open_ok {w : World} {v : Value} {b : UInt8} {l : List UInt8} (h : Rd w 1 v (b :: l).length ((b :: l).map byteV)) (k : Nat) (hk : kindS (b :: l) = k) (_hk2 : k ≤ 4) : Calls Tryz.prog 128 #[v, .int .i64 (k : Int)] w (OpenOk w l) := by
  obtain ⟨A, c, rfl, hlc, hcm⟩ := h.slice
  have CK := Lib.hid (Kind_any h)
  rw [hk] at CK
  have H := Lib.hid h
  have CN := Lib.hid (fun (A' : Option Addr) (n' c' : Nat) => curNew_any (.slice A' n' c') n' c' A' rfl w)
  have HL := Lib.hid (show (b :: l).length - 1 = l.length ∧ ((b :: l).map byteV).drop (1 * 1) = l.map byteV from ⟨by simp, by simp⟩)
  obtain ⟨n, hn⟩ : ∃ n, (b :: l).length = n := ⟨_, rfl⟩
  have h1 : 1 ≤ n := by rw [← hn]; simp
  rw [hn] at H HL CK hlc ⊢
  have H1 := Lib.hid h1
  clear h hk hn hcm
  go_enter Tryz.func128, Tryz.ntmps128
  go_wp2_with fail
  refine CK.out.mono ?_
  rintro e w1 ⟨rfl, rfl⟩
  go_wp2_with (first
    | (refine wpList_cut_from' rfl (.tmp 14) (.const (.int .i64 1)) rfl rfl rfl H.out Tryz.underlying52 (fun _ => by kernel_rfl) (k := 1) H1.out ?_; intro A' hcut; have HC := Lib.hid hcut; clear hcut)
    | (refine (CN.out _ _ _).mono ?_; rintro e w2 ⟨rfl, hc2, hu2⟩))
  go_ret
  refine ⟨_, A', c - 1, rfl, ?_, ?_, Nat.le_refl _, hu2⟩
  · have := HL.out.1
    rw [← this]; exact hc2
  · intro W hW
    have h2 := HC.out.keep hW
    rw [HL.out.1, HL.out.2] at h2
    exact h2
end

section
open Go.RowKit

/-- A slot of a block: a validator, a name. -/
def choiceC (s : Int × List UInt8) : List Value := .int .i64 s.1 :: s.2.map byteV
def ChR (w : World) (v : Value) (l : List (Int × List UInt8)) : Prop := (∀ s ∈ l, s.2.length = 8) ∧ Rd w 9 v l.length ((l.map choiceC).flatten)
theorem ChR.keep {w w' : World} {v : Value} {l : List (Int × List UInt8)} (h : ChR w v l) (hu : Upd NoF w w') : ChR w' v l := ⟨h.1, h.2.keep hu⟩
/-- The slots of a valid block. -/
def GoodCh (l : List (Int × List UInt8)) : Prop := 1 ≤ l.length ∧ l.length ≤ 7 ∧ ∀ (i : Nat) s, l[i]? = some s → 0 ≤ s.1 ∧ s.1 < 10 ∧ ∀ (j : Nat) t, l[j]? = some t → j + 1 = i → t.1 < s.1
theorem ChR.at_ {w : World} {A : Option Addr} {n c : Nat} {l : List (Int × List UInt8)} (h : ChR w (.slice A n c) l) {i : Nat} {s : Int × List UInt8} (hs : l[i]? = some s) (hn : i < n) : ∃ g o, A = some ⟨g, o, none⟩ ∧ w.rangeAt g (o + i * 9) (choiceC s) := by
  have hl : n = l.length := by obtain ⟨A', c', e, -⟩ := h.2; injection e
  subst hl
  exact rows_at (rows := l.map choiceC) (fun r hr => by obtain ⟨x, hx, rfl⟩ := List.mem_map.1 hr; simp [choiceC, h.1 x hx]) h.2 (by rw [List.getElem?_map, hs]; rfl) hn
set_option maxRecDepth 100000 in
set_option maxHeartbeats 4000000 in
theorem vBlock1_any {W : World} {B : Nat} {pc : List Value} {A : Option Addr} {n c : Nat} {l : List (Int × List UInt8)} (hb : Blk W B 67 (pc ++ [Value.slice A n c]).toArray) (hp : pc.length = 8) (h : ChR W (.slice A n c) l) {i : Nat} {s : Int × List UInt8} (hs : l[i]? = some s) (hn : i < n) (_ : n ≤ 1000) :
    Calls Tryz.prog 164 #[.int .i64 (i : Int), .pointer (some ⟨B, 0, none⟩)] W fun e W' => e = .returned (.int .i64 s.1) ∧ W' = W := by
  obtain ⟨g, o, rfl, hr⟩ := h.at_ hs hn
  have c0 : W.cell? ⟨B, 8, none⟩ = some (.slice (some ⟨g, o, none⟩) n c) := by
    rw [hb.cell 8, List.getElem?_toArray, List.getElem?_append_right (by omega), hp]
    rfl
  have c1 : W.cell? ⟨g, o + i * 9, none⟩ = some (.int .i64 s.1) := hr 0 _ rfl
  have e1 : ((i : Int)).toNat = i := by omega
  have i0 : (0 : Int) ≤ (i : Int) := by omega
  have i1 : (i : Int) < (n : Int) := by omega
  clear h hr hb
  go_enter Tryz.func164, Tryz.ntmps164
  go_wp2
  go_ret
  exact ⟨rfl, rfl⟩
set_option maxRecDepth 100000 in
set_option maxHeartbeats 8000000 in
theorem validators_ok {w : World} {n : Nat} {g : FuncId} {cap : Array Value} {ids : List Int} (hn : ids.length = n) (hm : n ≤ 1000) (hg : ∀ z W, (callFunc g (#[.int .i64 z] ++ cap)).run Tryz.prog W = .ok (.enter g (#[.int .i64 z] ++ cap)) W)
    (hc : ∀ (i : Nat) z, ids[i]? = some z → Calls Tryz.prog g (#[.int .i64 (i : Int)] ++ cap) w fun e W' => e = .returned (.int .i64 z) ∧ W' = w) (hv : ∀ (i : Nat) z, ids[i]? = some z → 0 ≤ z ∧ z < 10 ∧ ∀ (j : Nat) y, ids[j]? = some y → j + 1 = i → y < z) :
    Calls Tryz.prog 163 #[.int .i64 (n : Int), .func (.func g) #[] cap] w fun e w' => e = .returned (.bool true) ∧ w' = w := by
  have HC := Lib.hid hc
  have HV := Lib.hid hv
  have HG := Lib.hid hg
  have HN := Lib.hid hn
  clear hc hv hg hn
  go_enter Tryz.func163, Tryz.ntmps163
  go_wp2
  go_loopg [7] n (fun kx s7 wr => ∃ k : Nat, s7 = .int .i64 (k : Int) ∧ k ≤ n ∧ n - k ≤ kx ∧ Hid (wr = w))
  case atStart => exact ⟨0, rfl, by omega, by omega, Lib.hid rfl⟩
  case round =>
    obtain ⟨k, rfl, hkn, hkx, HW⟩ := hrel
    obtain rfl := HW.out
    by_cases hlt : k < n
    · have hltz : (k : Int) < (n : Int) := by omega
      obtain ⟨z, hz⟩ : ∃ z, ids[k]? = some z := ⟨_, List.getElem?_eq_getElem (by have := HN.out; omega)⟩
      have h1 := HV.out k z hz
      have CZ := Lib.hid (HC.out k z hz)
      have t1 : decide (z < 0) = false := by simp; omega
      have t2 : decide ((10 : Int) ≤ z) = false := by simp; omega
      have hgz := HG.out (k : Int)
      rcases Nat.eq_zero_or_pos k with hk0 | hk0
      · subst hk0
        rw [show ((0 : Nat) : Int) = 0 from rfl] at CZ hgz
        clear hz h1
        go_wp2_with (refine CZ.out.mono ?_; rintro e w' ⟨rfl, rfl⟩)
        go_roundg (n - 1)
        case measure => omega
        case rel => exact ⟨1, by first | rfl | go_num, by omega, by omega, Lib.hid rfl⟩
      · obtain ⟨y, hy⟩ : ∃ y, ids[k - 1]? = some y := ⟨_, List.getElem?_eq_getElem (by have := HN.out; omega)⟩
        have h2 := h1.2.2 (k - 1) y hy (by omega)
        have CY := Lib.hid (HC.out (k - 1) y hy)
        have hgy := HG.out (((k - 1 : Nat)) : Int)
        have e2 : (((k - 1 : Nat)) : Int) = (k : Int) - 1 := by omega
        rw [e2] at CY hgy
        have t3 : decide (z ≤ y) = false := by simp; omega
        have t4 : decide ((0 : Int) < (k : Int)) = true := by simp; omega
        have t4' : decide (0 < k) = true := by simp; omega
        clear hz h1 hy h2 e2
        go_wp2_with (first
          | ((with_reducible refine (CZ.out).mono ?_); rintro e w' ⟨rfl, rfl⟩)
          | ((with_reducible refine (CY.out).mono ?_); rintro e w' ⟨rfl, rfl⟩))
        go_roundg (n - (k + 1))
        case measure => omega
        case rel => exact ⟨k + 1, by first | rfl | go_num, by omega, by omega, Lib.hid rfl⟩
    · have hltz : ¬ (k : Int) < (n : Int) := by omega
      go_wp2
      go_ret
      exact ⟨rfl, rfl⟩
def blkC (p : List UInt8) (v : Value) : List Value := p.map byteV ++ [v]
set_option maxRecDepth 100000 in
set_option maxHeartbeats 8000000 in
theorem validBlock_ok {w : World} {p : List UInt8} {A : Option Addr} {c : Nat} {l : List (Int × List UInt8)} (hp : p.length = 8) (h : ChR w (.slice A l.length c) l) (hg : GoodCh l) :
    Calls Tryz.prog 132 #[.agg (blkC p (.slice A l.length c)).toArray] w fun e w' => e = .returned (.bool true) ∧ Upd NoF w w' := by
  obtain ⟨h1, h7, hv⟩ := hg
  obtain ⟨xa, hxa⟩ : ∃ x, (blkC p (.slice A l.length c)).toArray = x := ⟨_, rfl⟩
  have BX := Lib.hid (show Blk (w.alloc (.cells xa 67)) w.heap.size 67 (p.map byteV ++ [Value.slice A l.length c]).toArray from by rw [← hxa]; exact Blk.new w _ _)
  have c8 : (w.alloc (.cells xa 67)).cell? ⟨w.heap.size, 8, none⟩ = some (.slice A l.length c) := by
    rw [BX.out.cell 8, List.getElem?_toArray, List.getElem?_append_right (by simp [hp])]
    simp [hp]
  have HU := Lib.hid ((Upd.refl NoF w).alloc (.cells xa 67))
  have CV := Lib.hid (validators_ok (w := w.alloc (.cells xa 67)) (n := l.length) (g := 164) (cap := #[.pointer (some ⟨w.heap.size, 0, none⟩)]) (ids := l.map (·.1)) (by simp) (by omega) (fun z W => by kernel_rfl)
    (fun i z hz => by
      rw [List.getElem?_map] at hz
      obtain ⟨s, hs, rfl⟩ := Option.map_eq_some_iff.1 hz
      exact vBlock1_any BX.out (by simp [hp]) (h.keep HU.out) hs (List.getElem?_eq_some_iff.1 hs).1 (by omega))
    (fun i z hz => by
      rw [List.getElem?_map] at hz
      obtain ⟨s, hs, rfl⟩ := Option.map_eq_some_iff.1 hz
      obtain ⟨a1, a2, a3⟩ := hv i s hs
      refine ⟨a1, a2, fun j y hy hj => ?_⟩
      rw [List.getElem?_map] at hy
      obtain ⟨t, ht, rfl⟩ := Option.map_eq_some_iff.1 hy
      exact a3 j t ht hj))
  obtain ⟨n, hn⟩ : ∃ n, l.length = n := ⟨_, rfl⟩
  rw [hn] at CV c8 h1 h7
  have t1 : decide ((1 : Int) ≤ (n : Int)) = true := by simp; omega
  have t1' : decide (1 ≤ n) = true := by simp; omega
  have t2 : decide ((n : Int) ≤ 7) = true := by simp; omega
  have t2' : decide (n ≤ 7) = true := by simp; omega
  rw [hxa]
  clear hv h BX hxa hn
  go_enter Tryz.func132, Tryz.ntmps132
  go_wp2_with (refine CV.out.mono ?_; rintro e w' ⟨rfl, rfl⟩)
  go_ret
  exact ⟨rfl, HU.out⟩
end
end Go.Proofs.YtengcmfdfmnacaaGreat
