/- 'same' of DiskActs: two disks in one state show the same. Conditions: sizes. -/
import Derived.Test.YtmapijpphnlcmaaActs2
import Derived.Test.YtmapijpphnlcmaaActs3
import Derived.Deep.QuietTactic
import Derived.BigQuiet
namespace Go.Proofs.Ytmapijpphnlcmaa
open Go.RowKit

theorem DiskAt.names {w : World} {d : Nat} {s : DSt} {F : Nat → Prop} (h : DiskAt w d s F) : ∀ p ∈ s.fs, p.1.length ≤ maxLen := by
  obtain ⟨mb, L, hd, hs, rfl⟩ := h
  intro p hp
  rw [hs] at hp
  obtain ⟨r, hr, rfl⟩ := List.mem_map.1 hp
  exact hd.nm r hr
theorem DiskAt.pw {w : World} {d : Nat} {s : DSt} {F : Nat → Prop} (h : DiskAt w d s F) : PW s.fs := by
  obtain ⟨mb, L, hd, hs, rfl⟩ := h
  rw [hs]
  exact absL_pairwise hd
theorem DiskAt.durs {w : World} {d : Nat} {s : DSt} {F : Nat → Prop} (h : DiskAt w d s F) : ∀ p ∈ s.fs, p.2.dur ≤ p.2.c.length := by
  obtain ⟨mb, L, hd, hs, rfl⟩ := h
  intro p hp
  rw [hs] at hp
  obtain ⟨r, hr, rfl⟩ := List.mem_map.1 hp
  exact hd.dur r hr

theorem strs_at {w w' : World} {ss : List (List UInt8)} {A : Option Addr} {c : Nat} (h : Own w 9 1 (.slice A ss.length c) ss.length (ss.map strV)) (hu : Upd NoF w w') {k : Nat} {nm : List UInt8} (hk : ss[k]? = some nm) : ∃ g, A = some ⟨g, 0, none⟩ ∧ w'.cell? ⟨g, k, none⟩ = some (strV nm) := by
  have hlt : k < ss.length := (List.getElem?_eq_some_iff.1 hk).1
  rcases h.2 with ⟨_, e⟩ | ⟨g, cap, cur, e, _⟩
  · omega
  · injection e with e
    subst e
    refine ⟨g, rfl, ?_⟩
    obtain ⟨A, c', e, _, _, _, hx⟩ := (h.upd hu (fun _ _ h => h)).rd
    obtain ⟨g', o, e', hx⟩ := hx (by omega)
    injection e with e
    rw [← e] at e'
    injection e' with e'
    injection e' with e1 e2
    subst e1 e2
    have := hx k (strV nm) (by rw [List.getElem?_map, hk]; rfl)
    simpa using this

def SameRel (w : World) (n : Nat) (i : Value) (wr : World) : Prop := ∃ k : Nat, k ≤ n ∧ i = .int .i64 k ∧ Upd NoF w wr

set_option maxRecDepth 100000 in
set_option maxHeartbeats 4000000 in
theorem same_spec {w : World} {d m : Nat} {fs : FS} {off armed : Bool} {left : Nat} {F G : Nat → Prop} (hd : DiskAt w d ⟨fs, off, armed, left⟩ F) (hm : RefAt w m ⟨fs, off, armed, left⟩ G) (hL : fs.length ≤ 4294967296) :
    Calls Try.prog 23 #[ptrV d, ptrV m] w fun e w' => e = .returned (.bool true) ∧ Upd NoF w w' := by
  have HNM := Lib.hid hd.names
  have HD := Lib.hid hd
  have HM := Lib.hid hm
  have hcd : ∀ w', Upd NoF w w' → w'.cell? ⟨m, 3, none⟩ = some (.bool off) := fun w' hu => by
    obtain ⟨lv, R, a, b, rfl⟩ := hm.upd hu (fun _ _ h => h)
    exact a.head.cell 3
  have HCD := Lib.hid hcd
  obtain ⟨ns, hns⟩ : ∃ ns, ns = fs.map (·.1) := ⟨_, rfl⟩
  have hnl : ns.length ≤ 4294967296 := by rw [hns]; simpa using hL
  have HNS := Lib.hid hns
  obtain ⟨rd, hrd⟩ : ∃ rd : List UInt8 → List UInt8 × Int, ∀ nm, sRead ⟨fs, off, armed, left⟩ nm = rd nm := ⟨_, fun _ => rfl⟩
  have C1 := Lib.hid (show ∀ nm w', nm.length ≤ maxLen → Upd NoF w w' → Calls Try.prog 15 #[ptrV d, strV nm] w' (BytesErr w' (rd nm)) from fun nm w' hl hu => by
    rw [← hrd]
    exact read_spec (hd.upd hu (fun _ _ h => h)) nm hl)
  have C2 := Lib.hid (show ∀ nm w', Upd NoF w w' → Calls Try.prog 22 #[ptrV m, strV nm] w' (BytesErr w' (rd nm)) from fun nm w' hu => by
    rw [← hrd]
    exact rread_spec (hm.upd hu (fun _ _ h => h)) nm)
  clear hd hm hcd hns hrd
  go_enter Try.func23, Try.ntmps23
  go_wp2_with fail
  refine (files_spec HD.out (by simp only; omega)).mono ?_
  simp only
  rw [← HNS.out]
  rintro e w1 ⟨A, c, rfl, hn1⟩
  have N1 := Lib.hid hn1
  clear hn1
  go_wp2_with fail
  refine (rfiles_spec (HM.out.upd N1.out.2.2 (fun _ _ h => h)) hL).mono ?_
  simp only
  rw [← HNS.out]
  rintro e w2 ⟨A', c', rfl, hn2⟩
  have N2 := Lib.hid hn2
  have U2 := Lib.hid (N1.out.2.2.trans hn2.2.2 (fun _ _ h => h))
  have cd := HCD.out w2 U2.out
  have t0 : (ns.length == ns.length) = true := by simp
  have COFF := Lib.hid (show ∀ n, Calls Try.prog 18 #[ptrV d] (w2.drewN n) fun e w'' => e = .returned (.bool off) ∧ ∃ q, w'' = w2.drewN q from fun n => (off_spec (HD.out.upd (U2.out.drewN n) (fun _ _ h => h))).mono fun e w'' ⟨a, b⟩ => ⟨a, n, b.symm⟩)
  clear hn2
  cases off
  all_goals
    go_wp2
    go_quiet ((go_at_call 18; exact COFF.out _))
    go_wp2
    go_loopw [7] (fun i wr => SameRel w2 ns.length i wr) (fun i _ => ns.length - (intOf i).toNat)
    case atStart => exact ⟨0, Nat.zero_le _, rfl, (Upd.refl NoF w2).drewN nq⟩
    case round =>
      obtain ⟨k, hk, rfl, hU⟩ := hrel
      by_cases hlt : k < ns.length
      · obtain ⟨nm, hnm⟩ : ∃ nm, ns[k]? = some nm := ⟨_, List.getElem?_eq_getElem hlt⟩
        have hnl2 : nm.length ≤ maxLen := by
          have e := List.mem_of_getElem? hnm
          rw [HNS.out] at e
          obtain ⟨p, hp, rfl⟩ := List.mem_map.1 e
          exact HNM.out p hp
        obtain ⟨ga, hA, q1⟩ := strs_at N1.out.1 (N2.out.2.2.trans hU (fun _ _ h => h)) hnm
        obtain ⟨gb, hA', q2⟩ := strs_at N2.out.1 hU hnm
        subst hA hA'
        have t1 : decide ((k : Int) < ns.length) = true := by simpa using hlt
        have t2 : (0:Int) ≤ k := by omega
        have t3 : (k:Int) < ns.length := by omega
        have HU := Lib.hid hU
        have HNK := Lib.hid hnm
        obtain ⟨r, hr⟩ : ∃ r, rd nm = r := ⟨_, rfl⟩
        have D1 := Lib.hid (C1.out nm wr hnl2 (U2.out.trans hU (fun _ _ h => h)))
        have D2 := Lib.hid (show ∀ w4, Upd NoF wr w4 → Calls Try.prog 22 #[ptrV m, strV nm] w4 (BytesErr w4 (rd nm)) from fun w4 h4 => C2.out nm w4 ((U2.out.trans hU (fun _ _ h => h)).trans h4 (fun _ _ h => h)))
        rw [hr] at D1 D2
        clear hU hnm hr
        obtain ⟨bs, code⟩ := r
        go_wp2_with fail
        refine D1.out.mono ?_
        rintro e w3 ⟨A3, c3, rfl, hn3⟩
        have N3 := Lib.hid hn3
        have D2' := Lib.hid (D2.out w3 hn3.2.2)
        have q3 := hn3.2.2.cell q2 (fun h => h)
        clear hn3
        go_wp2_with fail
        refine D2'.out.mono ?_
        rintro e w4 ⟨A4, c4, rfl, hn4⟩
        have hstr1 : ∀ n, (convert 27 9 (.slice A3 bs.length c3)).run Try.prog (w4.drewN n) = .ok (strV bs) (w4.drewN n) := fun n => run_str (N3.out.1.upd (hn4.2.2.drewN n) (fun _ _ h => h)).rd
        have hstr2 : ∀ n, (convert 27 9 (.slice A4 bs.length c4)).run Try.prog (w4.drewN n) = .ok (strV bs) (w4.drewN n) := fun n => run_str (hn4.1.upd ((Upd.refl NoF w4).drewN n) (fun _ _ h => h)).rd
        have q4 := hn4.2.2.cell q3 (fun h => h)
        have q5 := hn4.2.2.cell (N3.out.2.2.cell q1 (fun h => h)) (fun h => h)
        have N4 := Lib.hid hn4
        clear hn4 q1 q2 q3
        go_wp2
        go_quiet (fail)
        go_wp2
        go_roundw
        case rel => exact ⟨k + 1, by omega, by go_num, ((HU.out.trans N3.out.2.2 (fun _ _ h => h)).trans N4.out.2.2 (fun _ _ h => h)).drewN _⟩
        case measure => simp [intOf]; omega
      · have t1 : decide ((k : Int) < ns.length) = false := by simp; omega
        have HU := Lib.hid hU
        clear hU
        go_wp2
        go_ret
        exact ⟨rfl, U2.out.trans HU.out (fun _ _ h => h)⟩
end Go.Proofs.Ytmapijpphnlcmaa
