/- DiskActs returns true. No condition. -/
import Derived.Test.YtmapijpphnlcmaaActs4
import Derived.Test.YtmapijpphnlcmaaActs6
import Derived.Deep.RegionHeld3
namespace Go.Proofs.Ytmapijpphnlcmaa
open Go.RowKit

def ActsRel (w : World) (l : List ActR) (d m : Nat) (i : Value) (wr : World) : Prop := ∃ (k : Nat) (s : DSt), k ≤ l.length ∧ i = .int .i64 k ∧ Both w d m s wr ∧ Bnd s k

theorem ref_new (w : World) : RefAt (w.alloc (.cells #[.slice none 0 0, .bool false, .int .i64 0, .bool false] 43)) w.heap.size sNew (fun k => k = w.heap.size) := by
  refine ⟨.slice none 0 0, [], ⟨Blk.new w _ _, Own.nil _ _ _, fun r hr => (by cases hr), by simp [sNew], fun r hr => (by cases hr), by simp⟩, rfl, ?_⟩
  funext k
  simp [refFoot, OwnB, Value.ownBlock]

theorem both_new {w w0 w1 : World} (h0 : Upd NoF w w0) (h : Dk w0 NoF (w0.heap.size + 1) sNew w1) : Both w (w0.heap.size + 1) w1.heap.size sNew (w1.alloc (.cells #[.slice none 0 0, .bool false, .int .i64 0, .bool false] 43)) := by
  obtain ⟨F, a, b, c⟩ := h
  have hz := h0.size
  have hb := b.size
  refine ⟨F, _, a.upd ((Upd.refl NoF w1).alloc _) (fun _ _ h => h), ref_new w1, fun j f e => ?_, fun j f => ?_, fun j e => ?_, ?_⟩
  · have := a.lt f; omega
  · rcases c j f with h | h
    · exact h.elim
    · omega
  · have e : j = w1.heap.size := e
    omega
  · exact ((h0.trans b (fun _ _ h => h)).mono (fun _ _ h => h.elim)).alloc _

theorem Both.read {w wr : World} {d m : Nat} {s : DSt} (h : Both w d m s wr) {nm : List UInt8} (hl : nm.length ≤ maxLen) : Calls Try.prog 15 #[ptrV d, strV nm] wr (BytesErr wr (sRead s nm)) := by
  obtain ⟨F, G, a, _⟩ := h
  exact read_spec a nm hl
theorem Both.rread {w wr : World} {d m : Nat} {s : DSt} (h : Both w d m s wr) (nm : List UInt8) : Calls Try.prog 22 #[ptrV m, strV nm] wr (BytesErr wr (sRead s nm)) := by
  obtain ⟨F, G, _, b, _⟩ := h
  exact rread_spec b nm
theorem Both.same {w wr : World} {d m : Nat} {s : DSt} (h : Both w d m s wr) (hL : s.fs.length ≤ 4294967296) : Calls Try.prog 23 #[ptrV d, ptrV m] wr fun e w' => e = .returned (.bool true) ∧ Upd NoF wr w' := by
  obtain ⟨fs, off, armed, left⟩ := s
  obtain ⟨F, G, a, b, _⟩ := h
  exact same_spec a b hL

set_option maxRecDepth 100000 in
set_option maxHeartbeats 4000000 in
theorem acts_any {w : World} {v : Value} {l : List ActR} (h : RdActs (Ab w) w v l) : Calls Try.prog 6 #[v] w fun e w' => e = .returned (.bool true) ∧ Upd (Ab w) w w' := by
  have HV := Lib.hid (heavy_any h)
  obtain ⟨A, c, rfl, hn, hc, hx⟩ := h.form
  unfold maxLen at hc
  have HX := Lib.hid hx
  have H := Lib.hid h
  clear h hx
  go_enter Try.func6, Try.ntmps6
  go_wp2_with fail
  refine HV.out.mono ?_
  rintro e w0 ⟨b, rfl, hsm, hu0⟩
  have U0 := Lib.hid hu0
  clear hu0
  cases b with
  | true =>
    go_wp2_with fail
    refine (awake30 w0).mono ?_
    rintro e w1 ⟨rfl, hu1⟩
    go_wp2
    go_ret
    exact ⟨rfl, (U0.out.trans hu1 (fun _ _ h => h)).mono (fun _ _ h => h.elim)⟩
  | false =>
    have SM := Lib.hid (hsm rfl)
    clear hsm
    go_wp2_with fail
    refine (new_dk w0).mono ?_
    rintro e w1 ⟨rfl, hd1⟩
    have B0 := Lib.hid (both_new U0.out hd1)
    clear hd1
    go_wp2
    go_loopw [5] (fun i wr => ActsRel w l (w0.heap.size + 1) w1.heap.size i wr) (fun i _ => l.length - (intOf i).toNat)
    case atStart => exact ⟨0, sNew, Nat.zero_le _, rfl, B0.out, fun p hp => (by cases hp), Nat.zero_le _⟩
    case round =>
      obtain ⟨k, s, hk, rfl, hB, hbnd⟩ := hrel
      by_cases hlt : k < l.length
      · obtain ⟨g, o, rfl, hcell⟩ := HX.out (by omega)
        obtain ⟨a, ha⟩ : ∃ a, l[k]? = some a := ⟨_, List.getElem?_eq_getElem hlt⟩
        have hao := H.out.2 a (List.mem_of_getElem? ha)
        have hda := SM.out.2 a (List.mem_of_getElem? ha)
        have hk2 : k ≤ 200 := by have := SM.out.1; omega
        obtain ⟨kind, nm, to, dv, data, n, pv, picks⟩ := a
        obtain ⟨A0, c0, e0, _⟩ := hao.data.now
        obtain ⟨A1, c1, e1, _⟩ := hao.picks.now
        simp only at e0 e1 hda
        subst e0 e1
        have hbd := bnd_do hbnd hB.durs ⟨kind, nm, to, .slice A0 data.length c0, data, n, .slice A1 picks.length c1, picks⟩ hda
        have CD := both_do (hB.upd ((Upd.refl NoF wr).drew)) ⟨kind, nm, to, .slice A0 data.length c0, data, n, .slice A1 picks.length c1, picks⟩ hao hbnd hk2 hda
        have hnl := hao.nl
        obtain ⟨r, hr⟩ : ∃ r, sDo s ⟨kind, nm, to, .slice A0 data.length c0, data, n, .slice A1 picks.length c1, picks⟩ = r := ⟨_, rfl⟩
        rw [hr] at CD hbd
        obtain ⟨code, s'⟩ := r
        have KC := Lib.hid (show ∀ w', Upd (Ab w) w w' → w'.cell? ⟨g, o + k * 6, none⟩ = some (.int .i64 kind) ∧ w'.cell? ⟨g, o + k * 6 + 1, none⟩ = some (strV nm) ∧ w'.cell? ⟨g, o + k * 6 + 2, none⟩ = some (strV to) ∧ w'.cell? ⟨g, o + k * 6 + 3, none⟩ = some (.slice A0 data.length c0) ∧ w'.cell? ⟨g, o + k * 6 + 4, none⟩ = some (.int .i64 n) ∧ w'.cell? ⟨g, o + k * 6 + 5, none⟩ = some (.slice A1 picks.length c1) from fun w' hu => hcell w' hu k _ ha)
        obtain ⟨q0, q1, q2, q3, q4, q5⟩ := KC.out wr hB.out
        have HCD := Lib.hid CD
        have HBD := Lib.hid hbd
        have HNL := Lib.hid hnl
        have t1 : decide ((k : Int) < l.length) = true := by simpa using hlt
        have t2 : (0:Int) ≤ k := by omega
        have t3 : (k:Int) < l.length := by omega
        clear hcell ha hao hda hbd CD hnl hr hB hbnd
        go_wp2
        go_region_held3 (fun w' => w'.cell? ⟨g, o + k * 6, none⟩ = some (.int .i64 kind) ∧ w'.cell? ⟨g, o + k * 6 + 1, none⟩ = some (strV nm) ∧ w'.cell? ⟨g, o + k * 6 + 2, none⟩ = some (strV to) ∧ w'.cell? ⟨g, o + k * 6 + 3, none⟩ = some (.slice A0 data.length c0) ∧ w'.cell? ⟨g, o + k * 6 + 4, none⟩ = some (.int .i64 n) ∧ w'.cell? ⟨g, o + k * 6 + 5, none⟩ = some (.slice A1 picks.length c1))
          (first | exact ⟨q0, q1, q2, q3, q4, q5⟩ | exact ⟨p0, p1, p2, p3, p4, p5⟩ | exact ⟨z0, z1, z2, z3, z4, z5⟩)
          (first
            | (go_at_call 20; refine HCD.out.mono ?_; rintro e w2 ⟨rfl, hu2, hc2⟩; obtain ⟨p0, p1, p2, p3, p4, p5⟩ := KC.out w2 hu2; have C2 := Lib.hid hc2; clear hu2 hc2)
            | (go_at_call 21; refine C2.out.mono ?_; rintro e w3 ⟨rfl, hb3⟩; obtain ⟨z0, z1, z2, z3, z4, z5⟩ := KC.out w3 hb3.out; have B3 := Lib.hid hb3; clear hb3))
        obtain ⟨r, hr⟩ : ∃ r, sRead s' nm = r := ⟨_, rfl⟩
        have R1 := Lib.hid (B3.out.read HNL.out)
        have R2 := Lib.hid (show ∀ w4, Upd NoF w3 w4 → Calls Try.prog 22 #[ptrV w1.heap.size, strV nm] w4 (BytesErr w4 (sRead s' nm)) from fun w4 h4 => (B3.out.upd h4).rread nm)
        rw [hr] at R1 R2
        obtain ⟨bs, ec⟩ := r
        clear hr q0 q1 q2 q3 q4 q5 p0 p1 p2 p3 p4 p5 z0 z2 z3 z4 z5
        go_wp2_with fail
        refine R1.out.mono ?_
        rintro e w4 ⟨A4, c4, rfl, hn4⟩
        have N4 := Lib.hid hn4
        have R2' := Lib.hid (R2.out w4 hn4.2.2)
        have z4 := hn4.2.2.cell z1 (fun h => h)
        clear hn4 z1
        go_wp2_with fail
        refine R2'.out.mono ?_
        rintro e w5 ⟨A5, c5, rfl, hn5⟩
        have hstr1 : (convert 27 9 (.slice A4 bs.length c4)).run Try.prog w5 = .ok (strV bs) w5 := run_str (N4.out.1.upd hn5.2.2 (fun _ _ h => h)).rd
        have hstr2 : (convert 27 9 (.slice A5 bs.length c5)).run Try.prog w5 = .ok (strV bs) w5 := run_str hn5.1.rd
        have B5 := Lib.hid ((B3.out.upd N4.out.2.2).upd hn5.2.2)
        have SB := Lib.hid (B5.out.same (by have := HBD.out.2; omega))
        clear hn5 z4
        go_wp2_with fail
        refine SB.out.mono ?_
        rintro e w6 ⟨rfl, hu6⟩
        have B6 := Lib.hid (B5.out.upd hu6)
        clear hu6
        go_wp2
        go_roundw
        case rel => exact ⟨k + 1, s', by omega, by go_num, B6.out, HBD.out⟩
        case measure => simp [intOf]; omega
      · have t1 : decide ((k : Int) < l.length) = false := by simp; omega
        have HB := Lib.hid hB
        clear hB hbnd
        go_wp2_with fail
        refine (awake30 wr).mono ?_
        rintro e w2 ⟨rfl, hu2⟩
        go_wp2
        go_ret
        exact ⟨rfl, HB.out.out.trans hu2 (fun _ _ h => h.elim)⟩
end Go.Proofs.Ytmapijpphnlcmaa
