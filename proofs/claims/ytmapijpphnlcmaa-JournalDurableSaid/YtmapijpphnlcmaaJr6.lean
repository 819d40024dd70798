/- Package journal: note, Records, Open. Conditions: sizes. -/
import Derived.Test.YtmapijpphnlcmaaJr5
namespace Go.Proofs.Ytmapijpphnlcmaa
open Go.RowKit

def noteB (dead : Bool) (code : Int) : Bool := dead || (code != 0 && code != 1)

set_option maxRecDepth 100000 in
theorem jnote_any {w : World} {j : Nat} {v0 v1 v2 v3 : Value} {dead : Bool} (h : Blk w j 99 #[v0, v1, v2, v3, .bool dead]) (code : Int) : Calls Try.prog 62 #[ptrV j, .int .i64 code] w fun e w' => e = retE code ∧ Blk w' j 99 #[v0, v1, v2, v3, .bool (noteB dead code)] ∧ Upd (fun k => k = j) w w' := by
  have c4 : w.cell? ⟨j, 4, none⟩ = some (.bool dead) := h.cell 4
  have f4 : w.frozen? ⟨j, 4, none⟩ = false := h.frozen 4
  have FIN := Lib.hid (show ∀ b, b = noteB dead code → Blk (w.setCell ⟨j, 4, none⟩ (.bool b)) j 99 #[v0, v1, v2, v3, .bool (noteB dead code)] ∧ Upd (fun k => k = j) w (w.setCell ⟨j, 4, none⟩ (.bool b)) from fun b hb => by
    subst hb
    exact ⟨h.put 4 _, (Upd.refl (fun k => k = j) w).setCell (p := ⟨j, 4, none⟩) (.inl rfl) _⟩)
  clear h
  cases dead with
  | true =>
    go_enter Try.func62, Try.ntmps62
    go_wp2
    go_ret
    exact ⟨rfl, FIN.out _ (by simp [noteB])⟩
  | false =>
    by_cases h0 : code = 0
    · subst h0
      go_enter Try.func62, Try.ntmps62
      go_wp2
      go_ret
      exact ⟨rfl, FIN.out _ (by simp [noteB])⟩
    · by_cases h1 : code = 1
      · subst h1
        go_enter Try.func62, Try.ntmps62
        go_wp2
        go_ret
        exact ⟨rfl, FIN.out _ (by simp [noteB])⟩
      · have t0 : (code == 0) = false := by simpa using h0
        have t0' : (code != 0) = true := by simpa using h0
        have t1 : (code == 1) = false := by simpa using h1
        have t1' : (code != 1) = true := by simpa using h1
        go_enter Try.func62, Try.ntmps62
        go_wp2
        go_ret
        exact ⟨rfl, FIN.out _ (by simp [noteB, h0, h1])⟩

def RecsPost (w : World) (l : List (List UInt8)) (e : Ending) (w' : World) : Prop := ∃ v F, e = .returned v ∧ RecsAt w' v l F ∧ (∀ k, F k → w.heap.size ≤ k) ∧ Upd NoF w w'
def RcRel (w : World) (l : List (List UInt8)) (out i : Value) (wr : World) : Prop :=
  ∃ (k : Nat) (A : Option Addr) (c : Nat) (vs : List Value), k ≤ l.length ∧ i = .int .i64 k ∧ out = .slice A (l.take k).length c ∧ RecsV wr (.slice A (l.take k).length c) (l.take k) vs ∧ (∀ j, RecsF (.slice A (l.take k).length c) vs j → w.heap.size ≤ j) ∧ Upd NoF w wr

set_option maxRecDepth 100000 in
set_option maxHeartbeats 4000000 in
theorem jRecords_any {w : World} {j d : Nat} {nm : List UInt8} {l : List (List UInt8)} {safe : Nat} {dead : Bool} {G : Nat → Prop} (h : JAt w j d nm l safe dead G) : Calls Try.prog 37 #[ptrV j] w (RecsPost w l) := by
  obtain ⟨i0, hi0, hz0, hz1, hz2⟩ := info_parts bytes_info
  obtain ⟨rv, vs0, h1, h2, _, hll, hbl, _⟩ := h
  obtain ⟨A0, c0, rfl, hlc, hcm⟩ := RecsAt.form ⟨vs0, h2, rfl⟩
  have hcm' : c0 ≤ 9223372036854775807 := by unfold maxLen at hcm; omega
  have cc : w.cell? ⟨j, 2, none⟩ = some (.slice A0 l.length c0) := h1.cell 2
  have HR := Lib.hid h2
  have HBL := Lib.hid hbl
  clear h1 h2 hcm hbl
  go_enter Try.func37, Try.ntmps37
  go_wp2
  go_loopw [3, 13] (fun out i wr => RcRel w l out i wr) (fun _ i _ => l.length - (intOf i).toNat)
  case atStart =>
    refine ⟨0, none, 0, [], Nat.zero_le _, rfl, by simp, ⟨by simpa using Own.nil _ _ _, fun i b h => (by simp at h)⟩, fun k hk => ?_, Upd.refl _ _⟩
    simp [RecsF, OwnB, Value.ownBlock] at hk
  case round =>
    obtain ⟨k, A, c, vs, hk, rfl, rfl, hV, hF, hU⟩ := hrel
    have htl : (l.take k).length = k := by simp; omega
    rw [htl] at hV hF ⊢
    have HV := Lib.hid hV
    have HF := Lib.hid hF
    have HU := Lib.hid hU
    have HT := Lib.hid htl
    clear hV hF hU htl
    by_cases hlt : k < l.length
    · obtain ⟨b, hb⟩ : ∃ b, l[k]? = some b := ⟨_, List.getElem?_eq_getElem hlt⟩
      obtain ⟨g, Au, cu, rfl, q1, q2⟩ := RecsAt.get (RecsAt.upd ⟨vs0, HR.out, rfl⟩ HU.out (fun _ _ h => h)) hb
      have hbb := HBL.out b (List.mem_of_getElem? hb)
      have CC := Lib.hid (clone_any _ b wr q2.rd (by omega))
      have HB := Lib.hid hb
      have t1 : decide ((k : Int) < l.length) = true := by simpa using hlt
      have t2 : (0:Int) ≤ k := by omega
      have t3 : (k:Int) < l.length := by omega
      clear hb q2
      go_wp2_with fail
      refine CC.out.mono ?_
      rintro e w4 ⟨A4, c4, rfl, hO4, hn4, hU4⟩
      have O4 := Lib.hid hO4
      have N4 := Lib.hid hn4
      have V4 := Lib.hid hU4
      clear hO4 hn4 hU4
      have OWN := Lib.hid (show Own (w4.alloc (.cells #[.slice A4 b.length c4] 27)) 27 1 (.slice A k c) k vs from by
        have := HV.out.1
        rw [HT.out] at this
        exact this.upd (V4.out.alloc _) (fun _ _ h => h))
      go_wp2_with (at_builtin; refine wpList_append_to _ rfl (.tmp 17) (.tmp 20) 22 rfl 27 i0 _ 1 24 Try.underlying22 hi0 hz0 hz1 hz2 rfl (.slice A k c) k vs rfl OWN.out (.slice (some ⟨w4.heap.size, 0, none⟩) 1 1) 1 [.slice A4 b.length c4] rfl (Rd.of_blk (Blk.new w4 _ _) (by omega) (by unfold maxLen; omega) rfl (by intro j u hu; cases j with | zero => simpa using hu | succ j => simp at hu)) (by simp [Value.oneCell']) (by unfold maxLen; omega) (by omega) ?_; intro A5 c5 w5 hown5 hupd5 hnew5; have O5 := Lib.hid hown5; have U5 := Lib.hid hupd5; have N5 := Lib.hid hnew5; clear hown5 hupd5 hnew5)
      go_roundw
      case rel =>
        have hT := HT.out
        have hV := HV.out
        have ho5 := O5.out
        have hu5 := U5.out
        have hn5 := N5.out
        have hF := HF.out
        have hnx : l.take (k + 1) = l.take k ++ [b] := by rw [List.take_add_one, HB.out]; rfl
        have hT1 : (l.take (k + 1)).length = k + 1 := by simp; omega
        have hVk : RecsV wr (.slice A (l.take k).length c) (l.take k) vs := by rw [hT]; exact hV
        obtain ⟨g1, g2⟩ := RecsV.push (b := b) (A' := A5) (c' := c5) (w1 := w5) hVk (V4.out.alloc _) (O4.out.upd ((Upd.refl NoF w4).alloc _) (fun _ _ h => h)) (by rw [hT]; exact ho5) (by rw [hT]; exact hu5) (by rw [hT]; exact hn5)
        rw [hT] at g1 g2
        have hwz := HU.out.size
        have hv4 := V4.out.size
        refine ⟨k + 1, A5, c5, vs ++ [.slice A4 b.length c4], by omega, by go_num, by rw [hT1], by rw [hnx, ← hnx, hT1, hnx]; exact g1, fun i hi => ?_, (HU.out.trans (V4.out.alloc _) (fun _ _ h => h)).trans hu5 (fun i hi e => by have := hF i (.inl e); omega)⟩
        rw [hT1] at hi
        rcases g2 i hi with e | e | e
        · exact hF i e
        · have := N4.out i e; omega
        · simp at e; omega
      case measure => simp [intOf]; omega
    · have t1 : decide ((k : Int) < l.length) = false := by simp; omega
      obtain rfl : k = l.length := by omega
      go_wp2
      go_ret
      refine ⟨_, _, rfl, ?_, HF.out, HU.out⟩
      have := HV.out
      rw [List.take_of_length_le (Nat.le_refl _)] at this
      exact ⟨vs, this, rfl⟩
set_option maxRecDepth 100000 in
theorem jRecords_nil (w : World) : Calls Try.prog 37 #[.pointer none] w fun e w' => e = .returned (.slice none 0 0) ∧ w = w' := by
  go_enter Try.func37, Try.ntmps37
  go_wp2
  go_ret
  exact ⟨rfl, rfl⟩
end Go.Proofs.Ytmapijpphnlcmaa
