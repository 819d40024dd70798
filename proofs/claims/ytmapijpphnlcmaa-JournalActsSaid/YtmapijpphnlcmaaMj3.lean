/- Package journal: records, Open. Conditions: those that each theorem states. -/
import Derived.Test.YtmapijpphnlcmaaMj2
namespace Go.Proofs.Ytmapijpphnlcmaa
section
open Go.RowKit

/-- A slice of slices of bytes that reads as l. -/
def RowsRd (w : World) (v : Value) (l : List (List UInt8)) : Prop :=
  ∃ A c, v = .slice A l.length c ∧ l.length ≤ maxLen ∧ (0 < l.length → ∃ g o, A = some ⟨g, o, none⟩ ∧ ∀ (i : Nat) b, l[i]? = some b → ∃ Au cu, w.cell? ⟨g, o + i, none⟩ = some (.slice Au b.length cu) ∧ Rd w 1 (.slice Au b.length cu) b.length (b.map byteV))
theorem RowsRd.keep {w w' : World} {v : Value} {l : List (List UInt8)} (h : RowsRd w v l) (hu : Upd NoF w w') : RowsRd w' v l := by
  obtain ⟨A, c, e, hm, hx⟩ := h
  refine ⟨A, c, e, hm, fun h0 => ?_⟩
  obtain ⟨g, o, e', hc⟩ := hx h0
  refine ⟨g, o, e', fun i b hb => ?_⟩
  obtain ⟨Au, cu, h1, h2⟩ := hc i b hb
  exact ⟨Au, cu, hu.cell h1 (fun h => h), h2.keep hu⟩
theorem RecsAt.rows {w : World} {v : Value} {l : List (List UInt8)} {F : Nat → Prop} (h : RecsAt w v l F) : RowsRd w v l := by
  obtain ⟨A, c, rfl, h1, h2⟩ := h.form
  refine ⟨A, c, rfl, by omega, fun h0 => ?_⟩
  obtain ⟨g, _, _, rfl, _⟩ := h.get (i := 0) (List.getElem?_eq_getElem h0)
  refine ⟨g, 0, rfl, fun i b hb => ?_⟩
  obtain ⟨g', Au, cu, e, h3, h4⟩ := h.get hb
  injection e with e
  injection e with e _
  subst e
  exact ⟨Au, cu, by simpa using h3, h4.rd⟩

def RowRel (w : World) (a b : List (List UInt8)) (i : Value) (wr : World) : Prop := ∃ k : Nat, k ≤ a.length ∧ i = .int .i64 k ∧ a.take k = b.take k ∧ Upd NoF w wr

set_option maxRecDepth 100000 in
set_option maxHeartbeats 2000000 in
theorem rows_any {w : World} {va vb : Value} {a b : List (List UInt8)} (ha : RowsRd w va a) (hb : RowsRd w vb b) : Calls Try.prog 27 #[va, vb] w fun e w' => e = .returned (.bool (a == b)) ∧ Upd NoF w w' := by
  obtain ⟨A, c, rfl, hma, hxa⟩ := id ha
  obtain ⟨B, d, rfl, hmb, hxb⟩ := id hb
  unfold maxLen at hma hmb
  have HA := Lib.hid hxa
  have HB := Lib.hid hxb
  clear ha hb hxa hxb
  by_cases hl : a.length = b.length
  · have t0 : ((a.length : Int) == (b.length : Int)) = true := by simp [hl]
    have t0' : ((a.length : Int) != (b.length : Int)) = false := by simp [hl]
    have t0n : (a.length == b.length) = true := by simp [hl]
    have t0n' : (a.length != b.length) = false := by simp [hl]
    have HL := Lib.hid hl
    clear hl
    go_enter Try.func27, Try.ntmps27
    go_wp2
    go_loopw [5] (fun i wr => RowRel w a b i wr) (fun i _ => a.length - (intOf i).toNat)
    case atStart => exact ⟨0, Nat.zero_le _, rfl, rfl, Upd.refl _ _⟩
    case round =>
      obtain ⟨k, hk, rfl, he, hU⟩ := hrel
      have HE := Lib.hid he
      have HU := Lib.hid hU
      clear he hU
      by_cases hlt : k < a.length
      · have hltb : k < b.length := by have := HL.out; omega
        obtain ⟨x, hx⟩ : ∃ x, a[k]? = some x := ⟨_, List.getElem?_eq_getElem hlt⟩
        obtain ⟨y, hy⟩ : ∃ y, b[k]? = some y := ⟨_, List.getElem?_eq_getElem hltb⟩
        obtain ⟨ga, oa, rfl, hca⟩ := HA.out (by omega)
        obtain ⟨gb, ob, rfl, hcb⟩ := HB.out (by omega)
        obtain ⟨Ax, cx, x1, x2⟩ := hca k x hx
        obtain ⟨By, cy, y1, y2⟩ := hcb k y hy
        have x3 := HU.out.cell x1 (fun h => h)
        have y3 := HU.out.cell y1 (fun h => h)
        have hs1 : ∀ q, (convert 27 9 (.slice Ax x.length cx)).run Try.prog (wr.drewN q) = .ok (strV x) (wr.drewN q) := fun q => run_str (x2.keep (HU.out.drewN q))
        have hs2 : ∀ q, (convert 27 9 (.slice By y.length cy)).run Try.prog (wr.drewN q) = .ok (strV y) (wr.drewN q) := fun q => run_str (y2.keep (HU.out.drewN q))
        have t1 : decide ((k : Int) < a.length) = true := by simpa using hlt
        have t2 : (0:Int) ≤ k := by omega
        have t3 : (k:Int) < a.length := by omega
        have t4 : (k:Int) < b.length := by omega
        have HX := Lib.hid hx
        have HY := Lib.hid hy
        clear hca hcb x1 x2 y1 y2 hx hy
        by_cases hq : x = y
        · subst hq
          go_wp2
          go_quiet (fail)
          go_wp2
          go_roundw
          case rel =>
            refine ⟨k + 1, by omega, by go_num, ?_, HU.out.drewN nq⟩
            rw [List.take_add_one, List.take_add_one, HE.out, HX.out, HY.out]
          case measure => simp [intOf]; omega
        · have q1 : (x == y) = false := by simpa using hq
          have q2 : (x != y) = true := by simpa using hq
          have HQ := Lib.hid hq
          have E := Lib.hid (show false = (a == b) from by
            symm
            rw [beq_eq_false_iff_ne]
            intro e
            subst e
            have h1 := HX.out
            rw [HY.out] at h1
            exact hq (Option.some.inj h1).symm)
          clear hq
          go_wp2
          go_quiet (fail)
          go_wp2
          go_ret
          exact ⟨congrArg (fun z => Ending.returned (.bool z)) E.out, HU.out.drewN nq⟩
      · have t1 : decide ((k : Int) < a.length) = false := by simp; omega
        have E := Lib.hid (show true = (a == b) from by
          symm
          rw [beq_iff_eq]
          have h1 := HE.out
          rwa [List.take_of_length_le (by omega), List.take_of_length_le (by have := HL.out; omega)] at h1)
        go_wp2
        go_ret
        exact ⟨congrArg (fun z => Ending.returned (.bool z)) E.out, HU.out⟩
  · have t0 : ((a.length : Int) == (b.length : Int)) = false := by simp; omega
    have t0' : ((a.length : Int) != (b.length : Int)) = true := by simp; omega
    have t0n : (a.length == b.length) = false := by simp; omega
    have t0n' : (a.length != b.length) = true := by simp; omega
    have E := Lib.hid (show false = (a == b) from by
      symm
      rw [beq_eq_false_iff_ne]
      intro e
      exact hl (by rw [e]))
    clear hl
    go_enter Try.func27, Try.ntmps27
    go_wp2
    go_ret
    exact ⟨congrArg (fun z => Ending.returned (.bool z)) E.out, Upd.refl _ _⟩

/-! ### journals -/
def JAt (w : World) (j d : Nat) (nm : List UInt8) (l : List (List UInt8)) (safe : Nat) (dead : Bool) (G : Nat → Prop) : Prop :=
  ∃ rv vs, Blk w j 99 #[ptrV d, strV nm, rv, .int .i64 safe, .bool dead] ∧ RecsV w rv l vs ∧ safe ≤ 1099511627776 ∧ l.length ≤ 1099511627776 ∧ (∀ b ∈ l, b.length ≤ 65536) ∧ G = fun k => k = j ∨ RecsF rv vs k

section
variable {w w' : World} {j d : Nat} {nm : List UInt8} {l : List (List UInt8)} {safe : Nat} {dead : Bool} {G H : Nat → Prop}
theorem JAt.recs (h : JAt w j d nm l safe dead G) : ∃ rv F, Blk w j 99 #[ptrV d, strV nm, rv, .int .i64 safe, .bool dead] ∧ RecsAt w rv l F ∧ (∀ k, F k → G k) ∧ G j := by
  obtain ⟨rv, vs, h1, h2, _, _, _, rfl⟩ := h
  exact ⟨rv, _, h1, ⟨vs, h2, rfl⟩, fun k hk => .inr hk, .inl rfl⟩
theorem JAt.upd (h : JAt w j d nm l safe dead G) (hu : Upd H w w') (hH : ∀ k, G k → ¬ H k) : JAt w' j d nm l safe dead G := by
  obtain ⟨rv, vs, h1, h2, h3, h4, h5, rfl⟩ := h
  obtain ⟨vs', h6, h7⟩ := RecsAt.upd ⟨vs, h2, rfl⟩ hu (fun k hk => hH k (.inr hk))
  exact ⟨rv, vs', hu.blk h1 (hH j (.inl rfl)), h6, h3, h4, h5, by rw [h7]⟩
theorem JAt.lt (h : JAt w j d nm l safe dead G) {k : Nat} (hk : G k) : k < w.heap.size := by
  obtain ⟨rv, vs, h1, h2, _, _, _, rfl⟩ := h
  rcases hk with rfl | hk
  · exact h1.lt
  · exact RecsAt.lt ⟨vs, h2, rfl⟩ hk
end

set_option maxRecDepth 100000 in
theorem jSynced_any {w : World} {j d : Nat} {nm : List UInt8} {l : List (List UInt8)} {safe : Nat} {dead : Bool} {G : Nat → Prop} (h : JAt w j d nm l safe dead G) : Calls Try.prog 38 #[ptrV j] w fun e w' => e = .returned (.int .i64 (safe : Int)) ∧ w = w' := by
  obtain ⟨rv, vs, h1, _⟩ := h
  have c3 : w.cell? ⟨j, 3, none⟩ = some (.int .i64 safe) := h1.cell 3
  clear h1
  go_enter Try.func38, Try.ntmps38
  go_wp2
  go_ret
  exact ⟨rfl, rfl⟩
set_option maxRecDepth 100000 in
theorem jSynced_nil (w : World) : Calls Try.prog 38 #[.pointer none] w fun e w' => e = .returned (.int .i64 0) ∧ w = w' := by
  go_enter Try.func38, Try.ntmps38
  go_wp2
  go_ret
  exact ⟨rfl, rfl⟩
end

section
open Go.RowKit

def noteB (dead : Bool) (code : Int) : Bool := dead || (code != 0 && code != 1)

set_option maxRecDepth 100000 in
theorem jnote_any {w : World} {j : Nat} {v0 v1 v2 v3 : Value} {dead : Bool} (h : Blk w j 99 #[v0, v1, v2, v3, .bool dead]) (code : Int) : Calls Try.prog 62 #[ptrV j, .int .i64 code] w fun e w' => e = retE code ∧ Blk w' j 99 #[v0, v1, v2, v3, .bool (noteB dead code)] ∧ Upd (fun k => k = j) w w' := by
  have c4 : w.cell? ⟨j, 4, none⟩ = some (.bool dead) := h.cell 4
  have f4 : w.frozen? ⟨j, 4, none⟩ = false := h.frozen 4
  have FIN := Lib.hid (show ∀ b, b = noteB dead code → Blk (w.setCell ⟨j, 4, none⟩ (.bool b)) j 99 #[v0, v1, v2, v3, .bool (noteB dead code)] ∧ Upd (fun k => k = j) w (w.setCell ⟨j, 4, none⟩ (.bool b)) from fun b hb => by
    subst hb
    exact ⟨h.put 4 _, (Upd.refl (fun k => k = j) w).setCell (p := ⟨j, 4, none⟩) (.inl rfl) _⟩)
  clear h
  cases dead with
  | true =>
    go_enter Try.func62, Try.ntmps62
    go_wp2
    go_ret
    exact ⟨rfl, FIN.out _ (by simp [noteB])⟩
  | false =>
    by_cases h0 : code = 0
    · subst h0
      go_enter Try.func62, Try.ntmps62
      go_wp2
      go_ret
      exact ⟨rfl, FIN.out _ (by simp [noteB])⟩
    · by_cases h1 : code = 1
      · subst h1
        go_enter Try.func62, Try.ntmps62
        go_wp2
        go_ret
        exact ⟨rfl, FIN.out _ (by simp [noteB])⟩
      · have t0 : (code == 0) = false := by simpa using h0
        have t0' : (code != 0) = true := by simpa using h0
        have t1 : (code == 1) = false := by simpa using h1
        have t1' : (code != 1) = true := by simpa using h1
        go_enter Try.func62, Try.ntmps62
        go_wp2
        go_ret
        exact ⟨rfl, FIN.out _ (by simp [noteB, h0, h1])⟩

def RecsPost (w : World) (l : List (List UInt8)) (e : Ending) (w' : World) : Prop := ∃ v F, e = .returned v ∧ RecsAt w' v l F ∧ (∀ k, F k → w.heap.size ≤ k) ∧ Upd NoF w w'
def RcRel (w : World) (l : List (List UInt8)) (out i : Value) (wr : World) : Prop :=
  ∃ (k : Nat) (A : Option Addr) (c : Nat) (vs : List Value), k ≤ l.length ∧ i = .int .i64 k ∧ out = .slice A (l.take k).length c ∧ RecsV wr (.slice A (l.take k).length c) (l.take k) vs ∧ (∀ j, RecsF (.slice A (l.take k).length c) vs j → w.heap.size ≤ j) ∧ Upd NoF w wr

set_option maxRecDepth 100000 in
set_option maxHeartbeats 4000000 in
theorem jRecords_any {w : World} {j d : Nat} {nm : List UInt8} {l : List (List UInt8)} {safe : Nat} {dead : Bool} {G : Nat → Prop} (h : JAt w j d nm l safe dead G) : Calls Try.prog 37 #[ptrV j] w (RecsPost w l) := by
  obtain ⟨i0, hi0, hz0, hz1, hz2⟩ := info_parts bytes_info
  obtain ⟨rv, vs0, h1, h2, _, hll, hbl, _⟩ := h
  obtain ⟨A0, c0, rfl, hlc, hcm⟩ := RecsAt.form ⟨vs0, h2, rfl⟩
  have hcm' : c0 ≤ 9223372036854775807 := by unfold maxLen at hcm; omega
  have cc : w.cell? ⟨j, 2, none⟩ = some (.slice A0 l.length c0) := h1.cell 2
  have HR := Lib.hid h2
  have HBL := Lib.hid hbl
  clear h1 h2 hcm hbl
  go_enter Try.func37, Try.ntmps37
  go_wp2
  go_loopw [3, 13] (fun out i wr => RcRel w l out i wr) (fun _ i _ => l.length - (intOf i).toNat)
  case atStart =>
    refine ⟨0, none, 0, [], Nat.zero_le _, rfl, by simp, ⟨by simpa using Own.nil _ _ _, fun i b h => (by simp at h)⟩, fun k hk => ?_, Upd.refl _ _⟩
    simp [RecsF, OwnB, Value.ownBlock] at hk
  case round =>
    obtain ⟨k, A, c, vs, hk, rfl, rfl, hV, hF, hU⟩ := hrel
    have htl : (l.take k).length = k := by simp; omega
    rw [htl] at hV hF ⊢
    have HV := Lib.hid hV
    have HF := Lib.hid hF
    have HU := Lib.hid hU
    have HT := Lib.hid htl
    clear hV hF hU htl
    by_cases hlt : k < l.length
    · obtain ⟨b, hb⟩ : ∃ b, l[k]? = some b := ⟨_, List.getElem?_eq_getElem hlt⟩
      obtain ⟨g, Au, cu, rfl, q1, q2⟩ := RecsAt.get (RecsAt.upd ⟨vs0, HR.out, rfl⟩ HU.out (fun _ _ h => h)) hb
      have hbb := HBL.out b (List.mem_of_getElem? hb)
      have CC := Lib.hid (clone_any _ b wr q2.rd (by omega))
      have HB := Lib.hid hb
      have t1 : decide ((k : Int) < l.length) = true := by simpa using hlt
      have t2 : (0:Int) ≤ k := by omega
      have t3 : (k:Int) < l.length := by omega
      clear hb q2
      go_wp2_with fail
      refine CC.out.mono ?_
      rintro e w4 ⟨A4, c4, rfl, hO4, hn4, hU4⟩
      have O4 := Lib.hid hO4
      have N4 := Lib.hid hn4
      have V4 := Lib.hid hU4
      clear hO4 hn4 hU4
      have OWN := Lib.hid (show Own (w4.alloc (.cells #[.slice A4 b.length c4] 27)) 27 1 (.slice A k c) k vs from by
        have := HV.out.1
        rw [HT.out] at this
        exact this.upd (V4.out.alloc _) (fun _ _ h => h))
      go_wp2_with (at_builtin; refine wpList_append_to _ rfl (.tmp 17) (.tmp 20) 22 rfl 27 i0 _ 1 24 Try.underlying22 hi0 hz0 hz1 hz2 rfl (.slice A k c) k vs rfl OWN.out (.slice (some ⟨w4.heap.size, 0, none⟩) 1 1) 1 [.slice A4 b.length c4] rfl (Rd.of_blk (Blk.new w4 _ _) (by omega) (by unfold maxLen; omega) rfl (by intro j u hu; cases j with | zero => simpa using hu | succ j => simp at hu)) (by simp [Value.oneCell']) (by unfold maxLen; omega) (by omega) ?_; intro A5 c5 w5 hown5 hupd5 hnew5; have O5 := Lib.hid hown5; have U5 := Lib.hid hupd5; have N5 := Lib.hid hnew5; clear hown5 hupd5 hnew5)
      go_roundw
      case rel =>
        have hT := HT.out
        have hV := HV.out
        have ho5 := O5.out
        have hu5 := U5.out
        have hn5 := N5.out
        have hF := HF.out
        have hnx : l.take (k + 1) = l.take k ++ [b] := by rw [List.take_add_one, HB.out]; rfl
        have hT1 : (l.take (k + 1)).length = k + 1 := by simp; omega
        have hVk : RecsV wr (.slice A (l.take k).length c) (l.take k) vs := by rw [hT]; exact hV
        obtain ⟨g1, g2⟩ := RecsV.push (b := b) (A' := A5) (c' := c5) (w1 := w5) hVk (V4.out.alloc _) (O4.out.upd ((Upd.refl NoF w4).alloc _) (fun _ _ h => h)) (by rw [hT]; exact ho5) (by rw [hT]; exact hu5) (by rw [hT]; exact hn5)
        rw [hT] at g1 g2
        have hwz := HU.out.size
        have hv4 := V4.out.size
        refine ⟨k + 1, A5, c5, vs ++ [.slice A4 b.length c4], by omega, by go_num, by rw [hT1], by rw [hnx, ← hnx, hT1, hnx]; exact g1, fun i hi => ?_, (HU.out.trans (V4.out.alloc _) (fun _ _ h => h)).trans hu5 (fun i hi e => by have := hF i (.inl e); omega)⟩
        rw [hT1] at hi
        rcases g2 i hi with e | e | e
        · exact hF i e
        · have := N4.out i e; omega
        · simp at e; omega
      case measure => simp [intOf]; omega
    · have t1 : decide ((k : Int) < l.length) = false := by simp; omega
      obtain rfl : k = l.length := by omega
      go_wp2
      go_ret
      refine ⟨_, _, rfl, ?_, HF.out, HU.out⟩
      have := HV.out
      rw [List.take_of_length_le (Nat.le_refl _)] at this
      exact ⟨vs, this, rfl⟩
set_option maxRecDepth 100000 in
theorem jRecords_nil (w : World) : Calls Try.prog 37 #[.pointer none] w fun e w' => e = .returned (.slice none 0 0) ∧ w = w' := by
  go_enter Try.func37, Try.ntmps37
  go_wp2
  go_ret
  exact ⟨rfl, rfl⟩
end

section
open Go.RowKit

/-- What Open does: the error, the disk, the records. -/
def sOpen (s : DSt) (nm : List UInt8) : Int × DSt × List (List UInt8) :=
  let r := sRead s nm
  if r.2 ≠ 0 ∧ r.2 ≠ 6 then (r.2, s, []) else
  let p := parseS r.1
  let t := if p.2 < r.1.length then sTruncate s nm p.2 else (0, s)
  if t.1 ≠ 0 then (t.1, t.2, []) else
  let u := if r.2 = 0 then sSync t.2 nm else (0, t.2)
  if u.1 ≠ 0 then (u.1, u.2, []) else (0, u.2, p.1)

theorem sRead_six (s : DSt) (nm : List UInt8) (h : (sRead s nm).2 = 6) : (sRead s nm).1 = [] := by
  unfold sRead at h ⊢
  split at h
  · simp at h
  · split at h
    · simp at h
    · rename_i h1 h2
      rw [if_neg h1, if_neg h2]
      split at h
      · rfl
      · simp at h
theorem parse_nil : parseS [] = ([], 0) := by decide

theorem sOpen_err {s : DSt} {nm bs : List UInt8} {code : Int} (hr : sRead s nm = (bs, code)) (h0 : code ≠ 0) (h6 : code ≠ 6) : sOpen s nm = (code, s, []) := by simp [sOpen, hr, h0, h6]
theorem sOpen_none {s : DSt} {nm : List UInt8} (hr : sRead s nm = ([], 6)) : sOpen s nm = (0, s, []) := by simp [sOpen, hr, parse_nil]
theorem sOpen_cut {s : DSt} {nm bs : List UInt8} {l : List (List UInt8)} {n : Nat} (hr : sRead s nm = (bs, 0)) (hp : parseS bs = (l, n)) (hn : n < bs.length) : sOpen s nm = if (sTruncate s nm n).1 ≠ 0 then ((sTruncate s nm n).1, (sTruncate s nm n).2, []) else if (sSync (sTruncate s nm n).2 nm).1 ≠ 0 then ((sSync (sTruncate s nm n).2 nm).1, (sSync (sTruncate s nm n).2 nm).2, []) else (0, (sSync (sTruncate s nm n).2 nm).2, l) := by
  simp [sOpen, hr, hp, hn]
theorem sOpen_whole {s : DSt} {nm bs : List UInt8} {l : List (List UInt8)} {n : Nat} (hr : sRead s nm = (bs, 0)) (hp : parseS bs = (l, n)) (hn : ¬ n < bs.length) : sOpen s nm = if (sSync s nm).1 ≠ 0 then ((sSync s nm).1, (sSync s nm).2, []) else (0, (sSync s nm).2, l) := by
  simp [sOpen, hr, hp, hn]

theorem PAt.recs {bs : List UInt8} : ∀ (f : Nat) (l : List (List UInt8)) (a : Nat), (∀ b ∈ l, b.length ≤ 65536) → l.length * 12 ≤ a → a ≤ bs.length → (∀ b ∈ (parseF bs f l a).1, b.length ≤ 65536) ∧ (parseF bs f l a).1.length * 12 ≤ (parseF bs f l a).2 ∧ (parseF bs f l a).2 ≤ bs.length
  | 0, l, a, h1, h2, h3 => ⟨h1, h2, h3⟩
  | f + 1, l, a, h1, h2, h3 => by
    rw [parseF]
    cases hs : parseStep bs a l.length with
    | none => exact ⟨h1, h2, h3⟩
    | some x =>
      obtain ⟨r, a'⟩ := x
      obtain ⟨e1, e2, e3, e4⟩ := parseStep_le hs
      refine PAt.recs f (l ++ [r]) a' (fun b hb => ?_) (by simp; omega) e2
      rcases List.mem_append.1 hb with h | h
      · exact h1 b h
      · simp at h; subst h; exact e3
theorem parse_recs (bs : List UInt8) : (∀ b ∈ (parseS bs).1, b.length ≤ 65536) ∧ (parseS bs).1.length * 12 ≤ (parseS bs).2 ∧ (parseS bs).2 ≤ bs.length := PAt.recs _ [] 0 (by simp) (by simp) (by omega)

/-- Under way: the disk, and the records that have been read. -/
def OpenMid (w : World) (F : Nat → Prop) (d : Nat) (s : DSt) (v : Value) (l : List (List UInt8)) (wi : World) : Prop :=
  ∃ Fi FR, DiskAt wi d s Fi ∧ RecsAt wi v l FR ∧ (∀ k, Fi k → ¬ FR k) ∧ (∀ k, Fi k → F k ∨ w.heap.size ≤ k) ∧ (∀ k, FR k → w.heap.size ≤ k) ∧ Upd F w wi

section
variable {w wi : World} {F : Nat → Prop} {d : Nat} {s : DSt} {v : Value} {l : List (List UInt8)} {nm : List UInt8}

theorem OpenMid.call {r : Int × DSt} {f : FuncId} {args : Array Value} (h : OpenMid w F d s v l wi) (_hF : ∀ k, F k → k < w.heap.size) (hc : ∀ Fi, DiskAt wi d s Fi → Calls Try.prog f args wi (ErrPost wi d Fi r)) : Calls Try.prog f args wi fun e w' => e = retE r.1 ∧ OpenMid w F d r.2 v l w' := by
  obtain ⟨Fi, FR, h1, h2, h3, h4, h5, h6⟩ := h
  refine (hc Fi h1).mono ?_
  rintro e w' ⟨rfl, F', a1, a2, a3⟩
  refine ⟨rfl, F', FR, a1, h2.upd a2 (fun k hk e => h3 k e hk), fun k hk hr => ?_, fun k hk => ?_, h5, h6.trans a2 (fun k hk e => (h4 k e).resolve_right (by omega))⟩
  · rcases a3 k hk with e | e
    · exact h3 k e hr
    · have := h2.lt hr; omega
  · rcases a3 k hk with e | e
    · exact h4 k e
    · exact .inr (Nat.le_trans h6.size e)
theorem OpenMid.step (h : OpenMid w F d s v l wi) : DiskStep w d s F wi := by
  obtain ⟨Fi, FR, h1, h2, h3, h4, h5, h6⟩ := h
  exact ⟨Fi, h1, h6, h4⟩

theorem DiskStep.up {w w' : World} {d : Nat} {s : DSt} {F : Nat → Prop} (h : DiskStep w d s F w') : w.heap.size ≤ w'.heap.size := by
  obtain ⟨F', a, b, c⟩ := h
  exact b.size
theorem DiskStep.pre2 {w w' : World} {d : Nat} {s : DSt} {F : Nat → Prop} (h : DiskAt w d s F) (hu : Upd NoF w w') : DiskStep w d s F w' := ⟨F, h.upd hu (fun _ _ h => h), hu.mono (fun _ _ h => h.elim), fun _ hk => .inl hk⟩

def OpenPost (w : World) (F : Nat → Prop) (d : Nat) (nm : List UInt8) (r : Int × DSt × List (List UInt8)) (e : Ending) (w' : World) : Prop :=
  (r.1 = 0 ∧ ∃ j F' G', e = .returned (.tuple #[ptrV j, .int .i64 0]) ∧ DiskAt w' d r.2.1 F' ∧ JAt w' j d nm r.2.2 r.2.2.length false G' ∧ (∀ k, F' k → ¬ G' k) ∧ (∀ k, F' k → F k ∨ w.heap.size ≤ k) ∧ (∀ k, G' k → w.heap.size ≤ k) ∧ Upd F w w') ∨
  (r.1 ≠ 0 ∧ e = .returned (.tuple #[.pointer none, .int .i64 r.1]) ∧ DiskStep w d r.2.1 F w')

theorem OpenMid.done (h : OpenMid w F d s v l wi) (hl : ∀ b ∈ l, b.length ≤ 65536) (hn : l.length ≤ 1099511627776) (hw : w.heap.size ≤ wi.heap.size) : OpenPost w F d nm (0, s, l) (.returned (.tuple #[ptrV wi.heap.size, .int .i64 0])) (wi.alloc (.cells #[ptrV d, strV nm, v, .int .i64 (l.length : Int), .bool false] 99)) := by
  obtain ⟨Fi, FR, h1, h2, h3, h4, h5, h6⟩ := h
  have hu : Upd NoF wi (wi.alloc (.cells #[ptrV d, strV nm, v, .int .i64 (l.length : Int), .bool false] 99)) := (Upd.refl NoF wi).alloc _
  obtain ⟨vs, e1, e2⟩ := h2.upd hu (fun _ _ h => h)
  refine .inl ⟨rfl, wi.heap.size, Fi, _, rfl, h1.upd hu (fun _ _ h => h), ⟨v, vs, Blk.new wi _ _, e1, hn, hn, hl, rfl⟩, fun k hk hg => ?_, h4, fun k hg => ?_, h6.trans hu (fun _ _ h => h.elim)⟩
  · rcases hg with rfl | hg
    · have := h1.lt hk; omega
    · exact h3 k hk (by rw [e2]; exact hg)
  · rcases hg with rfl | hg
    · exact hw
    · exact h5 k (by rw [e2]; exact hg)

set_option maxRecDepth 100000 in
set_option maxHeartbeats 8000000 in
theorem jOpen_any (h : DiskAt w d s F) (nm : List UInt8) (hm : nm.length ≤ maxLen) (hb : (sRead s nm).1.length ≤ 549755813888) : Calls Try.prog 28 #[ptrV d, strV nm] w (OpenPost w F d nm (sOpen s nm)) := by
  have hFlt : ∀ k, F k → k < w.heap.size := fun k hk => h.lt hk
  have CR := Lib.hid (read_spec h nm hm)
  have SX := Lib.hid (sRead_six s nm)
  have H := Lib.hid h
  obtain ⟨r, hr⟩ : ∃ r, sRead s nm = r := ⟨_, rfl⟩
  rw [hr] at CR SX hb
  obtain ⟨bs, code⟩ := r
  simp only at SX hb
  obtain ⟨p, hp⟩ : ∃ p, parseS bs = p := ⟨_, rfl⟩
  have hpr := parse_recs bs
  have MID := Lib.hid (show ∀ w1 w2 v F2, Upd NoF w w1 → RecsAt w2 v (parseS bs).1 F2 → (∀ k, F2 k → w1.heap.size ≤ k) → Upd NoF w1 w2 → OpenMid w F d s v (parseS bs).1 w2 from fun w1 w2 v F2 u1 hr2 hf2 u2 => by
    have u12 : Upd NoF w w2 := u1.trans u2 (fun _ _ h => h)
    have hs1 := u1.size
    refine ⟨F, F2, h.upd u12 (fun _ _ h => h), hr2, fun k hk hk2 => ?_, fun k hk => .inl hk, fun k hk => ?_, u12.mono (fun _ _ h => h.elim)⟩
    · have := hFlt k hk; have := hf2 k hk2; omega
    · have := hf2 k hk; omega)
  rw [hp] at hpr MID
  obtain ⟨l, n⟩ := p
  simp only at hpr MID
  obtain ⟨hp1, hp2, hp3⟩ := hpr
  have CPP := Lib.hid (show ∀ w1 A c, Own w1 5 1 (.slice A bs.length c) bs.length (bs.map byteV) → Calls Try.prog 25 #[.slice A bs.length c] w1 (ParsePost w1 bs) from fun w1 A c ho => jParse_any ho.rd hb)
  have HL := Lib.hid hp1
  have HF := Lib.hid hFlt
  have HP := Lib.hid hp
  have hll : l.length ≤ 1099511627776 := by omega
  have HR := Lib.hid hr
  have HM := Lib.hid hm
  clear h hp hp1 hFlt hr hm
  by_cases h0 : code = 0
  · subst h0
    by_cases hn : n < bs.length
    · have t1 : decide ((n : Int) < (bs.length : Int)) = true := by simpa using hn
      have EQ := Lib.hid (sOpen_cut HR.out HP.out hn)
      rw [EQ.out]
      obtain ⟨t, ht⟩ : ∃ t, sTruncate s nm n = t := ⟨_, rfl⟩
      rw [ht]
      obtain ⟨tc, ts⟩ := t
      by_cases htc : tc = 0
      · subst htc
        obtain ⟨u, hu⟩ : ∃ u, sSync ts nm = u := ⟨_, rfl⟩
        simp only [ne_eq, not_true_eq_false, if_false]
        rw [hu]
        obtain ⟨uc, us⟩ := u
        by_cases huc : uc = 0
        · subst huc
          simp only [not_true_eq_false, if_false]
          go_enter Try.func28, Try.ntmps28
          go_wp2_with fail
          refine CR.out.mono ?_
          rintro e w1 ⟨A1, c1, rfl, hO1, hn1, hU1⟩
          have U1 := Lib.hid hU1
          have O1 := Lib.hid hO1
          clear hO1 hn1 hU1
          go_wp2_with fail
          refine (CPP.out w1 A1 c1 O1.out).mono ?_
          rw [show ParsePost w1 bs = fun e w' => ∃ v F, e = .returned (.tuple #[v, .int .i64 ((parseS bs).2 : Int)]) ∧ RecsAt w' v (parseS bs).1 F ∧ (∀ k, F k → w1.heap.size ≤ k) ∧ Upd NoF w1 w' from rfl, HP.out]
          rintro e w2 ⟨v, F2, rfl, hr2, hf2, hu2⟩
          obtain ⟨A2, c2, hv2, hlc2, hcm2⟩ := hr2.form
          subst hv2
          have M2 := Lib.hid (MID.out w1 w2 _ F2 U1.out hr2 hf2 hu2)
          clear hr2 hf2 hu2
          simp only at M2
          go_wp2_with fail
          refine (OpenMid.call M2.out HF.out (fun Fi hd => truncate_spec hd nm HM.out (n : Int) (by omega) (by omega))).mono ?_
          rw [ht]
          rintro e w4 ⟨rfl, hm4⟩
          have MM := Lib.hid hm4
          clear hm4
          go_wp2_with fail
          refine (OpenMid.call MM.out HF.out (fun Fi hd => sync_spec hd nm HM.out)).mono ?_
          rw [hu]
          rintro e w5 ⟨rfl, hm5⟩
          have M5 := Lib.hid hm5
          clear hm5
          simp only at M5
          go_wp2
          go_ret2
          exact OpenMid.done M5.out HL.out hll M5.out.step.up
        · simp only [huc, not_false_eq_true, if_true]
          have t3 : (uc == 0) = false := by simpa using huc
          have t3' : (uc != 0) = true := by simpa using huc
          have HUC := Lib.hid huc
          clear huc
          go_enter Try.func28, Try.ntmps28
          go_wp2_with fail
          refine CR.out.mono ?_
          rintro e w1 ⟨A1, c1, rfl, hO1, hn1, hU1⟩
          have U1 := Lib.hid hU1
          have O1 := Lib.hid hO1
          clear hO1 hn1 hU1
          go_wp2_with fail
          refine (CPP.out w1 A1 c1 O1.out).mono ?_
          rw [show ParsePost w1 bs = fun e w' => ∃ v F, e = .returned (.tuple #[v, .int .i64 ((parseS bs).2 : Int)]) ∧ RecsAt w' v (parseS bs).1 F ∧ (∀ k, F k → w1.heap.size ≤ k) ∧ Upd NoF w1 w' from rfl, HP.out]
          rintro e w2 ⟨v, F2, rfl, hr2, hf2, hu2⟩
          obtain ⟨A2, c2, hv2, hlc2, hcm2⟩ := hr2.form
          subst hv2
          have M2 := Lib.hid (MID.out w1 w2 _ F2 U1.out hr2 hf2 hu2)
          clear hr2 hf2 hu2
          simp only at M2
          go_wp2_with fail
          refine (OpenMid.call M2.out HF.out (fun Fi hd => truncate_spec hd nm HM.out (n : Int) (by omega) (by omega))).mono ?_
          rw [ht]
          rintro e w4 ⟨rfl, hm4⟩
          have MM := Lib.hid hm4
          clear hm4
          go_wp2_with fail
          refine (OpenMid.call MM.out HF.out (fun Fi hd => sync_spec hd nm HM.out)).mono ?_
          rw [hu]
          rintro e w5 ⟨rfl, hm5⟩
          have M5 := Lib.hid hm5
          clear hm5
          go_wp2
          go_ret2
          exact .inr ⟨HUC.out, rfl, M5.out.step⟩
      · simp only [ne_eq, htc, not_false_eq_true, if_true]
        have t2 : (tc == 0) = false := by simpa using htc
        have t2' : (tc != 0) = true := by simpa using htc
        have HTC := Lib.hid htc
        clear htc
        go_enter Try.func28, Try.ntmps28
        go_wp2_with fail
        refine CR.out.mono ?_
        rintro e w1 ⟨A1, c1, rfl, hO1, hn1, hU1⟩
        have U1 := Lib.hid hU1
        have O1 := Lib.hid hO1
        clear hO1 hn1 hU1
        go_wp2_with fail
        refine (CPP.out w1 A1 c1 O1.out).mono ?_
        rw [show ParsePost w1 bs = fun e w' => ∃ v F, e = .returned (.tuple #[v, .int .i64 ((parseS bs).2 : Int)]) ∧ RecsAt w' v (parseS bs).1 F ∧ (∀ k, F k → w1.heap.size ≤ k) ∧ Upd NoF w1 w' from rfl, HP.out]
        rintro e w2 ⟨v, F2, rfl, hr2, hf2, hu2⟩
        obtain ⟨A2, c2, hv2, hlc2, hcm2⟩ := hr2.form
        subst hv2
        have M2 := Lib.hid (MID.out w1 w2 _ F2 U1.out hr2 hf2 hu2)
        clear hr2 hf2 hu2
        simp only at M2
        go_wp2_with fail
        refine (OpenMid.call M2.out HF.out (fun Fi hd => truncate_spec hd nm HM.out (n : Int) (by omega) (by omega))).mono ?_
        rw [ht]
        rintro e w4 ⟨rfl, hm4⟩
        have M4 := Lib.hid hm4
        clear hm4
        go_wp2
        go_ret2
        exact .inr ⟨HTC.out, rfl, M4.out.step⟩
    · have t1 : decide ((n : Int) < (bs.length : Int)) = false := by simp; omega
      have EQ := Lib.hid (sOpen_whole HR.out HP.out hn)
      rw [EQ.out]
      obtain ⟨u, hu⟩ : ∃ u, sSync s nm = u := ⟨_, rfl⟩
      rw [hu]
      obtain ⟨uc, us⟩ := u
      by_cases huc : uc = 0
      · subst huc
        simp only [ne_eq, not_true_eq_false, if_false]
        go_enter Try.func28, Try.ntmps28
        go_wp2_with fail
        refine CR.out.mono ?_
        rintro e w1 ⟨A1, c1, rfl, hO1, hn1, hU1⟩
        have U1 := Lib.hid hU1
        have O1 := Lib.hid hO1
        clear hO1 hn1 hU1
        go_wp2_with fail
        refine (CPP.out w1 A1 c1 O1.out).mono ?_
        rw [show ParsePost w1 bs = fun e w' => ∃ v F, e = .returned (.tuple #[v, .int .i64 ((parseS bs).2 : Int)]) ∧ RecsAt w' v (parseS bs).1 F ∧ (∀ k, F k → w1.heap.size ≤ k) ∧ Upd NoF w1 w' from rfl, HP.out]
        rintro e w2 ⟨v, F2, rfl, hr2, hf2, hu2⟩
        obtain ⟨A2, c2, hv2, hlc2, hcm2⟩ := hr2.form
        subst hv2
        have M2 := Lib.hid (MID.out w1 w2 _ F2 U1.out hr2 hf2 hu2)
        clear hr2 hf2 hu2
        simp only at M2
        go_wp2_with fail
        refine (OpenMid.call M2.out HF.out (fun Fi hd => sync_spec hd nm HM.out)).mono ?_
        rw [hu]
        rintro e w5 ⟨rfl, hm5⟩
        have M5 := Lib.hid hm5
        clear hm5
        simp only at M5
        go_wp2
        go_ret2
        exact OpenMid.done M5.out HL.out hll M5.out.step.up
      · simp only [ne_eq, huc, not_false_eq_true, if_true]
        have t3 : (uc == 0) = false := by simpa using huc
        have t3' : (uc != 0) = true := by simpa using huc
        have HUC := Lib.hid huc
        clear huc
        go_enter Try.func28, Try.ntmps28
        go_wp2_with fail
        refine CR.out.mono ?_
        rintro e w1 ⟨A1, c1, rfl, hO1, hn1, hU1⟩
        have U1 := Lib.hid hU1
        have O1 := Lib.hid hO1
        clear hO1 hn1 hU1
        go_wp2_with fail
        refine (CPP.out w1 A1 c1 O1.out).mono ?_
        rw [show ParsePost w1 bs = fun e w' => ∃ v F, e = .returned (.tuple #[v, .int .i64 ((parseS bs).2 : Int)]) ∧ RecsAt w' v (parseS bs).1 F ∧ (∀ k, F k → w1.heap.size ≤ k) ∧ Upd NoF w1 w' from rfl, HP.out]
        rintro e w2 ⟨v, F2, rfl, hr2, hf2, hu2⟩
        obtain ⟨A2, c2, hv2, hlc2, hcm2⟩ := hr2.form
        subst hv2
        have M2 := Lib.hid (MID.out w1 w2 _ F2 U1.out hr2 hf2 hu2)
        clear hr2 hf2 hu2
        simp only at M2
        go_wp2_with fail
        refine (OpenMid.call M2.out HF.out (fun Fi hd => sync_spec hd nm HM.out)).mono ?_
        rw [hu]
        rintro e w5 ⟨rfl, hm5⟩
        have M5 := Lib.hid hm5
        clear hm5
        go_wp2
        go_ret2
        exact .inr ⟨HUC.out, rfl, M5.out.step⟩
  · have t0 : (code == 0) = false := by simpa using h0
    have t0' : (code != 0) = true := by simpa using h0
    by_cases h6 : code = 6
    · subst h6
      obtain rfl := SX.out rfl
      rw [sOpen_none HR.out]
      obtain ⟨rfl, rfl⟩ : l = [] ∧ n = 0 := by have := HP.out; rw [parse_nil] at this; simpa using this.symm
      go_enter Try.func28, Try.ntmps28
      go_wp2_with fail
      refine CR.out.mono ?_
      rintro e w1 ⟨A1, c1, rfl, hO1, hn1, hU1⟩
      have U1 := Lib.hid hU1
      have O1 := Lib.hid hO1
      clear hO1 hn1 hU1
      go_wp2_with fail
      refine (CPP.out w1 A1 c1 O1.out).mono ?_
      rw [show ParsePost w1 [] = fun e w' => ∃ v F, e = .returned (.tuple #[v, .int .i64 ((parseS []).2 : Int)]) ∧ RecsAt w' v (parseS []).1 F ∧ (∀ k, F k → w1.heap.size ≤ k) ∧ Upd NoF w1 w' from rfl, HP.out]
      rintro e w2 ⟨v, F2, rfl, hr2, hf2, hu2⟩
      obtain ⟨A2, c2, hv2, hlc2, hcm2⟩ := hr2.form
      subst hv2
      have M2 := Lib.hid (MID.out w1 w2 _ F2 U1.out hr2 hf2 hu2)
      clear hr2 hf2 hu2
      simp only at M2
      simp only [List.length_nil] at *
      go_wp2
      go_ret2
      have := OpenMid.done (nm := nm) M2.out HL.out hll M2.out.step.up
      exact this
    · have t6 : (code == 6) = false := by simpa using h6
      have t6' : (code != 6) = true := by simpa using h6
      rw [sOpen_err HR.out h0 h6]
      have H0 := Lib.hid h0
      clear h0 h6
      go_enter Try.func28, Try.ntmps28
      go_wp2_with fail
      refine CR.out.mono ?_
      rintro e w1 ⟨A1, c1, rfl, hO1, hn1, hU1⟩
      have U1 := Lib.hid hU1
      have O1 := Lib.hid hO1
      clear hO1 hn1 hU1
      go_wp2
      go_ret2
      exact .inr ⟨H0.out, rfl, DiskStep.pre2 H.out U1.out⟩
end
end
end Go.Proofs.Ytmapijpphnlcmaa
