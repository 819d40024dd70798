/- JournalDurable, the walk. No condition. -/
import Derived.Test.YtmapijpphnlcmaaJrE
namespace Go.Proofs.Ytmapijpphnlcmaa
open Go.RowKit

def DurRel (w : World) (n : Nat) (i : Value) (wr : World) : Prop := ∃ k : Nat, k ≤ n ∧ i = .int .i64 k ∧ Upd NoF w wr
def DRel (w : World) (d j : Nat) (l : List (List UInt8)) (tried i : Value) (wr : World) : Prop :=
  ∃ k sf left : Nat, k ≤ l.length ∧ sf ≤ k ∧ tried = .int .i64 k ∧ i = .int .i64 k ∧ AW w d ⟨dfs l k sf, false, true, left⟩ j [106] (l.take k) sf false wr ∧ ∀ r ∈ l.take k, r.length ≤ 200

/-- Open, with a list of records beside it. -/
theorem AW.openK {w0 w w1 : World} {d : Nat} {s : DSt} {j : Nat} {nm : List UInt8} {l : List (List UInt8)} {safe : Nat} {dead : Bool} (h : AW w0 d s j nm l safe dead w) (hu : Upd NoF w w1) {v : Value} {y : List (List UInt8)} {FR : Nat → Prop} (hr : RecsAt w1 v y FR) (hFR : ∀ k, FR k → w.heap.size ≤ k) (nm' : List UInt8) (hm : nm'.length ≤ maxLen) (hb : (sRead s nm').1.length ≤ 549755813888) :
    Calls Try.prog 28 #[ptrV d, strV nm'] w1 fun e w' => OpenAW w0 d nm' (sOpen s nm') j nm l safe dead e w' ∧ RecsAt w' v y FR := by
  obtain ⟨F, G, ⟨h1, h5, h6⟩, h2, h3, h4⟩ := h
  have hF : ∀ k, F k → k < w.heap.size := fun k hk => h1.lt hk
  have k1 : DiskAt w1 d s F := h1.upd hu (fun _ _ h => h)
  have k5 : JAt w1 j d nm l safe dead G := h5.upd hu (fun _ _ h => h)
  have k4 : Upd NoF w0 w1 := h4.trans hu (fun _ _ h => h)
  have hz := k4.size
  have hdis : ∀ k, FR k → ¬ F k := fun k hk hf => by have := hFR k hk; have := hF k hf; omega
  refine (jOpen_any k1 nm' hm hb).mono ?_
  rintro e w' (⟨e0, j', F', G', rfl, a1, a2, a3, a4, a5, a6⟩ | ⟨e0, rfl, F', a1, a2, a3⟩)
  · have q1 : ∀ k, F' k → w0.heap.size ≤ k := fun k hk => by
      rcases a4 k hk with e | e
      · exact h2 k e
      · omega
    have q2 : Upd NoF w0 w' := k4.trans a6 (fun k hk e => by have := h2 k e; omega)
    refine ⟨⟨⟨F', G, ⟨a1, k5.upd a6 (fun k hk e => h6 k e hk), fun k hk hg => ?_⟩, q1, h3, q2⟩, .inl ⟨e0, j', rfl, F', G', ⟨a1, a2, a3⟩, q1, fun k hk => ?_, q2⟩⟩, hr.upd a6 hdis⟩
    · rcases a4 k hk with e | e
      · exact h6 k e hg
      · have := k5.lt hg; omega
    · have := a5 k hk; omega
  · have q1 : ∀ k, F' k → w0.heap.size ≤ k := fun k hk => by
      rcases a3 k hk with e | e
      · exact h2 k e
      · omega
    refine ⟨⟨⟨F', G, ⟨a1, k5.upd a2 (fun k hk e => h6 k e hk), fun k hk hg => ?_⟩, q1, h3, k4.trans a2 (fun k hk e => by have := h2 k e; omega)⟩, .inr ⟨e0, rfl⟩⟩, hr.upd a2 hdis⟩
    rcases a3 k hk with e | e
    · exact h6 k e hg
    · have := k5.lt hg; omega

theorem AW.read {w0 w : World} {d : Nat} {s : DSt} {j : Nat} {nm : List UInt8} {l : List (List UInt8)} {safe : Nat} {dead : Bool} (h : AW w0 d s j nm l safe dead w) {nm' : List UInt8} (hm : nm'.length ≤ maxLen) : Calls Try.prog 15 #[ptrV d, strV nm'] w (BytesErr w (sRead s nm')) := by
  obtain ⟨F, G, h1, _⟩ := h
  exact read_spec h1.1 nm' hm

theorem bytess_rows {w : World} {v : Value} {l : List (List UInt8)} (h : RdBB (Ab w) w v l) : RowsRd w v l ∧ ∀ (i : Nat) b, l[i]? = some b → ∀ A c g o, v = .slice (some ⟨g, o, none⟩) A c → ∃ Au cu, w.cell? ⟨g, o + i, none⟩ = some (.slice Au b.length cu) ∧ RdB (Ab w) w (.slice Au b.length cu) b := by
  obtain ⟨vs, h1, h2, h3⟩ := h
  obtain ⟨A, c, e, h4, h5, h6, hx⟩ := h2.now
  have hc : ∀ (i : Nat) b, l[i]? = some b → ∀ g o, A = some ⟨g, o, none⟩ → ∃ Au cu, w.cell? ⟨g, o + i, none⟩ = some (.slice Au b.length cu) ∧ RdB (Ab w) w (.slice Au b.length cu) b := fun i b hb g o hA => by
    have hlt := (List.getElem?_eq_some_iff.1 hb).1
    obtain ⟨u, e1, e2⟩ := h3 i b hb
    obtain ⟨Au, cu, rfl, _⟩ := e2.now
    obtain ⟨g', o', e', hcell⟩ := hx (by omega)
    rw [hA] at e'
    injection e' with e'
    injection e' with e3 e4
    subst e3 e4
    exact ⟨Au, cu, hcell i _ e1, e2⟩
  refine ⟨⟨A, c, e, by omega, fun h0 => ?_⟩, fun i b hb n' c' g o hv => ?_⟩
  · obtain ⟨g, o, hA, _⟩ := hx h0
    refine ⟨g, o, hA, fun i b hb => ?_⟩
    obtain ⟨Au, cu, x1, x2⟩ := hc i b hb g o hA
    exact ⟨Au, cu, x1, x2.now⟩
  · rw [e] at hv
    injection hv with hv
    exact hc i b hb g o hv

set_option maxRecDepth 100000 in
set_option maxHeartbeats 16000000 in
theorem dur_law {w : World} {vl vp : Value} {l : List (List UInt8)} {picks : List Int} {a arm : Int} (hl : RdBB (Ab w) w vl l) (hp : RdI (Ab w) w vp picks) (hpb : ∀ z ∈ picks, -9223372036854775808 ≤ z ∧ z ≤ 9223372036854775807) (ha1 : -9223372036854775808 ≤ arm) (ha2 : arm ≤ 9223372036854775807) :
    Calls Try.prog 9 #[vl, .int .i64 a, .int .i64 arm, vp] w fun e w' => e = .returned (.bool true) ∧ Upd NoF w w' := by
  obtain ⟨hrow, hrowd⟩ := bytess_rows hl
  obtain ⟨Al, cl, rfl, hml, hxl⟩ := id hrow
  obtain ⟨Ap, cp, rfl, _⟩ := hp.now
  unfold maxLen at hml
  have hpm := hp.now.le
  unfold maxLen at hpm
  have HXL := Lib.hid hxl
  have HXD := Lib.hid hrowd
  have HPI := Lib.hid hp
  have HPB := Lib.hid hpb
  clear hl hp hpb hrow hxl hrowd
  by_cases hbig : 30 < l.length ∨ 30 < picks.length
  · by_cases h30 : 30 < l.length
    · have t1 : decide ((30 : Int) < (l.length : Int)) = true := by simp; omega
      have t1' : decide (30 < l.length) = true := by simp; omega
      go_enter Try.func9, Try.ntmps9
      go_wp2_with fail
      refine (awake31 w).mono ?_
      rintro e w1 ⟨rfl, hu1⟩
      go_wp2
      go_ret
      exact ⟨rfl, hu1⟩
    · have t1 : decide ((30 : Int) < (l.length : Int)) = false := by simp; omega
      have t1' : decide (30 < l.length) = false := by simp; omega
      have t2 : decide ((30 : Int) < (picks.length : Int)) = true := by simp; omega
      have t2' : decide (30 < picks.length) = true := by simp; omega
      go_enter Try.func9, Try.ntmps9
      go_wp2_with fail
      refine (awake31 w).mono ?_
      rintro e w1 ⟨rfl, hu1⟩
      go_wp2
      go_ret
      exact ⟨rfl, hu1⟩
  · have t1 : decide ((30 : Int) < (l.length : Int)) = false := by simp; omega
    have t1' : decide (30 < l.length) = false := by simp; omega
    have t2 : decide ((30 : Int) < (picks.length : Int)) = false := by simp; omega
    have t2' : decide (30 < picks.length) = false := by simp; omega
    have hl30 : l.length ≤ 30 := by omega
    clear hbig
    go_enter Try.func9, Try.ntmps9
    go_wp2_with fail
    refine (new_dk w).mono ?_
    rintro e w1 ⟨rfl, hd1⟩
    have D1 := Lib.hid (show DA w (w.heap.size + 1) sNew w1 from by
      obtain ⟨F, a1, a2, a3⟩ := hd1
      exact ⟨F, a1, fun k hk => (a3 k hk).resolve_left (fun h => h), a2⟩)
    clear hd1
    generalize w.heap.size + 1 = d at D1 ⊢
    go_wp2_with fail
    refine (D1.out.open [106] (by decide) (by decide)).mono ?_
    rw [aw_open0]
    rintro e w2 (⟨-, j, rfl, h2⟩ | ⟨h, _⟩)
    case inr => exact absurd rfl h
    have W2 := Lib.hid h2
    clear h2
    go_wp2_with fail
    refine (W2.out.disk (fun F hF _ => arm_spec hF arm ha1 ha2)).mono ?_
    rw [show sArm sNew arm = ⟨dfs l 0 0, false, true, arm.toNat⟩ from rfl]
    rintro e w3 ⟨rfl, h3⟩
    have W3 := Lib.hid h3
    clear h3
    go_wp2
    go_loopw [12, 13] (fun tr i wr => DRel w d j l tr i wr) (fun _ i _ => l.length - (intOf i).toNat)
    case atStart => exact ⟨0, 0, arm.toNat, Nat.zero_le _, Nat.le_refl _, rfl, rfl, W3.out, fun r hr => (by simp at hr)⟩
    case round =>
      obtain ⟨wt, rfl⟩ : ∃ wt : World, wt = wr := ⟨_, rfl⟩
      obtain ⟨k, sf, left, hk, hsf, rfl, rfl, hAW, hlens⟩ := hrel
      have AK := Lib.hid hAW
      have LK := Lib.hid hlens
      clear hAW hlens
      by_cases hlt : k < l.length
      · have s1 : decide ((k : Int) < l.length) = true := by simpa using hlt
        obtain ⟨gl, ol, rfl, -⟩ := HXL.out (by omega)
        obtain ⟨b, hb⟩ : ∃ b, l[k]? = some b := ⟨_, List.getElem?_eq_getElem hlt⟩
        obtain ⟨Ab', cb', x1, x2⟩ := HXD.out k b hb _ _ gl ol rfl
        have x3 := AK.out.out.cell x1 (fun h => h)
        have XR := Lib.hid x2
        have HB := Lib.hid hb
        have s2 : (0:Int) ≤ k := by omega
        have s3 : (k:Int) < l.length := by omega
        clear x1 x2 hb
        by_cases hbig : 200 < b.length
        · have s4 : decide ((200 : Int) < (b.length : Int)) = true := by simp; omega
          have s4' : decide (200 < b.length) = true := by simp; omega
          go_wp2_with fail
          refine (awake31 _).mono ?_
          rintro e w4 ⟨rfl, hu4⟩
          go_wp2
          go_ret
          exact ⟨rfl, AK.out.out.trans hu4 (fun _ _ h => h)⟩
        · have s4 : decide ((200 : Int) < (b.length : Int)) = false := by simp; omega
          have s4' : decide (200 < b.length) = false := by simp; omega
          have LENS := Lib.hid (show ∀ r ∈ l.take (k + 1), r.length ≤ 200 from fun r hr => by
            rw [List.take_add_one, HB.out] at hr
            rcases List.mem_append.1 hr with h | h
            · exact LK.out r h
            · simp at h; subst h; omega)
          have hlk : (l.take k).length = k := by simp; omega
          have CA := Lib.hid (show Calls Try.prog 30 #[ptrV j, .slice Ab' b.length cb'] wt fun e w2 => e = retE (if wrB true left then 0 else 103) ∧ AW w d ⟨dfs l (k + 1) sf, !wrB true left, true, wrL true left⟩ j [106] (if wrB true left then l.take (k + 1) else l.take k) sf (noteB false (if wrB true left then 0 else 103)) w2 from by
            have hgf : ((getF (dfs l k sf) [106]).getD ⟨[], 0⟩).c.length ≤ 549755813888 := by
              have h1 := framesF_len (l.take k) 0 200 LK.out
              rw [hlk] at h1
              unfold dfs
              split
              · simp [getF]
              · simp [getF]; omega
            have hfsl : (dfs l k sf).length < maxLen := by unfold dfs maxLen; split <;> simp
            have h1 := AK.out.append (b := b) (v := .slice Ab' b.length cb') (w' := wt) (fun F hF => RdF.upd' XR.out (AK.out.out.mono (fun _ _ h => h.elim)) (fun i _ f => (hF i f).1)) (Upd.refl _ _) (by decide) hgf hfsl (by rw [hlk]; omega)
            have h2 : sJAppend ⟨dfs l k sf, false, true, left⟩ [106] (l.take k) false b = (if wrB true left then 0 else 103, ⟨dfs l (k + 1) sf, !wrB true left, true, wrL true left⟩, if wrB true left then l.take (k + 1) else l.take k, noteB false (if wrB true left then 0 else 103)) := by
              unfold sJAppend
              rw [if_neg (by omega), hlk, dur_append l k sf left b HB.out hsf]
              have h3 : l.take (k + 1) = l.take k ++ [b] := by rw [List.take_add_one, HB.out]; rfl
              cases wrB true left <;> simp [h3]
            rw [h2] at h1
            exact h1)
          clear hlk
          cases hw : wrB true left
          · rw [hw] at CA
            simp only [Bool.false_eq_true, if_false, Bool.not_false] at CA
            clear hw
            have hT : k + 1 ≤ l.length := by omega
            have hsT : sf ≤ k + 1 := by omega
            go_wp2_with fail
            refine CA.out.mono ?_
            rintro e wt2 ⟨rfl, hat⟩
            have AT := Lib.hid hat
            clear hat
            obtain ⟨c, code, hrd, hcode, ⟨q, hcq⟩, hcl⟩ := dur_crash l (k + 1) sf hsT true true (wrL true left) picks
            have hcb : c.length ≤ 549755813888 := by
              have h1 := framesF_len (l.take (k + 1)) 0 200 LENS.out
              have h2 : (l.take (k + 1)).length ≤ 30 := by simp; omega
              have h3 : (l.take (k + 1)).length * (12 + 200) ≤ 30 * 212 := Nat.mul_le_mul h2 (Nat.le_refl _)
              omega
            obtain ⟨s', hso⟩ := sOpen_ok (sCrash ⟨dfs l (k + 1) sf, true, true, (wrL true left)⟩ picks) [106] (by decide) rfl rfl
            rw [hrd] at hso
            obtain ⟨y, hy⟩ : ∃ y, (parseS c).1 = y := ⟨_, rfl⟩
            have hge : sf ≤ y.length := by
              have h1 := dur_parse (l.take sf) q (fun r hr => Nat.le_trans (LENS.out r (List.mem_of_mem_take (i := sf) (by rw [List.take_take, show min sf (k + 1) = sf by omega]; exact hr))) (by omega))
              rw [← hcq, hy] at h1
              simp at h1
              omega
            have hyl : y.length ≤ 1099511627776 := by
              have := (parse_recs c).2
              rw [hy] at this
              omega
            have hfl : (dfs l (k + 1) sf).length ≤ 1 := by unfold dfs; split <;> simp
            rw [hy] at hso
            have HRD := Lib.hid hrd
            have HSO := Lib.hid hso
            have HY := Lib.hid hy
            have PPX := Lib.hid (show ∀ w', ParsePost w' c = fun e w'' => ∃ v F, e = .returned (.tuple #[v, .int .i64 ((parseS c).2 : Int)]) ∧ RecsAt w'' v y F ∧ (∀ k, F k → w'.heap.size ≤ k) ∧ Upd NoF w' w'' from fun w' => by
              unfold ParsePost
              rw [hy])
            clear hrd hso hy hcq hcl hcode
            go_wp2_with fail
            refine AT.out.synced.mono ?_
            rintro e w' ⟨rfl, rfl⟩
            go_wp2_with fail
            refine (AT.out.disk (fun F hF hge => crash_spec hF (.slice Ap picks.length cp) picks (RdF.upd' HPI.out (AT.out.out.mono (fun _ _ h => h.elim)) (fun i _ f => hge i f)) HPB.out (by simp only; omega))).mono ?_
            rintro e w4 ⟨rfl, h4⟩
            have A4 := Lib.hid h4
            clear h4
            go_wp2_with fail
            refine (A4.out.read (by decide)).mono ?_
            rw [HRD.out]
            rintro e w5 ⟨A5, c5, rfl, h5⟩
            have A5' := Lib.hid (A4.out.upd h5.2.2)
            have O5 := Lib.hid h5.1
            clear h5
            simp only at O5
            go_wp2_with fail
            refine (rParse_any O5.out.rd hcb).mono ?_
            rw [PPX.out w5]
            rintro e w6 ⟨v6, F6, rfl, h6, hf6, hu6⟩
            obtain ⟨A6, c6, rfl, -, -⟩ := h6.form
            have CO := Lib.hid (A5'.out.openK hu6 h6 hf6 [106] (by decide) (by rw [HRD.out]; exact hcb))
            rw [HSO.out] at CO
            clear h6 hu6 hf6
            go_wp2_with fail
            refine CO.out.mono ?_
            rintro e w7 ⟨⟨h7, (⟨-, j', rfl, h7'⟩ | ⟨h, _⟩)⟩, hrec7⟩
            case inr => exact absurd rfl h
            have A7 := Lib.hid h7'
            have RW7 := Lib.hid (show RowsRd w7 (.slice A6 y.length c6) y ∧ Upd NoF w w7 from ⟨hrec7.rows, h7'.out⟩)
            clear h7 h7' hrec7
            simp only at A7
            go_wp2_with fail
            refine A7.out.records.mono ?_
            rintro e w8 ⟨v8, F8, rfl, h8, -, hu8⟩
            have R8 := Lib.hid h8.rows
            have A8 := Lib.hid (A7.out.upd hu8)
            have RW8 := Lib.hid (RW7.out.1.keep hu8)
            clear h8 hu8
            go_wp2_with fail
            refine (rows_any R8.out RW8.out).mono ?_
            rw [show (y == y) = true by simp]
            rintro e w9 ⟨rfl, hu9⟩
            have A9 := Lib.hid (A8.out.upd hu9)
            have RW9 := Lib.hid (RW8.out.keep hu9)
            clear hu9
            go_wp2_with fail
            refine A9.out.synced.mono ?_
            rintro e w' ⟨rfl, rfl⟩
            obtain ⟨A6', c6', e6, -, hx6⟩ := RW9.out
            injection e6 with e6 _ _
            subst e6
            have HX6 := Lib.hid hx6
            clear hx6
            have U9 := Lib.hid A9.out.out
            go_wp2
            go_loopw [21] (fun i wr => DurRel w9 y.length i wr) (fun i _ => y.length - (intOf i).toNat)
            case atStart => exact ⟨0, Nat.zero_le _, rfl, Upd.refl _ _⟩
            case round =>
              obtain ⟨m, hm, rfl, hUm⟩ := hrel
              have HUM := Lib.hid hUm
              have UW := Lib.hid (U9.out.trans hUm (fun _ _ h => h))
              clear hUm
              by_cases hmy : m < y.length
              · have s1 : decide ((m : Int) < y.length) = true := by simpa using hmy
                obtain ⟨gy, oy, rfl, hcy⟩ := HX6.out (by omega)
                obtain ⟨b1, hb1⟩ : ∃ b1, y[m]? = some b1 := ⟨_, List.getElem?_eq_getElem hmy⟩
                obtain ⟨Ay, cy, y1, y2⟩ := hcy m b1 hb1
                have y3 := HUM.out.cell y1 (fun h => h)
                have hs1 : ∀ q, (convert 27 9 (.slice Ay b1.length cy)).run Try.prog (wr.drewN q) = .ok (strV b1) (wr.drewN q) := fun q => run_str (y2.keep (HUM.out.drewN q))
                have s3 : (0:Int) ≤ m := by omega
                have s4 : (m:Int) < y.length := by omega
                clear hcy y1 y2 hb1
                by_cases hmt : m < (k + 1)
                · have s2 : decide ((k : Int) + 1 ≤ (m : Int)) = false := by simp; omega
                  have s2' : decide ((k + 1) ≤ m) = false := by simp; omega
                  obtain ⟨gl2, ol2, hAl, hcl⟩ := HXL.out (by omega)
                  cases hAl
                  obtain ⟨b2, hb2⟩ : ∃ b2, l[m]? = some b2 := ⟨_, List.getElem?_eq_getElem (by omega)⟩
                  obtain ⟨Al2, cl2, l1, l2⟩ := hcl m b2 hb2
                  have l3 := UW.out.cell l1 (fun h => h)
                  have hs2 : ∀ q, (convert 27 9 (.slice Al2 b2.length cl2)).run Try.prog (wr.drewN q) = .ok (strV b2) (wr.drewN q) := fun q => run_str (l2.keep (UW.out.drewN q))
                  have s5 : (m:Int) < l.length := by omega
                  clear hcl l1 l2 hb2
                  by_cases hbb : b1 = b2
                  · subst hbb
                    go_wp2
                    go_quiet (fail)
                    go_wp2
                    go_roundw
                    case rel => exact ⟨m + 1, by omega, by go_num, HUM.out.drewN nq⟩
                    case measure => simp [intOf]; omega
                  · have n1 : (b1 == b2) = false := by simpa using hbb
                    have n2 : (b1 != b2) = true := by simpa using hbb
                    clear hbb
                    go_wp2
                    go_quiet (fail)
                    go_wp2_with fail
                    refine (awake31 _).mono ?_
                    rintro e w11 ⟨rfl, hu11⟩
                    go_wp2
                    go_ret
                    exact ⟨rfl, (UW.out.drewN nq).trans hu11 (fun _ _ h => h)⟩
                · have s2 : decide ((k : Int) + 1 ≤ (m : Int)) = true := by simp; omega
                  have s2' : decide ((k + 1) ≤ m) = true := by simp; omega
                  go_wp2
                  go_quiet (fail)
                  go_wp2_with fail
                  refine (awake31 _).mono ?_
                  rintro e w11 ⟨rfl, hu11⟩
                  go_wp2
                  go_ret
                  exact ⟨rfl, (UW.out.drewN nq).trans hu11 (fun _ _ h => h)⟩
              · have s1 : decide ((m : Int) < y.length) = false := by simp; omega
                have s6 : decide ((sf : Int) ≤ (y.length : Int)) = true := by simp; omega
                have s6' : decide (sf ≤ y.length) = true := by simp; omega
                go_wp2_with fail
                refine (awake31 _).mono ?_
                rintro e w11 ⟨rfl, hu11⟩
                go_wp2
                go_ret
                exact ⟨rfl, UW.out.trans hu11 (fun _ _ h => h)⟩
          · rw [hw] at CA
            simp only [if_true, Bool.not_true] at CA
            rw [show noteB false 0 = false from rfl] at CA
            clear hw
            by_cases hka : (k : Int) = a
            · have s5 : ((k : Int) == a) = true := by simpa using hka
              have CS := Lib.hid (show ∀ w2, AW w d ⟨dfs l (k + 1) sf, false, true, wrL true left⟩ j [106] (l.take (k + 1)) sf false w2 → Calls Try.prog 32 #[ptrV j] w2 fun e w3 => e = retE (if wrB true (wrL true left) then 0 else 103) ∧ AW w d (if wrB true (wrL true left) then ⟨dfs l (k + 1) (k + 1), false, true, wrL true (wrL true left)⟩ else ⟨dfs l (k + 1) sf, true, true, wrL true (wrL true left)⟩) j [106] (l.take (k + 1)) (if wrB true (wrL true left) then k + 1 else sf) (noteB false (if wrB true (wrL true left) then 0 else 103)) w3 from fun w2 h2 => by
                have h1 := h2.sync (by decide)
                have hlk1 : (l.take (k + 1)).length = k + 1 := by simp; omega
                cases hw2 : wrB true (wrL true left) with
                | true =>
                  have e1 : sJSync ⟨dfs l (k + 1) sf, false, true, wrL true left⟩ [106] (l.take (k + 1)) sf false = (0, ⟨dfs l (k + 1) (k + 1), false, true, wrL true (wrL true left)⟩, k + 1, false) := by
                    unfold sJSync
                    rw [hlk1, dur_sync_yes l (k + 1) sf _ (by omega) hw2]
                    simp [noteB]
                  rw [e1] at h1
                  exact h1
                | false =>
                  have e1 : sJSync ⟨dfs l (k + 1) sf, false, true, wrL true left⟩ [106] (l.take (k + 1)) sf false = (103, ⟨dfs l (k + 1) sf, true, true, wrL true (wrL true left)⟩, sf, true) := by
                    unfold sJSync
                    rw [hlk1, dur_sync_no l (k + 1) sf _ (by omega) hw2]
                    simp [noteB]
                  rw [e1] at h1
                  exact h1)
              clear hka
              cases hw2 : wrB true (wrL true left)
              · rw [hw2] at CS
                simp only [Bool.false_eq_true, if_false] at CS
                clear hw2
                have hT : k + 1 ≤ l.length := by omega
                have hsT : sf ≤ k + 1 := by omega
                go_wp2_with fail
                refine CA.out.mono ?_
                rintro e w4 ⟨rfl, h4⟩
                have CS4 := Lib.hid (CS.out w4 h4)
                clear h4
                go_wp2_with fail
                refine CS4.out.mono ?_
                rintro e wt2 ⟨rfl, hat⟩
                have AT := Lib.hid hat
                clear hat
                obtain ⟨c, code, hrd, hcode, ⟨q, hcq⟩, hcl⟩ := dur_crash l (k + 1) sf hsT true true (wrL true (wrL true left)) picks
                have hcb : c.length ≤ 549755813888 := by
                  have h1 := framesF_len (l.take (k + 1)) 0 200 LENS.out
                  have h2 : (l.take (k + 1)).length ≤ 30 := by simp; omega
                  have h3 : (l.take (k + 1)).length * (12 + 200) ≤ 30 * 212 := Nat.mul_le_mul h2 (Nat.le_refl _)
                  omega
                obtain ⟨s', hso⟩ := sOpen_ok (sCrash ⟨dfs l (k + 1) sf, true, true, (wrL true (wrL true left))⟩ picks) [106] (by decide) rfl rfl
                rw [hrd] at hso
                obtain ⟨y, hy⟩ : ∃ y, (parseS c).1 = y := ⟨_, rfl⟩
                have hge : sf ≤ y.length := by
                  have h1 := dur_parse (l.take sf) q (fun r hr => Nat.le_trans (LENS.out r (List.mem_of_mem_take (i := sf) (by rw [List.take_take, show min sf (k + 1) = sf by omega]; exact hr))) (by omega))
                  rw [← hcq, hy] at h1
                  simp at h1
                  omega
                have hyl : y.length ≤ 1099511627776 := by
                  have := (parse_recs c).2
                  rw [hy] at this
                  omega
                have hfl : (dfs l (k + 1) sf).length ≤ 1 := by unfold dfs; split <;> simp
                rw [hy] at hso
                have HRD := Lib.hid hrd
                have HSO := Lib.hid hso
                have HY := Lib.hid hy
                have PPX := Lib.hid (show ∀ w', ParsePost w' c = fun e w'' => ∃ v F, e = .returned (.tuple #[v, .int .i64 ((parseS c).2 : Int)]) ∧ RecsAt w'' v y F ∧ (∀ k, F k → w'.heap.size ≤ k) ∧ Upd NoF w' w'' from fun w' => by
                  unfold ParsePost
                  rw [hy])
                clear hrd hso hy hcq hcl hcode
                go_wp2_with fail
                refine AT.out.synced.mono ?_
                rintro e w' ⟨rfl, rfl⟩
                go_wp2_with fail
                refine (AT.out.disk (fun F hF hge => crash_spec hF (.slice Ap picks.length cp) picks (RdF.upd' HPI.out (AT.out.out.mono (fun _ _ h => h.elim)) (fun i _ f => hge i f)) HPB.out (by simp only; omega))).mono ?_
                rintro e w4 ⟨rfl, h4⟩
                have A4 := Lib.hid h4
                clear h4
                go_wp2_with fail
                refine (A4.out.read (by decide)).mono ?_
                rw [HRD.out]
                rintro e w5 ⟨A5, c5, rfl, h5⟩
                have A5' := Lib.hid (A4.out.upd h5.2.2)
                have O5 := Lib.hid h5.1
                clear h5
                simp only at O5
                go_wp2_with fail
                refine (rParse_any O5.out.rd hcb).mono ?_
                rw [PPX.out w5]
                rintro e w6 ⟨v6, F6, rfl, h6, hf6, hu6⟩
                obtain ⟨A6, c6, rfl, -, -⟩ := h6.form
                have CO := Lib.hid (A5'.out.openK hu6 h6 hf6 [106] (by decide) (by rw [HRD.out]; exact hcb))
                rw [HSO.out] at CO
                clear h6 hu6 hf6
                go_wp2_with fail
                refine CO.out.mono ?_
                rintro e w7 ⟨⟨h7, (⟨-, j', rfl, h7'⟩ | ⟨h, _⟩)⟩, hrec7⟩
                case inr => exact absurd rfl h
                have A7 := Lib.hid h7'
                have RW7 := Lib.hid (show RowsRd w7 (.slice A6 y.length c6) y ∧ Upd NoF w w7 from ⟨hrec7.rows, h7'.out⟩)
                clear h7 h7' hrec7
                simp only at A7
                go_wp2_with fail
                refine A7.out.records.mono ?_
                rintro e w8 ⟨v8, F8, rfl, h8, -, hu8⟩
                have R8 := Lib.hid h8.rows
                have A8 := Lib.hid (A7.out.upd hu8)
                have RW8 := Lib.hid (RW7.out.1.keep hu8)
                clear h8 hu8
                go_wp2_with fail
                refine (rows_any R8.out RW8.out).mono ?_
                rw [show (y == y) = true by simp]
                rintro e w9 ⟨rfl, hu9⟩
                have A9 := Lib.hid (A8.out.upd hu9)
                have RW9 := Lib.hid (RW8.out.keep hu9)
                clear hu9
                go_wp2_with fail
                refine A9.out.synced.mono ?_
                rintro e w' ⟨rfl, rfl⟩
                obtain ⟨A6', c6', e6, -, hx6⟩ := RW9.out
                injection e6 with e6 _ _
                subst e6
                have HX6 := Lib.hid hx6
                clear hx6
                have U9 := Lib.hid A9.out.out
                go_wp2
                go_loopw [21] (fun i wr => DurRel w9 y.length i wr) (fun i _ => y.length - (intOf i).toNat)
                case atStart => exact ⟨0, Nat.zero_le _, rfl, Upd.refl _ _⟩
                case round =>
                  obtain ⟨m, hm, rfl, hUm⟩ := hrel
                  have HUM := Lib.hid hUm
                  have UW := Lib.hid (U9.out.trans hUm (fun _ _ h => h))
                  clear hUm
                  by_cases hmy : m < y.length
                  · have s1 : decide ((m : Int) < y.length) = true := by simpa using hmy
                    obtain ⟨gy, oy, rfl, hcy⟩ := HX6.out (by omega)
                    obtain ⟨b1, hb1⟩ : ∃ b1, y[m]? = some b1 := ⟨_, List.getElem?_eq_getElem hmy⟩
                    obtain ⟨Ay, cy, y1, y2⟩ := hcy m b1 hb1
                    have y3 := HUM.out.cell y1 (fun h => h)
                    have hs1 : ∀ q, (convert 27 9 (.slice Ay b1.length cy)).run Try.prog (wr.drewN q) = .ok (strV b1) (wr.drewN q) := fun q => run_str (y2.keep (HUM.out.drewN q))
                    have s3 : (0:Int) ≤ m := by omega
                    have s4 : (m:Int) < y.length := by omega
                    clear hcy y1 y2 hb1
                    by_cases hmt : m < (k + 1)
                    · have s2 : decide ((k : Int) + 1 ≤ (m : Int)) = false := by simp; omega
                      have s2' : decide ((k + 1) ≤ m) = false := by simp; omega
                      obtain ⟨gl2, ol2, hAl, hcl⟩ := HXL.out (by omega)
                      cases hAl
                      obtain ⟨b2, hb2⟩ : ∃ b2, l[m]? = some b2 := ⟨_, List.getElem?_eq_getElem (by omega)⟩
                      obtain ⟨Al2, cl2, l1, l2⟩ := hcl m b2 hb2
                      have l3 := UW.out.cell l1 (fun h => h)
                      have hs2 : ∀ q, (convert 27 9 (.slice Al2 b2.length cl2)).run Try.prog (wr.drewN q) = .ok (strV b2) (wr.drewN q) := fun q => run_str (l2.keep (UW.out.drewN q))
                      have s5 : (m:Int) < l.length := by omega
                      clear hcl l1 l2 hb2
                      by_cases hbb : b1 = b2
                      · subst hbb
                        go_wp2
                        go_quiet (fail)
                        go_wp2
                        go_roundw
                        case rel => exact ⟨m + 1, by omega, by go_num, HUM.out.drewN nq⟩
                        case measure => simp [intOf]; omega
                      · have n1 : (b1 == b2) = false := by simpa using hbb
                        have n2 : (b1 != b2) = true := by simpa using hbb
                        clear hbb
                        go_wp2
                        go_quiet (fail)
                        go_wp2_with fail
                        refine (awake31 _).mono ?_
                        rintro e w11 ⟨rfl, hu11⟩
                        go_wp2
                        go_ret
                        exact ⟨rfl, (UW.out.drewN nq).trans hu11 (fun _ _ h => h)⟩
                    · have s2 : decide ((k : Int) + 1 ≤ (m : Int)) = true := by simp; omega
                      have s2' : decide ((k + 1) ≤ m) = true := by simp; omega
                      go_wp2
                      go_quiet (fail)
                      go_wp2_with fail
                      refine (awake31 _).mono ?_
                      rintro e w11 ⟨rfl, hu11⟩
                      go_wp2
                      go_ret
                      exact ⟨rfl, (UW.out.drewN nq).trans hu11 (fun _ _ h => h)⟩
                  · have s1 : decide ((m : Int) < y.length) = false := by simp; omega
                    have s6 : decide ((sf : Int) ≤ (y.length : Int)) = true := by simp; omega
                    have s6' : decide (sf ≤ y.length) = true := by simp; omega
                    go_wp2_with fail
                    refine (awake31 _).mono ?_
                    rintro e w11 ⟨rfl, hu11⟩
                    go_wp2
                    go_ret
                    exact ⟨rfl, UW.out.trans hu11 (fun _ _ h => h)⟩
              · rw [hw2] at CS
                simp only [if_true] at CS
                rw [show noteB false 0 = false from rfl] at CS
                clear hw2
                go_wp2_with fail
                refine CA.out.mono ?_
                rintro e w4 ⟨rfl, h4⟩
                have CS4 := Lib.hid (CS.out w4 h4)
                clear h4
                go_wp2_with fail
                refine CS4.out.mono ?_
                rintro e w5 ⟨rfl, h5⟩
                have A5 := Lib.hid h5
                clear h5
                go_wp2
                go_roundw
                case rel => exact ⟨k + 1, k + 1, _, by omega, Nat.le_refl _, by go_num, by go_num, A5.out, LENS.out⟩
                case measure => simp [intOf]; omega
            · have s5 : ((k : Int) == a) = false := by simpa using hka
              clear hka
              go_wp2_with fail
              refine CA.out.mono ?_
              rintro e w4 ⟨rfl, h4⟩
              have A4 := Lib.hid h4
              clear h4
              go_wp2
              go_roundw
              case rel => exact ⟨k + 1, sf, _, by omega, by omega, by go_num, by go_num, A4.out, LENS.out⟩
              case measure => simp [intOf]; omega
      · have s1 : decide ((k : Int) < l.length) = false := by simp; omega
        have hT : k ≤ l.length := hk
        have hsT : sf ≤ k := hsf
        have AT := AK
        have LENS := LK
        obtain ⟨c, code, hrd, hcode, ⟨q, hcq⟩, hcl⟩ := dur_crash l (k) sf hsT false true left picks
        have hcb : c.length ≤ 549755813888 := by
          have h1 := framesF_len (l.take (k)) 0 200 LENS.out
          have h2 : (l.take (k)).length ≤ 30 := by simp; omega
          have h3 : (l.take (k)).length * (12 + 200) ≤ 30 * 212 := Nat.mul_le_mul h2 (Nat.le_refl _)
          omega
        obtain ⟨s', hso⟩ := sOpen_ok (sCrash ⟨dfs l (k) sf, false, true, left⟩ picks) [106] (by decide) rfl rfl
        rw [hrd] at hso
        obtain ⟨y, hy⟩ : ∃ y, (parseS c).1 = y := ⟨_, rfl⟩
        have hge : sf ≤ y.length := by
          have h1 := dur_parse (l.take sf) q (fun r hr => Nat.le_trans (LENS.out r (List.mem_of_mem_take (i := sf) (by rw [List.take_take, show min sf (k) = sf by omega]; exact hr))) (by omega))
          rw [← hcq, hy] at h1
          simp at h1
          omega
        have hyl : y.length ≤ 1099511627776 := by
          have := (parse_recs c).2
          rw [hy] at this
          omega
        have hfl : (dfs l (k) sf).length ≤ 1 := by unfold dfs; split <;> simp
        rw [hy] at hso
        have HRD := Lib.hid hrd
        have HSO := Lib.hid hso
        have HY := Lib.hid hy
        have PPX := Lib.hid (show ∀ w', ParsePost w' c = fun e w'' => ∃ v F, e = .returned (.tuple #[v, .int .i64 ((parseS c).2 : Int)]) ∧ RecsAt w'' v y F ∧ (∀ k, F k → w'.heap.size ≤ k) ∧ Upd NoF w' w'' from fun w' => by
          unfold ParsePost
          rw [hy])
        clear hrd hso hy hcq hcl hcode
        go_wp2_with fail
        refine AT.out.synced.mono ?_
        rintro e w' ⟨rfl, rfl⟩
        go_wp2_with fail
        refine (AT.out.disk (fun F hF hge => crash_spec hF (.slice Ap picks.length cp) picks (RdF.upd' HPI.out (AT.out.out.mono (fun _ _ h => h.elim)) (fun i _ f => hge i f)) HPB.out (by simp only; omega))).mono ?_
        rintro e w4 ⟨rfl, h4⟩
        have A4 := Lib.hid h4
        clear h4
        go_wp2_with fail
        refine (A4.out.read (by decide)).mono ?_
        rw [HRD.out]
        rintro e w5 ⟨A5, c5, rfl, h5⟩
        have A5' := Lib.hid (A4.out.upd h5.2.2)
        have O5 := Lib.hid h5.1
        clear h5
        simp only at O5
        go_wp2_with fail
        refine (rParse_any O5.out.rd hcb).mono ?_
        rw [PPX.out w5]
        rintro e w6 ⟨v6, F6, rfl, h6, hf6, hu6⟩
        obtain ⟨A6, c6, rfl, -, -⟩ := h6.form
        have CO := Lib.hid (A5'.out.openK hu6 h6 hf6 [106] (by decide) (by rw [HRD.out]; exact hcb))
        rw [HSO.out] at CO
        clear h6 hu6 hf6
        go_wp2_with fail
        refine CO.out.mono ?_
        rintro e w7 ⟨⟨h7, (⟨-, j', rfl, h7'⟩ | ⟨h, _⟩)⟩, hrec7⟩
        case inr => exact absurd rfl h
        have A7 := Lib.hid h7'
        have RW7 := Lib.hid (show RowsRd w7 (.slice A6 y.length c6) y ∧ Upd NoF w w7 from ⟨hrec7.rows, h7'.out⟩)
        clear h7 h7' hrec7
        simp only at A7
        go_wp2_with fail
        refine A7.out.records.mono ?_
        rintro e w8 ⟨v8, F8, rfl, h8, -, hu8⟩
        have R8 := Lib.hid h8.rows
        have A8 := Lib.hid (A7.out.upd hu8)
        have RW8 := Lib.hid (RW7.out.1.keep hu8)
        clear h8 hu8
        go_wp2_with fail
        refine (rows_any R8.out RW8.out).mono ?_
        rw [show (y == y) = true by simp]
        rintro e w9 ⟨rfl, hu9⟩
        have A9 := Lib.hid (A8.out.upd hu9)
        have RW9 := Lib.hid (RW8.out.keep hu9)
        clear hu9
        go_wp2_with fail
        refine A9.out.synced.mono ?_
        rintro e w' ⟨rfl, rfl⟩
        obtain ⟨A6', c6', e6, -, hx6⟩ := RW9.out
        injection e6 with e6 _ _
        subst e6
        have HX6 := Lib.hid hx6
        clear hx6
        have U9 := Lib.hid A9.out.out
        go_wp2
        go_loopw [21] (fun i wr => DurRel w9 y.length i wr) (fun i _ => y.length - (intOf i).toNat)
        case atStart => exact ⟨0, Nat.zero_le _, rfl, Upd.refl _ _⟩
        case round =>
          obtain ⟨m, hm, rfl, hUm⟩ := hrel
          have HUM := Lib.hid hUm
          have UW := Lib.hid (U9.out.trans hUm (fun _ _ h => h))
          clear hUm
          by_cases hmy : m < y.length
          · have s1 : decide ((m : Int) < y.length) = true := by simpa using hmy
            obtain ⟨gy, oy, rfl, hcy⟩ := HX6.out (by omega)
            obtain ⟨b1, hb1⟩ : ∃ b1, y[m]? = some b1 := ⟨_, List.getElem?_eq_getElem hmy⟩
            obtain ⟨Ay, cy, y1, y2⟩ := hcy m b1 hb1
            have y3 := HUM.out.cell y1 (fun h => h)
            have hs1 : ∀ q, (convert 27 9 (.slice Ay b1.length cy)).run Try.prog (wr.drewN q) = .ok (strV b1) (wr.drewN q) := fun q => run_str (y2.keep (HUM.out.drewN q))
            have s3 : (0:Int) ≤ m := by omega
            have s4 : (m:Int) < y.length := by omega
            clear hcy y1 y2 hb1
            by_cases hmt : m < (k)
            · have s2 : decide ((k : Int) ≤ (m : Int)) = false := by simp; omega
              have s2' : decide ((k) ≤ m) = false := by simp; omega
              obtain ⟨gl2, ol2, hAl, hcl⟩ := HXL.out (by omega)
              cases hAl
              obtain ⟨b2, hb2⟩ : ∃ b2, l[m]? = some b2 := ⟨_, List.getElem?_eq_getElem (by omega)⟩
              obtain ⟨Al2, cl2, l1, l2⟩ := hcl m b2 hb2
              have l3 := UW.out.cell l1 (fun h => h)
              have hs2 : ∀ q, (convert 27 9 (.slice Al2 b2.length cl2)).run Try.prog (wr.drewN q) = .ok (strV b2) (wr.drewN q) := fun q => run_str (l2.keep (UW.out.drewN q))
              have s5 : (m:Int) < l.length := by omega
              clear hcl l1 l2 hb2
              by_cases hbb : b1 = b2
              · subst hbb
                go_wp2
                go_quiet (fail)
                go_wp2
                go_roundw
                case rel => exact ⟨m + 1, by omega, by go_num, HUM.out.drewN nq⟩
                case measure => simp [intOf]; omega
              · have n1 : (b1 == b2) = false := by simpa using hbb
                have n2 : (b1 != b2) = true := by simpa using hbb
                clear hbb
                go_wp2
                go_quiet (fail)
                go_wp2_with fail
                refine (awake31 _).mono ?_
                rintro e w11 ⟨rfl, hu11⟩
                go_wp2
                go_ret
                exact ⟨rfl, (UW.out.drewN nq).trans hu11 (fun _ _ h => h)⟩
            · have s2 : decide ((k : Int) ≤ (m : Int)) = true := by simp; omega
              have s2' : decide ((k) ≤ m) = true := by simp; omega
              go_wp2
              go_quiet (fail)
              go_wp2_with fail
              refine (awake31 _).mono ?_
              rintro e w11 ⟨rfl, hu11⟩
              go_wp2
              go_ret
              exact ⟨rfl, (UW.out.drewN nq).trans hu11 (fun _ _ h => h)⟩
          · have s1 : decide ((m : Int) < y.length) = false := by simp; omega
            have s6 : decide ((sf : Int) ≤ (y.length : Int)) = true := by simp; omega
            have s6' : decide (sf ≤ y.length) = true := by simp; omega
            go_wp2_with fail
            refine (awake31 _).mono ?_
            rintro e w11 ⟨rfl, hu11⟩
            go_wp2
            go_ret
            exact ⟨rfl, UW.out.trans hu11 (fun _ _ h => h)⟩
end Go.Proofs.Ytmapijpphnlcmaa
