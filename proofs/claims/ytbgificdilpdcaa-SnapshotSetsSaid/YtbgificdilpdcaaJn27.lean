/- The plain laws of the union of views. Conditions: the votes fit. SnapshotSets returns true. Conditions: sizes. Views among a statement's arguments: their lengths are in reach. No condition. -/
import Derived.Test.YtbgificdilpdcaaJn20
import Derived.Test.YtbgificdilpdcaaUniV
import Derived.Test.YtbgificdilpdcaaJn19
import Derived.Test.YtbgificdilpdcaaJn16
import Derived.Test.YtbgificdilpdcaaJn8
import Derived.Test.YtbgificdilpdcaaRefU
import Derived.Test.YtbgificdilpdcaaJn7
import Derived.SizedLaws
namespace Go.Proofs.Ytbgificdilpdcaa
section
open Go

def FitV (V : ViewS) : Prop := ∀ s ∈ V.votes, s.vote.Fit
/-- The union of the reference. -/
def refS (a b : ViewS) : ViewS := ⟨refL lessS (a.votes ++ b.votes), refL lessT (a.texts ++ b.texts)⟩
theorem fit_app {a b : ViewS} (ha : FitV a) (hb : FitV b) : ∀ s ∈ a.votes ++ b.votes, s.vote.Fit := fun s hs => (List.mem_append.1 hs).elim (ha s) (hb s)
theorem uniS_ref {a b : ViewS} (ha : FitV a) (hb : FitV b) : uniS a b = refS a b :=
  ViewS.ext' (ref_can ordS (fit_app ha hb)).symm (ref_can ordT (fun _ _ => trivial)).symm
theorem uniS_fit {a b : ViewS} (ha : FitV a) (hb : FitV b) : FitV (uniS a b) := fun s hs => fit_app ha hb s ((can_mem _ s).1 hs)
theorem uniS_comm {a b : ViewS} (ha : FitV a) (hb : FitV b) : uniS a b = uniS b a :=
  ViewS.ext' (can_comm ordS ha hb) (can_comm ordT (fun _ _ => trivial) (fun _ _ => trivial))
theorem uniS_idem {a b : ViewS} (ha : FitV a) (hb : FitV b) : uniS (uniS a b) (uniS a b) = uniS a b :=
  ViewS.ext' (can_idem ordS (fit_app ha hb)) (can_idem ordT (fun _ _ => trivial))
theorem uniS_assoc {a b c : ViewS} (ha : FitV a) (hb : FitV b) (hc : FitV c) : uniS (uniS a b) c = uniS a (uniS b c) :=
  ViewS.ext' (can_assoc ordS ha hb hc) (can_assoc ordT (fun _ _ => trivial) (fun _ _ => trivial) (fun _ _ => trivial))
theorem uniS_votes_len (a b : ViewS) : (uniS a b).votes.length ≤ a.votes.length + b.votes.length := by
  have := can_len (lt := lessS) (a.votes ++ b.votes)
  rw [List.length_append] at this
  exact this
theorem uniS_texts_len (a b : ViewS) : (uniS a b).texts.length ≤ a.texts.length + b.texts.length := by
  have := can_len (lt := lessT) (a.texts ++ b.texts)
  rw [List.length_append] at this
  exact this
/-- No signature and no text is longer than M. -/
def LenV (V : ViewS) : Prop := (∀ s ∈ V.votes, s.sig.length ≤ 140737488355328) ∧ ∀ t ∈ V.texts, t.length ≤ 140737488355328
theorem uniS_lenV {a b : ViewS} (ha : LenV a) (hb : LenV b) : LenV (uniS a b) := by
  refine ⟨fun s hs => ?_, fun t ht => ?_⟩
  · rcases List.mem_append.1 ((can_mem _ s).1 hs) with h | h
    · exact ha.1 s h
    · exact hb.1 s h
  · rcases List.mem_append.1 ((can_mem (lt := lessT) _ t).1 ht) with h | h
    · exact ha.2 t h
    · exact hb.2 t h
end

section
open Go.RowKit

theorem wanted_go {l : List Oper} {o : Oper} {ρ : Operand → Value} {A B : Prop} (h : wantedR l o ρ = true) (a : A) : if wantedR l o ρ = true then A else B := by rw [if_pos h]; exact a
def VwV (V : ViewS) (v : Value) (w : World) : Prop := ∃ a b, v = .agg #[a, b] ∧ VwR w a b V
theorem stb_vwv (V : ViewS) : Stb (fun w w' => Upd NoF w w') (VwV V) := fun _ _ _ ⟨a, b, h1, h2⟩ hu => ⟨a, b, h1, h2.keep hu⟩
def SmV (V : ViewS) : Prop := V.votes.length ≤ 100000 ∧ V.texts.length ≤ 100000 ∧ LenV V ∧ FitV V
theorem sm_uni {a b : ViewS} (ha : a.votes.length + a.texts.length ≤ 1000 ∧ LenV a ∧ FitV a) (hb : b.votes.length + b.texts.length ≤ 1000 ∧ LenV b ∧ FitV b) : (uniS a b).votes.length ≤ 2000 ∧ (uniS a b).texts.length ≤ 2000 ∧ SmV (uniS a b) := by
  have h1 := uniS_votes_len a b
  have h2 := uniS_texts_len a b
  have h3 := ha.1
  have h4 := hb.1
  exact ⟨by omega, by omega, by omega, by omega, uniS_lenV ha.2.1 hb.2.1, uniS_fit ha.2.2 hb.2.2⟩
section
variable {w : World} {a b a' b' : Value} {V V' : ViewS}
theorem union_sm (h : VwR w a b V) (h' : VwR w a' b' V') (hs : SmV V) (hs' : SmV V') : Calls Try.prog 6 #[.agg #[a, b], .agg #[a', b']] w (UniPost w (uniS V V')) := by
  obtain ⟨s1, s2, s3, s4⟩ := hs
  obtain ⟨t1, t2, t3, t4⟩ := hs'
  exact UnionV_any h.1 h.2 h'.1 h'.2 (by omega) (by omega) (by omega) (by omega) (fun s hs => (List.mem_append.1 hs).elim (s3.1 s) (t3.1 s)) (fun s hs => (List.mem_append.1 hs).elim (s3.2 s) (t3.2 s))
theorem runion_sm (h : VwR w a b V) (h' : VwR w a' b' V') (hs : SmV V) (hs' : SmV V') : Calls Try.prog 8 #[.agg #[a, b], .agg #[a', b']] w (UniPost w (uniS V V')) := by
  obtain ⟨s1, s2, s3, s4⟩ := hs
  obtain ⟨t1, t2, t3, t4⟩ := hs'
  rw [uniS_ref s4 t4]
  exact refUnion_any h.1 h.2 h'.1 h'.2 (by omega) (by omega) (by omega) (by omega) (fun s hs => (List.mem_append.1 hs).elim (s3.1 s) (t3.1 s)) (fun s hs => (List.mem_append.1 hs).elim (s3.2 s) (t3.2 s))
theorem same_sm (h : VwR w a b V) (h' : VwR w a' b' V') (hs : SmV V) (hs' : SmV V') : Calls Try.prog 7 #[.agg #[a, b], .agg #[a', b']] w fun e w' => e = .returned (.bool (decide (V = V'))) ∧ Upd NoF w w' :=
  SameView_any h h' (by have := hs.1; omega) (by have := hs.2.1; omega) (by have := hs'.1; omega) (by have := hs'.2.1; omega)
theorem equal_sm (h : VwR w a b V) (h' : VwR w a' b' V') (hs : SmV V) (hs' : SmV V') : Calls Try.prog 9 #[.agg #[a, b], .agg #[a', b']] w fun e w' => e = .returned (.bool (decide (V = V'))) ∧ Upd NoF w w' :=
  Equal_any h h' (by have := hs.1; omega) (by have := hs.2.1; omega) (by have := hs'.1; omega) (by have := hs'.2.1; omega)
theorem VwV.form (h : VwV V (.agg #[a, b]) w) : VwR w a b V := by
  obtain ⟨x, y, e, h⟩ := h
  injection e with e
  have e := congrArg Array.toList e
  simp at e
  obtain ⟨rfl, rfl⟩ := e
  exact h
end

set_option maxRecDepth 100000 in
set_option maxHeartbeats 16000000 in
theorem sets_law {w : World} {a0 a1 b0 b1 c0 c1 : Value} {A B C : ViewS} (hA : VwR w a0 a1 A) (hB : VwR w b0 b1 B) (hC : VwR w c0 c1 C) (sA1 : A.votes.length ≤ 140737488355328) (sA2 : A.texts.length ≤ 140737488355328) (sB1 : B.votes.length ≤ 140737488355328) (sB2 : B.texts.length ≤ 140737488355328) (sC1 : C.votes.length ≤ 140737488355328) (sC2 : C.texts.length ≤ 140737488355328) (lA : LenV A) (lB : LenV B) (lC : LenV C) :
    Calls Try.prog 3 #[.agg #[a0, a1], .agg #[b0, b1], .agg #[c0, c1]] w fun e w' => e = .returned (.bool true) ∧ Upd NoF w w' := by
  have UW := Lib.hid ((((Upd.refl NoF w).alloc (.cells #[a0, a1] 25)).alloc (.cells #[b0, b1] 25)).alloc (.cells #[c0, c1] 25))
  have V1 := Lib.hid (((Blk.new w 25 #[a0, a1]).alloc (.cells #[b0, b1] 25)).alloc (.cells #[c0, c1] 25))
  have V2 := Lib.hid ((Blk.new (w.alloc (.cells #[a0, a1] 25)) 25 #[b0, b1]).alloc (.cells #[c0, c1] 25))
  have V3 := Lib.hid (Blk.new ((w.alloc (.cells #[a0, a1] 25)).alloc (.cells #[b0, b1] 25)) 25 #[c0, c1])
  have sz1 : (w.alloc (.cells #[a0, a1] 25)).heap.size = w.heap.size + 1 := by simp
  have sz2 : ((w.alloc (.cells #[a0, a1] 25)).alloc (.cells #[b0, b1] 25)).heap.size = w.heap.size + 1 + 1 := by simp
  rw [sz1] at V2
  rw [sz2] at V3
  clear sz1 sz2
  obtain ⟨W1, hW1⟩ : ∃ x, x = ((w.alloc (.cells #[a0, a1] 25)).alloc (.cells #[b0, b1] 25)).alloc (.cells #[c0, c1] 25) := ⟨_, rfl⟩
  rw [← hW1] at UW V1 V2 V3
  have HA := Lib.hid (hA.keep UW.out)
  have HB := Lib.hid (hB.keep UW.out)
  have HC := Lib.hid (hC.keep UW.out)
  have CHA := Lib.hid (heavy_any HA.out sA1 sA2)
  have CHB := Lib.hid (fun W (hu : Upd NoF W1 W) => heavy_any (HB.out.keep hu) sB1 sB2)
  have CHC := Lib.hid (fun W (hu : Upd NoF W1 W) => heavy_any (HC.out.keep hu) sC1 sC2)
  have FA := Lib.hid (show LenV A ∧ FitV A from ⟨lA, hA.1.1⟩)
  have FB := Lib.hid (show LenV B ∧ FitV B from ⟨lB, hB.1.1⟩)
  have FC := Lib.hid (show LenV C ∧ FitV C from ⟨lC, hC.1.1⟩)
  have a0' : W1.cell? ⟨w.heap.size, 0, none⟩ = some a0 := V1.out.cell 0
  have a1' : W1.cell? ⟨w.heap.size, 1, none⟩ = some a1 := V1.out.cell 1
  rw [hW1] at a0' a1'
  clear hA hB hC sA1 sA2 sB1 sB2 sC1 sC2 lA lB lC
  go_enter Try.func3, Try.ntmps3
  go_wp2_with fail
  rw [← hW1]
  clear a0' a1' hW1
  refine CHA.out.mono ?_
  rintro e w2 ⟨ha, rfl, hba, hu2⟩
  have U2 := Lib.hid hu2
  clear hu2 CHA
  cases ha with
  | true =>
    have UU := Lib.hid (UW.out.trans U2.out (fun _ _ f => f))
    clear hba
    go_wp2_with fail
    refine (awake32 _).mono ?_
    rintro e wA ⟨rfl, huA⟩
    have UA := Lib.hid (UU.out.trans huA (fun _ _ f => f))
    clear huA
    go_wp2
    go_ret
    exact ⟨rfl, UA.out⟩
  | false =>
    have HSA := Lib.hid (hba rfl)
    clear hba
    have b0' : w2.cell? ⟨w.heap.size + 1, 0, none⟩ = some b0 := (U2.out.blk V2.out (fun f => f)).cell 0
    have b1' : w2.cell? ⟨w.heap.size + 1, 1, none⟩ = some b1 := (U2.out.blk V2.out (fun f => f)).cell 1
    go_wp2_with fail
    refine (CHB.out w2 U2.out).mono ?_
    rintro e w3 ⟨hb, rfl, hbb, hu3⟩
    have U3 := Lib.hid (U2.out.trans hu3 (fun _ _ f => f))
    clear hu3 CHB b0' b1'
    cases hb with
    | true =>
      have UU := Lib.hid (UW.out.trans U3.out (fun _ _ f => f))
      clear hbb
      go_wp2_with fail
      refine (awake32 _).mono ?_
      rintro e wA ⟨rfl, huA⟩
      have UA := Lib.hid (UU.out.trans huA (fun _ _ f => f))
      clear huA
      go_wp2
      go_ret
      exact ⟨rfl, UA.out⟩
    | false =>
      have HSB := Lib.hid (hbb rfl)
      clear hbb
      have b0' : w3.cell? ⟨w.heap.size + 1 + 1, 0, none⟩ = some c0 := (U3.out.blk V3.out (fun f => f)).cell 0
      have b1' : w3.cell? ⟨w.heap.size + 1 + 1, 1, none⟩ = some c1 := (U3.out.blk V3.out (fun f => f)).cell 1
      go_wp2_with fail
      refine (CHC.out w3 U3.out).mono ?_
      rintro e w4 ⟨hc, rfl, hbc, hu4⟩
      have U4 := Lib.hid (U3.out.trans hu4 (fun _ _ f => f))
      clear hu4 CHC b0' b1'
      cases hc with
      | true =>
        have UU := Lib.hid (UW.out.trans U4.out (fun _ _ f => f))
        clear hbc
        go_wp2_with fail
        refine (awake32 _).mono ?_
        rintro e wA ⟨rfl, huA⟩
        have UA := Lib.hid (UU.out.trans huA (fun _ _ f => f))
        clear huA
        go_wp2
        go_ret
        exact ⟨rfl, UA.out⟩
      | false =>
        have HSC := Lib.hid (hbc rfl)
        clear hbc
        have MA := Lib.hid (show SmV A from ⟨by have := HSA.out; omega, by have := HSA.out; omega, FA.out⟩)
        have MB := Lib.hid (show SmV B from ⟨by have := HSB.out; omega, by have := HSB.out; omega, FB.out⟩)
        have MC := Lib.hid (show SmV C from ⟨by have := HSC.out; omega, by have := HSC.out; omega, FC.out⟩)
        have MU := Lib.hid (sm_uni ⟨by have := HSA.out; omega, FA.out⟩ ⟨by have := HSB.out; omega, FB.out⟩)
        have MBC := Lib.hid (sm_uni ⟨by have := HSB.out; omega, FB.out⟩ ⟨by have := HSC.out; omega, FC.out⟩).2.2
        have MR := Lib.hid (show SmV (uniS (uniS A B) C) from ⟨by have := uniS_votes_len (uniS A B) C; have := MU.out.1; have := HSC.out; omega, by have := uniS_texts_len (uniS A B) C; have := MU.out.2.1; have := HSC.out; omega, uniS_lenV MU.out.2.2.2.2.1 FC.out.1, uniS_fit MU.out.2.2.2.2.2 FC.out.2⟩)
        have QC := Lib.hid (uniS_comm FA.out.2 FB.out.2)
        have QI := Lib.hid (uniS_idem FA.out.2 FB.out.2)
        have QA := Lib.hid (uniS_assoc FA.out.2 FB.out.2 FC.out.2)
        have a0' : w4.cell? ⟨w.heap.size, 0, none⟩ = some a0 := (U4.out.blk V1.out (fun f => f)).cell 0
        have a1' : w4.cell? ⟨w.heap.size, 1, none⟩ = some a1 := (U4.out.blk V1.out (fun f => f)).cell 1
        have b0' : w4.cell? ⟨w.heap.size + 1, 0, none⟩ = some b0 := (U4.out.blk V2.out (fun f => f)).cell 0
        have b1' : w4.cell? ⟨w.heap.size + 1, 1, none⟩ = some b1 := (U4.out.blk V2.out (fun f => f)).cell 1
        go_wp2_with fail
        refine (union_sm (HA.out.keep U4.out) (HB.out.keep U4.out) MA.out MB.out).mono ?_
        rintro e wu ⟨x, y, rfl, hvu, huu⟩
        obtain ⟨Ax, cx, rfl, -, -⟩ := hvu.1.form
        obtain ⟨Ay, cy, rfl, -, -⟩ := hvu.2.form
        obtain ⟨U, hU⟩ : ∃ U, U = uniS A B := ⟨_, rfl⟩
        rw [← hU] at hvu MU QC QI QA MR ⊢
        obtain ⟨nu, hnu⟩ : ∃ n, U.votes.length = n := ⟨_, rfl⟩
        obtain ⟨mu, hmu⟩ : ∃ n, U.texts.length = n := ⟨_, rfl⟩
        rw [hnu, hmu] at hvu ⊢
        obtain ⟨WZ, hWZ⟩ : ∃ x, x = wu.alloc (.cells #[.slice Ax nu cx, .slice Ay mu cy] 25) := ⟨_, rfl⟩
        have UZ := Lib.hid (show Upd NoF W1 WZ from by rw [hWZ]; exact (U4.out.trans huu (fun _ _ f => f)).alloc _)
        have PU := Lib.hid (show Blk WZ wu.heap.size 25 #[.slice Ax nu cx, .slice Ay mu cy] from by rw [hWZ]; exact Blk.new wu _ _)
        have HUZ := Lib.hid (show VwR WZ (.slice Ax nu cx) (.slice Ay mu cy) U from by rw [hWZ]; exact hvu.keep ((Upd.refl NoF wu).alloc _))
        have PA := Lib.hid (UZ.out.blk V1.out (fun f => f))
        have PB := Lib.hid (UZ.out.blk V2.out (fun f => f))
        have PC := Lib.hid (UZ.out.blk V3.out (fun f => f))
        have ZA := Lib.hid (HA.out.keep UZ.out)
        have ZB := Lib.hid (HB.out.keep UZ.out)
        have ZC := Lib.hid (HC.out.keep UZ.out)
        have UU := Lib.hid (UW.out.trans UZ.out (fun _ _ f => f))
        have HEU := Lib.hid hU
        clear hU hnu hmu hvu huu a0' a1' b0' b1' V1 V2 V3 HA HB HC U2 U3 U4 HSA HSB HSC FA FB FC UW
        go_wp2_with fail
        rw [← hWZ]
        clear hWZ
        have CRU := Lib.hid (show ∀ W, Upd NoF WZ W → Calls Try.prog 8 #[.agg #[a0, a1], .agg #[b0, b1]] W (UniPost W U) from fun W hu => by rw [HEU.out]; exact runion_sm (ZA.out.keep hu) (ZB.out.keep hu) MA.out MB.out)
        have CBA := Lib.hid (show ∀ W, Upd NoF WZ W → Calls Try.prog 6 #[.agg #[b0, b1], .agg #[a0, a1]] W (UniPost W U) from fun W hu => by rw [QC.out]; exact union_sm (ZB.out.keep hu) (ZA.out.keep hu) MB.out MA.out)
        have CUU := Lib.hid (show ∀ W, Upd NoF WZ W → Calls Try.prog 6 #[.agg #[.slice Ax nu cx, .slice Ay mu cy], .agg #[.slice Ax nu cx, .slice Ay mu cy]] W (UniPost W U) from fun W hu => by have h := union_sm (HUZ.out.keep hu) (HUZ.out.keep hu) MU.out.2.2 MU.out.2.2; rw [QI.out] at h; exact h)
        have CS1 := Lib.hid (show ∀ W, Upd NoF WZ W → ∀ x y, VwR W x y U → Calls Try.prog 7 #[.agg #[.slice Ax nu cx, .slice Ay mu cy], .agg #[x, y]] W fun e w' => e = .returned (.bool true) ∧ Upd NoF W w' from fun W hu x y hv => by have h := same_sm (HUZ.out.keep hu) hv MU.out.2.2 MU.out.2.2; simpa using h)
        have CS2 := Lib.hid (show ∀ W, Upd NoF WZ W → ∀ x y, VwR W x y U → Calls Try.prog 7 #[.agg #[x, y], .agg #[.slice Ax nu cx, .slice Ay mu cy]] W fun e w' => e = .returned (.bool true) ∧ Upd NoF W w' from fun W hu x y hv => by have h := same_sm hv (HUZ.out.keep hu) MU.out.2.2 MU.out.2.2; simpa using h)
        obtain ⟨dd, hdd⟩ : ∃ d, d = decide (A = B) := ⟨_, rfl⟩
        have CEQ := Lib.hid (show ∀ W, Upd NoF WZ W → Calls Try.prog 9 #[.agg #[a0, a1], .agg #[b0, b1]] W fun e w' => e = .returned (.bool dd) ∧ Upd NoF W w' from fun W hu => by rw [hdd]; exact equal_sm (ZA.out.keep hu) (ZB.out.keep hu) MA.out MB.out)
        have CSM := Lib.hid (show ∀ W, Upd NoF WZ W → Calls Try.prog 7 #[.agg #[a0, a1], .agg #[b0, b1]] W fun e w' => e = .returned (.bool dd) ∧ Upd NoF W w' from fun W hu => by rw [hdd]; exact same_sm (ZA.out.keep hu) (ZB.out.keep hu) MA.out MB.out)
        clear hdd
        refine wp_region_rgw (rgR [isV (.agg #[.slice Ax nu cx, .slice Ay mu cy]), isV (.agg #[a0, a1]), isV (.agg #[b0, b1]), VwV U, isV (.bool true), isV (.bool false), isV (.bool false), isV (.agg #[.slice Ax nu cx, .slice Ay mu cy]), isV (.agg #[b0, b1]), isV (.agg #[a0, a1]), VwV U, isV (.bool true), isV (.bool false), isV (.bool false), isV (.bool false), isV (.agg #[.slice Ax nu cx, .slice Ay mu cy]), isV (.agg #[.slice Ax nu cx, .slice Ay mu cy]), VwV U, isV (.agg #[.slice Ax nu cx, .slice Ay mu cy]), isV (.bool true), isV (.bool false), isV (.bool false), isV (.bool false), isV (.agg #[a0, a1]), isV (.agg #[b0, b1]), isV (.bool dd), isV (.agg #[a0, a1]), isV (.agg #[b0, b1]), isV (.bool dd), isV (.bool false), isV (.bool false)]) (fun w w' => Upd NoF w w') (fun _ wq => Upd NoF WZ.drew wq) (by kernel_rfl) (by kernel_rfl) (by kernel_rfl) (by rfl) (fun w => Upd.refl _ _) (rgR_keep (by
          intro p hp; simp only [List.mem_cons, List.not_mem_nil, or_false] at hp; rcases hp with rfl | rfl | rfl | rfl | rfl | rfl | rfl | rfl | rfl | rfl | rfl | rfl | rfl | rfl | rfl | rfl | rfl | rfl | rfl | rfl | rfl | rfl | rfl | rfl | rfl | rfl | rfl | rfl | rfl | rfl | rfl <;> first | exact stb_isV _ | exact stb_any | exact stb_vwv _)) (Upd.refl _ _) ?_ ?_
        · refine ⟨?_, ?_, ?_, ?_, ?_, ?_, ?_, ?_, ?_, ?_, ?_, ?_, ?_, ?_, ?_, ?_, ?_, ?_, ?_, ?_, ?_, ?_, ?_, ?_, ?_, ?_, ?_, ?_, ?_, ?_, ?_, trivial⟩
          · refine fun ρ w' L hW hLi hcl hd hdep hext hc hg hf => ?_
            rw [if_pos (show wantedR _ _ _ = true from rfl)]
            have e7 : ρ (.tmp 7) = ptrV wu.heap.size := hext 7 (by kernel_rfl)
            have hu0 : Upd NoF WZ w' := ((Upd.refl NoF WZ).drew).trans hW (fun _ _ f => f)
            have q0 := (hu0.blk PU.out (fun f => f)).cell 0
            have q1 := (hu0.blk PU.out (fun f => f)).cell 1
            simp only [List.getElem?_toArray, List.getElem?_cons_zero, List.getElem?_cons_succ] at q0 q1
            clear hu0
            clear hdep hext hcl
            have HW := Lib.hid hW
            clear hW
            unfold OpDone
            go_simp
            exact ⟨rfl, Upd.refl _ _, HW.out⟩
          · refine fun ρ w' L hW hLi hcl hd hdep hext hc hg hf => ?_
            rw [if_pos (show wantedR _ _ _ = true from rfl)]
            have e3 : ρ (.tmp 3) = ptrV w.heap.size := hext 3 (by kernel_rfl)
            have hu0 : Upd NoF WZ w' := ((Upd.refl NoF WZ).drew).trans hW (fun _ _ f => f)
            have q0 := (hu0.blk PA.out (fun f => f)).cell 0
            have q1 := (hu0.blk PA.out (fun f => f)).cell 1
            simp only [List.getElem?_toArray, List.getElem?_cons_zero, List.getElem?_cons_succ] at q0 q1
            clear hu0
            clear hdep hext hcl
            have HW := Lib.hid hW
            clear hW
            unfold OpDone
            go_simp
            exact ⟨rfl, Upd.refl _ _, HW.out⟩
          · refine fun ρ w' L hW hLi hcl hd hdep hext hc hg hf => ?_
            rw [if_pos (show wantedR _ _ _ = true from rfl)]
            have e4 : ρ (.tmp 4) = ptrV (w.heap.size + 1) := hext 4 (by kernel_rfl)
            have hu0 : Upd NoF WZ w' := ((Upd.refl NoF WZ).drew).trans hW (fun _ _ f => f)
            have q0 := (hu0.blk PB.out (fun f => f)).cell 0
            have q1 := (hu0.blk PB.out (fun f => f)).cell 1
            simp only [List.getElem?_toArray, List.getElem?_cons_zero, List.getElem?_cons_succ] at q0 q1
            clear hu0
            clear hdep hext hcl
            have HW := Lib.hid hW
            clear hW
            unfold OpDone
            go_simp
            exact ⟨rfl, Upd.refl _ _, HW.out⟩
          · refine fun ρ w' L hW hLi hcl hd hdep hext hc hg hf => ?_
            rw [if_pos (show wantedR _ _ _ = true from rfl)]
            have e23 : ρ (.tmp 23) = .agg #[a0, a1] := hdep 1 _ rfl (by kernel_rfl)
            have e24 : ρ (.tmp 24) = .agg #[b0, b1] := hdep 2 _ rfl (by kernel_rfl)
            clear hdep hext
            have hu0 : Upd NoF WZ w' := ((Upd.refl NoF WZ).drew).trans hW (fun _ _ f => f)
            have CQ := Lib.hid (CRU.out w' hu0)
            have HW := Lib.hid hW
            clear hW hu0
            unfold OpDone
            go_simp
            refine CQ.out.mono ?_
            rintro e w2 ⟨x, y, rfl, hv2, hu2⟩
            exact ⟨_, rfl, ⟨x, y, rfl, hv2⟩, hu2, HW.out.trans hu2 (fun _ _ f => f)⟩
          · refine fun ρ w' L hW hLi hcl hd hdep hext hc hg hf => ?_
            rw [if_pos (show wantedR _ _ _ = true from rfl)]
            have e22 : ρ (.tmp 22) = .agg #[.slice Ax nu cx, .slice Ay mu cy] := hdep 0 _ rfl (by kernel_rfl)
            have e25 : (VwV U) (ρ (.tmp 25)) w' := hdep 3 _ rfl (by kernel_rfl)
            clear hdep hext
            have hu0 : Upd NoF WZ w' := ((Upd.refl NoF WZ).drew).trans hW (fun _ _ f => f)
            obtain ⟨x0, y0, e25, hv0⟩ := e25
            have CQ := Lib.hid (CS1.out w' hu0 _ _ hv0)
            have HW := Lib.hid hW
            clear hW hu0
            unfold OpDone
            go_simp
            refine CQ.out.mono ?_
            rintro e w2 ⟨rfl, hu2⟩
            exact ⟨_, rfl, rfl, hu2, HW.out.trans hu2 (fun _ _ f => f)⟩
          · refine fun ρ w' L hW hLi hcl hd hdep hext hc hg hf => ?_
            rw [if_pos (show wantedR _ _ _ = true from rfl)]
            have e26 : ρ (.tmp 26) = .bool true := hdep 4 _ rfl (by kernel_rfl)
            clear hdep hext hcl
            have HW := Lib.hid hW
            clear hW
            unfold OpDone
            go_simp
            exact ⟨rfl, Upd.refl _ _, HW.out⟩
          · refine fun ρ w' L hW hLi hcl hd hdep hext hc hg hf => ?_
            rw [if_pos (show wantedR _ _ _ = true from rfl)]
            have e27 : ρ (.tmp 27) = .bool false := hdep 5 _ rfl (by kernel_rfl)
            clear hdep hext hcl
            have HW := Lib.hid hW
            clear hW
            unfold OpDone
            go_simp
            exact ⟨rfl, Upd.refl _ _, HW.out⟩
          · refine fun ρ w' L hW hLi hcl hd hdep hext hc hg hf => ?_
            have eg : ρ (.tmp 28) = .bool false := hdep 6 _ rfl (by kernel_rfl)
            refine wanted_go ?_ ?_
            · show (match ρ (.tmp 28) with | .bool c => c == false | _ => false) = true
              rw [eg]
              rfl
            clear eg
            have e7 : ρ (.tmp 7) = ptrV wu.heap.size := hext 7 (by kernel_rfl)
            have hu0 : Upd NoF WZ w' := ((Upd.refl NoF WZ).drew).trans hW (fun _ _ f => f)
            have q0 := (hu0.blk PU.out (fun f => f)).cell 0
            have q1 := (hu0.blk PU.out (fun f => f)).cell 1
            simp only [List.getElem?_toArray, List.getElem?_cons_zero, List.getElem?_cons_succ] at q0 q1
            clear hu0
            clear hdep hext hcl
            have HW := Lib.hid hW
            clear hW
            unfold OpDone
            go_simp
            exact ⟨rfl, Upd.refl _ _, HW.out⟩
          · refine fun ρ w' L hW hLi hcl hd hdep hext hc hg hf => ?_
            have eg : ρ (.tmp 28) = .bool false := hdep 6 _ rfl (by kernel_rfl)
            refine wanted_go ?_ ?_
            · show (match ρ (.tmp 28) with | .bool c => c == false | _ => false) = true
              rw [eg]
              rfl
            clear eg
            have e4 : ρ (.tmp 4) = ptrV (w.heap.size + 1) := hext 4 (by kernel_rfl)
            have hu0 : Upd NoF WZ w' := ((Upd.refl NoF WZ).drew).trans hW (fun _ _ f => f)
            have q0 := (hu0.blk PB.out (fun f => f)).cell 0
            have q1 := (hu0.blk PB.out (fun f => f)).cell 1
            simp only [List.getElem?_toArray, List.getElem?_cons_zero, List.getElem?_cons_succ] at q0 q1
            clear hu0
            clear hdep hext hcl
            have HW := Lib.hid hW
            clear hW
            unfold OpDone
            go_simp
            exact ⟨rfl, Upd.refl _ _, HW.out⟩
          · refine fun ρ w' L hW hLi hcl hd hdep hext hc hg hf => ?_
            have eg : ρ (.tmp 28) = .bool false := hdep 6 _ rfl (by kernel_rfl)
            refine wanted_go ?_ ?_
            · show (match ρ (.tmp 28) with | .bool c => c == false | _ => false) = true
              rw [eg]
              rfl
            clear eg
            have e3 : ρ (.tmp 3) = ptrV w.heap.size := hext 3 (by kernel_rfl)
            have hu0 : Upd NoF WZ w' := ((Upd.refl NoF WZ).drew).trans hW (fun _ _ f => f)
            have q0 := (hu0.blk PA.out (fun f => f)).cell 0
            have q1 := (hu0.blk PA.out (fun f => f)).cell 1
            simp only [List.getElem?_toArray, List.getElem?_cons_zero, List.getElem?_cons_succ] at q0 q1
            clear hu0
            clear hdep hext hcl
            have HW := Lib.hid hW
            clear hW
            unfold OpDone
            go_simp
            exact ⟨rfl, Upd.refl _ _, HW.out⟩
          · refine fun ρ w' L hW hLi hcl hd hdep hext hc hg hf => ?_
            have eg : ρ (.tmp 28) = .bool false := hdep 6 _ rfl (by kernel_rfl)
            refine wanted_go ?_ ?_
            · show (match ρ (.tmp 28) with | .bool c => c == false | _ => false) = true
              rw [eg]
              rfl
            clear eg
            have e30 : ρ (.tmp 30) = .agg #[b0, b1] := hdep 8 _ rfl (by kernel_rfl)
            have e31 : ρ (.tmp 31) = .agg #[a0, a1] := hdep 9 _ rfl (by kernel_rfl)
            clear hdep hext
            have hu0 : Upd NoF WZ w' := ((Upd.refl NoF WZ).drew).trans hW (fun _ _ f => f)
            have CQ := Lib.hid (CBA.out w' hu0)
            have HW := Lib.hid hW
            clear hW hu0
            unfold OpDone
            go_simp
            refine CQ.out.mono ?_
            rintro e w2 ⟨x, y, rfl, hv2, hu2⟩
            exact ⟨_, rfl, ⟨x, y, rfl, hv2⟩, hu2, HW.out.trans hu2 (fun _ _ f => f)⟩
          · refine fun ρ w' L hW hLi hcl hd hdep hext hc hg hf => ?_
            have eg : ρ (.tmp 28) = .bool false := hdep 6 _ rfl (by kernel_rfl)
            refine wanted_go ?_ ?_
            · show (match ρ (.tmp 28) with | .bool c => c == false | _ => false) = true
              rw [eg]
              rfl
            clear eg
            have e29 : ρ (.tmp 29) = .agg #[.slice Ax nu cx, .slice Ay mu cy] := hdep 7 _ rfl (by kernel_rfl)
            have e32 : (VwV U) (ρ (.tmp 32)) w' := hdep 10 _ rfl (by kernel_rfl)
            clear hdep hext
            have hu0 : Upd NoF WZ w' := ((Upd.refl NoF WZ).drew).trans hW (fun _ _ f => f)
            obtain ⟨x0, y0, e32, hv0⟩ := e32
            have CQ := Lib.hid (CS1.out w' hu0 _ _ hv0)
            have HW := Lib.hid hW
            clear hW hu0
            unfold OpDone
            go_simp
            refine CQ.out.mono ?_
            rintro e w2 ⟨rfl, hu2⟩
            exact ⟨_, rfl, rfl, hu2, HW.out.trans hu2 (fun _ _ f => f)⟩
          · refine fun ρ w' L hW hLi hcl hd hdep hext hc hg hf => ?_
            have eg : ρ (.tmp 28) = .bool false := hdep 6 _ rfl (by kernel_rfl)
            refine wanted_go ?_ ?_
            · show (match ρ (.tmp 28) with | .bool c => c == false | _ => false) = true
              rw [eg]
              rfl
            clear eg
            have e33 : ρ (.tmp 33) = .bool true := hdep 11 _ rfl (by kernel_rfl)
            clear hdep hext hcl
            have HW := Lib.hid hW
            clear hW
            unfold OpDone
            go_simp
            exact ⟨rfl, Upd.refl _ _, HW.out⟩
          · refine fun ρ w' L hW hLi hcl hd hdep hext hc hg hf => ?_
            rw [if_pos (show wantedR _ _ _ = true from rfl)]
            have e28 : ρ (.tmp 28) = .bool false := hdep 6 _ rfl (by kernel_rfl)
            have e34 : ρ (.tmp 34) = .bool false := hdep 12 _ rfl (by kernel_rfl)
            clear hdep hext hcl
            have HW := Lib.hid hW
            clear hW
            unfold OpDone
            go_simp
            exact ⟨rfl, Upd.refl _ _, HW.out⟩
          · refine fun ρ w' L hW hLi hcl hd hdep hext hc hg hf => ?_
            rw [if_pos (show wantedR _ _ _ = true from rfl)]
            have e35 : ρ (.tmp 35) = .bool false := hdep 13 _ rfl (by kernel_rfl)
            clear hdep hext hcl
            have HW := Lib.hid hW
            clear hW
            unfold OpDone
            go_simp
            exact ⟨rfl, Upd.refl _ _, HW.out⟩
          · refine fun ρ w' L hW hLi hcl hd hdep hext hc hg hf => ?_
            have eg : ρ (.tmp 36) = .bool false := hdep 14 _ rfl (by kernel_rfl)
            refine wanted_go ?_ ?_
            · show (match ρ (.tmp 36) with | .bool c => c == false | _ => false) = true
              rw [eg]
              rfl
            clear eg
            have e7 : ρ (.tmp 7) = ptrV wu.heap.size := hext 7 (by kernel_rfl)
            have hu0 : Upd NoF WZ w' := ((Upd.refl NoF WZ).drew).trans hW (fun _ _ f => f)
            have q0 := (hu0.blk PU.out (fun f => f)).cell 0
            have q1 := (hu0.blk PU.out (fun f => f)).cell 1
            simp only [List.getElem?_toArray, List.getElem?_cons_zero, List.getElem?_cons_succ] at q0 q1
            clear hu0
            clear hdep hext hcl
            have HW := Lib.hid hW
            clear hW
            unfold OpDone
            go_simp
            exact ⟨rfl, Upd.refl _ _, HW.out⟩
          · refine fun ρ w' L hW hLi hcl hd hdep hext hc hg hf => ?_
            have eg : ρ (.tmp 36) = .bool false := hdep 14 _ rfl (by kernel_rfl)
            refine wanted_go ?_ ?_
            · show (match ρ (.tmp 36) with | .bool c => c == false | _ => false) = true
              rw [eg]
              rfl
            clear eg
            have e7 : ρ (.tmp 7) = ptrV wu.heap.size := hext 7 (by kernel_rfl)
            have hu0 : Upd NoF WZ w' := ((Upd.refl NoF WZ).drew).trans hW (fun _ _ f => f)
            have q0 := (hu0.blk PU.out (fun f => f)).cell 0
            have q1 := (hu0.blk PU.out (fun f => f)).cell 1
            simp only [List.getElem?_toArray, List.getElem?_cons_zero, List.getElem?_cons_succ] at q0 q1
            clear hu0
            clear hdep hext hcl
            have HW := Lib.hid hW
            clear hW
            unfold OpDone
            go_simp
            exact ⟨rfl, Upd.refl _ _, HW.out⟩
          · refine fun ρ w' L hW hLi hcl hd hdep hext hc hg hf => ?_
            have eg : ρ (.tmp 36) = .bool false := hdep 14 _ rfl (by kernel_rfl)
            refine wanted_go ?_ ?_
            · show (match ρ (.tmp 36) with | .bool c => c == false | _ => false) = true
              rw [eg]
              rfl
            clear eg
            have e37 : ρ (.tmp 37) = .agg #[.slice Ax nu cx, .slice Ay mu cy] := hdep 15 _ rfl (by kernel_rfl)
            have e38 : ρ (.tmp 38) = .agg #[.slice Ax nu cx, .slice Ay mu cy] := hdep 16 _ rfl (by kernel_rfl)
            clear hdep hext
            have hu0 : Upd NoF WZ w' := ((Upd.refl NoF WZ).drew).trans hW (fun _ _ f => f)
            have CQ := Lib.hid (CUU.out w' hu0)
            have HW := Lib.hid hW
            clear hW hu0
            unfold OpDone
            go_simp
            refine CQ.out.mono ?_
            rintro e w2 ⟨x, y, rfl, hv2, hu2⟩
            exact ⟨_, rfl, ⟨x, y, rfl, hv2⟩, hu2, HW.out.trans hu2 (fun _ _ f => f)⟩
          · refine fun ρ w' L hW hLi hcl hd hdep hext hc hg hf => ?_
            have eg : ρ (.tmp 36) = .bool false := hdep 14 _ rfl (by kernel_rfl)
            refine wanted_go ?_ ?_
            · show (match ρ (.tmp 36) with | .bool c => c == false | _ => false) = true
              rw [eg]
              rfl
            clear eg
            have e7 : ρ (.tmp 7) = ptrV wu.heap.size := hext 7 (by kernel_rfl)
            have hu0 : Upd NoF WZ w' := ((Upd.refl NoF WZ).drew).trans hW (fun _ _ f => f)
            have q0 := (hu0.blk PU.out (fun f => f)).cell 0
            have q1 := (hu0.blk PU.out (fun f => f)).cell 1
            simp only [List.getElem?_toArray, List.getElem?_cons_zero, List.getElem?_cons_succ] at q0 q1
            clear hu0
            clear hdep hext hcl
            have HW := Lib.hid hW
            clear hW
            unfold OpDone
            go_simp
            exact ⟨rfl, Upd.refl _ _, HW.out⟩
          · refine fun ρ w' L hW hLi hcl hd hdep hext hc hg hf => ?_
            have eg : ρ (.tmp 36) = .bool false := hdep 14 _ rfl (by kernel_rfl)
            refine wanted_go ?_ ?_
            · show (match ρ (.tmp 36) with | .bool c => c == false | _ => false) = true
              rw [eg]
              rfl
            clear eg
            have e39 : (VwV U) (ρ (.tmp 39)) w' := hdep 17 _ rfl (by kernel_rfl)
            have e40 : ρ (.tmp 40) = .agg #[.slice Ax nu cx, .slice Ay mu cy] := hdep 18 _ rfl (by kernel_rfl)
            clear hdep hext
            have hu0 : Upd NoF WZ w' := ((Upd.refl NoF WZ).drew).trans hW (fun _ _ f => f)
            obtain ⟨x0, y0, e39, hv0⟩ := e39
            have CQ := Lib.hid (CS2.out w' hu0 _ _ hv0)
            have HW := Lib.hid hW
            clear hW hu0
            unfold OpDone
            go_simp
            refine CQ.out.mono ?_
            rintro e w2 ⟨rfl, hu2⟩
            exact ⟨_, rfl, rfl, hu2, HW.out.trans hu2 (fun _ _ f => f)⟩
          · refine fun ρ w' L hW hLi hcl hd hdep hext hc hg hf => ?_
            have eg : ρ (.tmp 36) = .bool false := hdep 14 _ rfl (by kernel_rfl)
            refine wanted_go ?_ ?_
            · show (match ρ (.tmp 36) with | .bool c => c == false | _ => false) = true
              rw [eg]
              rfl
            clear eg
            have e41 : ρ (.tmp 41) = .bool true := hdep 19 _ rfl (by kernel_rfl)
            clear hdep hext hcl
            have HW := Lib.hid hW
            clear hW
            unfold OpDone
            go_simp
            exact ⟨rfl, Upd.refl _ _, HW.out⟩
          · refine fun ρ w' L hW hLi hcl hd hdep hext hc hg hf => ?_
            rw [if_pos (show wantedR _ _ _ = true from rfl)]
            have e36 : ρ (.tmp 36) = .bool false := hdep 14 _ rfl (by kernel_rfl)
            have e42 : ρ (.tmp 42) = .bool false := hdep 20 _ rfl (by kernel_rfl)
            clear hdep hext hcl
            have HW := Lib.hid hW
            clear hW
            unfold OpDone
            go_simp
            exact ⟨rfl, Upd.refl _ _, HW.out⟩
          · refine fun ρ w' L hW hLi hcl hd hdep hext hc hg hf => ?_
            rw [if_pos (show wantedR _ _ _ = true from rfl)]
            have e43 : ρ (.tmp 43) = .bool false := hdep 21 _ rfl (by kernel_rfl)
            clear hdep hext hcl
            have HW := Lib.hid hW
            clear hW
            unfold OpDone
            go_simp
            exact ⟨rfl, Upd.refl _ _, HW.out⟩
          · refine fun ρ w' L hW hLi hcl hd hdep hext hc hg hf => ?_
            have eg : ρ (.tmp 44) = .bool false := hdep 22 _ rfl (by kernel_rfl)
            refine wanted_go ?_ ?_
            · show (match ρ (.tmp 44) with | .bool c => c == false | _ => false) = true
              rw [eg]
              rfl
            clear eg
            have e3 : ρ (.tmp 3) = ptrV w.heap.size := hext 3 (by kernel_rfl)
            have hu0 : Upd NoF WZ w' := ((Upd.refl NoF WZ).drew).trans hW (fun _ _ f => f)
            have q0 := (hu0.blk PA.out (fun f => f)).cell 0
            have q1 := (hu0.blk PA.out (fun f => f)).cell 1
            simp only [List.getElem?_toArray, List.getElem?_cons_zero, List.getElem?_cons_succ] at q0 q1
            clear hu0
            clear hdep hext hcl
            have HW := Lib.hid hW
            clear hW
            unfold OpDone
            go_simp
            exact ⟨rfl, Upd.refl _ _, HW.out⟩
          · refine fun ρ w' L hW hLi hcl hd hdep hext hc hg hf => ?_
            have eg : ρ (.tmp 44) = .bool false := hdep 22 _ rfl (by kernel_rfl)
            refine wanted_go ?_ ?_
            · show (match ρ (.tmp 44) with | .bool c => c == false | _ => false) = true
              rw [eg]
              rfl
            clear eg
            have e4 : ρ (.tmp 4) = ptrV (w.heap.size + 1) := hext 4 (by kernel_rfl)
            have hu0 : Upd NoF WZ w' := ((Upd.refl NoF WZ).drew).trans hW (fun _ _ f => f)
            have q0 := (hu0.blk PB.out (fun f => f)).cell 0
            have q1 := (hu0.blk PB.out (fun f => f)).cell 1
            simp only [List.getElem?_toArray, List.getElem?_cons_zero, List.getElem?_cons_succ] at q0 q1
            clear hu0
            clear hdep hext hcl
            have HW := Lib.hid hW
            clear hW
            unfold OpDone
            go_simp
            exact ⟨rfl, Upd.refl _ _, HW.out⟩
          · refine fun ρ w' L hW hLi hcl hd hdep hext hc hg hf => ?_
            have eg : ρ (.tmp 44) = .bool false := hdep 22 _ rfl (by kernel_rfl)
            refine wanted_go ?_ ?_
            · show (match ρ (.tmp 44) with | .bool c => c == false | _ => false) = true
              rw [eg]
              rfl
            clear eg
            have e45 : ρ (.tmp 45) = .agg #[a0, a1] := hdep 23 _ rfl (by kernel_rfl)
            have e46 : ρ (.tmp 46) = .agg #[b0, b1] := hdep 24 _ rfl (by kernel_rfl)
            clear hdep hext
            have hu0 : Upd NoF WZ w' := ((Upd.refl NoF WZ).drew).trans hW (fun _ _ f => f)
            have CQ := Lib.hid (CEQ.out w' hu0)
            have HW := Lib.hid hW
            clear hW hu0
            unfold OpDone
            go_simp
            refine CQ.out.mono ?_
            rintro e w2 ⟨rfl, hu2⟩
            exact ⟨_, rfl, rfl, hu2, HW.out.trans hu2 (fun _ _ f => f)⟩
          · refine fun ρ w' L hW hLi hcl hd hdep hext hc hg hf => ?_
            have eg : ρ (.tmp 44) = .bool false := hdep 22 _ rfl (by kernel_rfl)
            refine wanted_go ?_ ?_
            · show (match ρ (.tmp 44) with | .bool c => c == false | _ => false) = true
              rw [eg]
              rfl
            clear eg
            have e3 : ρ (.tmp 3) = ptrV w.heap.size := hext 3 (by kernel_rfl)
            have hu0 : Upd NoF WZ w' := ((Upd.refl NoF WZ).drew).trans hW (fun _ _ f => f)
            have q0 := (hu0.blk PA.out (fun f => f)).cell 0
            have q1 := (hu0.blk PA.out (fun f => f)).cell 1
            simp only [List.getElem?_toArray, List.getElem?_cons_zero, List.getElem?_cons_succ] at q0 q1
            clear hu0
            clear hdep hext hcl
            have HW := Lib.hid hW
            clear hW
            unfold OpDone
            go_simp
            exact ⟨rfl, Upd.refl _ _, HW.out⟩
          · refine fun ρ w' L hW hLi hcl hd hdep hext hc hg hf => ?_
            have eg : ρ (.tmp 44) = .bool false := hdep 22 _ rfl (by kernel_rfl)
            refine wanted_go ?_ ?_
            · show (match ρ (.tmp 44) with | .bool c => c == false | _ => false) = true
              rw [eg]
              rfl
            clear eg
            have e4 : ρ (.tmp 4) = ptrV (w.heap.size + 1) := hext 4 (by kernel_rfl)
            have hu0 : Upd NoF WZ w' := ((Upd.refl NoF WZ).drew).trans hW (fun _ _ f => f)
            have q0 := (hu0.blk PB.out (fun f => f)).cell 0
            have q1 := (hu0.blk PB.out (fun f => f)).cell 1
            simp only [List.getElem?_toArray, List.getElem?_cons_zero, List.getElem?_cons_succ] at q0 q1
            clear hu0
            clear hdep hext hcl
            have HW := Lib.hid hW
            clear hW
            unfold OpDone
            go_simp
            exact ⟨rfl, Upd.refl _ _, HW.out⟩
          · refine fun ρ w' L hW hLi hcl hd hdep hext hc hg hf => ?_
            have eg : ρ (.tmp 44) = .bool false := hdep 22 _ rfl (by kernel_rfl)
            refine wanted_go ?_ ?_
            · show (match ρ (.tmp 44) with | .bool c => c == false | _ => false) = true
              rw [eg]
              rfl
            clear eg
            have e48 : ρ (.tmp 48) = .agg #[a0, a1] := hdep 26 _ rfl (by kernel_rfl)
            have e49 : ρ (.tmp 49) = .agg #[b0, b1] := hdep 27 _ rfl (by kernel_rfl)
            clear hdep hext
            have hu0 : Upd NoF WZ w' := ((Upd.refl NoF WZ).drew).trans hW (fun _ _ f => f)
            have CQ := Lib.hid (CSM.out w' hu0)
            have HW := Lib.hid hW
            clear hW hu0
            unfold OpDone
            go_simp
            refine CQ.out.mono ?_
            rintro e w2 ⟨rfl, hu2⟩
            exact ⟨_, rfl, rfl, hu2, HW.out.trans hu2 (fun _ _ f => f)⟩
          · refine fun ρ w' L hW hLi hcl hd hdep hext hc hg hf => ?_
            have eg : ρ (.tmp 44) = .bool false := hdep 22 _ rfl (by kernel_rfl)
            refine wanted_go ?_ ?_
            · show (match ρ (.tmp 44) with | .bool c => c == false | _ => false) = true
              rw [eg]
              rfl
            clear eg
            have e47 : ρ (.tmp 47) = .bool dd := hdep 25 _ rfl (by kernel_rfl)
            have e50 : ρ (.tmp 50) = .bool dd := hdep 28 _ rfl (by kernel_rfl)
            clear hdep hext
            have HW := Lib.hid hW
            clear hW
            unfold OpDone
            cases dd
            all_goals
              go_simp
              exact ⟨rfl, Upd.refl _ _, HW.out⟩
          · refine fun ρ w' L hW hLi hcl hd hdep hext hc hg hf => ?_
            rw [if_pos (show wantedR _ _ _ = true from rfl)]
            have e44 : ρ (.tmp 44) = .bool false := hdep 22 _ rfl (by kernel_rfl)
            have e51 : ρ (.tmp 51) = .bool false := hdep 29 _ rfl (by kernel_rfl)
            clear hdep hext hcl
            have HW := Lib.hid hW
            clear hW
            unfold OpDone
            go_simp
            exact ⟨rfl, Upd.refl _ _, HW.out⟩
        intro vs W4 L4 hL4 hW4 hR
        have hv0 : vs 0 = .agg #[.slice Ax nu cx, .slice Ay mu cy] := hR 0 _ rfl
        have hv1 : vs 1 = .agg #[a0, a1] := hR 1 _ rfl
        have hv2 : vs 2 = .agg #[b0, b1] := hR 2 _ rfl
        have hr3 : (VwV U) (vs 3) W4 := hR 3 _ rfl
        obtain ⟨vx3, vy3, hv3, -⟩ := hr3
        have hv4 : vs 4 = .bool true := hR 4 _ rfl
        have hv5 : vs 5 = .bool false := hR 5 _ rfl
        have hv6 : vs 6 = .bool false := hR 6 _ rfl
        have hv7 : vs 7 = .agg #[.slice Ax nu cx, .slice Ay mu cy] := hR 7 _ rfl
        have hv8 : vs 8 = .agg #[b0, b1] := hR 8 _ rfl
        have hv9 : vs 9 = .agg #[a0, a1] := hR 9 _ rfl
        have hr10 : (VwV U) (vs 10) W4 := hR 10 _ rfl
        obtain ⟨vx10, vy10, hv10, -⟩ := hr10
        have hv11 : vs 11 = .bool true := hR 11 _ rfl
        have hv12 : vs 12 = .bool false := hR 12 _ rfl
        have hv13 : vs 13 = .bool false := hR 13 _ rfl
        have hv14 : vs 14 = .bool false := hR 14 _ rfl
        have hv15 : vs 15 = .agg #[.slice Ax nu cx, .slice Ay mu cy] := hR 15 _ rfl
        have hv16 : vs 16 = .agg #[.slice Ax nu cx, .slice Ay mu cy] := hR 16 _ rfl
        have hr17 : (VwV U) (vs 17) W4 := hR 17 _ rfl
        obtain ⟨vx17, vy17, hv17, -⟩ := hr17
        have hv18 : vs 18 = .agg #[.slice Ax nu cx, .slice Ay mu cy] := hR 18 _ rfl
        have hv19 : vs 19 = .bool true := hR 19 _ rfl
        have hv20 : vs 20 = .bool false := hR 20 _ rfl
        have hv21 : vs 21 = .bool false := hR 21 _ rfl
        have hv22 : vs 22 = .bool false := hR 22 _ rfl
        have hv23 : vs 23 = .agg #[a0, a1] := hR 23 _ rfl
        have hv24 : vs 24 = .agg #[b0, b1] := hR 24 _ rfl
        have hv25 : vs 25 = .bool dd := hR 25 _ rfl
        have hv26 : vs 26 = .agg #[a0, a1] := hR 26 _ rfl
        have hv27 : vs 27 = .agg #[b0, b1] := hR 27 _ rfl
        have hv28 : vs 28 = .bool dd := hR 28 _ rfl
        have hv29 : vs 29 = .bool false := hR 29 _ rfl
        have hv30 : vs 30 = .bool false := hR 30 _ rfl
        simp only [putAll, Act.put, List.setIfInBounds_toArray, List.set_cons_zero, List.set_cons_succ, hv0, hv1, hv2, hv3, hv4, hv5, hv6, hv7, hv8, hv9, hv10, hv11, hv12, hv13, hv14, hv15, hv16, hv17, hv18, hv19, hv20, hv21, hv22, hv23, hv24, hv25, hv26, hv27, hv28, hv29, hv30]
        clear hR hv0 hv1 hv2 hv3 hv4 hv5 hv6 hv7 hv8 hv9 hv10 hv11 hv12 hv13 hv14 hv15 hv16 hv17 hv18 hv19 hv20 hv21 hv22 hv23 hv24 hv25 hv26 hv27 hv28 hv29 hv30
        clear hL4 CRU CBA CUU CS1 CS2 CEQ CSM
        have UY := Lib.hid (show Upd NoF WZ W4 from ((Upd.refl NoF WZ).drew).trans hW4 (fun _ _ f => f))
        have PA := Lib.hid (UY.out.blk PA.out (fun f => f))
        have PB := Lib.hid (UY.out.blk PB.out (fun f => f))
        have PC := Lib.hid (UY.out.blk PC.out (fun f => f))
        have PU := Lib.hid (UY.out.blk PU.out (fun f => f))
        have ZA := Lib.hid (ZA.out.keep UY.out)
        have ZB := Lib.hid (ZB.out.keep UY.out)
        have ZC := Lib.hid (ZC.out.keep UY.out)
        have HUZ := Lib.hid (HUZ.out.keep UY.out)
        have UU := Lib.hid (UU.out.trans UY.out (fun _ _ f => f))
        clear hW4 UY UZ
        have CUC := Lib.hid (show ∀ W, Upd NoF W4 W → Calls Try.prog 6 #[.agg #[.slice Ax nu cx, .slice Ay mu cy], .agg #[c0, c1]] W (UniPost W (uniS U C)) from fun W hu => union_sm (HUZ.out.keep hu) (ZC.out.keep hu) MU.out.2.2 MC.out)
        have CBC := Lib.hid (show ∀ W, Upd NoF W4 W → Calls Try.prog 6 #[.agg #[b0, b1], .agg #[c0, c1]] W (UniPost W (uniS B C)) from fun W hu => union_sm (ZB.out.keep hu) (ZC.out.keep hu) MB.out MC.out)
        have CAB := Lib.hid (show ∀ W, Upd NoF W4 W → ∀ x y, VwR W x y (uniS B C) → Calls Try.prog 6 #[.agg #[a0, a1], .agg #[x, y]] W (UniPost W (uniS U C)) from fun W hu x y hv => by rw [QA.out]; exact union_sm (ZA.out.keep hu) hv MA.out MBC.out)
        have CER := Lib.hid (show ∀ W x y x' y', VwR W x y (uniS U C) → VwR W x' y' (uniS U C) → Calls Try.prog 9 #[.agg #[x, y], .agg #[x', y']] W fun e w' => e = .returned (.bool true) ∧ Upd NoF W w' from fun W x y x' y' hv hv' => by have h := equal_sm hv hv' MR.out MR.out; simpa using h)
        go_wp2_with fail
        refine wp_region_rgw (rgR [isV (.agg #[.slice Ax nu cx, .slice Ay mu cy]), isV (.agg #[c0, c1]), VwV (uniS U C), isV (.agg #[a0, a1]), isV (.agg #[b0, b1]), isV (.agg #[c0, c1]), VwV (uniS B C), VwV (uniS U C), isV (.bool true), isV (.bool true), isV (.bool true), isV (.bool true), isV (.bool true)]) (fun w w' => Upd NoF w w') (fun _ wq => Upd NoF W4.drew wq) (by kernel_rfl) (by kernel_rfl) (by kernel_rfl) (by rfl) (fun w => Upd.refl _ _) (rgR_keep (by
          intro p hp; simp only [List.mem_cons, List.not_mem_nil, or_false] at hp; rcases hp with rfl | rfl | rfl | rfl | rfl | rfl | rfl | rfl | rfl | rfl | rfl | rfl | rfl <;> first | exact stb_isV _ | exact stb_any | exact stb_vwv _)) (Upd.refl _ _) ?_ ?_
        · refine ⟨?_, ?_, ?_, ?_, ?_, ?_, ?_, ?_, ?_, ?_, ?_, ?_, ?_, trivial⟩
          · refine fun ρ w' L hW hLi hcl hd hdep hext hc hg hf => ?_
            rw [if_pos (show wantedR _ _ _ = true from rfl)]
            have e7 : ρ (.tmp 7) = ptrV wu.heap.size := hext 7 (by kernel_rfl)
            have hu0 : Upd NoF W4 w' := ((Upd.refl NoF W4).drew).trans hW (fun _ _ f => f)
            have q0 := (hu0.blk PU.out (fun f => f)).cell 0
            have q1 := (hu0.blk PU.out (fun f => f)).cell 1
            simp only [List.getElem?_toArray, List.getElem?_cons_zero, List.getElem?_cons_succ] at q0 q1
            clear hu0
            clear hdep hext hcl
            have HW := Lib.hid hW
            clear hW
            unfold OpDone
            go_simp
            exact ⟨rfl, Upd.refl _ _, HW.out⟩
          · refine fun ρ w' L hW hLi hcl hd hdep hext hc hg hf => ?_
            rw [if_pos (show wantedR _ _ _ = true from rfl)]
            have e5 : ρ (.tmp 5) = ptrV (w.heap.size + 1 + 1) := hext 5 (by kernel_rfl)
            have hu0 : Upd NoF W4 w' := ((Upd.refl NoF W4).drew).trans hW (fun _ _ f => f)
            have q0 := (hu0.blk PC.out (fun f => f)).cell 0
            have q1 := (hu0.blk PC.out (fun f => f)).cell 1
            simp only [List.getElem?_toArray, List.getElem?_cons_zero, List.getElem?_cons_succ] at q0 q1
            clear hu0
            clear hdep hext hcl
            have HW := Lib.hid hW
            clear hW
            unfold OpDone
            go_simp
            exact ⟨rfl, Upd.refl _ _, HW.out⟩
          · refine fun ρ w' L hW hLi hcl hd hdep hext hc hg hf => ?_
            rw [if_pos (show wantedR _ _ _ = true from rfl)]
            have e53 : ρ (.tmp 53) = .agg #[.slice Ax nu cx, .slice Ay mu cy] := hdep 0 _ rfl (by kernel_rfl)
            have e54 : ρ (.tmp 54) = .agg #[c0, c1] := hdep 1 _ rfl (by kernel_rfl)
            clear hdep hext
            have hu0 : Upd NoF W4 w' := ((Upd.refl NoF W4).drew).trans hW (fun _ _ f => f)
            have CQ := Lib.hid (CUC.out w' hu0)
            have HW := Lib.hid hW
            clear hW hu0
            unfold OpDone
            go_simp
            refine CQ.out.mono ?_
            rintro e w2 ⟨x, y, rfl, hv2, hu2⟩
            exact ⟨_, rfl, ⟨x, y, rfl, hv2⟩, hu2, HW.out.trans hu2 (fun _ _ f => f)⟩
          · refine fun ρ w' L hW hLi hcl hd hdep hext hc hg hf => ?_
            rw [if_pos (show wantedR _ _ _ = true from rfl)]
            have e3 : ρ (.tmp 3) = ptrV w.heap.size := hext 3 (by kernel_rfl)
            have hu0 : Upd NoF W4 w' := ((Upd.refl NoF W4).drew).trans hW (fun _ _ f => f)
            have q0 := (hu0.blk PA.out (fun f => f)).cell 0
            have q1 := (hu0.blk PA.out (fun f => f)).cell 1
            simp only [List.getElem?_toArray, List.getElem?_cons_zero, List.getElem?_cons_succ] at q0 q1
            clear hu0
            clear hdep hext hcl
            have HW := Lib.hid hW
            clear hW
            unfold OpDone
            go_simp
            exact ⟨rfl, Upd.refl _ _, HW.out⟩
          · refine fun ρ w' L hW hLi hcl hd hdep hext hc hg hf => ?_
            rw [if_pos (show wantedR _ _ _ = true from rfl)]
            have e4 : ρ (.tmp 4) = ptrV (w.heap.size + 1) := hext 4 (by kernel_rfl)
            have hu0 : Upd NoF W4 w' := ((Upd.refl NoF W4).drew).trans hW (fun _ _ f => f)
            have q0 := (hu0.blk PB.out (fun f => f)).cell 0
            have q1 := (hu0.blk PB.out (fun f => f)).cell 1
            simp only [List.getElem?_toArray, List.getElem?_cons_zero, List.getElem?_cons_succ] at q0 q1
            clear hu0
            clear hdep hext hcl
            have HW := Lib.hid hW
            clear hW
            unfold OpDone
            go_simp
            exact ⟨rfl, Upd.refl _ _, HW.out⟩
          · refine fun ρ w' L hW hLi hcl hd hdep hext hc hg hf => ?_
            rw [if_pos (show wantedR _ _ _ = true from rfl)]
            have e5 : ρ (.tmp 5) = ptrV (w.heap.size + 1 + 1) := hext 5 (by kernel_rfl)
            have hu0 : Upd NoF W4 w' := ((Upd.refl NoF W4).drew).trans hW (fun _ _ f => f)
            have q0 := (hu0.blk PC.out (fun f => f)).cell 0
            have q1 := (hu0.blk PC.out (fun f => f)).cell 1
            simp only [List.getElem?_toArray, List.getElem?_cons_zero, List.getElem?_cons_succ] at q0 q1
            clear hu0
            clear hdep hext hcl
            have HW := Lib.hid hW
            clear hW
            unfold OpDone
            go_simp
            exact ⟨rfl, Upd.refl _ _, HW.out⟩
          · refine fun ρ w' L hW hLi hcl hd hdep hext hc hg hf => ?_
            rw [if_pos (show wantedR _ _ _ = true from rfl)]
            have e57 : ρ (.tmp 57) = .agg #[b0, b1] := hdep 4 _ rfl (by kernel_rfl)
            have e58 : ρ (.tmp 58) = .agg #[c0, c1] := hdep 5 _ rfl (by kernel_rfl)
            clear hdep hext
            have hu0 : Upd NoF W4 w' := ((Upd.refl NoF W4).drew).trans hW (fun _ _ f => f)
            have CQ := Lib.hid (CBC.out w' hu0)
            have HW := Lib.hid hW
            clear hW hu0
            unfold OpDone
            go_simp
            refine CQ.out.mono ?_
            rintro e w2 ⟨x, y, rfl, hv2, hu2⟩
            exact ⟨_, rfl, ⟨x, y, rfl, hv2⟩, hu2, HW.out.trans hu2 (fun _ _ f => f)⟩
          · refine fun ρ w' L hW hLi hcl hd hdep hext hc hg hf => ?_
            rw [if_pos (show wantedR _ _ _ = true from rfl)]
            have e56 : ρ (.tmp 56) = .agg #[a0, a1] := hdep 3 _ rfl (by kernel_rfl)
            have e59 : (VwV (uniS B C)) (ρ (.tmp 59)) w' := hdep 6 _ rfl (by kernel_rfl)
            clear hdep hext
            have hu0 : Upd NoF W4 w' := ((Upd.refl NoF W4).drew).trans hW (fun _ _ f => f)
            obtain ⟨x0, y0, e59, hv0⟩ := e59
            have CQ := Lib.hid (CAB.out w' hu0 _ _ hv0)
            have HW := Lib.hid hW
            clear hW hu0
            unfold OpDone
            go_simp
            refine CQ.out.mono ?_
            rintro e w2 ⟨x, y, rfl, hv2, hu2⟩
            exact ⟨_, rfl, ⟨x, y, rfl, hv2⟩, hu2, HW.out.trans hu2 (fun _ _ f => f)⟩
          · refine fun ρ w' L hW hLi hcl hd hdep hext hc hg hf => ?_
            rw [if_pos (show wantedR _ _ _ = true from rfl)]
            have e55 : (VwV (uniS U C)) (ρ (.tmp 55)) w' := hdep 2 _ rfl (by kernel_rfl)
            have e60 : (VwV (uniS U C)) (ρ (.tmp 60)) w' := hdep 7 _ rfl (by kernel_rfl)
            clear hdep hext
            have hu0 : Upd NoF W4 w' := ((Upd.refl NoF W4).drew).trans hW (fun _ _ f => f)
            obtain ⟨x0, y0, e55, hv0⟩ := e55
            obtain ⟨x1, y1, e60, hv1⟩ := e60
            have CQ := Lib.hid (CER.out w' _ _ _ _ hv0 hv1)
            have HW := Lib.hid hW
            clear hW hu0
            unfold OpDone
            go_simp
            refine CQ.out.mono ?_
            rintro e w2 ⟨rfl, hu2⟩
            exact ⟨_, rfl, rfl, hu2, HW.out.trans hu2 (fun _ _ f => f)⟩
          · refine fun ρ w' L hW hLi hcl hd hdep hext hc hg hf => ?_
            rw [if_pos (show wantedR _ _ _ = true from rfl)]
            have e61 : ρ (.tmp 61) = .bool true := hdep 8 _ rfl (by kernel_rfl)
            clear hdep hext hcl
            have HW := Lib.hid hW
            clear hW
            unfold OpDone
            go_simp
            exact ⟨rfl, Upd.refl _ _, HW.out⟩
          · refine fun ρ w' L hW hLi hcl hd hdep hext hc hg hf => ?_
            have eg : ρ (.tmp 62) = .bool true := hdep 9 _ rfl (by kernel_rfl)
            refine wanted_go ?_ ?_
            · show (match ρ (.tmp 62) with | .bool c => c == true | _ => false) = true
              rw [eg]
              rfl
            clear eg
            clear hdep hext
            have hu0 : Upd NoF W4 w' := ((Upd.refl NoF W4).drew).trans hW (fun _ _ f => f)
            have CQ := Lib.hid (awake32 w')
            have HW := Lib.hid hW
            clear hW hu0
            unfold OpDone
            go_simp
            refine CQ.out.mono ?_
            rintro e w2 ⟨rfl, hu2⟩
            exact ⟨_, rfl, rfl, hu2, HW.out.trans hu2 (fun _ _ f => f)⟩
          · refine fun ρ w' L hW hLi hcl hd hdep hext hc hg hf => ?_
            rw [if_pos (show wantedR _ _ _ = true from rfl)]
            have e62 : ρ (.tmp 62) = .bool true := hdep 9 _ rfl (by kernel_rfl)
            have e63 : ρ (.tmp 63) = .bool true := hdep 10 _ rfl (by kernel_rfl)
            clear hdep hext hcl
            have HW := Lib.hid hW
            clear hW
            unfold OpDone
            go_simp
            exact ⟨rfl, Upd.refl _ _, HW.out⟩
          · refine fun ρ w' L hW hLi hcl hd hdep hext hc hg hf => ?_
            rw [if_pos (show wantedR _ _ _ = true from rfl)]
            have e64 : ρ (.tmp 64) = .bool true := hdep 11 _ rfl (by kernel_rfl)
            clear hdep hext hcl
            have HW := Lib.hid hW
            clear hW
            unfold OpDone
            go_simp
            exact ⟨rfl, Upd.refl _ _, HW.out⟩
        intro vs W6 L6 hL6 hW6 hR
        have hv0 : vs 0 = .agg #[.slice Ax nu cx, .slice Ay mu cy] := hR 0 _ rfl
        have hv1 : vs 1 = .agg #[c0, c1] := hR 1 _ rfl
        have hr2 : (VwV (uniS U C)) (vs 2) W6 := hR 2 _ rfl
        obtain ⟨vx2, vy2, hv2, -⟩ := hr2
        have hv3 : vs 3 = .agg #[a0, a1] := hR 3 _ rfl
        have hv4 : vs 4 = .agg #[b0, b1] := hR 4 _ rfl
        have hv5 : vs 5 = .agg #[c0, c1] := hR 5 _ rfl
        have hr6 : (VwV (uniS B C)) (vs 6) W6 := hR 6 _ rfl
        obtain ⟨vx6, vy6, hv6, -⟩ := hr6
        have hr7 : (VwV (uniS U C)) (vs 7) W6 := hR 7 _ rfl
        obtain ⟨vx7, vy7, hv7, -⟩ := hr7
        have hv8 : vs 8 = .bool true := hR 8 _ rfl
        have hv9 : vs 9 = .bool true := hR 9 _ rfl
        have hv10 : vs 10 = .bool true := hR 10 _ rfl
        have hv11 : vs 11 = .bool true := hR 11 _ rfl
        have hv12 : vs 12 = .bool true := hR 12 _ rfl
        simp only [putAll, Act.put, List.setIfInBounds_toArray, List.set_cons_zero, List.set_cons_succ, hv0, hv1, hv2, hv3, hv4, hv5, hv6, hv7, hv8, hv9, hv10, hv11, hv12]
        clear hR hv0 hv1 hv2 hv3 hv4 hv5 hv6 hv7 hv8 hv9 hv10 hv11 hv12
        go_wp2
        go_ret
        exact ⟨rfl, UU.out.trans (((Upd.refl NoF W4).drew).trans hW6 (fun _ _ f => f)) (fun _ _ f => f)⟩
end

section
open Go.ChangeShapes Go.WideShapes Go.ChangeAt Go.RowKit
section
variable {H : Type} {enc : TypeId × Value → H} {W : World} {v : Value} {d : DataW H} {p : List MemPlace} {base : Nat} {spare : Nat → Bool} {held : Bool} {fuel : Nat}
theorem slice_sized {t e : TypeId} (ht : Try.prog.underlying t = some (.slice e)) (hb : 1 ≤ Try.prog.bytesOf e) {A : Option Addr} {n c : Nat} {x : DataW H × List MemPlace} (h : DataW.trod enc Try.prog W base spare held fuel t [.slice A n c] = some x) (hw : ∀ q ∈ x.1.weights Try.prog t, q ≤ reachBytes) : n ≤ 140737488355328 := by
  rcases Go.Deep.open_slice ht h with ⟨hcs, hx⟩ | ⟨a, len, cap, m, k, D, Pl, hcs, _, hl, hm, hz, hx, hi⟩
  · injection hcs with hcs
    injection hcs with _ hn _
    omega
  · injection hcs with hcs
    injection hcs with _ hn _
    subst hx
    have := hw ((((List.range len).map D).length + ((List.range (m - len)).map fun j => D (len + j)).length) * Try.prog.bytesOf e) (by simp [DataW.weights, ht])
    simp only [List.length_map, List.length_range] at this
    have h2 : (len + (m - len)) * 1 ≤ (len + (m - len)) * Try.prog.bytesOf e := Nat.mul_le_mul_left _ hb
    have h3 := reachBytes_lt
    omega
end
end
end Go.Proofs.Ytbgificdilpdcaa
