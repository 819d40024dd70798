/- SnapshotFile returns true. Conditions: sizes. -/
import Derived.Test.YtbgificdilpdcaaGreatJn28
import Derived.Test.YtbgificdilpdcaaGreatJn16
namespace Go.Proofs.YtbgificdilpdcaaGreat
open Go.RowKit

/-- The outcome on plain data. -/
structure FileOut (A B : ViewS) (arm : Int) (picks : List Int) (e1 : Int) (x1 : Option (List UInt8)) (g : Int) (s3 : DSt) (r : Option ViewS × Int) : Prop where
  w1 : sWrite sNew fN A = (e1, oldS x1)
  k1 : WrOk sNew (encodeS A).1
  w2 : sWrite (sArm (oldS x1) arm) fN B = (g, s3)
  k2 : WrOk (sArm (oldS x1) arm) (encodeS B).1
  n3 : s3.fs.length ≤ 2
  rd : sReadV (sCrash s3 picks) fN = r
  sz : (sRead (sCrash s3 picks) fN).1.length ≤ 1000000000
  hq : (sRead (sCrash s3 picks) fN).1.length ≤ 2000000 ∨ ∃ V, decodeS (sRead (sCrash s3 picks) fN).1 = some V ∧ V.votes.length ≤ 1000000 ∧ V.texts.length ≤ 1000000
  out : (e1 ≠ 0 ∧ (r = (none, 6) ∨ r = (some B, 0))) ∨ (e1 = 0 ∧ r = (some B, 0)) ∨ (e1 = 0 ∧ g ≠ 0 ∧ r = (some A, 0))

theorem readV_none {s : DSt} (h : sRead s fN = ([], 6)) : sReadV s fN = (none, 6) := by
  rw [sReadV_eq, h]
  rfl
theorem readV_some {s : DSt} {b : List UInt8} {V : ViewS} (h : sRead s fN = (b, 0)) (hd : decodeS b = some V) : sReadV s fN = (some V, 0) := by
  rw [sReadV_eq, h]
  simp [hd]

theorem file_out {A B : ViewS} (hfA : ∀ s ∈ A.votes, s.vote.Fit) (hfB : ∀ s ∈ B.votes, s.vote.Fit) (hA : A.votes.length + A.texts.length ≤ 200) (hB : B.votes.length + B.texts.length ≤ 200) (arm : Int) (picks : List Int) : ∃ e1 x1 g s3 r, FileOut A B arm picks e1 x1 g s3 r := by
  have fin : ∀ (e1 : Int) (x1 : Option (List UInt8)), sWrite sNew fN A = (e1, oldS x1) → ((e1 ≠ 0 ∧ x1 = none) ∨ (e1 = 0 ∧ ∃ ba, x1 = some ba ∧ decodeS ba = some A ∧ ba.length ≤ 100000000)) → WrOk sNew (encodeS A).1 → ∃ e1 x1 g s3 r, FileOut A B arm picks e1 x1 g s3 r := by
    intro e1 x1 hw1 hx hk1
    have old : ∀ s3 g, sWrite (sArm (oldS x1) arm) fN B = (g, s3) → g ≠ 0 → WrOk (sArm (oldS x1) arm) (encodeS B).1 → s3.fs.length ≤ 2 → sRead (sCrash s3 picks) fN = rdX x1 → ∃ e1 x1 g s3 r, FileOut A B arm picks e1 x1 g s3 r := by
      intro s3 g hw2 hg hk2 hn hr
      rcases hx with ⟨he, rfl⟩ | ⟨he, ba, rfl, hd, hl⟩
      · refine ⟨e1, none, g, s3, (none, 6), hw1, hk1, hw2, hk2, hn, readV_none hr, ?_, .inl ?_, .inl ⟨he, .inl rfl⟩⟩
        · rw [hr]; show 0 ≤ _; omega
        · rw [hr]; show 0 ≤ _; omega
      · refine ⟨e1, some ba, g, s3, (some A, 0), hw1, hk1, hw2, hk2, hn, readV_some hr hd, ?_, .inr ⟨A, ?_, by omega, by omega⟩, .inr (.inr ⟨he, hg, rfl⟩)⟩
        · rw [hr]; show ba.length ≤ _; omega
        · rw [hr]; exact hd
    rcases enc_cases hfB hB with ⟨bs, he, hd, hbl⟩ | ⟨ec, hec, he⟩
    · have hk2 : WrOk (sArm (oldS x1) arm) (encodeS B).1 := by
        rw [he, arm_old]
        exact wrOk hbl
      have hw2 : sWrite (sArm (oldS x1) arm) fN B = (if arm.toNat < 3 then 103 else 0, outS x1 bs arm.toNat) := f_write1 he
      have hr := f_crash_out (x := x1) (b := bs) (k := arm.toNat) picks
      by_cases h3 : arm.toNat < 3
      · rw [if_pos h3] at hw2 hr
        exact old _ _ hw2 (by decide) hk2 out_len hr
      · rw [if_neg h3] at hw2 hr
        refine ⟨e1, x1, 0, _, (some B, 0), hw1, hk1, hw2, hk2, out_len, readV_some hr hd, ?_, .inr ⟨B, ?_, by omega, by omega⟩, ?_⟩
        · rw [hr]; show bs.length ≤ _; omega
        · rw [hr]; exact hd
        · rcases hx with ⟨he1, -⟩ | ⟨he1, -⟩
          · exact .inl ⟨he1, .inr rfl⟩
          · exact .inr (.inl ⟨he1, rfl⟩)
    · have hk2 : WrOk (sArm (oldS x1) arm) (encodeS B).1 := by
        rw [he, arm_old]
        exact wrOk (by simp)
      exact old _ _ (f_bad hec he) hec hk2 (by have := sF_len x1; show (sF x1).length ≤ 2; omega) (f_crash_arm (x := x1) (k := arm.toNat) picks)
  rcases enc_cases hfA hA with ⟨bs, he, hd, hbl⟩ | ⟨ec, hec, he⟩
  · exact fin 0 (some bs) (f_write0 (x := none) he) (.inr ⟨rfl, bs, rfl, hd, hbl⟩) (by rw [he]; exact wrOk (x := none) hbl)
  · exact fin ec none (f_bad hec he) (.inl ⟨hec, rfl⟩) (by rw [he]; exact wrOk (x := none) (by simp))

/-! ### both disks -/
def B2 (w0 : World) (d m : Nat) (s : DSt) (w : World) : Prop :=
  ∃ F G, DiskAt w d s F ∧ RefAt w m s G ∧ (∀ x, F x → ¬ G x) ∧ (∀ x, F x → w0.heap.size ≤ x) ∧ (∀ x, G x → w0.heap.size ≤ x) ∧ Upd NoF w0 w
section
variable {w0 w wx w' : World} {d m : Nat} {s s1 : DSt}
theorem B2.out (h : B2 w0 d m s w) : Upd NoF w0 w := by obtain ⟨F, G, h1, h2, h3, h4, h5, h6⟩ := h; exact h6
theorem B2.upd (h : B2 w0 d m s w) (hu : Upd NoF w w') : B2 w0 d m s w' := by
  obtain ⟨F, G, h1, h2, h3, h4, h5, h6⟩ := h
  exact ⟨F, G, h1.upd hu (fun _ _ f => f), h2.upd32 hu (fun _ _ f => f), h3, h4, h5, h6.trans hu (fun _ _ f => f)⟩
theorem B2.pair (h : B2 w0 d m s w) {f1 f2 : FuncId} {a1 a2 : Array Value} {e1 e2 : Ending}
    (hc1 : ∀ F, DiskAt w d s F → (∀ x, F x → w0.heap.size ≤ x) → Calls Tryz.prog f1 a1 w fun e w1 => e = e1 ∧ DiskStep w d s1 F w1)
    (hc2 : ∀ w1 G, RefAt w1 m s G → (∀ x, G x → w0.heap.size ≤ x) → Upd NoF w0 w1 → PW s.fs → (∀ p ∈ s.fs, p.2.dur ≤ p.2.c.length) → Calls Tryz.prog f2 a2 w1 fun e w2 => e = e2 ∧ RefStep w1 m s1 G w2) :
    Calls Tryz.prog f1 a1 w fun e w1 => e = e1 ∧ Upd NoF w0 w1 ∧ Calls Tryz.prog f2 a2 w1 fun e w2 => e = e2 ∧ B2 w0 d m s1 w2 := by
  obtain ⟨F, G, h1, h2, h3, h4, h5, h6⟩ := h
  refine (hc1 F h1 h4).mono ?_
  rintro e w1 ⟨rfl, F', b1, b2, b3⟩
  have hU1 : Upd NoF w0 w1 := h6.trans b2 (fun x hx e => by have := h4 x e; omega)
  have hz := h6.size
  have r1 : RefAt w1 m s G := h2.upd32 b2 (fun x hx e => h3 x e hx)
  have d1 : ∀ x, F' x → ¬ G x := fun x hx hg => by
    rcases b3 x hx with e | e
    · exact h3 x e hg
    · have := h2.lt32 hg; omega
  have g1 : ∀ x, F' x → w0.heap.size ≤ x := fun x hx => by
    rcases b3 x hx with e | e
    · exact h4 x e
    · omega
  refine ⟨rfl, hU1, (hc2 w1 G r1 h5 hU1 h1.pw32 h1.durs32).mono ?_⟩
  rintro e w2 ⟨rfl, G', c1, c2, c3⟩
  have hz1 := hU1.size
  refine ⟨rfl, F', G', b1.upd c2 (fun x hx => d1 x hx), c1, fun x hx hg => ?_, g1, fun x hx => ?_, hU1.trans c2 (fun x hx e => by have := h5 x e; omega)⟩
  · rcases c3 x hg with e | e
    · exact d1 x hx e
    · have := b1.lt hx; omega
  · rcases c3 x hx with e | e
    · exact h5 x e
    · omega
theorem rcrash32 {F : Nat → Prop} (h : RefAt w m s F) (hq : ∀ p ∈ s.fs, p.2.dur ≤ p.2.c.length) (v : Value) (picks : List Int) (hv : RdI F w v picks) (hp : ∀ z ∈ picks, -9223372036854775808 ≤ z ∧ z ≤ 9223372036854775807) (hL : s.fs.length ≤ 4294967296) :
    Calls Tryz.prog 22 #[ptrV m, v] w fun e w' => e = .returned (.tuple #[]) ∧ RefStep w m (sCrash s picks) F w' := by
  obtain ⟨lv, R, a, b, rfl⟩ := h
  refine (rcrash_any a (fun r hr => ?_) v picks (hv.mono (fun k _ e => .inl e)) hp (by rw [b] at hL; simpa using hL)).mono ?_
  · exact hq (absRR r) (by rw [b]; exact List.mem_map.2 ⟨r, hr, rfl⟩)
  · rintro e w' ⟨rfl, lv', R', hd, he, hu, hf⟩
    exact ⟨rfl, _, ⟨lv', R', hd, by rw [he, ← b]; rfl, rfl⟩, hu.mono (fun k _ e => .inl e), hf⟩
theorem B2.write (h : B2 w0 d m s w) {a b : Value} {V : ViewS} (hv : VwR w0 a b V) (hl : V.votes.length + V.texts.length ≤ 200) (hk : WrOk s (encodeS V).1) : Calls Tryz.prog 17 #[ptrV d, strV fN, .agg #[a, b]] w fun e w1 => e = retE (sWrite s fN V).1 ∧ Upd NoF w0 w1 ∧ Calls Tryz.prog 18 #[ptrV m, strV fN, .agg #[a, b]] w1 fun e w2 => e = retE (sWrite s fN V).1 ∧ B2 w0 d m (sWrite s fN V).2 w2 :=
  h.pair (fun F h1 h4 => Write_any h1 (hv.keep h.out) fN (by decide) (by omega) (by omega) hk.l1 (by have := hk.n1; unfold maxLen; omega) hk.n3)
    (fun w1 G r1 h5 hu hp _ => WriteSnapshot_any r1 hp (hv.keep hu) fN (by decide) (by omega) (by omega) hk.l0 hk.l1 hk.n0 hk.n1)
theorem B2.arm (h : B2 w0 d m s w) (n : Int) (h0 : -9223372036854775808 ≤ n) (h1 : n ≤ 9223372036854775807) : Calls Tryz.prog 19 #[ptrV d, .int .i64 n] w fun e w1 => e = .returned (.tuple #[]) ∧ Upd NoF w0 w1 ∧ Calls Tryz.prog 20 #[ptrV m, .int .i64 n] w1 fun e w2 => e = .returned (.tuple #[]) ∧ B2 w0 d m (sArm s n) w2 :=
  h.pair (fun _ hd _ => arm_spec hd n h0 h1) (fun _ _ hr _ _ _ _ => rarm_spec hr n h0 h1)
theorem B2.crash (h : B2 w0 d m s w) {v : Value} {picks : List Int} (hv : RdI (Ab w0) w0 v picks) (hp : ∀ z ∈ picks, -9223372036854775808 ≤ z ∧ z ≤ 9223372036854775807) (hL : s.fs.length ≤ 4294967296) :
    Calls Tryz.prog 21 #[ptrV d, v] w fun e w1 => e = .returned (.tuple #[]) ∧ Upd NoF w0 w1 ∧ Calls Tryz.prog 22 #[ptrV m, v] w1 fun e w2 => e = .returned (.tuple #[]) ∧ B2 w0 d m (sCrash s picks) w2 :=
  h.pair (fun F hd hg => crash_spec hd v picks (RdF.upd' hv (h.out.mono (fun _ _ f => f.elim)) (fun i _ f => hg i f)) hp (by omega))
    (fun w1 G hr hg hu _ hq => rcrash32 hr hq v picks (RdF.upd' hv (hu.mono (fun _ _ f => f.elim)) (fun i _ f => hg i f)) hp hL)
theorem B2.read (h : B2 w0 d m s w) (hb : (sRead s fN).1.length ≤ 1000000000) : Calls Tryz.prog 15 #[ptrV d, strV fN] w (SnReadPost w (sReadV s fN)) := by
  obtain ⟨F, G, h1, h2, h3, h4, h5, h6⟩ := h
  exact Read_any h1 fN (by decide) hb
theorem B2.rread (h : B2 w0 d m s w) (hb : (sRead s fN).1.length ≤ 1000000000) (hq : (sRead s fN).1.length ≤ 2000000 ∨ ∃ V, decodeS (sRead s fN).1 = some V ∧ V.votes.length ≤ 1000000 ∧ V.texts.length ≤ 1000000) : Calls Tryz.prog 23 #[ptrV m, strV fN] w (SnReadPost w (sReadV s fN)) := by
  obtain ⟨F, G, h1, h2, h3, h4, h5, h6⟩ := h
  exact ReadSnapshot_any h2 fN hb hq
end

/-! ### the region with both calls -/
def StT (_ : Nat → Bool) (_ _ : World) : Prop := True
theorem StT.any {L : Nat → Bool} {w w' : World} : StT L w w' := trivial
def PhW (W0 : World) (Mid Fin : World → Prop) (L : Nat → Bool) (w : World) : Prop := if L 5 = true then Fin w else if L 2 = true then Mid w else w = W0
theorem PhW.other {W0 w : World} {Mid Fin : World → Prop} {L : Nat → Bool} {i : Nat} (h : PhW W0 Mid Fin L w) (h2 : (2 == i) = false) (h5 : (5 == i) = false) : PhW W0 Mid Fin (fun j => j == i || L j) w := by
  unfold PhW at *
  simp only [h2, h5, Bool.false_or]
  exact h
theorem PhW.start {W0 : World} {Mid Fin : World → Prop} : PhW W0 Mid Fin (fun _ => false) W0 := by unfold PhW; rfl
theorem PhW.all {W0 w : World} {Mid Fin : World → Prop} {L : Nat → Bool} {C : World → Prop} (h : PhW W0 Mid Fin L w) (h0 : C W0) (h1 : ∀ w, Mid w → C w) (h2 : ∀ w, Fin w → C w) : C w := by
  unfold PhW at h
  split at h
  · exact h2 _ h
  · split at h
    · exact h1 _ h
    · rw [h]; exact h0

theorem ref_new (w : World) : RefAt (w.alloc (.cells #[.slice none 0 0, .bool false, .int .i64 0, .bool false] 44)) w.heap.size sNew (refFoot w.heap.size (.slice none 0 0) []) := ⟨.slice none 0 0, [], ⟨Blk.new w _ _, Own.nil _ _ _, fun r hr => (List.not_mem_nil hr).elim, by show 0 ≤ _; omega, fun r hr => (List.not_mem_nil hr).elim, by show 0 ≤ _; omega⟩, rfl, rfl⟩

set_option maxRecDepth 100000 in
set_option maxHeartbeats 16000000 in
theorem file_law {w : World} {AV0 AV1 BV0 BV1 v : Value} {A B : ViewS} {arm : Int} {picks : List Int} (hA : VwR w AV0 AV1 A) (hB : VwR w BV0 BV1 B) (sA1 : A.votes.length ≤ 140737488355328) (sA2 : A.texts.length ≤ 140737488355328) (sB1 : B.votes.length ≤ 140737488355328) (sB2 : B.texts.length ≤ 140737488355328)
    (harm : -9223372036854775808 ≤ arm ∧ arm ≤ 9223372036854775807) (hv : RdI (Ab w) w v picks) (hp : ∀ z ∈ picks, -9223372036854775808 ≤ z ∧ z ≤ 9223372036854775807) :
    Calls Tryz.prog 6 #[.agg #[AV0, AV1], .agg #[BV0, BV1], .int .i64 arm, v] w fun e w' => e = .returned (.bool true) ∧ Upd NoF w w' := by
  have UW := Lib.hid (((Upd.refl NoF w).alloc (.cells #[AV0, AV1] 25)).alloc (.cells #[BV0, BV1] 25))
  have V1 := Lib.hid ((Blk.new w 25 #[AV0, AV1]).alloc (.cells #[BV0, BV1] 25))
  have V2 := Lib.hid (Blk.new (w.alloc (.cells #[AV0, AV1] 25)) 25 #[BV0, BV1])
  have sz1 : (w.alloc (.cells #[AV0, AV1] 25)).heap.size = w.heap.size + 1 := by simp
  rw [sz1] at V2
  clear sz1
  obtain ⟨W1, hW1⟩ : ∃ x, x = (w.alloc (.cells #[AV0, AV1] 25)).alloc (.cells #[BV0, BV1] 25) := ⟨_, rfl⟩
  rw [← hW1] at UW V1 V2
  have HA := Lib.hid (hA.keep UW.out)
  have HB := Lib.hid (hB.keep UW.out)
  have HV := Lib.hid (RdF.upd' hv (UW.out.mono (F := NoF) (G := Ab w) (fun _ _ f => f.elim)) (fun i hi f => by have := UW.out.size; simp only [Ab] at *; omega) : RdI (Ab W1) W1 v picks)
  obtain ⟨Av, cv, rfl, hlv, hcv⟩ : ∃ A c, v = .slice A picks.length c ∧ picks.length ≤ c ∧ c ≤ maxLen := hv.now.slice
  have HP := Lib.hid hp
  have HARM := Lib.hid harm
  have CHA := Lib.hid (heavy_any HA.out sA1 sA2)
  have CHB := Lib.hid (fun W (hu : Upd NoF W1 W) => heavy_any (HB.out.keep hu) sB1 sB2)
  have HFA := Lib.hid hA.1.1
  have HFB := Lib.hid hB.1.1
  obtain ⟨n, hn⟩ : ∃ n, picks.length = n := ⟨_, rfl⟩
  have HN := Lib.hid hn
  rw [hn] at hlv HV ⊢
  have a0' : W1.cell? ⟨w.heap.size, 0, none⟩ = some AV0 := V1.out.cell 0
  have a1' : W1.cell? ⟨w.heap.size, 1, none⟩ = some AV1 := V1.out.cell 1
  rw [hW1] at a0' a1'
  clear hA hB hv hp harm sA1 sA2 sB1 sB2 hn
  go_enter Tryz.func6, Tryz.ntmps6
  go_wp2_with fail
  rw [← hW1]
  clear a0' a1' hW1
  refine CHA.out.mono ?_
  rintro e w2 ⟨ha, rfl, hba, hu2⟩
  have U2 := Lib.hid hu2
  clear hu2 CHA
  cases ha with
  | true =>
    have UU := Lib.hid (UW.out.trans U2.out (fun _ _ f => f))
    clear hba
    go_wp2_with fail
    refine (awake32 _).mono ?_
    rintro e wA ⟨rfl, huA⟩
    have UA := Lib.hid (UU.out.trans huA (fun _ _ f => f))
    clear huA
    go_wp2
    go_ret
    exact ⟨rfl, UA.out⟩
  | false =>
    have HSA := Lib.hid (hba rfl)
    clear hba
    have b0' : w2.cell? ⟨w.heap.size + 1, 0, none⟩ = some BV0 := (U2.out.blk V2.out (fun f => f)).cell 0
    have b1' : w2.cell? ⟨w.heap.size + 1, 1, none⟩ = some BV1 := (U2.out.blk V2.out (fun f => f)).cell 1
    go_wp2_with fail
    refine (CHB.out w2 U2.out).mono ?_
    rintro e w3 ⟨hb, rfl, hbb, hu3⟩
    have U3 := Lib.hid (U2.out.trans hu3 (fun _ _ f => f))
    clear hu3 CHB b0' b1'
    cases hb with
    | true =>
      have UU := Lib.hid (UW.out.trans U3.out (fun _ _ f => f))
      clear hbb
      go_wp2_with fail
      refine (awake32 _).mono ?_
      rintro e wA ⟨rfl, huA⟩
      have UA := Lib.hid (UU.out.trans huA (fun _ _ f => f))
      clear huA
      go_wp2
      go_ret
      exact ⟨rfl, UA.out⟩
    | false =>
      have HSB := Lib.hid (hbb rfl)
      clear hbb
      by_cases h20 : 20 < n
      · have t1 : decide ((20 : Int) < (n : Int)) = true := by simp; omega
        have t1' : decide (20 < n) = true := by simp; omega
        have UU := Lib.hid (UW.out.trans U3.out (fun _ _ f => f))
        go_wp2_with fail
        refine (awake32 _).mono ?_
        rintro e wA ⟨rfl, huA⟩
        have UA := Lib.hid (UU.out.trans huA (fun _ _ f => f))
        clear huA
        go_wp2
        go_ret
        exact ⟨rfl, UA.out⟩
      · have t1 : decide ((20 : Int) < (n : Int)) = false := by simp; omega
        have t1' : decide (20 < n) = false := by simp; omega
        obtain ⟨e1, x1, g, s3, r, hout⟩ := file_out HFA.out HFB.out HSA.out HSB.out arm picks
        have OUT := Lib.hid hout
        clear hout
        go_wp2_with fail
        refine (new_spec w3).mono ?_
        rintro e w4 ⟨rfl, F4, hd4, hu4, hf4⟩
        have hD4 : ∀ k, F4 k → w3.heap.size ≤ k := fun k hk => (hf4 k hk).resolve_left (fun f => f)
        have U4 := Lib.hid (U3.out.trans hu4 (fun _ _ f => f))
        generalize w3.heap.size + 1 = d at hd4 ⊢
        go_wp2_with fail
        obtain ⟨m, hm⟩ : ∃ x, x = w4.heap.size := ⟨_, rfl⟩
        obtain ⟨w5, hw5⟩ : ∃ x, x = w4.alloc (.cells #[.slice none 0 0, .bool false, .int .i64 0, .bool false] 44) := ⟨_, rfl⟩
        rw [← hm, ← hw5]
        have B5 := Lib.hid (show B2 W1 d m sNew w5 from by
          have hz := U3.out.size
          have hz4 := U4.out.size
          rw [hw5, hm]
          refine ⟨F4, _, hd4.alloc _, ref_new w4, fun x hx hg => ?_, fun x hx => ?_, fun x hx => ?_, U4.out.alloc _⟩
          · rcases hg with e | e | ⟨y, hy, _⟩
            · have := hd4.lt hx; have e : x = w4.heap.size := e; omega
            · simp [OwnB, Value.ownBlock] at e
            · exact List.not_mem_nil hy
          · have := hD4 x hx; omega
          · rcases hx with e | e | ⟨y, hy, _⟩
            · have e : x = w4.heap.size := e; omega
            · simp [OwnB, Value.ownBlock] at e
            · exact (List.not_mem_nil hy).elim)
        clear hd4 hu4 hf4 hD4 hw5 hm U4
        have CP := Lib.hid (B2.write (B5.out.upd ((Upd.refl NoF w5).drew)) HA.out HSA.out OUT.out.k1)
        rw [OUT.out.w1] at CP
        have HU0 := Lib.hid ((B5.out.upd ((Upd.refl NoF w5).drew)).out)
        refine wp_region_rgl (rgR [isV (ptrV d), isV (.agg #[AV0, AV1]), isV (.int .i64 e1), isV (ptrV m), isV (.agg #[AV0, AV1]), isV (.int .i64 e1), isV (.int .i64 e1), isV (.int .i64 e1)]) (StT) (PhW w5.drew (fun w1 => Upd NoF W1 w1 ∧ Calls Tryz.prog 18 #[ptrV m, strV fN, .agg #[AV0, AV1]] w1 fun e w2 => e = retE e1 ∧ B2 W1 d m (oldS x1) w2) (fun w2 => B2 W1 d m (oldS x1) w2)) (by kernel_rfl) (by kernel_rfl) (by kernel_rfl) (by rfl) (fun L w => StT.any) (rgR_keepL ⟨stbL_isV _, stbL_isV _, stbL_isV _, stbL_isV _, stbL_isV _, stbL_isV _, stbL_isV _, stbL_isV _, trivial⟩) (PhW.start) ?_ ?_
        · refine ⟨?_, ?_, ?_, ?_, ?_, ?_, ?_, ?_, trivial⟩
          · refine fun ρ w' L hW hLi hcl hd hdep hext hc hg hf => ?_
            rw [if_pos (show wantedR _ _ _ = true from rfl)]
            have e9 : ρ (.tmp 9) = ptrV d := hext 9 (by kernel_rfl)
            clear hdep hext hcl
            have HW := Lib.hid hW
            clear hW
            unfold OpDone
            go_simp
            exact ⟨rfl, StT.any, (HW.out.other (by decide) (by decide))⟩
          · refine fun ρ w' L hW hLi hcl hd hdep hext hc hg hf => ?_
            rw [if_pos (show wantedR _ _ _ = true from rfl)]
            have e4 : ρ (.tmp 4) = ptrV w.heap.size := hext 4 (by kernel_rfl)
            have hBB : Upd NoF W1 w' := hW.all HU0.out (fun _ h => h.1) (fun _ h => h.out)
            have q0 := (hBB.blk V1.out (fun f => f)).cell 0
            have q1 := (hBB.blk V1.out (fun f => f)).cell 1
            simp only [List.getElem?_toArray, List.getElem?_cons_zero, List.getElem?_cons_succ] at q0 q1
            clear hBB
            clear hdep hext hcl
            have HW := Lib.hid hW
            clear hW
            unfold OpDone
            go_simp
            exact ⟨rfl, StT.any, (HW.out.other (by decide) (by decide))⟩
          · refine fun ρ w' L hW hLi hcl hd hdep hext hc hg hf => ?_
            rw [if_pos (show wantedR _ _ _ = true from rfl)]
            have e36 : ρ (.tmp 36) = ptrV d := hdep 0 _ rfl (by kernel_rfl)
            have e37 : ρ (.tmp 37) = .agg #[AV0, AV1] := hdep 1 _ rfl (by kernel_rfl)
            clear hdep hext
            have h5 : L 5 = false := by
              cases h : L 5 with
              | false => rfl
              | true => exact absurd (hcl 5 2 h (by kernel_rfl)) (by rw [hLi]; decide)
            unfold PhW at hW
            rw [if_neg (by rw [h5]; decide), if_neg (by rw [hLi]; decide)] at hW
            subst hW
            unfold OpDone
            go_simp
            refine CP.out.mono ?_
            rintro e w2 ⟨rfl, hu2, hc2⟩
            refine ⟨_, rfl, rfl, StT.any, ?_⟩
            unfold PhW
            rw [if_neg (by simp [h5]), if_pos (by simp)]
            exact ⟨hu2, hc2⟩
          · refine fun ρ w' L hW hLi hcl hd hdep hext hc hg hf => ?_
            rw [if_pos (show wantedR _ _ _ = true from rfl)]
            have e10 : ρ (.tmp 10) = ptrV m := hext 10 (by kernel_rfl)
            clear hdep hext hcl
            have HW := Lib.hid hW
            clear hW
            unfold OpDone
            go_simp
            exact ⟨rfl, StT.any, (HW.out.other (by decide) (by decide))⟩
          · refine fun ρ w' L hW hLi hcl hd hdep hext hc hg hf => ?_
            rw [if_pos (show wantedR _ _ _ = true from rfl)]
            have e4 : ρ (.tmp 4) = ptrV w.heap.size := hext 4 (by kernel_rfl)
            have hBB : Upd NoF W1 w' := hW.all HU0.out (fun _ h => h.1) (fun _ h => h.out)
            have q0 := (hBB.blk V1.out (fun f => f)).cell 0
            have q1 := (hBB.blk V1.out (fun f => f)).cell 1
            simp only [List.getElem?_toArray, List.getElem?_cons_zero, List.getElem?_cons_succ] at q0 q1
            clear hBB
            clear hdep hext hcl
            have HW := Lib.hid hW
            clear hW
            unfold OpDone
            go_simp
            exact ⟨rfl, StT.any, (HW.out.other (by decide) (by decide))⟩
          · refine fun ρ w' L hW hLi hcl hd hdep hext hc hg hf => ?_
            rw [if_pos (show wantedR _ _ _ = true from rfl)]
            have e39 : ρ (.tmp 39) = ptrV m := hdep 3 _ rfl (by kernel_rfl)
            have e40 : ρ (.tmp 40) = .agg #[AV0, AV1] := hdep 4 _ rfl (by kernel_rfl)
            clear hdep hext
            have h2 : L 2 = true := hd 2 (by kernel_rfl)
            unfold PhW at hW
            rw [if_neg (by rw [hLi]; decide), if_pos h2] at hW
            have HC := Lib.hid hW.2
            clear hW
            unfold OpDone
            go_simp
            refine HC.out.mono ?_
            rintro e w2 ⟨rfl, hb2⟩
            refine ⟨_, rfl, rfl, StT.any, ?_⟩
            unfold PhW
            rw [if_pos (by simp)]
            exact hb2
          · refine fun ρ w' L hW hLi hcl hd hdep hext hc hg hf => ?_
            rw [if_pos (show wantedR _ _ _ = true from rfl)]
            have e38 : ρ (.tmp 38) = .int .i64 e1 := hdep 2 _ rfl (by kernel_rfl)
            clear hdep hext hcl
            have HW := Lib.hid hW
            clear hW
            unfold OpDone
            go_simp
            exact ⟨rfl, StT.any, (HW.out.other (by decide) (by decide))⟩
          · refine fun ρ w' L hW hLi hcl hd hdep hext hc hg hf => ?_
            rw [if_pos (show wantedR _ _ _ = true from rfl)]
            have e41 : ρ (.tmp 41) = .int .i64 e1 := hdep 5 _ rfl (by kernel_rfl)
            clear hdep hext hcl
            have HW := Lib.hid hW
            clear hW
            unfold OpDone
            go_simp
            exact ⟨rfl, StT.any, (HW.out.other (by decide) (by decide))⟩
        intro vs W8 L8 hL8 hW8 hR
        have hv0 : vs 0 = ptrV d := hR 0 _ rfl
        have hv1 : vs 1 = .agg #[AV0, AV1] := hR 1 _ rfl
        have hv2 : vs 2 = .int .i64 e1 := hR 2 _ rfl
        have hv3 : vs 3 = ptrV m := hR 3 _ rfl
        have hv4 : vs 4 = .agg #[AV0, AV1] := hR 4 _ rfl
        have hv5 : vs 5 = .int .i64 e1 := hR 5 _ rfl
        have hv6 : vs 6 = .int .i64 e1 := hR 6 _ rfl
        have hv7 : vs 7 = .int .i64 e1 := hR 7 _ rfl
        simp only [putAll, Act.put, List.setIfInBounds_toArray, List.set_cons_zero, List.set_cons_succ, hv0, hv1, hv2, hv3, hv4, hv5, hv6, hv7]
        clear hR hv0 hv1 hv2 hv3 hv4 hv5 hv6 hv7
        unfold PhW at hW8
        rw [if_pos (hL8 5 (by decide))] at hW8
        have B6 := Lib.hid hW8
        clear hW8 hL8 CP HU0 B5
        have CP := Lib.hid (B6.out.arm arm HARM.out.1 HARM.out.2)
        go_wp2_with fail
        refine CP.out.mono ?_
        rintro e w6 ⟨rfl, hu6, hc6⟩
        have CQ := Lib.hid hc6
        clear hc6 hu6 CP
        go_wp2_with fail
        refine CQ.out.mono ?_
        rintro e w7 ⟨rfl, hb7⟩
        have CP := Lib.hid (B2.write (hb7.upd ((Upd.refl NoF w7).drew)) HB.out HSB.out OUT.out.k2)
        rw [OUT.out.w2] at CP
        have HU0 := Lib.hid ((hb7.upd ((Upd.refl NoF w7).drew)).out)
        clear hb7 CQ B6
        go_wp2_with fail
        refine wp_region_rgl (rgR [isV (ptrV d), isV (.agg #[BV0, BV1]), isV (.int .i64 g), isV (ptrV m), isV (.agg #[BV0, BV1]), isV (.int .i64 g), isV (.int .i64 g), isV (.int .i64 g)]) (StT) (PhW w7.drew (fun w1 => Upd NoF W1 w1 ∧ Calls Tryz.prog 18 #[ptrV m, strV fN, .agg #[BV0, BV1]] w1 fun e w2 => e = retE g ∧ B2 W1 d m s3 w2) (fun w2 => B2 W1 d m s3 w2)) (by kernel_rfl) (by kernel_rfl) (by kernel_rfl) (by rfl) (fun L w => StT.any) (rgR_keepL ⟨stbL_isV _, stbL_isV _, stbL_isV _, stbL_isV _, stbL_isV _, stbL_isV _, stbL_isV _, stbL_isV _, trivial⟩) (PhW.start) ?_ ?_
        · refine ⟨?_, ?_, ?_, ?_, ?_, ?_, ?_, ?_, trivial⟩
          · refine fun ρ w' L hW hLi hcl hd hdep hext hc hg hf => ?_
            rw [if_pos (show wantedR _ _ _ = true from rfl)]
            have e9 : ρ (.tmp 9) = ptrV d := hext 9 (by kernel_rfl)
            clear hdep hext hcl
            have HW := Lib.hid hW
            clear hW
            unfold OpDone
            go_simp
            exact ⟨rfl, StT.any, (HW.out.other (by decide) (by decide))⟩
          · refine fun ρ w' L hW hLi hcl hd hdep hext hc hg hf => ?_
            rw [if_pos (show wantedR _ _ _ = true from rfl)]
            have e5 : ρ (.tmp 5) = ptrV (w.heap.size + 1) := hext 5 (by kernel_rfl)
            have hBB : Upd NoF W1 w' := hW.all HU0.out (fun _ h => h.1) (fun _ h => h.out)
            have q0 := (hBB.blk V2.out (fun f => f)).cell 0
            have q1 := (hBB.blk V2.out (fun f => f)).cell 1
            simp only [List.getElem?_toArray, List.getElem?_cons_zero, List.getElem?_cons_succ] at q0 q1
            clear hBB
            clear hdep hext hcl
            have HW := Lib.hid hW
            clear hW
            unfold OpDone
            go_simp
            exact ⟨rfl, StT.any, (HW.out.other (by decide) (by decide))⟩
          · refine fun ρ w' L hW hLi hcl hd hdep hext hc hg hf => ?_
            rw [if_pos (show wantedR _ _ _ = true from rfl)]
            have e51 : ρ (.tmp 51) = ptrV d := hdep 0 _ rfl (by kernel_rfl)
            have e52 : ρ (.tmp 52) = .agg #[BV0, BV1] := hdep 1 _ rfl (by kernel_rfl)
            clear hdep hext
            have h5 : L 5 = false := by
              cases h : L 5 with
              | false => rfl
              | true => exact absurd (hcl 5 2 h (by kernel_rfl)) (by rw [hLi]; decide)
            unfold PhW at hW
            rw [if_neg (by rw [h5]; decide), if_neg (by rw [hLi]; decide)] at hW
            subst hW
            unfold OpDone
            go_simp
            refine CP.out.mono ?_
            rintro e w2 ⟨rfl, hu2, hc2⟩
            refine ⟨_, rfl, rfl, StT.any, ?_⟩
            unfold PhW
            rw [if_neg (by simp [h5]), if_pos (by simp)]
            exact ⟨hu2, hc2⟩
          · refine fun ρ w' L hW hLi hcl hd hdep hext hc hg hf => ?_
            rw [if_pos (show wantedR _ _ _ = true from rfl)]
            have e10 : ρ (.tmp 10) = ptrV m := hext 10 (by kernel_rfl)
            clear hdep hext hcl
            have HW := Lib.hid hW
            clear hW
            unfold OpDone
            go_simp
            exact ⟨rfl, StT.any, (HW.out.other (by decide) (by decide))⟩
          · refine fun ρ w' L hW hLi hcl hd hdep hext hc hg hf => ?_
            rw [if_pos (show wantedR _ _ _ = true from rfl)]
            have e5 : ρ (.tmp 5) = ptrV (w.heap.size + 1) := hext 5 (by kernel_rfl)
            have hBB : Upd NoF W1 w' := hW.all HU0.out (fun _ h => h.1) (fun _ h => h.out)
            have q0 := (hBB.blk V2.out (fun f => f)).cell 0
            have q1 := (hBB.blk V2.out (fun f => f)).cell 1
            simp only [List.getElem?_toArray, List.getElem?_cons_zero, List.getElem?_cons_succ] at q0 q1
            clear hBB
            clear hdep hext hcl
            have HW := Lib.hid hW
            clear hW
            unfold OpDone
            go_simp
            exact ⟨rfl, StT.any, (HW.out.other (by decide) (by decide))⟩
          · refine fun ρ w' L hW hLi hcl hd hdep hext hc hg hf => ?_
            rw [if_pos (show wantedR _ _ _ = true from rfl)]
            have e54 : ρ (.tmp 54) = ptrV m := hdep 3 _ rfl (by kernel_rfl)
            have e55 : ρ (.tmp 55) = .agg #[BV0, BV1] := hdep 4 _ rfl (by kernel_rfl)
            clear hdep hext
            have h2 : L 2 = true := hd 2 (by kernel_rfl)
            unfold PhW at hW
            rw [if_neg (by rw [hLi]; decide), if_pos h2] at hW
            have HC := Lib.hid hW.2
            clear hW
            unfold OpDone
            go_simp
            refine HC.out.mono ?_
            rintro e w2 ⟨rfl, hb2⟩
            refine ⟨_, rfl, rfl, StT.any, ?_⟩
            unfold PhW
            rw [if_pos (by simp)]
            exact hb2
          · refine fun ρ w' L hW hLi hcl hd hdep hext hc hg hf => ?_
            rw [if_pos (show wantedR _ _ _ = true from rfl)]
            have e53 : ρ (.tmp 53) = .int .i64 g := hdep 2 _ rfl (by kernel_rfl)
            clear hdep hext hcl
            have HW := Lib.hid hW
            clear hW
            unfold OpDone
            go_simp
            exact ⟨rfl, StT.any, (HW.out.other (by decide) (by decide))⟩
          · refine fun ρ w' L hW hLi hcl hd hdep hext hc hg hf => ?_
            rw [if_pos (show wantedR _ _ _ = true from rfl)]
            have e56 : ρ (.tmp 56) = .int .i64 g := hdep 5 _ rfl (by kernel_rfl)
            clear hdep hext hcl
            have HW := Lib.hid hW
            clear hW
            unfold OpDone
            go_simp
            exact ⟨rfl, StT.any, (HW.out.other (by decide) (by decide))⟩
        intro vs W8 L8 hL8 hW8 hR
        have hv0 : vs 0 = ptrV d := hR 0 _ rfl
        have hv1 : vs 1 = .agg #[BV0, BV1] := hR 1 _ rfl
        have hv2 : vs 2 = .int .i64 g := hR 2 _ rfl
        have hv3 : vs 3 = ptrV m := hR 3 _ rfl
        have hv4 : vs 4 = .agg #[BV0, BV1] := hR 4 _ rfl
        have hv5 : vs 5 = .int .i64 g := hR 5 _ rfl
        have hv6 : vs 6 = .int .i64 g := hR 6 _ rfl
        have hv7 : vs 7 = .int .i64 g := hR 7 _ rfl
        simp only [putAll, Act.put, List.setIfInBounds_toArray, List.set_cons_zero, List.set_cons_succ, hv0, hv1, hv2, hv3, hv4, hv5, hv6, hv7]
        clear hR hv0 hv1 hv2 hv3 hv4 hv5 hv6 hv7
        unfold PhW at hW8
        rw [if_pos (hL8 5 (by decide))] at hW8
        have B8 := Lib.hid hW8
        clear hW8 hL8 CP HU0
        have CP := Lib.hid (B8.out.crash (v := .slice Av n cv) (picks := picks) (by unfold RdI; rw [HN.out]; exact HV.out) HP.out (by have := OUT.out.n3; omega))
        go_wp2_with fail
        refine CP.out.mono ?_
        rintro e w9 ⟨rfl, hu9, hc9⟩
        have CQ := Lib.hid hc9
        clear hc9 hu9 CP
        go_wp2_with fail
        refine CQ.out.mono ?_
        rintro e w10 ⟨rfl, hb10⟩
        have B10 := Lib.hid hb10
        clear hb10 CQ B8
        have CR := Lib.hid (B10.out.read OUT.out.sz)
        have CS := Lib.hid (fun W (hu : Upd NoF w10 W) => (B10.out.upd hu).rread OUT.out.sz OUT.out.hq)
        rw [OUT.out.rd] at CR CS
        have U10 := Lib.hid (UW.out.trans B10.out.out (fun _ _ f => f))
        have VA := Lib.hid (HA.out.keep B10.out.out)
        have VB := Lib.hid (HB.out.keep B10.out.out)
        have P1 := Lib.hid (B10.out.out.blk V1.out (fun f => f))
        have P2 := Lib.hid (B10.out.out.blk V2.out (fun f => f))
        have HO := Lib.hid OUT.out.out
        clear OUT B10
        rcases HO.out with ⟨he1, hr | hr⟩ | ⟨he1, hr⟩ | ⟨he1, hg, hr⟩
        · rw [hr] at CR CS
          clear hr HO
          have t2 : decide (e1 = 0) = false := by simp [he1]
          have t2' : (e1 == 0) = false := by simp [he1]
          go_wp2_with fail
          refine CR.out.mono ?_
          rintro e w11 ⟨rfl, hu11⟩
          have VX := Lib.hid (show VwR w11 (.slice none 0 0) (.slice none 0 0) V0 from ⟨SgR.nil _, TxR.nil _⟩)
          have UA := Lib.hid (hu11.alloc (.cells nil2 25))
          have UU := Lib.hid (U10.out.trans UA.out (fun _ _ f => f))
          have P1 := Lib.hid (UA.out.blk P1.out (fun f => f))
          have P2 := Lib.hid (UA.out.blk P2.out (fun f => f))
          have XB := Lib.hid (Blk.new w11 25 nil2)
          have VA := Lib.hid (VA.out.keep UA.out)
          have VB := Lib.hid (VB.out.keep UA.out)
          have VX := Lib.hid (VX.out.keep ((Upd.refl NoF w11).alloc (.cells nil2 25)))
          clear hu11 CR
          go_wp2_with fail
          refine (CS.out _ UA.out).mono ?_
          rintro e w12 ⟨rfl, hu12⟩
          have VY := Lib.hid (show VwR w12 (.slice none 0 0) (.slice none 0 0) V0 from ⟨SgR.nil _, TxR.nil _⟩)
          have UB := Lib.hid (hu12.alloc (.cells nil2 25))
          have UU := Lib.hid (UU.out.trans UB.out (fun _ _ f => f))
          have P1 := Lib.hid (UB.out.blk P1.out (fun f => f))
          have P2 := Lib.hid (UB.out.blk P2.out (fun f => f))
          have XB := Lib.hid (UB.out.blk XB.out (fun f => f))
          have YB := Lib.hid (Blk.new w12 25 nil2)
          have VA := Lib.hid (VA.out.keep UB.out)
          have VB := Lib.hid (VB.out.keep UB.out)
          have VX := Lib.hid (VX.out.keep UB.out)
          have VY := Lib.hid (VY.out.keep ((Upd.refl NoF w12).alloc (.cells nil2 25)))
          clear hu12 CS UA UB
          obtain ⟨w13, hw13⟩ : ∃ x, x = w12.alloc (.cells nil2 25) := ⟨_, rfl⟩
          rw [← hw13] at UU P1 P2 XB YB VA VB VX VY
          have zP10 : (w13).cell? ⟨w.heap.size, 0, none⟩ = some (AV0) := P1.out.cell 0
          have zP11 : (w13).cell? ⟨w.heap.size, 1, none⟩ = some (AV1) := P1.out.cell 1
          have zP20 : (w13).cell? ⟨w.heap.size + 1, 0, none⟩ = some (BV0) := P2.out.cell 0
          have zP21 : (w13).cell? ⟨w.heap.size + 1, 1, none⟩ = some (BV1) := P2.out.cell 1
          have zXB0 : (w13).cell? ⟨w11.heap.size, 0, none⟩ = some (.slice none 0 0) := XB.out.cell 0
          have zXB1 : (w13).cell? ⟨w11.heap.size, 1, none⟩ = some (.slice none 0 0) := XB.out.cell 1
          have zYB0 : (w13).cell? ⟨w12.heap.size, 0, none⟩ = some (.slice none 0 0) := YB.out.cell 0
          have zYB1 : (w13).cell? ⟨w12.heap.size, 1, none⟩ = some (.slice none 0 0) := YB.out.cell 1
          rw [hw13] at zP10 zP11 zP20 zP21 zXB0 zXB1 zYB0 zYB1
          go_wp2_with fail
          rw [← hw13] at zP10 zP11 zP20 zP21 zXB0 zXB1 zYB0 zYB1 ⊢
          clear hw13
          refine (SameView_any VX.out VY.out (by first | decide | (have := HSA.out; have := HSB.out; omega)) (by first | decide | (have := HSA.out; have := HSB.out; omega)) (by first | decide | (have := HSA.out; have := HSB.out; omega)) (by first | decide | (have := HSA.out; have := HSB.out; omega))).mono ?_
          rintro e w14 ⟨rfl, hu14⟩
          rw [show decide (V0 = V0) = true from by simp]
          have UU := Lib.hid (UU.out.trans hu14 (fun _ _ f => f))
          have P1 := Lib.hid (hu14.blk P1.out (fun f => f))
          have P2 := Lib.hid (hu14.blk P2.out (fun f => f))
          have XB := Lib.hid (hu14.blk XB.out (fun f => f))
          have YB := Lib.hid (hu14.blk YB.out (fun f => f))
          have VA := Lib.hid (VA.out.keep hu14)
          have VB := Lib.hid (VB.out.keep hu14)
          have VX := Lib.hid (VX.out.keep hu14)
          have VY := Lib.hid (VY.out.keep hu14)
          clear hu14
          clear zP10 zP11 zP20 zP21 zXB0 zXB1 zYB0 zYB1
          have zP10 : (w14).cell? ⟨w.heap.size, 0, none⟩ = some (AV0) := P1.out.cell 0
          have zP11 : (w14).cell? ⟨w.heap.size, 1, none⟩ = some (AV1) := P1.out.cell 1
          have zP20 : (w14).cell? ⟨w.heap.size + 1, 0, none⟩ = some (BV0) := P2.out.cell 0
          have zP21 : (w14).cell? ⟨w.heap.size + 1, 1, none⟩ = some (BV1) := P2.out.cell 1
          have zXB0 : (w14).cell? ⟨w11.heap.size, 0, none⟩ = some (.slice none 0 0) := XB.out.cell 0
          have zXB1 : (w14).cell? ⟨w11.heap.size, 1, none⟩ = some (.slice none 0 0) := XB.out.cell 1
          have zYB0 : (w14).cell? ⟨w12.heap.size, 0, none⟩ = some (.slice none 0 0) := YB.out.cell 0
          have zYB1 : (w14).cell? ⟨w12.heap.size, 1, none⟩ = some (.slice none 0 0) := YB.out.cell 1
          go_wp2_with fail
          refine (awake32 _).mono ?_
          rintro e wA ⟨rfl, huA⟩
          have UA := Lib.hid (UU.out.trans huA (fun _ _ f => f))
          clear huA
          go_wp2
          go_ret
          exact ⟨rfl, UA.out⟩
        · rw [hr] at CR CS
          clear hr HO
          have t2 : decide (e1 = 0) = false := by simp [he1]
          have t2' : (e1 == 0) = false := by simp [he1]
          go_wp2_with fail
          refine CR.out.mono ?_
          rintro e w11 ⟨a3, b3, rfl, hv3, hu11⟩
          obtain ⟨Ax, cx, rfl, -, -⟩ := (hv3 w11 (Upd.refl _ _)).1.form
          obtain ⟨Ay, cy, rfl, -, -⟩ := (hv3 w11 (Upd.refl _ _)).2.form
          obtain ⟨n1, hn1⟩ : ∃ n, B.votes.length = n := ⟨_, rfl⟩
          obtain ⟨n2, hn2⟩ : ∃ n, B.texts.length = n := ⟨_, rfl⟩
          have HN1 := Lib.hid hn1
          have HN2 := Lib.hid hn2
          rw [hn1, hn2] at hv3 ⊢
          have VX := Lib.hid (hv3 w11 (Upd.refl _ _))
          clear hv3 hn1 hn2
          have UA := Lib.hid (hu11.alloc (.cells #[.slice Ax n1 cx, .slice Ay n2 cy] 25))
          have UU := Lib.hid (U10.out.trans UA.out (fun _ _ f => f))
          have P1 := Lib.hid (UA.out.blk P1.out (fun f => f))
          have P2 := Lib.hid (UA.out.blk P2.out (fun f => f))
          have XB := Lib.hid (Blk.new w11 25 #[.slice Ax n1 cx, .slice Ay n2 cy])
          have VA := Lib.hid (VA.out.keep UA.out)
          have VB := Lib.hid (VB.out.keep UA.out)
          have VX := Lib.hid (VX.out.keep ((Upd.refl NoF w11).alloc (.cells #[.slice Ax n1 cx, .slice Ay n2 cy] 25)))
          clear hu11 CR
          go_wp2_with fail
          refine (CS.out _ UA.out).mono ?_
          rintro e w12 ⟨a4, b4, rfl, hv4, hu12⟩
          obtain ⟨Bx, dx, rfl, -, -⟩ := (hv4 w12 (Upd.refl _ _)).1.form
          obtain ⟨By, dy, rfl, -, -⟩ := (hv4 w12 (Upd.refl _ _)).2.form
          rw [HN1.out, HN2.out] at hv4 ⊢
          have VY := Lib.hid (hv4 w12 (Upd.refl _ _))
          clear hv4
          have UB := Lib.hid (hu12.alloc (.cells #[.slice Bx n1 dx, .slice By n2 dy] 25))
          have UU := Lib.hid (UU.out.trans UB.out (fun _ _ f => f))
          have P1 := Lib.hid (UB.out.blk P1.out (fun f => f))
          have P2 := Lib.hid (UB.out.blk P2.out (fun f => f))
          have XB := Lib.hid (UB.out.blk XB.out (fun f => f))
          have YB := Lib.hid (Blk.new w12 25 #[.slice Bx n1 dx, .slice By n2 dy])
          have VA := Lib.hid (VA.out.keep UB.out)
          have VB := Lib.hid (VB.out.keep UB.out)
          have VX := Lib.hid (VX.out.keep UB.out)
          have VY := Lib.hid (VY.out.keep ((Upd.refl NoF w12).alloc (.cells #[.slice Bx n1 dx, .slice By n2 dy] 25)))
          clear hu12 CS UA UB
          obtain ⟨w13, hw13⟩ : ∃ x, x = w12.alloc (.cells #[.slice Bx n1 dx, .slice By n2 dy] 25) := ⟨_, rfl⟩
          rw [← hw13] at UU P1 P2 XB YB VA VB VX VY
          have zP10 : (w13).cell? ⟨w.heap.size, 0, none⟩ = some (AV0) := P1.out.cell 0
          have zP11 : (w13).cell? ⟨w.heap.size, 1, none⟩ = some (AV1) := P1.out.cell 1
          have zP20 : (w13).cell? ⟨w.heap.size + 1, 0, none⟩ = some (BV0) := P2.out.cell 0
          have zP21 : (w13).cell? ⟨w.heap.size + 1, 1, none⟩ = some (BV1) := P2.out.cell 1
          have zXB0 : (w13).cell? ⟨w11.heap.size, 0, none⟩ = some (.slice Ax n1 cx) := XB.out.cell 0
          have zXB1 : (w13).cell? ⟨w11.heap.size, 1, none⟩ = some (.slice Ay n2 cy) := XB.out.cell 1
          have zYB0 : (w13).cell? ⟨w12.heap.size, 0, none⟩ = some (.slice Bx n1 dx) := YB.out.cell 0
          have zYB1 : (w13).cell? ⟨w12.heap.size, 1, none⟩ = some (.slice By n2 dy) := YB.out.cell 1
          rw [hw13] at zP10 zP11 zP20 zP21 zXB0 zXB1 zYB0 zYB1
          go_wp2_with fail
          rw [← hw13] at zP10 zP11 zP20 zP21 zXB0 zXB1 zYB0 zYB1 ⊢
          clear hw13
          refine (SameView_any VX.out VY.out (by first | decide | (have := HSA.out; have := HSB.out; omega)) (by first | decide | (have := HSA.out; have := HSB.out; omega)) (by first | decide | (have := HSA.out; have := HSB.out; omega)) (by first | decide | (have := HSA.out; have := HSB.out; omega))).mono ?_
          rintro e w14 ⟨rfl, hu14⟩
          rw [show decide (B = B) = true from by simp]
          have UU := Lib.hid (UU.out.trans hu14 (fun _ _ f => f))
          have P1 := Lib.hid (hu14.blk P1.out (fun f => f))
          have P2 := Lib.hid (hu14.blk P2.out (fun f => f))
          have XB := Lib.hid (hu14.blk XB.out (fun f => f))
          have YB := Lib.hid (hu14.blk YB.out (fun f => f))
          have VA := Lib.hid (VA.out.keep hu14)
          have VB := Lib.hid (VB.out.keep hu14)
          have VX := Lib.hid (VX.out.keep hu14)
          have VY := Lib.hid (VY.out.keep hu14)
          clear hu14
          clear zP10 zP11 zP20 zP21 zXB0 zXB1 zYB0 zYB1
          have zP10 : (w14).cell? ⟨w.heap.size, 0, none⟩ = some (AV0) := P1.out.cell 0
          have zP11 : (w14).cell? ⟨w.heap.size, 1, none⟩ = some (AV1) := P1.out.cell 1
          have zP20 : (w14).cell? ⟨w.heap.size + 1, 0, none⟩ = some (BV0) := P2.out.cell 0
          have zP21 : (w14).cell? ⟨w.heap.size + 1, 1, none⟩ = some (BV1) := P2.out.cell 1
          have zXB0 : (w14).cell? ⟨w11.heap.size, 0, none⟩ = some (.slice Ax n1 cx) := XB.out.cell 0
          have zXB1 : (w14).cell? ⟨w11.heap.size, 1, none⟩ = some (.slice Ay n2 cy) := XB.out.cell 1
          have zYB0 : (w14).cell? ⟨w12.heap.size, 0, none⟩ = some (.slice Bx n1 dx) := YB.out.cell 0
          have zYB1 : (w14).cell? ⟨w12.heap.size, 1, none⟩ = some (.slice By n2 dy) := YB.out.cell 1
          go_wp2_with fail
          refine (awake32 _).mono ?_
          rintro e wA ⟨rfl, huA⟩
          have UA := Lib.hid (UU.out.trans huA (fun _ _ f => f))
          clear huA
          go_wp2
          go_ret
          exact ⟨rfl, UA.out⟩
        · rw [hr] at CR CS
          clear hr HO
          subst he1
          go_wp2_with fail
          refine CR.out.mono ?_
          rintro e w11 ⟨a3, b3, rfl, hv3, hu11⟩
          obtain ⟨Ax, cx, rfl, -, -⟩ := (hv3 w11 (Upd.refl _ _)).1.form
          obtain ⟨Ay, cy, rfl, -, -⟩ := (hv3 w11 (Upd.refl _ _)).2.form
          obtain ⟨n1, hn1⟩ : ∃ n, B.votes.length = n := ⟨_, rfl⟩
          obtain ⟨n2, hn2⟩ : ∃ n, B.texts.length = n := ⟨_, rfl⟩
          have HN1 := Lib.hid hn1
          have HN2 := Lib.hid hn2
          rw [hn1, hn2] at hv3 ⊢
          have VX := Lib.hid (hv3 w11 (Upd.refl _ _))
          clear hv3 hn1 hn2
          have UA := Lib.hid (hu11.alloc (.cells #[.slice Ax n1 cx, .slice Ay n2 cy] 25))
          have UU := Lib.hid (U10.out.trans UA.out (fun _ _ f => f))
          have P1 := Lib.hid (UA.out.blk P1.out (fun f => f))
          have P2 := Lib.hid (UA.out.blk P2.out (fun f => f))
          have XB := Lib.hid (Blk.new w11 25 #[.slice Ax n1 cx, .slice Ay n2 cy])
          have VA := Lib.hid (VA.out.keep UA.out)
          have VB := Lib.hid (VB.out.keep UA.out)
          have VX := Lib.hid (VX.out.keep ((Upd.refl NoF w11).alloc (.cells #[.slice Ax n1 cx, .slice Ay n2 cy] 25)))
          clear hu11 CR
          go_wp2_with fail
          refine (CS.out _ UA.out).mono ?_
          rintro e w12 ⟨a4, b4, rfl, hv4, hu12⟩
          obtain ⟨Bx, dx, rfl, -, -⟩ := (hv4 w12 (Upd.refl _ _)).1.form
          obtain ⟨By, dy, rfl, -, -⟩ := (hv4 w12 (Upd.refl _ _)).2.form
          rw [HN1.out, HN2.out] at hv4 ⊢
          have VY := Lib.hid (hv4 w12 (Upd.refl _ _))
          clear hv4
          have UB := Lib.hid (hu12.alloc (.cells #[.slice Bx n1 dx, .slice By n2 dy] 25))
          have UU := Lib.hid (UU.out.trans UB.out (fun _ _ f => f))
          have P1 := Lib.hid (UB.out.blk P1.out (fun f => f))
          have P2 := Lib.hid (UB.out.blk P2.out (fun f => f))
          have XB := Lib.hid (UB.out.blk XB.out (fun f => f))
          have YB := Lib.hid (Blk.new w12 25 #[.slice Bx n1 dx, .slice By n2 dy])
          have VA := Lib.hid (VA.out.keep UB.out)
          have VB := Lib.hid (VB.out.keep UB.out)
          have VX := Lib.hid (VX.out.keep UB.out)
          have VY := Lib.hid (VY.out.keep ((Upd.refl NoF w12).alloc (.cells #[.slice Bx n1 dx, .slice By n2 dy] 25)))
          clear hu12 CS UA UB
          obtain ⟨w13, hw13⟩ : ∃ x, x = w12.alloc (.cells #[.slice Bx n1 dx, .slice By n2 dy] 25) := ⟨_, rfl⟩
          rw [← hw13] at UU P1 P2 XB YB VA VB VX VY
          have zP10 : (w13).cell? ⟨w.heap.size, 0, none⟩ = some (AV0) := P1.out.cell 0
          have zP11 : (w13).cell? ⟨w.heap.size, 1, none⟩ = some (AV1) := P1.out.cell 1
          have zP20 : (w13).cell? ⟨w.heap.size + 1, 0, none⟩ = some (BV0) := P2.out.cell 0
          have zP21 : (w13).cell? ⟨w.heap.size + 1, 1, none⟩ = some (BV1) := P2.out.cell 1
          have zXB0 : (w13).cell? ⟨w11.heap.size, 0, none⟩ = some (.slice Ax n1 cx) := XB.out.cell 0
          have zXB1 : (w13).cell? ⟨w11.heap.size, 1, none⟩ = some (.slice Ay n2 cy) := XB.out.cell 1
          have zYB0 : (w13).cell? ⟨w12.heap.size, 0, none⟩ = some (.slice Bx n1 dx) := YB.out.cell 0
          have zYB1 : (w13).cell? ⟨w12.heap.size, 1, none⟩ = some (.slice By n2 dy) := YB.out.cell 1
          rw [hw13] at zP10 zP11 zP20 zP21 zXB0 zXB1 zYB0 zYB1
          go_wp2_with fail
          rw [← hw13] at zP10 zP11 zP20 zP21 zXB0 zXB1 zYB0 zYB1 ⊢
          clear hw13
          refine (SameView_any VX.out VY.out (by first | decide | (have := HSA.out; have := HSB.out; omega)) (by first | decide | (have := HSA.out; have := HSB.out; omega)) (by first | decide | (have := HSA.out; have := HSB.out; omega)) (by first | decide | (have := HSA.out; have := HSB.out; omega))).mono ?_
          rintro e w14 ⟨rfl, hu14⟩
          rw [show decide (B = B) = true from by simp]
          have UU := Lib.hid (UU.out.trans hu14 (fun _ _ f => f))
          have P1 := Lib.hid (hu14.blk P1.out (fun f => f))
          have P2 := Lib.hid (hu14.blk P2.out (fun f => f))
          have XB := Lib.hid (hu14.blk XB.out (fun f => f))
          have YB := Lib.hid (hu14.blk YB.out (fun f => f))
          have VA := Lib.hid (VA.out.keep hu14)
          have VB := Lib.hid (VB.out.keep hu14)
          have VX := Lib.hid (VX.out.keep hu14)
          have VY := Lib.hid (VY.out.keep hu14)
          clear hu14
          clear zP10 zP11 zP20 zP21 zXB0 zXB1 zYB0 zYB1
          have zP10 : (w14).cell? ⟨w.heap.size, 0, none⟩ = some (AV0) := P1.out.cell 0
          have zP11 : (w14).cell? ⟨w.heap.size, 1, none⟩ = some (AV1) := P1.out.cell 1
          have zP20 : (w14).cell? ⟨w.heap.size + 1, 0, none⟩ = some (BV0) := P2.out.cell 0
          have zP21 : (w14).cell? ⟨w.heap.size + 1, 1, none⟩ = some (BV1) := P2.out.cell 1
          have zXB0 : (w14).cell? ⟨w11.heap.size, 0, none⟩ = some (.slice Ax n1 cx) := XB.out.cell 0
          have zXB1 : (w14).cell? ⟨w11.heap.size, 1, none⟩ = some (.slice Ay n2 cy) := XB.out.cell 1
          have zYB0 : (w14).cell? ⟨w12.heap.size, 0, none⟩ = some (.slice Bx n1 dx) := YB.out.cell 0
          have zYB1 : (w14).cell? ⟨w12.heap.size, 1, none⟩ = some (.slice By n2 dy) := YB.out.cell 1
          go_wp2_with fail
          by_cases hBA : B = A
          · refine (SameView_any VX.out VA.out (by first | decide | (have := HSA.out; have := HSB.out; omega)) (by first | decide | (have := HSA.out; have := HSB.out; omega)) (by first | decide | (have := HSA.out; have := HSB.out; omega)) (by first | decide | (have := HSA.out; have := HSB.out; omega))).mono ?_
            rintro e w15 ⟨rfl, hu15⟩
            rw [show decide (B = A) = true from by simp [hBA]]
            have UU := Lib.hid (UU.out.trans hu15 (fun _ _ f => f))
            have P1 := Lib.hid (hu15.blk P1.out (fun f => f))
            have P2 := Lib.hid (hu15.blk P2.out (fun f => f))
            have XB := Lib.hid (hu15.blk XB.out (fun f => f))
            have YB := Lib.hid (hu15.blk YB.out (fun f => f))
            have VA := Lib.hid (VA.out.keep hu15)
            have VB := Lib.hid (VB.out.keep hu15)
            have VX := Lib.hid (VX.out.keep hu15)
            have VY := Lib.hid (VY.out.keep hu15)
            clear hu15
            clear zP10 zP11 zP20 zP21 zXB0 zXB1 zYB0 zYB1
            have zP10 : (w15).cell? ⟨w.heap.size, 0, none⟩ = some (AV0) := P1.out.cell 0
            have zP11 : (w15).cell? ⟨w.heap.size, 1, none⟩ = some (AV1) := P1.out.cell 1
            have zP20 : (w15).cell? ⟨w.heap.size + 1, 0, none⟩ = some (BV0) := P2.out.cell 0
            have zP21 : (w15).cell? ⟨w.heap.size + 1, 1, none⟩ = some (BV1) := P2.out.cell 1
            have zXB0 : (w15).cell? ⟨w11.heap.size, 0, none⟩ = some (.slice Ax n1 cx) := XB.out.cell 0
            have zXB1 : (w15).cell? ⟨w11.heap.size, 1, none⟩ = some (.slice Ay n2 cy) := XB.out.cell 1
            have zYB0 : (w15).cell? ⟨w12.heap.size, 0, none⟩ = some (.slice Bx n1 dx) := YB.out.cell 0
            have zYB1 : (w15).cell? ⟨w12.heap.size, 1, none⟩ = some (.slice By n2 dy) := YB.out.cell 1
            by_cases hg0 : g = 0
            · subst hg0
              go_wp2_with fail
              refine (SameView_any VX.out VB.out (by first | decide | (have := HSA.out; have := HSB.out; omega)) (by first | decide | (have := HSA.out; have := HSB.out; omega)) (by first | decide | (have := HSA.out; have := HSB.out; omega)) (by first | decide | (have := HSA.out; have := HSB.out; omega))).mono ?_
              rintro e w16 ⟨rfl, hu16⟩
              rw [show decide (B = B) = true from by simp]
              have UU := Lib.hid (UU.out.trans hu16 (fun _ _ f => f))
              have P1 := Lib.hid (hu16.blk P1.out (fun f => f))
              have P2 := Lib.hid (hu16.blk P2.out (fun f => f))
              have XB := Lib.hid (hu16.blk XB.out (fun f => f))
              have YB := Lib.hid (hu16.blk YB.out (fun f => f))
              have VA := Lib.hid (VA.out.keep hu16)
              have VB := Lib.hid (VB.out.keep hu16)
              have VX := Lib.hid (VX.out.keep hu16)
              have VY := Lib.hid (VY.out.keep hu16)
              clear hu16
              clear zP10 zP11 zP20 zP21 zXB0 zXB1 zYB0 zYB1
              have zP10 : (w16).cell? ⟨w.heap.size, 0, none⟩ = some (AV0) := P1.out.cell 0
              have zP11 : (w16).cell? ⟨w.heap.size, 1, none⟩ = some (AV1) := P1.out.cell 1
              have zP20 : (w16).cell? ⟨w.heap.size + 1, 0, none⟩ = some (BV0) := P2.out.cell 0
              have zP21 : (w16).cell? ⟨w.heap.size + 1, 1, none⟩ = some (BV1) := P2.out.cell 1
              have zXB0 : (w16).cell? ⟨w11.heap.size, 0, none⟩ = some (.slice Ax n1 cx) := XB.out.cell 0
              have zXB1 : (w16).cell? ⟨w11.heap.size, 1, none⟩ = some (.slice Ay n2 cy) := XB.out.cell 1
              have zYB0 : (w16).cell? ⟨w12.heap.size, 0, none⟩ = some (.slice Bx n1 dx) := YB.out.cell 0
              have zYB1 : (w16).cell? ⟨w12.heap.size, 1, none⟩ = some (.slice By n2 dy) := YB.out.cell 1
              go_wp2_with fail
              refine (awake32 _).mono ?_
              rintro e wA ⟨rfl, huA⟩
              have UA := Lib.hid (UU.out.trans huA (fun _ _ f => f))
              clear huA
              go_wp2
              go_ret
              exact ⟨rfl, UA.out⟩
            · have t3 : decide (g = 0) = false := by simp [hg0]
              have t3' : (g == 0) = false := by simp [hg0]
              go_wp2_with fail
              refine (awake32 _).mono ?_
              rintro e wA ⟨rfl, huA⟩
              have UA := Lib.hid (UU.out.trans huA (fun _ _ f => f))
              clear huA
              go_wp2
              go_ret
              exact ⟨rfl, UA.out⟩
          · refine (SameView_any VX.out VA.out (by first | decide | (have := HSA.out; have := HSB.out; omega)) (by first | decide | (have := HSA.out; have := HSB.out; omega)) (by first | decide | (have := HSA.out; have := HSB.out; omega)) (by first | decide | (have := HSA.out; have := HSB.out; omega))).mono ?_
            rintro e w15 ⟨rfl, hu15⟩
            rw [show decide (B = A) = false from by simp [hBA]]
            have UU := Lib.hid (UU.out.trans hu15 (fun _ _ f => f))
            have P1 := Lib.hid (hu15.blk P1.out (fun f => f))
            have P2 := Lib.hid (hu15.blk P2.out (fun f => f))
            have XB := Lib.hid (hu15.blk XB.out (fun f => f))
            have YB := Lib.hid (hu15.blk YB.out (fun f => f))
            have VA := Lib.hid (VA.out.keep hu15)
            have VB := Lib.hid (VB.out.keep hu15)
            have VX := Lib.hid (VX.out.keep hu15)
            have VY := Lib.hid (VY.out.keep hu15)
            clear hu15
            clear zP10 zP11 zP20 zP21 zXB0 zXB1 zYB0 zYB1
            have zP10 : (w15).cell? ⟨w.heap.size, 0, none⟩ = some (AV0) := P1.out.cell 0
            have zP11 : (w15).cell? ⟨w.heap.size, 1, none⟩ = some (AV1) := P1.out.cell 1
            have zP20 : (w15).cell? ⟨w.heap.size + 1, 0, none⟩ = some (BV0) := P2.out.cell 0
            have zP21 : (w15).cell? ⟨w.heap.size + 1, 1, none⟩ = some (BV1) := P2.out.cell 1
            have zXB0 : (w15).cell? ⟨w11.heap.size, 0, none⟩ = some (.slice Ax n1 cx) := XB.out.cell 0
            have zXB1 : (w15).cell? ⟨w11.heap.size, 1, none⟩ = some (.slice Ay n2 cy) := XB.out.cell 1
            have zYB0 : (w15).cell? ⟨w12.heap.size, 0, none⟩ = some (.slice Bx n1 dx) := YB.out.cell 0
            have zYB1 : (w15).cell? ⟨w12.heap.size, 1, none⟩ = some (.slice By n2 dy) := YB.out.cell 1
            go_wp2_with fail
            refine (SameView_any VX.out VB.out (by first | decide | (have := HSA.out; have := HSB.out; omega)) (by first | decide | (have := HSA.out; have := HSB.out; omega)) (by first | decide | (have := HSA.out; have := HSB.out; omega)) (by first | decide | (have := HSA.out; have := HSB.out; omega))).mono ?_
            rintro e w16 ⟨rfl, hu16⟩
            rw [show decide (B = B) = true from by simp]
            have UU := Lib.hid (UU.out.trans hu16 (fun _ _ f => f))
            have P1 := Lib.hid (hu16.blk P1.out (fun f => f))
            have P2 := Lib.hid (hu16.blk P2.out (fun f => f))
            have XB := Lib.hid (hu16.blk XB.out (fun f => f))
            have YB := Lib.hid (hu16.blk YB.out (fun f => f))
            have VA := Lib.hid (VA.out.keep hu16)
            have VB := Lib.hid (VB.out.keep hu16)
            have VX := Lib.hid (VX.out.keep hu16)
            have VY := Lib.hid (VY.out.keep hu16)
            clear hu16
            clear zP10 zP11 zP20 zP21 zXB0 zXB1 zYB0 zYB1
            have zP10 : (w16).cell? ⟨w.heap.size, 0, none⟩ = some (AV0) := P1.out.cell 0
            have zP11 : (w16).cell? ⟨w.heap.size, 1, none⟩ = some (AV1) := P1.out.cell 1
            have zP20 : (w16).cell? ⟨w.heap.size + 1, 0, none⟩ = some (BV0) := P2.out.cell 0
            have zP21 : (w16).cell? ⟨w.heap.size + 1, 1, none⟩ = some (BV1) := P2.out.cell 1
            have zXB0 : (w16).cell? ⟨w11.heap.size, 0, none⟩ = some (.slice Ax n1 cx) := XB.out.cell 0
            have zXB1 : (w16).cell? ⟨w11.heap.size, 1, none⟩ = some (.slice Ay n2 cy) := XB.out.cell 1
            have zYB0 : (w16).cell? ⟨w12.heap.size, 0, none⟩ = some (.slice Bx n1 dx) := YB.out.cell 0
            have zYB1 : (w16).cell? ⟨w12.heap.size, 1, none⟩ = some (.slice By n2 dy) := YB.out.cell 1
            by_cases hg0 : g = 0
            · subst hg0
              go_wp2_with fail
              refine (SameView_any VX.out VB.out (by first | decide | (have := HSA.out; have := HSB.out; omega)) (by first | decide | (have := HSA.out; have := HSB.out; omega)) (by first | decide | (have := HSA.out; have := HSB.out; omega)) (by first | decide | (have := HSA.out; have := HSB.out; omega))).mono ?_
              rintro e w17 ⟨rfl, hu17⟩
              rw [show decide (B = B) = true from by simp]
              have UU := Lib.hid (UU.out.trans hu17 (fun _ _ f => f))
              have P1 := Lib.hid (hu17.blk P1.out (fun f => f))
              have P2 := Lib.hid (hu17.blk P2.out (fun f => f))
              have XB := Lib.hid (hu17.blk XB.out (fun f => f))
              have YB := Lib.hid (hu17.blk YB.out (fun f => f))
              have VA := Lib.hid (VA.out.keep hu17)
              have VB := Lib.hid (VB.out.keep hu17)
              have VX := Lib.hid (VX.out.keep hu17)
              have VY := Lib.hid (VY.out.keep hu17)
              clear hu17
              clear zP10 zP11 zP20 zP21 zXB0 zXB1 zYB0 zYB1
              have zP10 : (w17).cell? ⟨w.heap.size, 0, none⟩ = some (AV0) := P1.out.cell 0
              have zP11 : (w17).cell? ⟨w.heap.size, 1, none⟩ = some (AV1) := P1.out.cell 1
              have zP20 : (w17).cell? ⟨w.heap.size + 1, 0, none⟩ = some (BV0) := P2.out.cell 0
              have zP21 : (w17).cell? ⟨w.heap.size + 1, 1, none⟩ = some (BV1) := P2.out.cell 1
              have zXB0 : (w17).cell? ⟨w11.heap.size, 0, none⟩ = some (.slice Ax n1 cx) := XB.out.cell 0
              have zXB1 : (w17).cell? ⟨w11.heap.size, 1, none⟩ = some (.slice Ay n2 cy) := XB.out.cell 1
              have zYB0 : (w17).cell? ⟨w12.heap.size, 0, none⟩ = some (.slice Bx n1 dx) := YB.out.cell 0
              have zYB1 : (w17).cell? ⟨w12.heap.size, 1, none⟩ = some (.slice By n2 dy) := YB.out.cell 1
              go_wp2_with fail
              refine (awake32 _).mono ?_
              rintro e wA ⟨rfl, huA⟩
              have UA := Lib.hid (UU.out.trans huA (fun _ _ f => f))
              clear huA
              go_wp2
              go_ret
              exact ⟨rfl, UA.out⟩
            · have t3 : decide (g = 0) = false := by simp [hg0]
              have t3' : (g == 0) = false := by simp [hg0]
              go_wp2_with fail
              refine (awake32 _).mono ?_
              rintro e wA ⟨rfl, huA⟩
              have UA := Lib.hid (UU.out.trans huA (fun _ _ f => f))
              clear huA
              go_wp2
              go_ret
              exact ⟨rfl, UA.out⟩
        · rw [hr] at CR CS
          clear hr HO
          subst he1
          have t3 : decide (g = 0) = false := by simp [hg]
          have t3' : (g == 0) = false := by simp [hg]
          go_wp2_with fail
          refine CR.out.mono ?_
          rintro e w11 ⟨a3, b3, rfl, hv3, hu11⟩
          obtain ⟨Ax, cx, rfl, -, -⟩ := (hv3 w11 (Upd.refl _ _)).1.form
          obtain ⟨Ay, cy, rfl, -, -⟩ := (hv3 w11 (Upd.refl _ _)).2.form
          obtain ⟨n1, hn1⟩ : ∃ n, A.votes.length = n := ⟨_, rfl⟩
          obtain ⟨n2, hn2⟩ : ∃ n, A.texts.length = n := ⟨_, rfl⟩
          have HN1 := Lib.hid hn1
          have HN2 := Lib.hid hn2
          rw [hn1, hn2] at hv3 ⊢
          have VX := Lib.hid (hv3 w11 (Upd.refl _ _))
          clear hv3 hn1 hn2
          have UA := Lib.hid (hu11.alloc (.cells #[.slice Ax n1 cx, .slice Ay n2 cy] 25))
          have UU := Lib.hid (U10.out.trans UA.out (fun _ _ f => f))
          have P1 := Lib.hid (UA.out.blk P1.out (fun f => f))
          have P2 := Lib.hid (UA.out.blk P2.out (fun f => f))
          have XB := Lib.hid (Blk.new w11 25 #[.slice Ax n1 cx, .slice Ay n2 cy])
          have VA := Lib.hid (VA.out.keep UA.out)
          have VB := Lib.hid (VB.out.keep UA.out)
          have VX := Lib.hid (VX.out.keep ((Upd.refl NoF w11).alloc (.cells #[.slice Ax n1 cx, .slice Ay n2 cy] 25)))
          clear hu11 CR
          go_wp2_with fail
          refine (CS.out _ UA.out).mono ?_
          rintro e w12 ⟨a4, b4, rfl, hv4, hu12⟩
          obtain ⟨Bx, dx, rfl, -, -⟩ := (hv4 w12 (Upd.refl _ _)).1.form
          obtain ⟨By, dy, rfl, -, -⟩ := (hv4 w12 (Upd.refl _ _)).2.form
          rw [HN1.out, HN2.out] at hv4 ⊢
          have VY := Lib.hid (hv4 w12 (Upd.refl _ _))
          clear hv4
          have UB := Lib.hid (hu12.alloc (.cells #[.slice Bx n1 dx, .slice By n2 dy] 25))
          have UU := Lib.hid (UU.out.trans UB.out (fun _ _ f => f))
          have P1 := Lib.hid (UB.out.blk P1.out (fun f => f))
          have P2 := Lib.hid (UB.out.blk P2.out (fun f => f))
          have XB := Lib.hid (UB.out.blk XB.out (fun f => f))
          have YB := Lib.hid (Blk.new w12 25 #[.slice Bx n1 dx, .slice By n2 dy])
          have VA := Lib.hid (VA.out.keep UB.out)
          have VB := Lib.hid (VB.out.keep UB.out)
          have VX := Lib.hid (VX.out.keep UB.out)
          have VY := Lib.hid (VY.out.keep ((Upd.refl NoF w12).alloc (.cells #[.slice Bx n1 dx, .slice By n2 dy] 25)))
          clear hu12 CS UA UB
          obtain ⟨w13, hw13⟩ : ∃ x, x = w12.alloc (.cells #[.slice Bx n1 dx, .slice By n2 dy] 25) := ⟨_, rfl⟩
          rw [← hw13] at UU P1 P2 XB YB VA VB VX VY
          have zP10 : (w13).cell? ⟨w.heap.size, 0, none⟩ = some (AV0) := P1.out.cell 0
          have zP11 : (w13).cell? ⟨w.heap.size, 1, none⟩ = some (AV1) := P1.out.cell 1
          have zP20 : (w13).cell? ⟨w.heap.size + 1, 0, none⟩ = some (BV0) := P2.out.cell 0
          have zP21 : (w13).cell? ⟨w.heap.size + 1, 1, none⟩ = some (BV1) := P2.out.cell 1
          have zXB0 : (w13).cell? ⟨w11.heap.size, 0, none⟩ = some (.slice Ax n1 cx) := XB.out.cell 0
          have zXB1 : (w13).cell? ⟨w11.heap.size, 1, none⟩ = some (.slice Ay n2 cy) := XB.out.cell 1
          have zYB0 : (w13).cell? ⟨w12.heap.size, 0, none⟩ = some (.slice Bx n1 dx) := YB.out.cell 0
          have zYB1 : (w13).cell? ⟨w12.heap.size, 1, none⟩ = some (.slice By n2 dy) := YB.out.cell 1
          rw [hw13] at zP10 zP11 zP20 zP21 zXB0 zXB1 zYB0 zYB1
          go_wp2_with fail
          rw [← hw13] at zP10 zP11 zP20 zP21 zXB0 zXB1 zYB0 zYB1 ⊢
          clear hw13
          refine (SameView_any VX.out VY.out (by first | decide | (have := HSA.out; have := HSB.out; omega)) (by first | decide | (have := HSA.out; have := HSB.out; omega)) (by first | decide | (have := HSA.out; have := HSB.out; omega)) (by first | decide | (have := HSA.out; have := HSB.out; omega))).mono ?_
          rintro e w14 ⟨rfl, hu14⟩
          rw [show decide (A = A) = true from by simp]
          have UU := Lib.hid (UU.out.trans hu14 (fun _ _ f => f))
          have P1 := Lib.hid (hu14.blk P1.out (fun f => f))
          have P2 := Lib.hid (hu14.blk P2.out (fun f => f))
          have XB := Lib.hid (hu14.blk XB.out (fun f => f))
          have YB := Lib.hid (hu14.blk YB.out (fun f => f))
          have VA := Lib.hid (VA.out.keep hu14)
          have VB := Lib.hid (VB.out.keep hu14)
          have VX := Lib.hid (VX.out.keep hu14)
          have VY := Lib.hid (VY.out.keep hu14)
          clear hu14
          clear zP10 zP11 zP20 zP21 zXB0 zXB1 zYB0 zYB1
          have zP10 : (w14).cell? ⟨w.heap.size, 0, none⟩ = some (AV0) := P1.out.cell 0
          have zP11 : (w14).cell? ⟨w.heap.size, 1, none⟩ = some (AV1) := P1.out.cell 1
          have zP20 : (w14).cell? ⟨w.heap.size + 1, 0, none⟩ = some (BV0) := P2.out.cell 0
          have zP21 : (w14).cell? ⟨w.heap.size + 1, 1, none⟩ = some (BV1) := P2.out.cell 1
          have zXB0 : (w14).cell? ⟨w11.heap.size, 0, none⟩ = some (.slice Ax n1 cx) := XB.out.cell 0
          have zXB1 : (w14).cell? ⟨w11.heap.size, 1, none⟩ = some (.slice Ay n2 cy) := XB.out.cell 1
          have zYB0 : (w14).cell? ⟨w12.heap.size, 0, none⟩ = some (.slice Bx n1 dx) := YB.out.cell 0
          have zYB1 : (w14).cell? ⟨w12.heap.size, 1, none⟩ = some (.slice By n2 dy) := YB.out.cell 1
          go_wp2_with fail
          refine (SameView_any VX.out VA.out (by first | decide | (have := HSA.out; have := HSB.out; omega)) (by first | decide | (have := HSA.out; have := HSB.out; omega)) (by first | decide | (have := HSA.out; have := HSB.out; omega)) (by first | decide | (have := HSA.out; have := HSB.out; omega))).mono ?_
          rintro e w15 ⟨rfl, hu15⟩
          rw [show decide (A = A) = true from by simp]
          have UU := Lib.hid (UU.out.trans hu15 (fun _ _ f => f))
          have P1 := Lib.hid (hu15.blk P1.out (fun f => f))
          have P2 := Lib.hid (hu15.blk P2.out (fun f => f))
          have XB := Lib.hid (hu15.blk XB.out (fun f => f))
          have YB := Lib.hid (hu15.blk YB.out (fun f => f))
          have VA := Lib.hid (VA.out.keep hu15)
          have VB := Lib.hid (VB.out.keep hu15)
          have VX := Lib.hid (VX.out.keep hu15)
          have VY := Lib.hid (VY.out.keep hu15)
          clear hu15
          clear zP10 zP11 zP20 zP21 zXB0 zXB1 zYB0 zYB1
          have zP10 : (w15).cell? ⟨w.heap.size, 0, none⟩ = some (AV0) := P1.out.cell 0
          have zP11 : (w15).cell? ⟨w.heap.size, 1, none⟩ = some (AV1) := P1.out.cell 1
          have zP20 : (w15).cell? ⟨w.heap.size + 1, 0, none⟩ = some (BV0) := P2.out.cell 0
          have zP21 : (w15).cell? ⟨w.heap.size + 1, 1, none⟩ = some (BV1) := P2.out.cell 1
          have zXB0 : (w15).cell? ⟨w11.heap.size, 0, none⟩ = some (.slice Ax n1 cx) := XB.out.cell 0
          have zXB1 : (w15).cell? ⟨w11.heap.size, 1, none⟩ = some (.slice Ay n2 cy) := XB.out.cell 1
          have zYB0 : (w15).cell? ⟨w12.heap.size, 0, none⟩ = some (.slice Bx n1 dx) := YB.out.cell 0
          have zYB1 : (w15).cell? ⟨w12.heap.size, 1, none⟩ = some (.slice By n2 dy) := YB.out.cell 1
          go_wp2_with fail
          refine (awake32 _).mono ?_
          rintro e wA ⟨rfl, huA⟩
          have UA := Lib.hid (UU.out.trans huA (fun _ _ f => f))
          clear huA
          go_wp2
          go_ret
          exact ⟨rfl, UA.out⟩

end Go.Proofs.YtbgificdilpdcaaGreat
