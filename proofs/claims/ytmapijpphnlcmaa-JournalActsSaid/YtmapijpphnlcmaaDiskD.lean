/- Crash of package disk. Condition: fewer than 2^43 files. -/
import Derived.Test.YtmapijpphnlcmaaDiskC
import Derived.Laws.BitsAllLaws
namespace Go.Proofs.Ytmapijpphnlcmaa
open Go.RowKit Go.Maps

def CrashPost (w : World) (d mb : Nat) (L : List FRec) (picks : List Int) (e : Ending) (w' : World) : Prop :=
  e = .returned (.tuple #[]) ∧ ∃ L', DiskL w' d mb false false 0 L' ∧ absL L' = crashL picks (absL L) ∧ Upd (foot d mb L) w w' ∧ ∀ k, foot d mb L' k → foot d mb L k

/-- What holds at the head of each round. -/
def CrashRel (w0 : World) (d mb cb : Nat) (L : List FRec) (picks : List Int) (i : Value) (wr : World) : Prop :=
  ∃ (k : Nat) (L' : List FRec) (v' : Value), k ≤ L.length ∧ i = .int .i64 k ∧ DiskL wr d mb false false 0 L' ∧ absL L' = (crashRun picks (absL L) k).1 ∧ Blk wr cb 82 #[v'] ∧
    RdI (fun j => foot d mb L j ∨ j = cb) wr v' (crashRun picks (absL L) k).2 ∧ Upd (fun j => foot d mb L j ∨ j = cb) w0 wr ∧ ∀ j, foot d mb L' j → foot d mb L j


section
variable {w0 wr : World} {d mb cb : Nat} {L L' : List FRec} {picks : List Int} {k : Nat}

theorem crash_at (hlt : k < L.length) (habs : absL L' = (crashRun picks (absL L) k).1) : ∃ r, r ∈ L' ∧ (absL L)[k]? = some (absR r) ∧ (L.map (·.nm))[k]? = some r.nm := by
  have hlen : L'.length = L.length := by
    have := congrArg List.length habs
    rw [crashRun_len] at this
    simpa [absL] using this
  have h1 : L'[k]? = some (L'[k]'(by omega)) := List.getElem?_eq_getElem (by omega)
  have h2 : (absL L)[k]? = some (absR (L'[k]'(by omega))) := by
    rw [← crashRun_at k picks, ← habs]
    simp [absL, hlen, hlt]
  refine ⟨_, List.getElem_mem _, h2, ?_⟩
  have h3 : (L.map (·.nm)) = (absL L).map (·.1) := by simp [absL, absR, Function.comp_def]
  rw [h3, List.getElem?_map, h2]
  rfl

theorem absL_pairwise {w : World} {off armed : Bool} {left : Nat} (h : DiskL w d mb off armed left L) : (absL L).Pairwise (fun a b => a.1 ≠ b.1) := by
  unfold absL
  rw [List.pairwise_map]
  exact h.sorted.imp (fun {a b} hb e => by simp only [absR] at e; rw [e, Go.WideAt.bytes_irrefl] at hb; cases hb)

/-- A round in which the file r has come to r'. -/
theorem crash_close {w2 w5 : World} {r r' : FRec} {v2 : Value} (hlt : k < L.length) (hD : DiskL wr d mb false false 0 L') (habs : absL L' = (crashRun picks (absL L) k).1) (hr : r ∈ L') (hat : (absL L)[k]? = some (absR r))
    (hnm : r'.nm = r.nm) (hfb : r'.fb = r.fb) (hres : crashF (crashRun picks (absL L) k).2 ⟨r.c, r.dur⟩ = (⟨r'.c, r'.dur⟩, (crashF (crashRun picks (absL L) k).2 ⟨r.c, r.dur⟩).2))
    (hF : ∀ j, foot d mb L' j → foot d mb L j) (hU : Upd (fun j => foot d mb L j ∨ j = cb) w0 wr) (hu2 : Upd (fun j => j = cb) wr w2) (hu5 : Upd (fun j => foot d mb L' j) w2 w5)
    (hC : Blk w2 cb 82 #[v2]) (hcb : ¬ foot d mb L' cb) (hV : RdI (fun j => foot d mb L j ∨ j = cb) w2 v2 (crashF (crashRun picks (absL L) k).2 ⟨r.c, r.dur⟩).2)
    (hD5 : DiskL w5 d mb false false 0 (setR r' L')) (hF5 : ∀ j, foot d mb (setR r' L') j → foot d mb L' j) :
    CrashRel w0 d mb cb L picks (.int .i64 ((k : Int) + 1)) w5 := by
  have hs := crashRun_succ k picks (absL L) r.nm ⟨r.c, r.dur⟩ hat
  refine ⟨k + 1, setR r' L', v2, hlt, by simp, hD5, ?_, hu5.blk hC hcb, ?_, ?_, fun j hj => hF j (hF5 j hj)⟩
  · rw [hs, absL_setR hD hr hnm hfb]
    simp only
    rw [hres, ← habs]
    refine setF_set (absL_pairwise hD) (f0 := ⟨r.c, r.dur⟩) ?_
    rw [habs, crashRun_at]
    exact hat
  · rw [hs]
    exact hV.upd (hu5.mono (fun j _ h => .inl (hF j h)))
  · exact (hU.trans hu2 (fun j _ e => .inr e)).trans hu5 (fun j _ h => .inl (hF j h))

theorem xor255 (b : UInt8) : bits BinOp.xor IntKind.u8 (b.toNat : Int) 255 = ((b ^^^ 255).toNat : Int) := by
  have := u8_xor_nat b.toNat 255 (by have := b.toNat_lt; omega) (by omega)
  simpa using this

theorem zeroLast_none (l : List UInt8) : zeroLast (min 0 8) l = l := by simp [zeroLast]

/-- A round in which nothing has turned. -/
theorem crash_still {w2 : World} {r : FRec} {v2 : Value} (hlt : k < L.length) (habs : absL L' = (crashRun picks (absL L) k).1) (hat : (absL L)[k]? = some (absR r)) (h0 : r.c.length - r.dur = 0)
    (hF : ∀ j, foot d mb L' j → foot d mb L j) (hU : Upd (fun j => foot d mb L j ∨ j = cb) w0 w2) (hC : Blk w2 cb 82 #[v2]) (hV : RdI (fun j => foot d mb L j ∨ j = cb) w2 v2 (crashRun picks (absL L) k).2) (hD : DiskL w2 d mb false false 0 L') :
    CrashRel w0 d mb cb L picks (.int .i64 ((k : Int) + 1)) w2 := by
  have hs := crashRun_succ k picks (absL L) r.nm ⟨r.c, r.dur⟩ hat
  have hres : crashF (crashRun picks (absL L) k).2 ⟨r.c, r.dur⟩ = (⟨r.c, r.dur⟩, (crashRun picks (absL L) k).2) := by simp [crashF, h0]
  rw [hres] at hs
  refine ⟨k + 1, L', v2, hlt, by simp, hD, ?_, hC, by rw [hs]; exact hV, hU, hF⟩
  rw [hs, habs]
  simp only
  symm
  apply List.ext_getElem?
  intro i
  rw [List.getElem?_set]
  split
  · rename_i e
    subst e
    rw [crashRun_at, hat]
    have : k < (crashRun picks (absL L) k).1.length := by rw [crashRun_len]; simpa [absL] using hlt
    simp [this, absR]
  · rfl
end

set_option maxRecDepth 100000 in
set_option maxHeartbeats 2000000 in
theorem crash_any {w : World} {d mb : Nat} {off armed : Bool} {left : Nat} {L : List FRec} (h : DiskL w d mb off armed left L) (v : Value) (picks : List Int) (hv : RdI (foot d mb L) w v picks)
    (hp : ∀ z ∈ picks, -9223372036854775808 ≤ z ∧ z ≤ 9223372036854775807) (hL : L.length ≤ 8796093022208) : Calls Try.prog 14 #[ptrV d, v] w (CrashPost w d mb L picks) := by
  obtain ⟨A0, c0, rfl, _⟩ := hv.now
  have b1 : w.cell? ⟨d, 1, none⟩ = some (.bool off) := h.head.cell 1
  have b2 : w.cell? ⟨d, 2, none⟩ = some (.bool armed) := h.head.cell 2
  have b3 : w.cell? ⟨d, 3, none⟩ = some (.int .i64 left) := h.head.cell 3
  have f1 : w.frozen? ⟨d, 1, none⟩ = false := h.head.frozen 1
  have f2 : w.frozen? ⟨d, 2, none⟩ = false := h.head.frozen 2
  have f3 : w.frozen? ⟨d, 3, none⟩ = false := h.head.frozen 3
  have hdz : d < w.heap.size := h.head.lt
  have hu1 : Upd (fun k => k = d) w (((w.setCell ⟨d, 1, none⟩ (.bool false)).setCell ⟨d, 2, none⟩ (.bool false)).setCell ⟨d, 3, none⟩ (.int .i64 0)) :=
    (((Upd.refl (fun k => k = d) w).setCell (p := ⟨d, 1, none⟩) (.inl rfl) _).setCell (p := ⟨d, 2, none⟩) (.inl rfl) _).setCell (p := ⟨d, 3, none⟩) (.inl rfl) _
  have hd1 : DiskL (((w.setCell ⟨d, 1, none⟩ (.bool false)).setCell ⟨d, 2, none⟩ (.bool false)).setCell ⟨d, 3, none⟩ (.int .i64 0)) d mb false false 0 L :=
    h.top hu1 (((h.head.put 1 _).put 2 _).put 3 _) (Nat.zero_le _)
  have D1 := Lib.hid hd1
  have U1 := Lib.hid hu1
  have V := Lib.hid hv
  have HP := Lib.hid hp
  have HL := Lib.hid hL
  have H := Lib.hid h
  clear h hv hp hd1 hu1 hL
  go_enter Try.func14, Try.ntmps14
  go_wp2_with (go_at_call 39; refine (files_any (DiskL.upd D1.out ((Upd.refl NoF _).alloc _) (fun _ _ h => h)) HL.out).mono ?_; rintro e w0 ⟨A, c, rfl, hnew⟩)
  have HN := Lib.hid hnew
  clear hnew b1 b2 b3 f1 f2 f3
  go_loopw [28] (fun i wr => CrashRel w0 d mb w.heap.size L picks i wr) (fun i _ => L.length - (intOf i).toNat)
  case atStart =>
    refine ⟨0, L, .slice A0 picks.length c0, Nat.zero_le _, rfl, ?_, by rw [crashRun_zero], ?_, ?_, Upd.refl _ _, fun _ h => h⟩
    · exact DiskL.upd (DiskL.upd D1.out ((Upd.refl NoF _).alloc _) (fun _ _ h => h)) HN.out.2.2 (fun _ _ h => h)
    · exact HN.out.2.2.blk (by simpa using Blk.new (((w.setCell ⟨d, 1, none⟩ (.bool false)).setCell ⟨d, 2, none⟩ (.bool false)).setCell ⟨d, 3, none⟩ (.int .i64 0)) 82 #[.slice A0 picks.length c0]) (fun h => h)
    · rw [crashRun_zero]
      refine RdF.upd' V.out (((U1.out.mono (fun k _ e => .inl e)).alloc _).trans HN.out.2.2 (fun _ _ h => h.elim)) ?_
      rintro i hi (h | rfl)
      · exact h
      · omega
  case round =>
    obtain ⟨k, L', v', hk, rfl, hD, habs, hC, hV, hU, hF⟩ := hrel
    have hcbn : ¬ foot d mb L' w.heap.size := fun h => by have := H.out.foot_lt (hF _ h); omega
    have HD := Lib.hid hD
    have HA := Lib.hid habs
    have HC := Lib.hid hC
    have HV := Lib.hid hV
    have HU := Lib.hid hU
    have HF := Lib.hid hF
    have HCB := Lib.hid hcbn
    have hsz : (List.map (fun x => x.nm) L).length = L.length := by simp
    have HZ := Lib.hid hsz
    have hk63 : L.length ≤ 8796093022208 := HL.out
    clear hD habs hC hV hU hF hcbn hsz
    by_cases hlt : k < L.length
    · obtain ⟨r, hr, hat, hnm⟩ := crash_at hlt HA.out
      have hnames := HN.out.1
      obtain ⟨gN, hA⟩ : ∃ g, A = some ⟨g, 0, none⟩ := by
        rcases hnames.2 with ⟨e, h0⟩ | ⟨g, cap, cur, e, _⟩
        · rw [HZ.out] at h0; omega
        · injection e with e1
          exact ⟨g, e1⟩
      subst hA
      have hN : Rd wr 1 (.slice (some ⟨gN, 0, none⟩) (List.map (fun x => x.nm) L).length c) (List.map (fun x => x.nm) L).length ((List.map (fun x => x.nm) L).map strV) := by
        refine (hnames.rdF (F := fun j => foot d mb L j ∨ j = w.heap.size) ?_) wr HU.out
        intro j hj hG
        have h1 := HN.out.2.1 j hj
        simp at h1
        rcases hG with h | rfl
        · have := H.out.foot_lt h; omega
        · omega
      have hcN : wr.cell? ⟨gN, k, none⟩ = some (strV r.nm) := by
        obtain ⟨A1, c1, e1, _, _, _, hx⟩ := hN
        obtain ⟨g1, o1, e2, hx⟩ := hx (by rw [HZ.out]; omega)
        injection e1 with e1
        rw [← e1] at e2
        injection e2 with e2
        injection e2 with e2 e3
        subst e2 e3
        have := hx k (strV r.nm) (by rw [List.getElem?_map, hnm]; rfl)
        simpa using this
      have hcD : wr.cell? ⟨d, 0, none⟩ = some (.map (some mb)) := HD.out.head.cell 0
      have hlook : (Instr.lookup 71 (.map (some mb)) (strV r.nm) false).run Try.prog wr = .ok (ptrV r.fb) wr := by
        have := HD.out.look (HD.out.nm r hr)
        rw [HD.out.find hr] at this
        exact this
      have hdl : r.dur ≤ r.c.length := HD.out.dur r hr
      have hcl : r.c.length ≤ 1099511627776 := HD.out.len r hr
      have fd : wr.cell? ⟨r.fb, 1, none⟩ = some (.int .i64 r.dur) := (HD.out.file r hr).cell 1
      have HR := Lib.hid hr
      have HAT := Lib.hid hat
      clear hnames hN hr hat hnm
      by_cases ht : r.c.length - r.dur = 0
      · obtain ⟨Ac, cc, hcv⟩ := (HD.out.own r HR.out).form
        have fc : wr.cell? ⟨r.fb, 0, none⟩ = some (.slice Ac r.c.length cc) := by rw [← hcv]; exact (HD.out.file r HR.out).cell 0
        have hz : ((r.c.length : Int) - (r.dur : Int)) = 0 := by omega
        have HCV := Lib.hid hcv
        have HT := Lib.hid ht
        clear hcv ht
        go_wp2
        go_quiet (fail)
        go_wp2
        go_roundw
        case rel => exact crash_still hlt HA.out HAT.out HT.out HF.out (HU.out.drewN nq) HC.out (RdF.upd HV.out ((Upd.refl _ _).drewN nq)) (DiskL.upd HD.out ((Upd.refl NoF _).drewN nq) (fun _ _ h => h))
        case measure => simp [intOf]; omega
      · obtain ⟨g, cap, hcv⟩ : ∃ g cap, r.cv = .slice (some ⟨g, 0, none⟩) r.c.length cap := by
          rcases (HD.out.own r HR.out).2 with ⟨_, e⟩ | ⟨g, cap, cur, e, _⟩
          · omega
          · exact ⟨g, cap, e⟩
        have hcap : r.c.length ≤ cap ∧ cap ≤ 9223372036854775807 := by
          rcases (HD.out.own r HR.out).2 with ⟨_, e⟩ | ⟨g', cap', cur, e, _, h1, h2, _⟩
          · omega
          · rw [hcv] at e
            injection e with _ _ e
            subst e
            unfold maxLen at h2
            exact ⟨h1, by omega⟩
        obtain ⟨hcap1, hcap2⟩ := hcap
        have fc : wr.cell? ⟨r.fb, 0, none⟩ = some (.slice (some ⟨g, 0, none⟩) r.c.length cap) := by rw [← hcv]; exact (HD.out.file r HR.out).cell 0
        obtain ⟨ps, hps⟩ : ∃ ps, (crashRun picks (absL L) k).2 = ps := ⟨_, rfl⟩
        have hpb : ∀ z ∈ ps, -9223372036854775808 ≤ z ∧ z ≤ 9223372036854775807 := fun z hz => HP.out z (crashRun_sub k picks (absL L) z (by rw [hps]; exact hz))
        obtain ⟨kk, hkk⟩ : ∃ kk, (below ps (r.c.length - r.dur + 1)).1 = kk := ⟨_, rfl⟩
        obtain ⟨p1, hp1⟩ : ∃ p1, (below ps (r.c.length - r.dur + 1)).2 = p1 := ⟨_, rfl⟩
        obtain ⟨dm, hdm⟩ : ∃ dm, (below p1 3).1 = dm := ⟨_, rfl⟩
        obtain ⟨p2, hp2⟩ : ∃ p2, (below p1 3).2 = p2 := ⟨_, rfl⟩
        have hkl : kk ≤ r.c.length - r.dur := by have := below_lt ps (r.c.length - r.dur + 1) (by omega); omega
        have hdl3 : dm < 3 := by have := below_lt p1 3 (by omega); omega
        have hcf : crashF (crashRun picks (absL L) k).2 ⟨r.c, r.dur⟩ = (⟨damaged dm kk (r.c.take (r.dur + kk)), r.dur + kk⟩, p2) := by
          rw [hps]
          simp [crashF, ht, hkk, hp1, hdm, hp2]
        have C1 : ∀ nq, Calls Try.prog 44 #[ptrV w.heap.size, .int .i64 ((r.c.length : Int) - (r.dur : Int) + 1)] (wr.drewN nq) fun e w1 => e = .returned (.int .i64 kk) ∧
            ∃ v1, Blk w1 w.heap.size 82 #[v1] ∧ RdI (fun j => foot d mb L j ∨ j = w.heap.size) w1 v1 p1 ∧ Upd (fun j => j = w.heap.size) wr w1 := by
          intro nq
          refine (below_int (F := fun j => foot d mb L j ∨ j = w.heap.size) w.heap.size v' ps _ (wr.drewN nq) HC.out (by rw [← hps]; exact RdF.upd HV.out ((Upd.refl _ _).drewN nq)) (.inr rfl) (by omega) (by omega) hpb).mono ?_
          rintro e w1 ⟨rfl, v1, h1, h2, h3⟩
          have et : ((r.c.length : Int) - (r.dur : Int) + 1).toNat = r.c.length - r.dur + 1 := by omega
          rw [et] at h2 ⊢
          rw [hp1] at h2
          exact ⟨by rw [hkk], v1, h1, h2, ((Upd.refl (fun j => j = w.heap.size) wr).drewN nq).trans h3 (fun _ _ h => h)⟩
        have C2 : ∀ w1 v1, Blk w1 w.heap.size 82 #[v1] → RdI (fun j => foot d mb L j ∨ j = w.heap.size) w1 v1 p1 → Upd (fun j => j = w.heap.size) wr w1 → Calls Try.prog 44 #[ptrV w.heap.size, .int .i64 3] w1 fun e w2 => e = .returned (.int .i64 dm) ∧
            ∃ v2, Blk w2 w.heap.size 82 #[v2] ∧ RdI (fun j => foot d mb L j ∨ j = w.heap.size) w2 v2 p2 ∧ Upd (fun j => j = w.heap.size) wr w2 := by
          intro w1 v1 h1 h2 h0
          refine (below_int (F := fun j => foot d mb L j ∨ j = w.heap.size) w.heap.size v1 p1 3 w1 h1 h2 (.inr rfl) (by omega) (by omega) (fun z hz => hpb z (below_sub ps _ z (by rw [hp1]; exact hz)))).mono ?_
          rintro e w2 ⟨rfl, v2, h3, h4, h5⟩
          have et : (3 : Int).toNat = 3 := rfl
          rw [et] at h4 ⊢
          rw [hp2] at h4
          exact ⟨by rw [hdm], v2, h3, h4, h0.trans h5 (fun _ _ h => h)⟩
        have K : ∀ w2, Upd (fun j => j = w.heap.size) wr w2 → DiskL w2 d mb false false 0 L' := fun w2 hu => HD.out.upd hu (fun j hj e => HCB.out (e ▸ hj))
        have hfz : ∀ w2, Upd (fun j => j = w.heap.size) wr w2 → w2.cell? ⟨r.fb, 0, none⟩ = some (.slice (some ⟨g, 0, none⟩) r.c.length cap) ∧ w2.cell? ⟨r.fb, 1, none⟩ = some (.int .i64 r.dur) ∧ w2.frozen? ⟨r.fb, 0, none⟩ = false ∧ w2.frozen? ⟨r.fb, 1, none⟩ = false := by
          intro w2 hu
          have hf2 := (K w2 hu).file r HR.out
          exact ⟨by rw [← hcv]; exact hf2.cell 0, hf2.cell 1, hf2.frozen 0, hf2.frozen 1⟩
        have fin : ∀ w2 w5 r' v2, Blk w2 w.heap.size 82 #[v2] → RdI (fun j => foot d mb L j ∨ j = w.heap.size) w2 v2 p2 → Upd (fun j => j = w.heap.size) wr w2 → r'.nm = r.nm → r'.fb = r.fb → r'.c = damaged dm kk (r.c.take (r.dur + kk)) → r'.dur = r.dur + kk →
            DiskL w5 d mb false false 0 (setR r' L') → Upd (fun j => j = r.fb ∨ j = g) w2 w5 → (∀ j, foot d mb (setR r' L') j → foot d mb L' j) → CrashRel w0 d mb w.heap.size L picks (.int .i64 ((k : Int) + 1)) w5 := by
          intro w2 w5 r' v2 h1 h2 h3 h4 h5 h6 h7 h8 h9 h10
          refine crash_close hlt HD.out HA.out HR.out HAT.out h4 h5 (by rw [hcf, h6, h7]) HF.out HU.out h3 (h9.mono ?_) h1 HCB.out (by rw [hcf]; exact h2) h8 h10
          rintro j _ (rfl | rfl)
          · exact .inr (.inr ⟨r, HR.out, .inl rfl⟩)
          · exact .inr (.inr ⟨r, HR.out, .inr (by rw [hcv]; simp [OwnB, Value.ownBlock])⟩)
        have HCV := Lib.hid hcv
        have FIN := Lib.hid fin
        have HC1 := Lib.hid C1
        have HC2 := Lib.hid C2
        have HK := Lib.hid K
        have HFZ := Lib.hid hfz
        have htz : (((r.c.length : Int) - (r.dur : Int)) == 0) = false := by simp; omega
        clear hcv fin C1 C2 K hfz hps hpb hkk hp1 hdm hp2 hcf ht
        by_cases hcase : dm = 1 ∧ 0 < kk
        · obtain ⟨hd1, hkp⟩ := hcase
          have hdb : ((dm : Int) == 1) = true := by rw [hd1]; rfl
          have HD1 := Lib.hid hd1
          clear hd1
          go_wp2
          go_quiet (fail)
          go_wp2_with fail
          refine (HC1.out _).mono ?_
          rintro e w1 ⟨rfl, v1, a1, a2, a3⟩
          have B1 := Lib.hid (HC2.out w1 v1 a1 a2 a3)
          clear a1 a2 a3
          go_wp2_with fail
          refine B1.out.mono ?_
          rintro e w2 ⟨rfl, v2, a1, a2, a3⟩
          obtain ⟨q0, q1, q2, q3⟩ := HFZ.out w2 a3
          have BB := Lib.hid a1
          have BV := Lib.hid a2
          have BU := Lib.hid a3
          obtain ⟨b, hb0⟩ : ∃ b, r.c[r.dur + kk - 1]? = some b := ⟨_, List.getElem?_eq_getElem (by omega)⟩
          have CF := crash_flip (HK.out w2 a3) HR.out HCV.out (e := r.dur + kk) (by omega) (by omega) hb0
          have CFH := Lib.hid CF
          have hne : g ≠ r.fb := CF.2.2.2.2.2
          have hx1 : (w2.setCell ⟨r.fb, 0, none⟩ (.slice (some ⟨g, 0, none⟩) (r.dur + kk) (r.dur + kk))).cell? ⟨g, r.dur + kk - 1, none⟩ = some (byteV b) := by
            rw [World.cell?_setCell_other _ _ _ _ (fun e => hne (by injection e with e1; exact e1.symm))]
            exact CF.2.2.2.1
          have hx2 : w2.frozen? ⟨g, r.dur + kk - 1, none⟩ = false := CF.2.2.2.2.1
          have hbits : bits BinOp.xor IntKind.u8 (b.toNat : Int) 255 = ((b ^^^ 255).toNat : Int) := xor255 b
          clear a1 a2 a3 CF hb0
          go_wp2
          go_roundw
          case rel => exact FIN.out w2 _ { r with cv := .slice (some ⟨g, 0, none⟩) (r.dur + kk) (r.dur + kk), c := flipLast (r.c.take (r.dur + kk)), dur := r.dur + kk } v2 BB.out BV.out BU.out rfl rfl (by simp [damaged, HD1.out, hkp]) rfl CFH.out.1 CFH.out.2.1 CFH.out.2.2.1
          case measure => simp [intOf]; omega
        · by_cases hd2 : dm = 2 ∧ 0 < kk
          · obtain ⟨hd1, hkp⟩ := hd2
            have hdb : ((dm : Int) == 1) = false := by rw [hd1]; rfl
            have hdc : ((dm : Int) == 2) = true := by rw [hd1]; rfl
            have HD1 := Lib.hid hd1
            clear hd1 hcase
            obtain ⟨m, hm⟩ : ∃ m, min kk 8 = m := ⟨_, rfl⟩
            have hmi : min (kk : Int) 8 = (m : Int) := by omega
            have hm0 : 0 < m := by omega
            have hm1 : m ≤ kk := by omega
            have HM := Lib.hid hm
            clear hm
            go_wp2
            go_quiet (fail)
            go_wp2_with fail
            refine (HC1.out _).mono ?_
            rintro e w1 ⟨rfl, v1, a1, a2, a3⟩
            have B1 := Lib.hid (HC2.out w1 v1 a1 a2 a3)
            clear a1 a2 a3
            go_wp2_with fail
            refine B1.out.mono ?_
            rintro e w2 ⟨rfl, v2, a1, a2, a3⟩
            obtain ⟨q0, q1, q2, q3⟩ := HFZ.out w2 a3
            have BB := Lib.hid a1
            have BV := Lib.hid a2
            have BU := Lib.hid a3
            obtain ⟨cs, hclr, CF1, CF2, CF3, hx1, hx2⟩ := crash_zero (HK.out w2 a3) HR.out HCV.out (e := r.dur + kk) (m := m) (by omega) hm0 (by omega)
            have CFH1 := Lib.hid CF1
            have CFH2 := Lib.hid CF2
            have CFH3 := Lib.hid CF3
            clear a1 a2 a3 CF1 CF2 CF3
            have hclr' : (Builtin.clear_ #[27] 0 #[.slice (some ⟨g, r.dur + kk - m, none⟩) (r.dur + kk - (r.dur + kk - m)) (r.dur + kk - (r.dur + kk - m))]).run Try.prog (w2.setCell ⟨r.fb, 0, none⟩ (.slice (some ⟨g, 0, none⟩) (r.dur + kk) (r.dur + kk))) = .ok (.tuple #[]) ((w2.setCell ⟨r.fb, 0, none⟩ (.slice (some ⟨g, 0, none⟩) (r.dur + kk) (r.dur + kk))).setRow g cs) := by
              rw [show r.dur + kk - (r.dur + kk - m) = m by omega]
              exact hclr 0 m
            clear hclr
            go_wp2
            go_roundw
            case rel => exact FIN.out w2 _ { r with cv := .slice (some ⟨g, 0, none⟩) (r.dur + kk) (r.dur + kk), c := zeroLast m (r.c.take (r.dur + kk)), dur := r.dur + kk } v2 BB.out BV.out BU.out rfl rfl (by simp [damaged, HD1.out, HM.out]) rfl CFH1.out CFH2.out CFH3.out
            case measure => simp [intOf]; omega
          · have hdmg : r.c.take (r.dur + kk) = damaged dm kk (r.c.take (r.dur + kk)) := by
              unfold damaged
              rw [if_neg hcase]
              split
              · rename_i e2
                have hk0 : kk = 0 := by omega
                subst hk0
                exact (zeroLast_none _).symm
              · rfl
            have DMG := Lib.hid hdmg
            clear hdmg
            by_cases hk0 : kk = 0
            · have hdec : decide (0 < kk) = false := by simp; omega
              have hk00 : kk ≤ 0 := by omega
              have hmin : min (kk : Int) 8 = kk := by omega
              clear hcase hd2 hk0
              by_cases hd1 : dm = 1
              · have hdb : ((dm : Int) == 1) = true := by rw [hd1]; rfl
                have hdc : ((dm : Int) == 2) = false := by rw [hd1]; rfl
                clear hd1
                go_wp2
                go_quiet (fail)
                go_wp2_with fail
                refine (HC1.out _).mono ?_
                rintro e w1 ⟨rfl, v1, a1, a2, a3⟩
                have B1 := Lib.hid (HC2.out w1 v1 a1 a2 a3)
                clear a1 a2 a3
                go_wp2_with fail
                refine B1.out.mono ?_
                rintro e w2 ⟨rfl, v2, a1, a2, a3⟩
                obtain ⟨q0, q1, q2, q3⟩ := HFZ.out w2 a3
                have BB := Lib.hid a1
                have BV := Lib.hid a2
                have BU := Lib.hid a3
                have CF := Lib.hid (crash_none (HK.out w2 a3) HR.out HCV.out (e := r.dur + kk) (by omega))
                clear a1 a2 a3
                go_wp2
                go_roundw
                case rel => exact FIN.out w2 _ { r with cv := .slice (some ⟨g, 0, none⟩) (r.dur + kk) (r.dur + kk), c := r.c.take (r.dur + kk), dur := r.dur + kk } v2 BB.out BV.out BU.out rfl rfl DMG.out rfl CF.out.1 CF.out.2.1 CF.out.2.2
                case measure => simp [intOf]; omega
              · by_cases hd2 : dm = 2
                · have hdb : ((dm : Int) == 1) = false := by rw [hd2]; rfl
                  have hdc : ((dm : Int) == 2) = true := by rw [hd2]; rfl
                  clear hd1 hd2
                  go_wp2
                  go_quiet (fail)
                  go_wp2_with fail
                  refine (HC1.out _).mono ?_
                  rintro e w1 ⟨rfl, v1, a1, a2, a3⟩
                  have B1 := Lib.hid (HC2.out w1 v1 a1 a2 a3)
                  clear a1 a2 a3
                  go_wp2_with fail
                  refine B1.out.mono ?_
                  rintro e w2 ⟨rfl, v2, a1, a2, a3⟩
                  obtain ⟨q0, q1, q2, q3⟩ := HFZ.out w2 a3
                  have BB := Lib.hid a1
                  have BV := Lib.hid a2
                  have BU := Lib.hid a3
                  have CF := Lib.hid (crash_none (HK.out w2 a3) HR.out HCV.out (e := r.dur + kk) (by omega))
                  clear a1 a2 a3
                  have hclr0 : ∀ W : World, (Builtin.clear_ #[27] 0 #[.slice (some ⟨g, 0, none⟩) kk kk]).run Try.prog W = .ok (.tuple #[]) W := by
                    intro W
                    rw [show kk = 0 by omega]
                    kernel_rfl
                  go_wp2
                  go_roundw
                  case rel => exact FIN.out w2 _ { r with cv := .slice (some ⟨g, 0, none⟩) (r.dur + kk) (r.dur + kk), c := r.c.take (r.dur + kk), dur := r.dur + kk } v2 BB.out BV.out BU.out rfl rfl DMG.out rfl CF.out.1 CF.out.2.1 CF.out.2.2
                  case measure => simp [intOf]; omega
                · have hdb : ((dm : Int) == 1) = false := by simp; omega
                  have hdc : ((dm : Int) == 2) = false := by simp; omega
                  clear hd1 hd2
                  go_wp2
                  go_quiet (fail)
                  go_wp2_with fail
                  refine (HC1.out _).mono ?_
                  rintro e w1 ⟨rfl, v1, a1, a2, a3⟩
                  have B1 := Lib.hid (HC2.out w1 v1 a1 a2 a3)
                  clear a1 a2 a3
                  go_wp2_with fail
                  refine B1.out.mono ?_
                  rintro e w2 ⟨rfl, v2, a1, a2, a3⟩
                  obtain ⟨q0, q1, q2, q3⟩ := HFZ.out w2 a3
                  have BB := Lib.hid a1
                  have BV := Lib.hid a2
                  have BU := Lib.hid a3
                  have CF := Lib.hid (crash_none (HK.out w2 a3) HR.out HCV.out (e := r.dur + kk) (by omega))
                  clear a1 a2 a3
                  go_wp2
                  go_roundw
                  case rel => exact FIN.out w2 _ { r with cv := .slice (some ⟨g, 0, none⟩) (r.dur + kk) (r.dur + kk), c := r.c.take (r.dur + kk), dur := r.dur + kk } v2 BB.out BV.out BU.out rfl rfl DMG.out rfl CF.out.1 CF.out.2.1 CF.out.2.2
                  case measure => simp [intOf]; omega
            · have hdb : ((dm : Int) == 1) = false := by simp; omega
              have hdc : ((dm : Int) == 2) = false := by simp; omega
              clear hcase hd2 hk0
              go_wp2
              go_quiet (fail)
              go_wp2_with fail
              refine (HC1.out _).mono ?_
              rintro e w1 ⟨rfl, v1, a1, a2, a3⟩
              have B1 := Lib.hid (HC2.out w1 v1 a1 a2 a3)
              clear a1 a2 a3
              go_wp2_with fail
              refine B1.out.mono ?_
              rintro e w2 ⟨rfl, v2, a1, a2, a3⟩
              obtain ⟨q0, q1, q2, q3⟩ := HFZ.out w2 a3
              have BB := Lib.hid a1
              have BV := Lib.hid a2
              have BU := Lib.hid a3
              have CF := Lib.hid (crash_none (HK.out w2 a3) HR.out HCV.out (e := r.dur + kk) (by omega))
              clear a1 a2 a3
              go_wp2
              go_roundw
              case rel => exact FIN.out w2 _ { r with cv := .slice (some ⟨g, 0, none⟩) (r.dur + kk) (r.dur + kk), c := r.c.take (r.dur + kk), dur := r.dur + kk } v2 BB.out BV.out BU.out rfl rfl DMG.out rfl CF.out.1 CF.out.2.1 CF.out.2.2
              case measure => simp [intOf]; omega
    · have hkl : k = L.length := by omega
      have HKL := Lib.hid hkl
      clear hkl
      go_wp2
      go_end0
      refine ⟨rfl, L', HD.out, ?_, ?_, HF.out⟩
      · rw [HA.out, HKL.out, ← crashRun_all]
        simp [absL]
      · have hu2 : Upd (foot d mb L) w w0 := ((U1.out.mono (fun k _ e => .inl e)).alloc _).trans HN.out.2.2 (fun _ _ h => h.elim)
        refine hu2.trans HU.out ?_
        rintro j hj (h | rfl)
        · exact h
        · omega
end Go.Proofs.Ytmapijpphnlcmaa
