/- Crash of package disk. Condition: fewer than 2^43 files. The sanity check of the statements on the disk returns true. No condition. The reference disk in memory: find, fails. No condition. The reference disk: drop, put. No condition. The hash functions of package hash and of the reference: Tagged. Conditions: sizes. -/
import Derived.Test.YtbgificdilpdcaaGreatJn5
import Derived.Laws.BitsAllLaws
import Derived.Lib.SlBytesConst
import Derived.Laws.IdiomStrings
import Derived.Shelf.Bytes.SlSmallAll
import Derived.Test.YtbgificdilpdcaaGreatJn3
namespace Go.Proofs.YtbgificdilpdcaaGreat
section
open Go.RowKit Go.Maps

def CrashPost (w : World) (d mb : Nat) (L : List FRec) (picks : List Int) (e : Ending) (w' : World) : Prop :=
  e = .returned (.tuple #[]) ∧ ∃ L', DiskL w' d mb false false 0 L' ∧ absL L' = crashL picks (absL L) ∧ Upd (foot d mb L) w w' ∧ ∀ k, foot d mb L' k → foot d mb L k

/-- What holds at the head of each round. -/
def CrashRel (w0 : World) (d mb cb : Nat) (L : List FRec) (picks : List Int) (i : Value) (wr : World) : Prop :=
  ∃ (k : Nat) (L' : List FRec) (v' : Value), k ≤ L.length ∧ i = .int .i64 k ∧ DiskL wr d mb false false 0 L' ∧ absL L' = (crashRun picks (absL L) k).1 ∧ Blk wr cb 90 #[v'] ∧
    RdI (fun j => foot d mb L j ∨ j = cb) wr v' (crashRun picks (absL L) k).2 ∧ Upd (fun j => foot d mb L j ∨ j = cb) w0 wr ∧ ∀ j, foot d mb L' j → foot d mb L j


section
variable {w0 wr : World} {d mb cb : Nat} {L L' : List FRec} {picks : List Int} {k : Nat}

theorem crash_at (hlt : k < L.length) (habs : absL L' = (crashRun picks (absL L) k).1) : ∃ r, r ∈ L' ∧ (absL L)[k]? = some (absR r) ∧ (L.map (·.nm))[k]? = some r.nm := by
  have hlen : L'.length = L.length := by
    have := congrArg List.length habs
    rw [crashRun_len] at this
    simpa [absL] using this
  have h1 : L'[k]? = some (L'[k]'(by omega)) := List.getElem?_eq_getElem (by omega)
  have h2 : (absL L)[k]? = some (absR (L'[k]'(by omega))) := by
    rw [← crashRun_at k picks, ← habs]
    simp [absL, hlen, hlt]
  refine ⟨_, List.getElem_mem _, h2, ?_⟩
  have h3 : (L.map (·.nm)) = (absL L).map (·.1) := by simp [absL, absR, Function.comp_def]
  rw [h3, List.getElem?_map, h2]
  rfl

theorem absL_pairwise {w : World} {off armed : Bool} {left : Nat} (h : DiskL w d mb off armed left L) : (absL L).Pairwise (fun a b => a.1 ≠ b.1) := by
  unfold absL
  rw [List.pairwise_map]
  exact h.sorted.imp (fun {a b} hb e => by simp only [absR] at e; rw [e, Go.WideAt.bytes_irrefl] at hb; cases hb)

/-- A round in which the file r has come to r'. -/
theorem crash_close {w2 w5 : World} {r r' : FRec} {v2 : Value} (hlt : k < L.length) (hD : DiskL wr d mb false false 0 L') (habs : absL L' = (crashRun picks (absL L) k).1) (hr : r ∈ L') (hat : (absL L)[k]? = some (absR r))
    (hnm : r'.nm = r.nm) (hfb : r'.fb = r.fb) (hres : crashF (crashRun picks (absL L) k).2 ⟨r.c, r.dur⟩ = (⟨r'.c, r'.dur⟩, (crashF (crashRun picks (absL L) k).2 ⟨r.c, r.dur⟩).2))
    (hF : ∀ j, foot d mb L' j → foot d mb L j) (hU : Upd (fun j => foot d mb L j ∨ j = cb) w0 wr) (hu2 : Upd (fun j => j = cb) wr w2) (hu5 : Upd (fun j => foot d mb L' j) w2 w5)
    (hC : Blk w2 cb 90 #[v2]) (hcb : ¬ foot d mb L' cb) (hV : RdI (fun j => foot d mb L j ∨ j = cb) w2 v2 (crashF (crashRun picks (absL L) k).2 ⟨r.c, r.dur⟩).2)
    (hD5 : DiskL w5 d mb false false 0 (setR r' L')) (hF5 : ∀ j, foot d mb (setR r' L') j → foot d mb L' j) :
    CrashRel w0 d mb cb L picks (.int .i64 ((k : Int) + 1)) w5 := by
  have hs := crashRun_succ k picks (absL L) r.nm ⟨r.c, r.dur⟩ hat
  refine ⟨k + 1, setR r' L', v2, hlt, by simp, hD5, ?_, hu5.blk hC hcb, ?_, ?_, fun j hj => hF j (hF5 j hj)⟩
  · rw [hs, absL_setR hD hr hnm hfb]
    simp only
    rw [hres, ← habs]
    refine setF_set (absL_pairwise hD) (f0 := ⟨r.c, r.dur⟩) ?_
    rw [habs, crashRun_at]
    exact hat
  · rw [hs]
    exact hV.upd (hu5.mono (fun j _ h => .inl (hF j h)))
  · exact (hU.trans hu2 (fun j _ e => .inr e)).trans hu5 (fun j _ h => .inl (hF j h))

theorem xor255 (b : UInt8) : bits BinOp.xor IntKind.u8 (b.toNat : Int) 255 = ((b ^^^ 255).toNat : Int) := by
  have := u8_xor_nat b.toNat 255 (by have := b.toNat_lt; omega) (by omega)
  simpa using this

theorem zeroLast_none (l : List UInt8) : zeroLast (min 0 8) l = l := by simp [zeroLast]

/-- A round in which nothing has turned. -/
theorem crash_still {w2 : World} {r : FRec} {v2 : Value} (hlt : k < L.length) (habs : absL L' = (crashRun picks (absL L) k).1) (hat : (absL L)[k]? = some (absR r)) (h0 : r.c.length - r.dur = 0)
    (hF : ∀ j, foot d mb L' j → foot d mb L j) (hU : Upd (fun j => foot d mb L j ∨ j = cb) w0 w2) (hC : Blk w2 cb 90 #[v2]) (hV : RdI (fun j => foot d mb L j ∨ j = cb) w2 v2 (crashRun picks (absL L) k).2) (hD : DiskL w2 d mb false false 0 L') :
    CrashRel w0 d mb cb L picks (.int .i64 ((k : Int) + 1)) w2 := by
  have hs := crashRun_succ k picks (absL L) r.nm ⟨r.c, r.dur⟩ hat
  have hres : crashF (crashRun picks (absL L) k).2 ⟨r.c, r.dur⟩ = (⟨r.c, r.dur⟩, (crashRun picks (absL L) k).2) := by simp [crashF, h0]
  rw [hres] at hs
  refine ⟨k + 1, L', v2, hlt, by simp, hD, ?_, hC, by rw [hs]; exact hV, hU, hF⟩
  rw [hs, habs]
  simp only
  symm
  apply List.ext_getElem?
  intro i
  rw [List.getElem?_set]
  split
  · rename_i e
    subst e
    rw [crashRun_at, hat]
    have : k < (crashRun picks (absL L) k).1.length := by rw [crashRun_len]; simpa [absL] using hlt
    simp [this, absR]
  · rfl
end

set_option maxRecDepth 100000 in
set_option maxHeartbeats 2000000 in
theorem crash_any {w : World} {d mb : Nat} {off armed : Bool} {left : Nat} {L : List FRec} (h : DiskL w d mb off armed left L) (v : Value) (picks : List Int) (hv : RdI (foot d mb L) w v picks)
    (hp : ∀ z ∈ picks, -9223372036854775808 ≤ z ∧ z ≤ 9223372036854775807) (hL : L.length ≤ 8796093022208) : Calls Tryz.prog 21 #[ptrV d, v] w (CrashPost w d mb L picks) := by
  obtain ⟨A0, c0, rfl, _⟩ := hv.now
  have b1 : w.cell? ⟨d, 1, none⟩ = some (.bool off) := h.head.cell 1
  have b2 : w.cell? ⟨d, 2, none⟩ = some (.bool armed) := h.head.cell 2
  have b3 : w.cell? ⟨d, 3, none⟩ = some (.int .i64 left) := h.head.cell 3
  have f1 : w.frozen? ⟨d, 1, none⟩ = false := h.head.frozen 1
  have f2 : w.frozen? ⟨d, 2, none⟩ = false := h.head.frozen 2
  have f3 : w.frozen? ⟨d, 3, none⟩ = false := h.head.frozen 3
  have hdz : d < w.heap.size := h.head.lt
  have hu1 : Upd (fun k => k = d) w (((w.setCell ⟨d, 1, none⟩ (.bool false)).setCell ⟨d, 2, none⟩ (.bool false)).setCell ⟨d, 3, none⟩ (.int .i64 0)) :=
    (((Upd.refl (fun k => k = d) w).setCell (p := ⟨d, 1, none⟩) (.inl rfl) _).setCell (p := ⟨d, 2, none⟩) (.inl rfl) _).setCell (p := ⟨d, 3, none⟩) (.inl rfl) _
  have hd1 : DiskL (((w.setCell ⟨d, 1, none⟩ (.bool false)).setCell ⟨d, 2, none⟩ (.bool false)).setCell ⟨d, 3, none⟩ (.int .i64 0)) d mb false false 0 L :=
    h.top hu1 (((h.head.put 1 _).put 2 _).put 3 _) (Nat.zero_le _)
  have D1 := Lib.hid hd1
  have U1 := Lib.hid hu1
  have V := Lib.hid hv
  have HP := Lib.hid hp
  have HL := Lib.hid hL
  have H := Lib.hid h
  clear h hv hp hd1 hu1 hL
  go_enter Tryz.func21, Tryz.ntmps21
  go_wp2_with (go_at_call 57; refine (files_any (DiskL.upd D1.out ((Upd.refl NoF _).alloc _) (fun _ _ h => h)) HL.out).mono ?_; rintro e w0 ⟨A, c, rfl, hnew⟩)
  have HN := Lib.hid hnew
  clear hnew b1 b2 b3 f1 f2 f3
  go_loopw [28] (fun i wr => CrashRel w0 d mb w.heap.size L picks i wr) (fun i _ => L.length - (intOf i).toNat)
  case atStart =>
    refine ⟨0, L, .slice A0 picks.length c0, Nat.zero_le _, rfl, ?_, by rw [crashRun_zero], ?_, ?_, Upd.refl _ _, fun _ h => h⟩
    · exact DiskL.upd (DiskL.upd D1.out ((Upd.refl NoF _).alloc _) (fun _ _ h => h)) HN.out.2.2 (fun _ _ h => h)
    · exact HN.out.2.2.blk (by simpa using Blk.new (((w.setCell ⟨d, 1, none⟩ (.bool false)).setCell ⟨d, 2, none⟩ (.bool false)).setCell ⟨d, 3, none⟩ (.int .i64 0)) 90 #[.slice A0 picks.length c0]) (fun h => h)
    · rw [crashRun_zero]
      refine RdF.upd' V.out (((U1.out.mono (fun k _ e => .inl e)).alloc _).trans HN.out.2.2 (fun _ _ h => h.elim)) ?_
      rintro i hi (h | rfl)
      · exact h
      · omega
  case round =>
    obtain ⟨k, L', v', hk, rfl, hD, habs, hC, hV, hU, hF⟩ := hrel
    have hcbn : ¬ foot d mb L' w.heap.size := fun h => by have := H.out.foot_lt (hF _ h); omega
    have HD := Lib.hid hD
    have HA := Lib.hid habs
    have HC := Lib.hid hC
    have HV := Lib.hid hV
    have HU := Lib.hid hU
    have HF := Lib.hid hF
    have HCB := Lib.hid hcbn
    have hsz : (List.map (fun x => x.nm) L).length = L.length := by simp
    have HZ := Lib.hid hsz
    have hk63 : L.length ≤ 8796093022208 := HL.out
    clear hD habs hC hV hU hF hcbn hsz
    by_cases hlt : k < L.length
    · obtain ⟨r, hr, hat, hnm⟩ := crash_at hlt HA.out
      have hnames := HN.out.1
      obtain ⟨gN, hA⟩ : ∃ g, A = some ⟨g, 0, none⟩ := by
        rcases hnames.2 with ⟨e, h0⟩ | ⟨g, cap, cur, e, _⟩
        · rw [HZ.out] at h0; omega
        · injection e with e1
          exact ⟨g, e1⟩
      subst hA
      have hN : Rd wr 1 (.slice (some ⟨gN, 0, none⟩) (List.map (fun x => x.nm) L).length c) (List.map (fun x => x.nm) L).length ((List.map (fun x => x.nm) L).map strV) := by
        refine (hnames.rdF (F := fun j => foot d mb L j ∨ j = w.heap.size) ?_) wr HU.out
        intro j hj hG
        have h1 := HN.out.2.1 j hj
        simp at h1
        rcases hG with h | rfl
        · have := H.out.foot_lt h; omega
        · omega
      have hcN : wr.cell? ⟨gN, k, none⟩ = some (strV r.nm) := by
        obtain ⟨A1, c1, e1, _, _, _, hx⟩ := hN
        obtain ⟨g1, o1, e2, hx⟩ := hx (by rw [HZ.out]; omega)
        injection e1 with e1
        rw [← e1] at e2
        injection e2 with e2
        injection e2 with e2 e3
        subst e2 e3
        have := hx k (strV r.nm) (by rw [List.getElem?_map, hnm]; rfl)
        simpa using this
      have hcD : wr.cell? ⟨d, 0, none⟩ = some (.map (some mb)) := HD.out.head.cell 0
      have hlook : (Instr.lookup 77 (.map (some mb)) (strV r.nm) false).run Tryz.prog wr = .ok (ptrV r.fb) wr := by
        have := HD.out.look (HD.out.nm r hr)
        rw [HD.out.find hr] at this
        exact this
      have hdl : r.dur ≤ r.c.length := HD.out.dur r hr
      have hcl : r.c.length ≤ 1099511627776 := HD.out.len r hr
      have fd : wr.cell? ⟨r.fb, 1, none⟩ = some (.int .i64 r.dur) := (HD.out.file r hr).cell 1
      have HR := Lib.hid hr
      have HAT := Lib.hid hat
      clear hnames hN hr hat hnm
      by_cases ht : r.c.length - r.dur = 0
      · obtain ⟨Ac, cc, hcv⟩ := (HD.out.own r HR.out).form
        have fc : wr.cell? ⟨r.fb, 0, none⟩ = some (.slice Ac r.c.length cc) := by rw [← hcv]; exact (HD.out.file r HR.out).cell 0
        have hz : ((r.c.length : Int) - (r.dur : Int)) = 0 := by omega
        have HCV := Lib.hid hcv
        have HT := Lib.hid ht
        clear hcv ht
        go_wp2
        go_quiet (fail)
        go_wp2
        go_roundw
        case rel => exact crash_still hlt HA.out HAT.out HT.out HF.out (HU.out.drewN nq) HC.out (RdF.upd HV.out ((Upd.refl _ _).drewN nq)) (DiskL.upd HD.out ((Upd.refl NoF _).drewN nq) (fun _ _ h => h))
        case measure => simp [intOf]; omega
      · obtain ⟨g, cap, hcv⟩ : ∃ g cap, r.cv = .slice (some ⟨g, 0, none⟩) r.c.length cap := by
          rcases (HD.out.own r HR.out).2 with ⟨_, e⟩ | ⟨g, cap, cur, e, _⟩
          · omega
          · exact ⟨g, cap, e⟩
        have hcap : r.c.length ≤ cap ∧ cap ≤ 9223372036854775807 := by
          rcases (HD.out.own r HR.out).2 with ⟨_, e⟩ | ⟨g', cap', cur, e, _, h1, h2, _⟩
          · omega
          · rw [hcv] at e
            injection e with _ _ e
            subst e
            unfold maxLen at h2
            exact ⟨h1, by omega⟩
        obtain ⟨hcap1, hcap2⟩ := hcap
        have fc : wr.cell? ⟨r.fb, 0, none⟩ = some (.slice (some ⟨g, 0, none⟩) r.c.length cap) := by rw [← hcv]; exact (HD.out.file r HR.out).cell 0
        obtain ⟨ps, hps⟩ : ∃ ps, (crashRun picks (absL L) k).2 = ps := ⟨_, rfl⟩
        have hpb : ∀ z ∈ ps, -9223372036854775808 ≤ z ∧ z ≤ 9223372036854775807 := fun z hz => HP.out z (crashRun_sub k picks (absL L) z (by rw [hps]; exact hz))
        obtain ⟨kk, hkk⟩ : ∃ kk, (below ps (r.c.length - r.dur + 1)).1 = kk := ⟨_, rfl⟩
        obtain ⟨p1, hp1⟩ : ∃ p1, (below ps (r.c.length - r.dur + 1)).2 = p1 := ⟨_, rfl⟩
        obtain ⟨dm, hdm⟩ : ∃ dm, (below p1 3).1 = dm := ⟨_, rfl⟩
        obtain ⟨p2, hp2⟩ : ∃ p2, (below p1 3).2 = p2 := ⟨_, rfl⟩
        have hkl : kk ≤ r.c.length - r.dur := by have := below_lt ps (r.c.length - r.dur + 1) (by omega); omega
        have hdl3 : dm < 3 := by have := below_lt p1 3 (by omega); omega
        have hcf : crashF (crashRun picks (absL L) k).2 ⟨r.c, r.dur⟩ = (⟨damaged dm kk (r.c.take (r.dur + kk)), r.dur + kk⟩, p2) := by
          rw [hps]
          simp [crashF, ht, hkk, hp1, hdm, hp2]
        have C1 : ∀ nq, Calls Tryz.prog 58 #[ptrV w.heap.size, .int .i64 ((r.c.length : Int) - (r.dur : Int) + 1)] (wr.drewN nq) fun e w1 => e = .returned (.int .i64 kk) ∧
            ∃ v1, Blk w1 w.heap.size 90 #[v1] ∧ RdI (fun j => foot d mb L j ∨ j = w.heap.size) w1 v1 p1 ∧ Upd (fun j => j = w.heap.size) wr w1 := by
          intro nq
          refine (below_int (F := fun j => foot d mb L j ∨ j = w.heap.size) w.heap.size v' ps _ (wr.drewN nq) HC.out (by rw [← hps]; exact RdF.upd HV.out ((Upd.refl _ _).drewN nq)) (.inr rfl) (by omega) (by omega) hpb).mono ?_
          rintro e w1 ⟨rfl, v1, h1, h2, h3⟩
          have et : ((r.c.length : Int) - (r.dur : Int) + 1).toNat = r.c.length - r.dur + 1 := by omega
          rw [et] at h2 ⊢
          rw [hp1] at h2
          exact ⟨by rw [hkk], v1, h1, h2, ((Upd.refl (fun j => j = w.heap.size) wr).drewN nq).trans h3 (fun _ _ h => h)⟩
        have C2 : ∀ w1 v1, Blk w1 w.heap.size 90 #[v1] → RdI (fun j => foot d mb L j ∨ j = w.heap.size) w1 v1 p1 → Upd (fun j => j = w.heap.size) wr w1 → Calls Tryz.prog 58 #[ptrV w.heap.size, .int .i64 3] w1 fun e w2 => e = .returned (.int .i64 dm) ∧
            ∃ v2, Blk w2 w.heap.size 90 #[v2] ∧ RdI (fun j => foot d mb L j ∨ j = w.heap.size) w2 v2 p2 ∧ Upd (fun j => j = w.heap.size) wr w2 := by
          intro w1 v1 h1 h2 h0
          refine (below_int (F := fun j => foot d mb L j ∨ j = w.heap.size) w.heap.size v1 p1 3 w1 h1 h2 (.inr rfl) (by omega) (by omega) (fun z hz => hpb z (below_sub ps _ z (by rw [hp1]; exact hz)))).mono ?_
          rintro e w2 ⟨rfl, v2, h3, h4, h5⟩
          have et : (3 : Int).toNat = 3 := rfl
          rw [et] at h4 ⊢
          rw [hp2] at h4
          exact ⟨by rw [hdm], v2, h3, h4, h0.trans h5 (fun _ _ h => h)⟩
        have K : ∀ w2, Upd (fun j => j = w.heap.size) wr w2 → DiskL w2 d mb false false 0 L' := fun w2 hu => HD.out.upd hu (fun j hj e => HCB.out (e ▸ hj))
        have hfz : ∀ w2, Upd (fun j => j = w.heap.size) wr w2 → w2.cell? ⟨r.fb, 0, none⟩ = some (.slice (some ⟨g, 0, none⟩) r.c.length cap) ∧ w2.cell? ⟨r.fb, 1, none⟩ = some (.int .i64 r.dur) ∧ w2.frozen? ⟨r.fb, 0, none⟩ = false ∧ w2.frozen? ⟨r.fb, 1, none⟩ = false := by
          intro w2 hu
          have hf2 := (K w2 hu).file r HR.out
          exact ⟨by rw [← hcv]; exact hf2.cell 0, hf2.cell 1, hf2.frozen 0, hf2.frozen 1⟩
        have fin : ∀ w2 w5 r' v2, Blk w2 w.heap.size 90 #[v2] → RdI (fun j => foot d mb L j ∨ j = w.heap.size) w2 v2 p2 → Upd (fun j => j = w.heap.size) wr w2 → r'.nm = r.nm → r'.fb = r.fb → r'.c = damaged dm kk (r.c.take (r.dur + kk)) → r'.dur = r.dur + kk →
            DiskL w5 d mb false false 0 (setR r' L') → Upd (fun j => j = r.fb ∨ j = g) w2 w5 → (∀ j, foot d mb (setR r' L') j → foot d mb L' j) → CrashRel w0 d mb w.heap.size L picks (.int .i64 ((k : Int) + 1)) w5 := by
          intro w2 w5 r' v2 h1 h2 h3 h4 h5 h6 h7 h8 h9 h10
          refine crash_close hlt HD.out HA.out HR.out HAT.out h4 h5 (by rw [hcf, h6, h7]) HF.out HU.out h3 (h9.mono ?_) h1 HCB.out (by rw [hcf]; exact h2) h8 h10
          rintro j _ (rfl | rfl)
          · exact .inr (.inr ⟨r, HR.out, .inl rfl⟩)
          · exact .inr (.inr ⟨r, HR.out, .inr (by rw [hcv]; simp [OwnB, Value.ownBlock])⟩)
        have HCV := Lib.hid hcv
        have FIN := Lib.hid fin
        have HC1 := Lib.hid C1
        have HC2 := Lib.hid C2
        have HK := Lib.hid K
        have HFZ := Lib.hid hfz
        have htz : (((r.c.length : Int) - (r.dur : Int)) == 0) = false := by simp; omega
        clear hcv fin C1 C2 K hfz hps hpb hkk hp1 hdm hp2 hcf ht
        by_cases hcase : dm = 1 ∧ 0 < kk
        · obtain ⟨hd1, hkp⟩ := hcase
          have hdb : ((dm : Int) == 1) = true := by rw [hd1]; rfl
          have HD1 := Lib.hid hd1
          clear hd1
          go_wp2
          go_quiet (fail)
          go_wp2_with fail
          refine (HC1.out _).mono ?_
          rintro e w1 ⟨rfl, v1, a1, a2, a3⟩
          have B1 := Lib.hid (HC2.out w1 v1 a1 a2 a3)
          clear a1 a2 a3
          go_wp2_with fail
          refine B1.out.mono ?_
          rintro e w2 ⟨rfl, v2, a1, a2, a3⟩
          obtain ⟨q0, q1, q2, q3⟩ := HFZ.out w2 a3
          have BB := Lib.hid a1
          have BV := Lib.hid a2
          have BU := Lib.hid a3
          obtain ⟨b, hb0⟩ : ∃ b, r.c[r.dur + kk - 1]? = some b := ⟨_, List.getElem?_eq_getElem (by omega)⟩
          have CF := crash_flip (HK.out w2 a3) HR.out HCV.out (e := r.dur + kk) (by omega) (by omega) hb0
          have CFH := Lib.hid CF
          have hne : g ≠ r.fb := CF.2.2.2.2.2
          have hx1 : (w2.setCell ⟨r.fb, 0, none⟩ (.slice (some ⟨g, 0, none⟩) (r.dur + kk) (r.dur + kk))).cell? ⟨g, r.dur + kk - 1, none⟩ = some (byteV b) := by
            rw [World.cell?_setCell_other _ _ _ _ (fun e => hne (by injection e with e1; exact e1.symm))]
            exact CF.2.2.2.1
          have hx2 : w2.frozen? ⟨g, r.dur + kk - 1, none⟩ = false := CF.2.2.2.2.1
          have hbits : bits BinOp.xor IntKind.u8 (b.toNat : Int) 255 = ((b ^^^ 255).toNat : Int) := xor255 b
          clear a1 a2 a3 CF hb0
          go_wp2
          go_roundw
          case rel => exact FIN.out w2 _ { r with cv := .slice (some ⟨g, 0, none⟩) (r.dur + kk) (r.dur + kk), c := flipLast (r.c.take (r.dur + kk)), dur := r.dur + kk } v2 BB.out BV.out BU.out rfl rfl (by simp [damaged, HD1.out, hkp]) rfl CFH.out.1 CFH.out.2.1 CFH.out.2.2.1
          case measure => simp [intOf]; omega
        · by_cases hd2 : dm = 2 ∧ 0 < kk
          · obtain ⟨hd1, hkp⟩ := hd2
            have hdb : ((dm : Int) == 1) = false := by rw [hd1]; rfl
            have hdc : ((dm : Int) == 2) = true := by rw [hd1]; rfl
            have HD1 := Lib.hid hd1
            clear hd1 hcase
            obtain ⟨m, hm⟩ : ∃ m, min kk 8 = m := ⟨_, rfl⟩
            have hmi : min (kk : Int) 8 = (m : Int) := by omega
            have hm0 : 0 < m := by omega
            have hm1 : m ≤ kk := by omega
            have HM := Lib.hid hm
            clear hm
            go_wp2
            go_quiet (fail)
            go_wp2_with fail
            refine (HC1.out _).mono ?_
            rintro e w1 ⟨rfl, v1, a1, a2, a3⟩
            have B1 := Lib.hid (HC2.out w1 v1 a1 a2 a3)
            clear a1 a2 a3
            go_wp2_with fail
            refine B1.out.mono ?_
            rintro e w2 ⟨rfl, v2, a1, a2, a3⟩
            obtain ⟨q0, q1, q2, q3⟩ := HFZ.out w2 a3
            have BB := Lib.hid a1
            have BV := Lib.hid a2
            have BU := Lib.hid a3
            obtain ⟨cs, hclr, CF1, CF2, CF3, hx1, hx2⟩ := crash_zero (HK.out w2 a3) HR.out HCV.out (e := r.dur + kk) (m := m) (by omega) hm0 (by omega)
            have CFH1 := Lib.hid CF1
            have CFH2 := Lib.hid CF2
            have CFH3 := Lib.hid CF3
            clear a1 a2 a3 CF1 CF2 CF3
            have hclr' : (Builtin.clear_ #[28] 0 #[.slice (some ⟨g, r.dur + kk - m, none⟩) (r.dur + kk - (r.dur + kk - m)) (r.dur + kk - (r.dur + kk - m))]).run Tryz.prog (w2.setCell ⟨r.fb, 0, none⟩ (.slice (some ⟨g, 0, none⟩) (r.dur + kk) (r.dur + kk))) = .ok (.tuple #[]) ((w2.setCell ⟨r.fb, 0, none⟩ (.slice (some ⟨g, 0, none⟩) (r.dur + kk) (r.dur + kk))).setRow g cs) := by
              rw [show r.dur + kk - (r.dur + kk - m) = m by omega]
              exact hclr 0 m
            clear hclr
            go_wp2
            go_roundw
            case rel => exact FIN.out w2 _ { r with cv := .slice (some ⟨g, 0, none⟩) (r.dur + kk) (r.dur + kk), c := zeroLast m (r.c.take (r.dur + kk)), dur := r.dur + kk } v2 BB.out BV.out BU.out rfl rfl (by simp [damaged, HD1.out, HM.out]) rfl CFH1.out CFH2.out CFH3.out
            case measure => simp [intOf]; omega
          · have hdmg : r.c.take (r.dur + kk) = damaged dm kk (r.c.take (r.dur + kk)) := by
              unfold damaged
              rw [if_neg hcase]
              split
              · rename_i e2
                have hk0 : kk = 0 := by omega
                subst hk0
                exact (zeroLast_none _).symm
              · rfl
            have DMG := Lib.hid hdmg
            clear hdmg
            by_cases hk0 : kk = 0
            · have hdec : decide (0 < kk) = false := by simp; omega
              have hk00 : kk ≤ 0 := by omega
              have hmin : min (kk : Int) 8 = kk := by omega
              clear hcase hd2 hk0
              by_cases hd1 : dm = 1
              · have hdb : ((dm : Int) == 1) = true := by rw [hd1]; rfl
                have hdc : ((dm : Int) == 2) = false := by rw [hd1]; rfl
                clear hd1
                go_wp2
                go_quiet (fail)
                go_wp2_with fail
                refine (HC1.out _).mono ?_
                rintro e w1 ⟨rfl, v1, a1, a2, a3⟩
                have B1 := Lib.hid (HC2.out w1 v1 a1 a2 a3)
                clear a1 a2 a3
                go_wp2_with fail
                refine B1.out.mono ?_
                rintro e w2 ⟨rfl, v2, a1, a2, a3⟩
                obtain ⟨q0, q1, q2, q3⟩ := HFZ.out w2 a3
                have BB := Lib.hid a1
                have BV := Lib.hid a2
                have BU := Lib.hid a3
                have CF := Lib.hid (crash_none (HK.out w2 a3) HR.out HCV.out (e := r.dur + kk) (by omega))
                clear a1 a2 a3
                go_wp2
                go_roundw
                case rel => exact FIN.out w2 _ { r with cv := .slice (some ⟨g, 0, none⟩) (r.dur + kk) (r.dur + kk), c := r.c.take (r.dur + kk), dur := r.dur + kk } v2 BB.out BV.out BU.out rfl rfl DMG.out rfl CF.out.1 CF.out.2.1 CF.out.2.2
                case measure => simp [intOf]; omega
              · by_cases hd2 : dm = 2
                · have hdb : ((dm : Int) == 1) = false := by rw [hd2]; rfl
                  have hdc : ((dm : Int) == 2) = true := by rw [hd2]; rfl
                  clear hd1 hd2
                  go_wp2
                  go_quiet (fail)
                  go_wp2_with fail
                  refine (HC1.out _).mono ?_
                  rintro e w1 ⟨rfl, v1, a1, a2, a3⟩
                  have B1 := Lib.hid (HC2.out w1 v1 a1 a2 a3)
                  clear a1 a2 a3
                  go_wp2_with fail
                  refine B1.out.mono ?_
                  rintro e w2 ⟨rfl, v2, a1, a2, a3⟩
                  obtain ⟨q0, q1, q2, q3⟩ := HFZ.out w2 a3
                  have BB := Lib.hid a1
                  have BV := Lib.hid a2
                  have BU := Lib.hid a3
                  have CF := Lib.hid (crash_none (HK.out w2 a3) HR.out HCV.out (e := r.dur + kk) (by omega))
                  clear a1 a2 a3
                  have hclr0 : ∀ W : World, (Builtin.clear_ #[28] 0 #[.slice (some ⟨g, 0, none⟩) kk kk]).run Tryz.prog W = .ok (.tuple #[]) W := by
                    intro W
                    rw [show kk = 0 by omega]
                    kernel_rfl
                  go_wp2
                  go_roundw
                  case rel => exact FIN.out w2 _ { r with cv := .slice (some ⟨g, 0, none⟩) (r.dur + kk) (r.dur + kk), c := r.c.take (r.dur + kk), dur := r.dur + kk } v2 BB.out BV.out BU.out rfl rfl DMG.out rfl CF.out.1 CF.out.2.1 CF.out.2.2
                  case measure => simp [intOf]; omega
                · have hdb : ((dm : Int) == 1) = false := by simp; omega
                  have hdc : ((dm : Int) == 2) = false := by simp; omega
                  clear hd1 hd2
                  go_wp2
                  go_quiet (fail)
                  go_wp2_with fail
                  refine (HC1.out _).mono ?_
                  rintro e w1 ⟨rfl, v1, a1, a2, a3⟩
                  have B1 := Lib.hid (HC2.out w1 v1 a1 a2 a3)
                  clear a1 a2 a3
                  go_wp2_with fail
                  refine B1.out.mono ?_
                  rintro e w2 ⟨rfl, v2, a1, a2, a3⟩
                  obtain ⟨q0, q1, q2, q3⟩ := HFZ.out w2 a3
                  have BB := Lib.hid a1
                  have BV := Lib.hid a2
                  have BU := Lib.hid a3
                  have CF := Lib.hid (crash_none (HK.out w2 a3) HR.out HCV.out (e := r.dur + kk) (by omega))
                  clear a1 a2 a3
                  go_wp2
                  go_roundw
                  case rel => exact FIN.out w2 _ { r with cv := .slice (some ⟨g, 0, none⟩) (r.dur + kk) (r.dur + kk), c := r.c.take (r.dur + kk), dur := r.dur + kk } v2 BB.out BV.out BU.out rfl rfl DMG.out rfl CF.out.1 CF.out.2.1 CF.out.2.2
                  case measure => simp [intOf]; omega
            · have hdb : ((dm : Int) == 1) = false := by simp; omega
              have hdc : ((dm : Int) == 2) = false := by simp; omega
              clear hcase hd2 hk0
              go_wp2
              go_quiet (fail)
              go_wp2_with fail
              refine (HC1.out _).mono ?_
              rintro e w1 ⟨rfl, v1, a1, a2, a3⟩
              have B1 := Lib.hid (HC2.out w1 v1 a1 a2 a3)
              clear a1 a2 a3
              go_wp2_with fail
              refine B1.out.mono ?_
              rintro e w2 ⟨rfl, v2, a1, a2, a3⟩
              obtain ⟨q0, q1, q2, q3⟩ := HFZ.out w2 a3
              have BB := Lib.hid a1
              have BV := Lib.hid a2
              have BU := Lib.hid a3
              have CF := Lib.hid (crash_none (HK.out w2 a3) HR.out HCV.out (e := r.dur + kk) (by omega))
              clear a1 a2 a3
              go_wp2
              go_roundw
              case rel => exact FIN.out w2 _ { r with cv := .slice (some ⟨g, 0, none⟩) (r.dur + kk) (r.dur + kk), c := r.c.take (r.dur + kk), dur := r.dur + kk } v2 BB.out BV.out BU.out rfl rfl DMG.out rfl CF.out.1 CF.out.2.1 CF.out.2.2
              case measure => simp [intOf]; omega
    · have hkl : k = L.length := by omega
      have HKL := Lib.hid hkl
      clear hkl
      go_wp2
      go_end0
      refine ⟨rfl, L', HD.out, ?_, ?_, HF.out⟩
      · rw [HA.out, HKL.out, ← crashRun_all]
        simp [absL]
      · have hu2 : Upd (foot d mb L) w w0 := ((U1.out.mono (fun k _ e => .inl e)).alloc _).trans HN.out.2.2 (fun _ _ h => h.elim)
        refine hu2.trans HU.out ?_
        rintro j hj (h | rfl)
        · exact h
        · omega
end

section
open Go.RowKit Go.Maps

theorem crash_spec {w : World} {d : Nat} {s : DSt} {F : Nat → Prop} (h : DiskAt w d s F) (v : Value) (picks : List Int) (hv : RdI F w v picks) (hp : ∀ z ∈ picks, -9223372036854775808 ≤ z ∧ z ≤ 9223372036854775807) (hL : s.fs.length ≤ 8796093022208) :
    Calls Tryz.prog 21 #[ptrV d, v] w fun e w' => e = .returned (.tuple #[]) ∧ DiskStep w d (sCrash s picks) F w' := by
  obtain ⟨mb, L, hd, hs, rfl⟩ := h
  refine (crash_any hd v picks hv hp (by rw [hs] at hL; simpa [absL] using hL)).mono ?_
  rintro e w' ⟨rfl, L', h1, h2, h3, h4⟩
  exact ⟨rfl, _, ⟨mb, L', h1, by rw [h2, sCrash, hs], rfl⟩, h3, fun k hk => .inl (h4 k hk)⟩

/-- 'string(b)'. -/
theorem run_str {w : World} {v : Value} {bs : List UInt8} (h : Rd w 1 v bs.length (bs.map byteV)) : (convert 28 9 v).run Tryz.prog w = .ok (strV bs) w := by
  obtain ⟨A, c, rfl, hn, hc, hl, hA⟩ := h
  cases bs with
  | nil =>
    have := run_convert_bytes_zero (P := Tryz.prog) w 28 5 Tryz.underlying28 Tryz.underlying5 A c 9 Tryz.underlying9
    rw [List.length_nil, this]
    rfl
  | cons b l =>
    obtain ⟨g, o, rfl, hcell⟩ := hA (by simp)
    refine run_convert_bytes_back (P := Tryz.prog) w 28 9 5 ⟨g, o, none⟩ c (b :: l) Tryz.underlying28 Tryz.underlying5 Tryz.underlying9 ?_
    intro j hj
    have hadd : (⟨g, o, none⟩ : Addr).add j = ⟨g, o + j, none⟩ := by unfold Addr.add; split <;> simp_all
    rw [hadd]
    exact hcell j _ (by simp only [List.getElem?_map]; rw [List.getElem?_eq_getElem hj]; rfl)

theorem DiskAt.fresh {w : World} {d : Nat} {s : DSt} {F : Nat → Prop} (h : DiskAt w d s F) : ¬ F w.heap.size := fun hk => by have := h.lt hk; omega

/-! ### a disk since the world w0, when its blocks were those of F0 -/
def Dk (w0 : World) (F0 : Nat → Prop) (d : Nat) (s : DSt) (w : World) : Prop := DiskStep w0 d s F0 w

section
variable {w0 w w' : World} {F0 : Nat → Prop} {d : Nat} {s : DSt}
theorem Dk.upd (h : Dk w0 F0 d s w) (hu : Upd NoF w w') : Dk w0 F0 d s w' := by
  obtain ⟨F, a, b, c⟩ := h
  exact ⟨F, a.upd hu (fun _ _ h => h), b.trans hu (fun _ _ h => h.elim), c⟩
theorem Dk.alloc (h : Dk w0 F0 d s w) (o : Obj) : Dk w0 F0 d s (w.alloc o) := h.upd ((Upd.refl NoF w).alloc o)
theorem Dk.drewN (h : Dk w0 F0 d s w) (n : Nat) : Dk w0 F0 d s (w.drewN n) := h.upd ((Upd.refl NoF w).drewN n)
theorem Dk.out (h : Dk w0 F0 d s w) : Upd F0 w0 w := by obtain ⟨F, a, b, c⟩ := h; exact b
theorem Dk.size (h : Dk w0 F0 d s w) : w0.heap.size ≤ w.heap.size := h.out.size
theorem Dk.lt (h : Dk w0 F0 d s w) : d < w.heap.size := by
  obtain ⟨F, ⟨mb, L, h1, h2, rfl⟩, b, c⟩ := h
  exact h1.head.lt
/-- The state as it is now, its blocks named. -/
theorem Dk.now (h : Dk w0 F0 d s w) : ∃ F, DiskAt w d s F ∧ (∀ k, F k → (F0 k ∨ w0.heap.size ≤ k) ∧ k < w.heap.size) := by
  obtain ⟨F, a, b, c⟩ := h
  exact ⟨F, a, fun k hk => ⟨c k hk, a.lt hk⟩⟩
theorem DiskAt.dk {F : Nat → Prop} (h : DiskAt w d s F) : Dk w F d s w := DiskStep.refl h
theorem Dk.upd' (h : Dk w0 F0 d s w) {G : Nat → Prop} (hu : Upd G w w') (hG : ∀ k, (F0 k ∨ w0.heap.size ≤ k) → k < w.heap.size → ¬ G k) (hG0 : ∀ k, k < w0.heap.size → G k → F0 k) : Dk w0 F0 d s w' := by
  obtain ⟨F, a, b, c⟩ := h
  exact ⟨F, a.upd hu (fun k hk => hG k (c k hk) (a.lt hk)), b.trans hu hG0, c⟩

def ErrDk (w0 : World) (F0 : Nat → Prop) (d : Nat) (r : Int × DSt) (e : Ending) (w' : World) : Prop := e = retE r.1 ∧ Dk w0 F0 d r.2 w'

theorem ErrPost.dk {F : Nat → Prop} {r : Int × DSt} {e : Ending} (hF : ∀ k, F k → F0 k ∨ w0.heap.size ≤ k) (hb : Upd F0 w0 w) (h : ErrPost w d F r e w') : ErrDk w0 F0 d r e w' := by
  obtain ⟨he, F2, a2, b2, c2⟩ := h
  refine ⟨he, F2, a2, hb.trans b2 (fun k hk f => (hF k f).resolve_right (by omega)), fun k hk => ?_⟩
  rcases c2 k hk with e | e
  · exact hF k e
  · exact .inr (Nat.le_trans hb.size e)

theorem append_dk (h : Dk w0 F0 d s w) {w1 : World} (hu : Upd NoF w w1) (nm : List UInt8) (hm : nm.length ≤ maxLen) (v : Value) (b : List UInt8) (hb : ∀ F : Nat → Prop, (∀ k, F k → (F0 k ∨ w0.heap.size ≤ k) ∧ k < w.heap.size) → RdB F w1 v b)
    (hl : ((getF s.fs nm).getD ⟨[], 0⟩).c.length + b.length ≤ 1099511627776) (hL : s.fs.length < maxLen) : Calls Tryz.prog 16 #[ptrV d, strV nm, v] w1 (ErrDk w0 F0 d (sAppend s nm b)) := by
  obtain ⟨F, a, b', c⟩ := h
  exact (append_spec (a.upd hu (fun _ _ h => h)) nm hm v b (hb F (fun k hk => ⟨c k hk, a.lt hk⟩)) hl hL).mono fun e w' he => he.dk c (b'.trans hu (fun _ _ h => h.elim))
theorem sync_dk (h : Dk w0 F0 d s w) (nm : List UInt8) (hm : nm.length ≤ maxLen) : Calls Tryz.prog 50 #[ptrV d, strV nm] w (ErrDk w0 F0 d (sSync s nm)) := by
  obtain ⟨F, a, b', c⟩ := h
  exact (sync_spec a nm hm).mono fun e w' he => he.dk c b'
theorem remove_dk (h : Dk w0 F0 d s w) (nm : List UInt8) (hm : nm.length ≤ maxLen) : Calls Tryz.prog 49 #[ptrV d, strV nm] w (ErrDk w0 F0 d (sRemove s nm)) := by
  obtain ⟨F, a, b', c⟩ := h
  exact (remove_spec a nm hm).mono fun e w' he => he.dk c b'
end
end

section
open Go.RowKit Go.Maps

/-- A file of the reference disk. -/
structure RRec where
  nm : List UInt8
  cv : Value
  c : List UInt8
  dur : Nat

def cellsR (R : List RRec) : List Value := R.flatMap (fun r => [strV r.nm, r.cv, .int .i64 r.dur])

theorem length_cellsR (R : List RRec) : (cellsR R).length = R.length * 3 := by
  induction R with
  | nil => rfl
  | cons r R ih => simp only [cellsR, List.flatMap_cons, List.length_append, List.length_cons, List.length_nil] at ih ⊢; omega

theorem cellsR_at {R : List RRec} {i : Nat} {r : RRec} (h : R[i]? = some r) : (cellsR R)[i * 3]? = some (strV r.nm) ∧ (cellsR R)[i * 3 + 1]? = some r.cv ∧ (cellsR R)[i * 3 + 2]? = some (.int .i64 r.dur) := by
  induction R generalizing i with
  | nil => cases h
  | cons x R ih =>
    cases i with
    | zero =>
      simp at h
      subst h
      simp [cellsR]
    | succ i =>
      have := ih (i := i) (by simpa using h)
      simp only [cellsR, List.flatMap_cons] at this ⊢
      refine ⟨?_, ?_, ?_⟩
      · rw [show (i + 1) * 3 = 3 + i * 3 by omega, List.getElem?_append_right (by simp)]; simpa using this.1
      · rw [show (i + 1) * 3 + 1 = 3 + (i * 3 + 1) by omega, List.getElem?_append_right (by simp)]; simpa using this.2.1
      · rw [show (i + 1) * 3 + 2 = 3 + (i * 3 + 2) by omega, List.getElem?_append_right (by simp)]; simpa using this.2.2

theorem cellsR_append (a b : List RRec) : cellsR (a ++ b) = cellsR a ++ cellsR b := by simp [cellsR]
theorem cellsR_take (R : List RRec) (k : Nat) : (cellsR R).take (k * 3) = cellsR (R.take k) := by
  induction R generalizing k with
  | nil => simp [cellsR]
  | cons r R ih =>
    cases k with
    | zero => simp [cellsR]
    | succ k =>
      have := ih k
      simp only [cellsR, List.flatMap_cons, List.take_succ_cons] at this ⊢
      rw [show (k + 1) * 3 = 3 + k * 3 by omega, List.take_append, List.take_of_length_le (by simp)]
      simp [this]
theorem cellsR_drop (R : List RRec) (k : Nat) : (cellsR R).drop (k * 3) = cellsR (R.drop k) := by
  induction R generalizing k with
  | nil => simp [cellsR]
  | cons r R ih =>
    cases k with
    | zero => simp [cellsR]
    | succ k =>
      have := ih k
      simp only [cellsR, List.flatMap_cons, List.drop_succ_cons] at this ⊢
      rw [show (k + 1) * 3 = 3 + k * 3 by omega, List.drop_append, List.drop_of_length_le (by simp)]
      simp [this]

structure RefL (w : World) (m : Nat) (off armed : Bool) (left : Nat) (lv : Value) (R : List RRec) : Prop where
  head : Blk w m 44 #[lv, .bool armed, .int .i64 left, .bool off]
  list : Own w 94 3 lv R.length (cellsR R)
  cont : ∀ r ∈ R, Own w 5 1 r.cv r.c.length (r.c.map byteV)
  lft : left ≤ 9223372036854775807
  len : ∀ r ∈ R, r.c.length ≤ 1099511627776
  num : R.length ≤ 1099511627776

def refFoot (m : Nat) (lv : Value) (R : List RRec) : Nat → Prop := fun k => k = m ∨ OwnB lv k ∨ ∃ r ∈ R, OwnB r.cv k

section
variable {w w' : World} {m : Nat} {off armed : Bool} {left : Nat} {lv : Value} {R : List RRec}

theorem RefL.upd (h : RefL w m off armed left lv R) {F : Nat → Prop} (hu : Upd F w w') (hF : ∀ k, refFoot m lv R k → ¬ F k) : RefL w' m off armed left lv R :=
  { head := hu.blk h.head (hF _ (.inl rfl)), list := h.list.upd hu (fun k hk => hF k (.inr (.inl hk))), cont := fun r hr => (h.cont r hr).upd hu (fun k hk => hF k (.inr (.inr ⟨r, hr, hk⟩))), lft := h.lft, len := h.len, num := h.num }
theorem RefL.foot_lt (h : RefL w m off armed left lv R) {k : Nat} (hk : refFoot m lv R k) : k < w.heap.size := by
  rcases hk with rfl | hk | ⟨r, hr, hk⟩
  · exact h.head.lt
  · exact h.list.lt hk
  · exact (h.cont r hr).lt hk

theorem RefL.form (h : RefL w m off armed left lv R) : ∃ A c, lv = .slice A R.length c ∧ R.length ≤ c ∧ c ≤ 9223372036854775807 ∧ (0 < R.length → ∃ g, A = some ⟨g, 0, none⟩ ∧ OwnB lv g ∧
    ∀ i r, R[i]? = some r → w.cell? ⟨g, i * 3, none⟩ = some (strV r.nm) ∧ w.cell? ⟨g, i * 3 + 1, none⟩ = some r.cv ∧ w.cell? ⟨g, i * 3 + 2, none⟩ = some (.int .i64 r.dur)) := by
  rcases h.list.2 with ⟨rfl, h0⟩ | ⟨g, cap, cur, rfl, hb, hn, hc, hs, hx⟩
  · exact ⟨none, 0, by rw [h0], by omega, by omega, fun h => by omega⟩
  · unfold maxLen at hc
    refine ⟨_, cap, rfl, hn, by omega, fun _ => ⟨g, rfl, by simp [OwnB, Value.ownBlock], fun i r hr => ?_⟩⟩
    have hi : i < R.length := (List.getElem?_eq_some_iff.1 hr).1
    obtain ⟨h1, h2, h3⟩ := cellsR_at hr
    rw [← hx] at h1 h2 h3
    rw [List.getElem?_take, if_pos (by omega)] at h1 h2 h3
    exact ⟨by rw [hb.cell]; simpa using h1, by rw [hb.cell]; simpa using h2, by rw [hb.cell]; simpa using h3⟩

theorem RefL.form2 {A : Option Addr} {n c : Nat} (h : RefL w m off armed left (.slice A n c) R) : (A = none ∧ R.length = 0 ∧ c = 0) ∨ ∃ g, A = some ⟨g, 0, none⟩ := by
  rcases h.list.2 with ⟨e, h0⟩ | ⟨g, cap, cur, e, _⟩
  · injection e with e1 _ e3
    exact .inl ⟨e1, h0, e3⟩
  · injection e with e1
    exact .inr ⟨g, e1⟩

def idxR (R : List RRec) (nm : List UInt8) : Int := match R.findIdx? (fun r => r.nm == nm) with | some i => i | none => -1

theorem idxR_some {nm : List UInt8} {k : Nat} {r : RRec} (hr : R[k]? = some r) (he : (r.nm == nm) = true) (hno : ∀ j, j < k → ∀ r, R[j]? = some r → (r.nm == nm) = false) : idxR R nm = k := by
  have hk : k < R.length := (List.getElem?_eq_some_iff.1 hr).1
  have : R.findIdx? (fun r => r.nm == nm) = some k := by
    rw [List.findIdx?_eq_some_iff_getElem]
    refine ⟨hk, ?_, fun j hj => ?_⟩
    · rw [(List.getElem?_eq_some_iff.1 hr).2]; exact he
    · simpa using hno j hj _ (List.getElem?_eq_getElem (by omega))
  simp [idxR, this]
theorem idxR_none {nm : List UInt8} (hno : ∀ j, j < R.length → ∀ r, R[j]? = some r → (r.nm == nm) = false) : idxR R nm = -1 := by
  have : R.findIdx? (fun r => r.nm == nm) = none := by
    rw [List.findIdx?_eq_none_iff]
    intro x hx
    obtain ⟨j, hj, rfl⟩ := List.mem_iff_getElem.1 hx
    exact hno j hj _ (List.getElem?_eq_getElem hj)
  simp [idxR, this]

set_option maxRecDepth 100000 in
theorem find_any (h : RefL w m off armed left lv R) (nm : List UInt8) : Calls Tryz.prog 52 #[ptrV m, strV nm] w fun e w' => e = .returned (.int .i64 (idxR R nm)) ∧ w = w' := by
  obtain ⟨A, c, rfl, hn, hc, hx⟩ := h.form
  have c0 : w.cell? ⟨m, 0, none⟩ = some (.slice A R.length c) := h.head.cell 0
  have HX := Lib.hid hx
  clear h hx
  go_enter Tryz.func52, Tryz.ntmps52
  go_wp2
  go_loop [5] (fun i => ∃ k : Nat, k ≤ R.length ∧ i = .int .i64 k ∧ ∀ j, j < k → ∀ r, R[j]? = some r → (r.nm == nm) = false) (fun i => R.length - (intOf i).toNat)
  case atStart => exact ⟨0, Nat.zero_le _, rfl, fun j h => absurd h (by omega)⟩
  case round =>
    obtain ⟨k, hk, rfl, hno⟩ := hrel
    have HNO := Lib.hid hno
    clear hno
    by_cases hlt : k < R.length
    · obtain ⟨g, rfl, _, hcell⟩ := HX.out (by omega)
      obtain ⟨r, hr⟩ : ∃ r, R[k]? = some r := ⟨_, List.getElem?_eq_getElem hlt⟩
      have hc1 := (hcell k r hr).1
      have HR := Lib.hid hr
      clear hcell hr
      cases heq : (r.nm == nm)
      · have HE := Lib.hid heq
        go_wp2
        go_round
        case rel =>
          refine ⟨k + 1, by omega, by go_num, fun j hj r' hr' => ?_⟩
          rcases Nat.lt_or_ge j k with h | h
          · exact HNO.out j h r' hr'
          · obtain rfl : j = k := by omega
            rw [HR.out] at hr'
            injection hr' with hr'
            subst hr'
            exact HE.out
        case measure => simp [intOf]; omega
      · have HE := Lib.hid heq
        go_wp2
        go_ret
        exact ⟨by rw [idxR_some HR.out HE.out HNO.out]; rfl, rfl⟩
    · have hkn : k = R.length := by omega
      subst hkn
      go_wp2
      go_ret
      exact ⟨by rw [idxR_none HNO.out]; rfl, rfl⟩

/-- Only the disk's own block has turned. -/
theorem RefL.top (h : RefL w m off armed left lv R) {off' armed' : Bool} {left' : Nat} (hu : Upd (fun k => k = m) w w') (hb : Blk w' m 44 #[lv, .bool armed', .int .i64 left', .bool off']) (hl : left' ≤ 9223372036854775807) : RefL w' m off' armed' left' lv R :=
  { head := hb, list := h.list.upd hu (fun k hk e => h.list.ne_of h.head (by decide) hk e), cont := fun r hr => (h.cont r hr).upd hu (fun k hk e => (h.cont r hr).ne_of h.head (by decide) hk e), lft := hl, len := h.len, num := h.num }

theorem fails_any (h : RefL w m off armed left lv R) : Calls Tryz.prog 91 #[ptrV m] w fun e w' => e = .returned (.bool (!wrB armed left)) ∧ RefL w' m (off || !wrB armed left) armed (wrL armed left) lv R ∧ Upd (fun k => k = m) w w' := by
  have c1 : w.cell? ⟨m, 1, none⟩ = some (.bool armed) := h.head.cell 1
  have c2 : w.cell? ⟨m, 2, none⟩ = some (.int .i64 left) := h.head.cell 2
  have c3 : w.cell? ⟨m, 3, none⟩ = some (.bool off) := h.head.cell 3
  have f2 : w.frozen? ⟨m, 2, none⟩ = false := h.head.frozen 2
  have f3 : w.frozen? ⟨m, 3, none⟩ = false := h.head.frozen 3
  have hl := h.lft
  have H := Lib.hid h
  clear h
  cases armed with
  | false =>
    go_enter Tryz.func91, Tryz.ntmps91
    go_wp2
    go_ret
    exact ⟨rfl, by simpa [wrB, wrL] using H.out, Upd.refl _ _⟩
  | true =>
    by_cases h0 : 0 < left
    · have q : decide (0 < left) = true := by simpa using h0
      go_enter Tryz.func91, Tryz.ntmps91
      go_wp2
      go_ret
      have hw : wrB true left = true := by simp [wrB]; omega
      have e1 : (left : Int) - 1 = ((left - 1 : Nat) : Int) := by omega
      rw [e1]
      have hu : Upd (fun k => k = m) w (w.setCell ⟨m, 2, none⟩ (.int .i64 ((left - 1 : Nat) : Int))) := (Upd.refl (fun k => k = m) w).setCell (p := ⟨m, 2, none⟩) (.inl rfl) _
      refine ⟨by rw [hw]; rfl, ?_, hu⟩
      have := H.out.top hu (off' := off) (armed' := true) (left' := left - 1) (H.out.head.put 2 _) (by omega)
      simpa [hw, wrL] using this
    · obtain rfl : left = 0 := by omega
      have q : decide ((0 : Int) < ((0 : Nat) : Int)) = false := by simp
      go_enter Tryz.func91, Tryz.ntmps91
      go_wp2
      go_ret
      have hu : Upd (fun k => k = m) w (w.setCell ⟨m, 3, none⟩ (.bool true)) := (Upd.refl (fun k => k = m) w).setCell (p := ⟨m, 3, none⟩) (.inl rfl) _
      refine ⟨rfl, ?_, hu⟩
      have := H.out.top hu (off' := true) (armed' := true) (left' := 0) (H.out.head.put 3 _) (by omega)
      simpa [wrB, wrL] using this
end
end

section
open Go.RowKit Go.Maps

theorem file_info : (Tryz.prog.info? 94).map (fun i => (i.zero, i.size, i.bytes)) = some (some (.agg #[.string ⟨#[]⟩, .slice none 0 0, .int .i64 0]), 3, 48) := by kernel_rfl

theorem cellsR_one {R : List RRec} {w : World} (h : ∀ r ∈ R, Own w 5 1 r.cv r.c.length (r.c.map byteV)) : ∀ u ∈ cellsR R, u.oneCell' = true := by
  intro u hu
  obtain ⟨r, hr, hu⟩ := List.mem_flatMap.1 hu
  obtain ⟨A, c, hcv⟩ := (h r hr).form
  simp only [List.mem_cons, List.not_mem_nil, or_false] at hu
  rcases hu with rfl | rfl | rfl
  · rfl
  · rw [hcv]; rfl
  · rfl

section
variable {w w' : World} {m : Nat} {off armed : Bool} {left : Nat} {lv : Value} {R : List RRec}

/-- The list of files is another one. -/
theorem RefL.relist (h : RefL w m off armed left lv R) {lv' : Value} {R' : List RRec} {F : Nat → Prop} (hu : Upd F w w') (hFc : ∀ r ∈ R', ∀ k, OwnB r.cv k → ¬ F k) (hb : Blk w' m 44 #[lv', .bool armed, .int .i64 left, .bool off])
    (hl : Own w' 94 3 lv' R'.length (cellsR R')) (hsub : ∀ r ∈ R', r ∈ R) (hn : R'.length ≤ 1099511627776) : RefL w' m off armed left lv' R' :=
  { head := hb, list := hl, cont := fun r hr => (h.cont r (hsub r hr)).upd hu (hFc r hr), lft := h.lft, len := fun r hr => h.len r (hsub r hr), num := hn }

/-- The part of a slice before k, and the part from k on. -/
theorem Rd.upto {size n c k : Nat} {A : Option Addr} {xs : List Value} (h : Rd w size (.slice A n c) n xs) (hk : k ≤ n) : Rd w size (.slice A k c) k (xs.take (k * size)) := by
  obtain ⟨A', c', e, hn, hc, hl, hx⟩ := h
  injection e with e1 _ e3
  subst e1 e3
  refine ⟨A, c, rfl, by omega, hc, ?_, fun h0 => ?_⟩
  · rw [List.length_take, hl]; exact Nat.min_eq_left (Nat.mul_le_mul_right _ hk)
  · obtain ⟨g, o, rfl, hx'⟩ := hx (by omega)
    refine ⟨g, o, rfl, fun j u hu => hx' j u ?_⟩
    rw [List.getElem?_take] at hu
    split at hu
    · exact hu
    · cases hu
theorem Rd.from_ {size n c k g o : Nat} {xs : List Value} (h : Rd w size (.slice (some ⟨g, o, none⟩) n c) n xs) (hk : k ≤ n) (A' : Option Addr) (hA : k < n → A' = some ⟨g, o + k * size, none⟩) : Rd w size (.slice A' (n - k) (c - k)) (n - k) (xs.drop (k * size)) := by
  obtain ⟨A0, c', e, hn, hc, hl, hx⟩ := h
  injection e with e1 _ e3
  subst e1 e3
  refine ⟨A', c - k, rfl, by omega, by omega, ?_, fun h0 => ?_⟩
  · rw [List.length_drop, hl, Nat.sub_mul]
  · obtain ⟨g', o', e, hx'⟩ := hx (by omega)
    injection e with e
    injection e with e1 e2
    subst e1 e2
    refine ⟨g, o + k * size, hA (by omega), fun j u hu => ?_⟩
    rw [Nat.add_assoc]
    exact hx' _ u (by rw [← hu, List.getElem?_drop])

def DropPost (w : World) (m : Nat) (off armed : Bool) (left : Nat) (R' : List RRec) (F : Nat → Prop) (e : Ending) (w' : World) : Prop :=
  e = .returned (.tuple #[]) ∧ ∃ lv', RefL w' m off armed left lv' R' ∧ Upd F w w' ∧ (∀ k, OwnB lv' k → w.heap.size ≤ k)

set_option maxRecDepth 100000 in
set_option maxHeartbeats 4000000 in
theorem drop_any (h : RefL w m off armed left lv R) (i : Nat) (hi : i < R.length) :
    Calls Tryz.prog 92 #[ptrV m, .int .i64 i] w (DropPost w m off armed left (R.take i ++ R.drop (i + 1)) (fun k => k = m)) := by
  obtain ⟨A, c, hlv, hn, hc, hx⟩ := h.form
  obtain ⟨g, rfl, hog, _⟩ := hx (by omega)
  subst hlv
  have c0 : w.cell? ⟨m, 0, none⟩ = some (.slice (some ⟨g, 0, none⟩) R.length c) := h.head.cell 0
  have f0 : w.frozen? ⟨m, 0, none⟩ = false := h.head.frozen 0
  have hmz : m < w.heap.size := h.head.lt
  have hgz : g < w.heap.size := h.list.lt hog
  obtain ⟨i0, hi0, hz0, hz1, hz2⟩ := info_parts file_info
  have b1 : (0 : Int) ≤ (i : Int) := by omega
  have b2 : (i : Int) ≤ (c : Int) := by omega
  have b3 : (i : Int) + 1 ≤ (R.length : Int) := by omega
  have b4 : (R.length : Int) ≤ (c : Int) := by omega
  have b5 : IntKind.i64.wrap ((i : Int) + 1) = (i : Int) + 1 := IntWalk.i64_in _ (by omega)
  have b7 : (0 : Int) ≤ (i : Int) + 1 := by omega
  have b8 : (i : Int) ≤ (i : Int) + 1 := by omega
  have hw0 : Upd NoF w (w.alloc (.cells #[] 94)).drew := ((Upd.refl NoF w).alloc _).drew
  have A1 := Lib.hid (show Own (w.alloc (.cells #[] 94)).drew 94 3 (.slice (some ⟨w.heap.size, 0, none⟩) 0 0) 0 [] from ⟨by simp, .inr ⟨w.heap.size, 0, #[], rfl, (Blk.new w _ _).drew, Nat.le_refl _, Nat.zero_le _, Nat.zero_le _, rfl⟩⟩)
  have hrd : RdF (fun k => k = m ∨ k = w.heap.size) (w.alloc (.cells #[] 94)).drew 3 (.slice (some ⟨g, 0, none⟩) R.length c) R.length (cellsR R) :=
    RdF.upd' (F := fun k => k = m) (h.list.rdF (fun k hk e => h.list.ne_of h.head (by decide) hk e)) (hw0.mono (fun _ _ h => h.elim)) (fun k hk h => by rcases h with h | h; exact h; omega)
  have A2 := Lib.hid (hrd.now.upto (k := i) (by omega))
  have A3 := Lib.hid (show ∀ u ∈ (cellsR R).take (i * 3), u.oneCell' = true from fun u hu => cellsR_one h.cont u (List.mem_of_mem_take hu))
  have hnum := h.num
  have A4 := Lib.hid (show i ≤ maxLen by unfold maxLen; omega)
  have A5 := Lib.hid (show i * 48 ≤ 140737488355328 by omega)
  have B3 := Lib.hid (show ∀ u ∈ (cellsR R).drop ((i + 1) * 3), u.oneCell' = true from fun u hu => cellsR_one h.cont u (List.mem_of_mem_drop hu))
  have B4 := Lib.hid (show i + (R.length - (i + 1)) ≤ maxLen by unfold maxLen; omega)
  have B5 := Lib.hid (show (i + (R.length - (i + 1))) * 48 ≤ 140737488355328 by omega)
  have K1 := Lib.hid (show ∀ w1, Upd (OwnB (.slice (some ⟨w.heap.size, 0, none⟩) 0 0)) (w.alloc (.cells #[] 94)).drew w1 → w1.cell? ⟨m, 0, none⟩ = some (.slice (some ⟨g, 0, none⟩) R.length c) ∧ w1.frozen? ⟨m, 0, none⟩ = false from fun w1 hu => by
    have hb : Blk (w.alloc (.cells #[] 94)).drew m 44 #[.slice (some ⟨g, 0, none⟩) R.length c, .bool armed, .int .i64 left, .bool off] := (h.head.alloc _).drew
    have hb1 := hu.blk hb (by simp [OwnB, Value.ownBlock]; omega)
    exact ⟨hb1.cell 0, hb1.frozen 0⟩)
  have B2 := Lib.hid (show ∀ w1, Upd (OwnB (.slice (some ⟨w.heap.size, 0, none⟩) 0 0)) (w.alloc (.cells #[] 94)).drew w1 → ∀ A', (i + 1 < R.length → A' = some ⟨g, (i + 1) * 3, none⟩) → Rd w1 3 (.slice A' (R.length - (i + 1)) (c - (i + 1))) (R.length - (i + 1)) ((cellsR R).drop ((i + 1) * 3)) from fun w1 hu A' hA' =>
    (hrd w1 (hu.mono (fun k _ hk => by simp [OwnB, Value.ownBlock] at hk; exact .inr hk.symm))).from_ (k := i + 1) (by omega) A' (fun h => by rw [hA' h]; simp))
  have K2 := Lib.hid (show ∀ w1 A c1, Upd (OwnB (.slice (some ⟨w.heap.size, 0, none⟩) 0 0)) (w.alloc (.cells #[] 94)).drew w1 → (∀ k, OwnB (.slice A i c1) k → OwnB (.slice (some ⟨w.heap.size, 0, none⟩) 0 0) k ∨ (w.alloc (.cells #[] 94)).drew.heap.size ≤ k) → ∀ w2, Upd (OwnB (.slice A i c1)) w1 w2 → w2.cell? ⟨m, 0, none⟩ = some (.slice (some ⟨g, 0, none⟩) R.length c) ∧ w2.frozen? ⟨m, 0, none⟩ = false from fun w1 A c1 hu hN w2 hu2 => by
    have hb : Blk (w.alloc (.cells #[] 94)).drew m 44 #[.slice (some ⟨g, 0, none⟩) R.length c, .bool armed, .int .i64 left, .bool off] := (h.head.alloc _).drew
    have hb1 := hu.blk hb (by simp [OwnB, Value.ownBlock]; omega)
    have hb2 := hu2.blk hb1 (fun hk => ?_)
    · exact ⟨hb2.cell 0, hb2.frozen 0⟩
    rcases hN m hk with e | e
    · simp [OwnB, Value.ownBlock] at e; omega
    · simp at e; omega)
  have KP0 := Lib.hid (show (w.alloc (.cells #[] 94)).drew.cell? ⟨m, 0, none⟩ = some (.slice (some ⟨g, 0, none⟩) R.length c) ∧ (w.alloc (.cells #[] 94)).drew.frozen? ⟨m, 0, none⟩ = false from ⟨((h.head.alloc _).drew).cell 0, ((h.head.alloc _).drew).frozen 0⟩)
  have fin : ∀ w1 w2 A c1 A' c2, Upd (OwnB (.slice (some ⟨w.heap.size, 0, none⟩) 0 0)) (w.alloc (.cells #[] 94)).drew w1 → (∀ k, OwnB (.slice A i c1) k → OwnB (.slice (some ⟨w.heap.size, 0, none⟩) 0 0) k ∨ (w.alloc (.cells #[] 94)).drew.heap.size ≤ k) →
      Upd (OwnB (.slice A i c1)) w1 w2 → (∀ k, OwnB (.slice A' (i + (R.length - (i + 1))) c2) k → OwnB (.slice A i c1) k ∨ w1.heap.size ≤ k) → Own w2 94 3 (.slice A' (i + (R.length - (i + 1))) c2) (i + (R.length - (i + 1))) ((cellsR R).take (i * 3) ++ (cellsR R).drop ((i + 1) * 3)) →
      DropPost w m off armed left (R.take i ++ R.drop (i + 1)) (fun k => k = m) (.returned (.tuple #[])) (w2.setCell ⟨m, 0, none⟩ (.slice A' (i + (R.length - (i + 1))) c2)) := by
    intro w1 w2 A c1 A' c2 u1 n1 u2 n2 ho
    have hN1 : ∀ k, OwnB (.slice A i c1) k → w.heap.size ≤ k := fun k hk => by
      rcases n1 k hk with e | e
      · simp [OwnB, Value.ownBlock] at e; omega
      · simp at e; omega
    have hU : Upd NoF w w2 := (hw0.trans u1 (fun k hk e => by simp [OwnB, Value.ownBlock] at e; omega)).trans u2 (fun k hk e => by have := hN1 k e; omega)
    have hN2 : ∀ k, OwnB (.slice A' (i + (R.length - (i + 1))) c2) k → w.heap.size ≤ k := fun k hk => by
      rcases n2 k hk with e | e
      · exact hN1 k e
      · have := u1.size; simp at this; omega
    have hlen : i + (R.length - (i + 1)) = (R.take i ++ R.drop (i + 1)).length := by simp; omega
    have hb2 := hU.blk h.head (fun h => h)
    have hU3 : Upd (fun k => k = m) w (w2.setCell ⟨m, 0, none⟩ (.slice A' (i + (R.length - (i + 1))) c2)) := (hU.mono (G := fun k => k = m) (fun _ _ h => h.elim)).setCell (p := ⟨m, 0, none⟩) (.inl rfl) _
    refine ⟨rfl, _, h.relist hU3 ?_ (hb2.put 0 _) ?_ ?_ (by simp; omega), hU3, hN2⟩
    · intro r hr k hk e
      rcases List.mem_append.1 hr with hr | hr
      · exact (h.cont r (List.mem_of_mem_take hr)).ne_of h.head (by decide) hk e
      · exact (h.cont r (List.mem_of_mem_drop hr)).ne_of h.head (by decide) hk e
    · rw [← hlen, cellsR_append, ← cellsR_take, ← cellsR_drop]
      exact ho.upd ((Upd.refl (fun k => k = m) w2).setCell (p := ⟨m, 0, none⟩) (.inl rfl) _) (fun k hk e => by have := hN2 k hk; omega)
    · intro r hr
      rcases List.mem_append.1 hr with hr | hr
      · exact List.mem_of_mem_take hr
      · exact List.mem_of_mem_drop hr
  have FIN := Lib.hid fin
  have H := Lib.hid h
  clear h hx hrd hw0 fin
  by_cases hce : c = i + 1
  · subst hce
    go_enter Tryz.func92, Tryz.ntmps92
    go_wp2_with fail
    go_region_law
      (first
        | (refine step_append_new _ (by rfl) (.tmp 5) (.tmp 11) _ (by rfl) 94 i0 _ 3 48 Tryz.underlying42 hi0 hz0 hz1 hz2 rfl (.slice (some ⟨w.heap.size, 0, none⟩) 0 0) (by rfl) (by exact A1.out) (.slice (some ⟨g, 0, none⟩) i (i + 1)) i ((cellsR R).take (i * 3)) (by rfl) (by exact A2.out) A3.out A4.out A5.out ?_; intro A c1 w1 hown1 hupd1 hnew1; obtain ⟨kp1, kf1⟩ := K1.out w1 hupd1; have O1 := Lib.hid hown1; have U1 := Lib.hid hupd1; have N1 := Lib.hid hnew1; clear hown1 hupd1 hnew1)
        | (refine step_append_none _ (by rfl) (.tmp 12) (.tmp 19) _ (by rfl) 94 i0 3 Tryz.underlying42 hi0 (.slice A i c1) i ((cellsR R).take (i * 3)) (by rfl) O1.out (some ⟨g, 0, none⟩) 0 (by rfl) ?_))
    all_goals
      go_wp2
      go_end0
      have e0 : i + (R.length - (i + 1)) = i := by omega
      have e1 : (cellsR R).drop ((i + 1) * 3) = [] := List.drop_eq_nil_of_le (by rw [length_cellsR]; omega)
      have := FIN.out w1 w1 A c1 A c1 U1.out N1.out (Upd.refl _ _) (by rw [e0]; exact fun k hk => .inl hk) (by rw [e0, e1, List.append_nil]; exact O1.out)
      rw [e0] at this
      exact this
  · have b6 : ¬ c = i + 1 := hce
    go_enter Tryz.func92, Tryz.ntmps92
    go_wp2_with fail
    go_region_law
      (first
        | (refine step_append_new _ (by rfl) (.tmp 5) (.tmp 11) _ (by rfl) 94 i0 _ 3 48 Tryz.underlying42 hi0 hz0 hz1 hz2 rfl (.slice (some ⟨w.heap.size, 0, none⟩) 0 0) (by rfl) (by exact A1.out) (.slice (some ⟨g, 0, none⟩) i c) i ((cellsR R).take (i * 3)) (by rfl) (by exact A2.out) A3.out A4.out A5.out ?_; intro A c1 w1 hown1 hupd1 hnew1; obtain ⟨kp1, kf1⟩ := K1.out w1 hupd1; have O1 := Lib.hid hown1; have U1 := Lib.hid hupd1; have N1 := Lib.hid hnew1; clear hown1 hupd1 hnew1)
        | (refine step_append_to _ (by rfl) (.tmp 12) (.tmp 19) _ (by rfl) 94 i0 _ 3 48 Tryz.underlying42 hi0 hz0 hz1 hz2 rfl (.slice A i c1) i ((cellsR R).take (i * 3)) (by rfl) O1.out (.slice (some ⟨g, (i + 1) * 3, none⟩) (R.length - (i + 1)) (c - (i + 1))) (R.length - (i + 1)) ((cellsR R).drop ((i + 1) * 3)) (by rfl) (B2.out w1 U1.out _ (fun _ => rfl)) B3.out B4.out B5.out ?_; intro A' c2 w2 hown2 hupd2 hnew2; obtain ⟨kp2, kf2⟩ := K2.out w1 A c1 U1.out N1.out w2 hupd2; have O2 := Lib.hid hown2; have U2 := Lib.hid hupd2; have N2 := Lib.hid hnew2; clear hown2 hupd2 hnew2))
    all_goals
      go_wp2
      go_end0
      exact FIN.out w1 w2 A c1 A' c2 U1.out N1.out U2.out N2.out O2.out
end
end

section
open Go.RowKit

theorem Rd.keep {w w' : World} {size n : Nat} {v : Value} {xs : List Value} (h : Rd w size v n xs) (hu : Upd NoF w w') : Rd w' size v n xs := by
  obtain ⟨A', c', e, h1, h2, h3, hx⟩ := h
  exact ⟨A', c', e, h1, h2, h3, fun h0 => by
    obtain ⟨g, o, e', hc⟩ := hx h0
    exact ⟨g, o, e', fun j u hu' => hu.cell (hc j u hu') (fun h => h)⟩⟩
end
end Go.Proofs.YtbgificdilpdcaaGreat
