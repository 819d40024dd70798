/- DecodeView of the reference. Conditions: sizes. SnapshotDecode returns true. No condition. -/
import Derived.Test.YtbgificdilpdcaaGreatJn17
import Derived.Test.YtbgificdilpdcaaGreatEnc2
import Derived.Test.YtbgificdilpdcaaGreatJn23
namespace Go.Proofs.YtbgificdilpdcaaGreat
section
open Go.RowKit

theorem flat_ge {α : Type} (f : α → List UInt8) (c : Nat) : ∀ l : List α, (∀ x ∈ l, c ≤ (f x).length) → c * l.length ≤ ((l.map f).flatten).length
  | [], _ => by simp
  | x :: l, h => by
    have h1 := h x (by simp)
    have h2 := flat_ge f c l (fun y hy => h y (by simp [hy]))
    rw [List.map_cons, List.flatten_cons, List.length_append, List.length_cons, Nat.mul_succ]
    omega
theorem decVotes_less {n : Nat} {b : List UInt8} (h : b.length < 393 * n) : decVotes n b = none := by
  cases hd : decVotes n b with
  | none => rfl
  | some p =>
    obtain ⟨vs, r⟩ := p
    obtain ⟨h1, h2, h3⟩ := decVotes_some n b vs r hd
    have := flat_ge encS 393 vs (fun s hs => Nat.le_of_eq (encS_len (h3 s hs).1 (okS_true.1 (h3 s hs).2).2).symm)
    have e := congrArg List.length h2
    rw [List.length_append] at e
    rw [h1] at this
    omega
theorem decTexts_less {n : Nat} {b : List UInt8} (h : b.length < 2 * n) : decTexts n b = none := by
  cases hd : decTexts n b with
  | none => rfl
  | some p =>
    obtain ⟨ts, r⟩ := p
    obtain ⟨h1, h2, h3⟩ := decTexts_some n b ts r hd
    have := flat_ge encT 2 ts (fun t _ => by simp [encT, beB_len])
    have e := congrArg List.length h2
    rw [List.length_append] at e
    rw [h1] at this
    omega
/-- The variables of DecodeView: its result, the view; M: the blocks that it writes. -/
structure DvSt (w wr : World) (vb tb : Value) (M : Nat → Prop) : Prop where
  view : Blk wr (w.heap.size + 1) 25 #[vb, tb]
  res : Blk wr w.heap.size 25 nil2
  upd : Upd NoF w wr
  mV : M (w.heap.size + 1)
  mR : M w.heap.size
  lt : ∀ k, M k → k < wr.heap.size
  mL : ∀ k, k < w.heap.size → M k
theorem DvSt.more {w wr w' : World} {vb tb : Value} {M : Nat → Prop} (h : DvSt w wr vb tb M) (hu : Upd NoF wr w') : DvSt w w' vb tb M :=
  ⟨hu.blk h.view (fun e => e), hu.blk h.res (fun e => e), h.upd.trans hu (fun _ _ f => f), h.mV, h.mR, fun k hk => Nat.lt_of_lt_of_le (h.lt k hk) hu.size, h.mL⟩
section
variable {w wr w5 w6 : World} {M : Nat → Prop} {Av A' At : Option Addr} {cv c' ct : Nat} {vs : List SignedS} {us : List Value} {s : SignedS} {u tb : Value} {ts : List (List UInt8)} {x : List UInt8}
theorem E1_next (hD : DvSt w wr (.slice Av vs.length cv) tb M) (hO : OwnM w M (.slice Av vs.length cv)) (hu5 : Upd NoF wr w5)
    (hf : ∀ s ∈ vs, s.vote.Fit) (e1 : us.length = vs.length) (e2 : Own wr 57 23 (.slice Av vs.length cv) vs.length (List.zipWith rowS vs us).flatten) (e3 : ∀ (i : Nat) s, vs[i]? = some s → ∃ u, us[i]? = some u ∧ RdF M wr 1 u s.sig.length (s.sig.map byteV))
    (hs : s.vote.Fit) (hsig : RdF (fun k => k < wr.heap.size) w5 1 u s.sig.length (s.sig.map byteV))
    (ho : Own w6 57 23 (.slice A' (vs.length + 1) c') (vs.length + 1) ((List.zipWith rowS vs us).flatten ++ rowS s u)) (hup : Upd (OwnB (.slice Av vs.length cv)) w5 w6) (hn : ∀ k, OwnB (.slice A' (vs.length + 1) c') k → OwnB (.slice Av vs.length cv) k ∨ w5.heap.size ≤ k) :
    ∃ M', DvSt w (w6.setCell ⟨w.heap.size + 1, 0, none⟩ (.slice A' (vs.length + 1) c')) (.slice A' (vs ++ [s]).length c') tb M' ∧ SgM (w6.setCell ⟨w.heap.size + 1, 0, none⟩ (.slice A' (vs.length + 1) c')) M' A' c' (vs ++ [s]) ∧ OwnM w M' (.slice A' (vs ++ [s]).length c') := by
  have el : (vs ++ [s]).length = vs.length + 1 := by simp
  have nV : ¬ OwnB (.slice Av vs.length cv) (w.heap.size + 1) := e2.blk_ne hD.view (by decide)
  have nR : ¬ OwnB (.slice Av vs.length cv) w.heap.size := e2.blk_ne hD.res (by decide)
  have hset : Upd (fun k => k = w.heap.size + 1) w6 (w6.setCell ⟨w.heap.size + 1, 0, none⟩ (.slice A' (vs.length + 1) c')) := (Upd.refl (fun k => k = w.heap.size + 1) w6).setCell (p := ⟨w.heap.size + 1, 0, none⟩) (.inl rfl) _
  have s5 := hu5.size
  have s6 := hup.size
  have hsz := hD.upd.size
  have hview6 : Blk w6 (w.heap.size + 1) 25 #[.slice Av vs.length cv, tb] := hup.blk (hu5.blk hD.view (fun f => f)) nV
  have hres6 : Blk w6 w.heap.size 25 nil2 := hup.blk (hu5.blk hD.res (fun f => f)) nR
  have hA' : ∀ k, OwnB (.slice A' (vs.length + 1) c') k → w.heap.size ≤ k := fun k hk => by
    rcases hn k hk with f | f
    · exact (hO k f).2
    · omega
  refine ⟨fun k => M k ∨ OwnB (.slice A' (vs.length + 1) c') k, ?_, ?_, ?_⟩
  · rw [el]
    refine ⟨hview6.put 0 _, hset.blk hres6 (fun e => by have e : w.heap.size = w.heap.size + 1 := e; omega), ?_, .inl hD.mV, .inl hD.mR, ?_, fun k hk => .inl (hD.mL k hk)⟩
    · have h1 : Upd NoF w w5 := hD.upd.trans hu5 (fun _ _ f => f)
      exact (h1.trans hup (fun k hk f => by have := (hO k f).2; omega)).trans hset (fun k hk e => by have e : k = w.heap.size + 1 := e; omega)
    · intro k hk
      have hz := hset.size
      rcases hk with hk | hk
      · have := hD.lt k hk; omega
      · have := ho.lt hk; omega
  · have hp : SgM w6 (fun k => M k ∨ OwnB (.slice A' (vs.length + 1) c') k) A' c' (vs ++ [s]) := by
      refine SgM.push (F := M) (w5 := w5) hf e1 (fun i x hx => ?_) hs (hsig.mono (fun k _ hk => by have := hD.lt k hk; omega)) (fun k hk => (hO k hk).1) ho hup (fun k hk f => ?_)
      · obtain ⟨y, h1, h2⟩ := e3 i x hx
        exact ⟨y, h1, h2.upd (hu5.mono (fun _ _ f => f.elim))⟩
      · rcases f with f | f
        · exact f
        · rcases hn k f with g | g
          · exact (hO k g).1
          · omega
    refine hp.upd hset (fun k hk e => ?_) (fun k _ e => by rw [show k = w.heap.size + 1 from e]; exact .inl hD.mV)
    rw [el] at hk
    rw [show k = w.heap.size + 1 from e] at hk
    exact ho.blk_ne hview6 (by decide) hk
  · intro k hk
    rw [el] at hk
    exact ⟨.inr hk, hA' k hk⟩
theorem E2_next (hD : DvSt w wr (.slice Av vs.length cv) (.slice At ts.length ct) M) (hS : SgM wr M Av cv vs) (hO : OwnM w M (.slice Av vs.length cv)) (hO' : OwnM w M (.slice At ts.length ct)) (hu5 : Upd NoF wr w5)
    (e0 : ∀ u ∈ us, u.oneCell' = true) (e1 : us.length = ts.length) (e2 : Own wr 28 1 (.slice At ts.length ct) ts.length us) (e3 : ∀ (i : Nat) s, ts[i]? = some s → ∃ u, us[i]? = some u ∧ RdF M wr 1 u s.length (s.map byteV))
    (h1 : u.oneCell' = true) (hx : RdF (fun k => k < wr.heap.size) w5 1 u x.length (x.map byteV))
    (ho : Own w6 28 1 (.slice A' (ts.length + 1) c') (ts.length + 1) (us ++ [u])) (hup : Upd (OwnB (.slice At ts.length ct)) w5 w6) (hn : ∀ k, OwnB (.slice A' (ts.length + 1) c') k → OwnB (.slice At ts.length ct) k ∨ w5.heap.size ≤ k) :
    ∃ M', DvSt w (w6.setCell ⟨w.heap.size + 1, 1, none⟩ (.slice A' (ts.length + 1) c')) (.slice Av vs.length cv) (.slice A' (ts ++ [x]).length c') M' ∧ SgM (w6.setCell ⟨w.heap.size + 1, 1, none⟩ (.slice A' (ts.length + 1) c')) M' Av cv vs ∧ OwnM w M' (.slice Av vs.length cv) ∧ TxM (w6.setCell ⟨w.heap.size + 1, 1, none⟩ (.slice A' (ts.length + 1) c')) M' A' c' (ts ++ [x]) ∧ OwnM w M' (.slice A' (ts ++ [x]).length c') := by
  have el : (ts ++ [x]).length = ts.length + 1 := by simp
  have nV : ¬ OwnB (.slice At ts.length ct) (w.heap.size + 1) := e2.blk_ne hD.view (by decide)
  have nR : ¬ OwnB (.slice At ts.length ct) w.heap.size := e2.blk_ne hD.res (by decide)
  have hset : Upd (fun k => k = w.heap.size + 1) w6 (w6.setCell ⟨w.heap.size + 1, 1, none⟩ (.slice A' (ts.length + 1) c')) := (Upd.refl (fun k => k = w.heap.size + 1) w6).setCell (p := ⟨w.heap.size + 1, 1, none⟩) (.inl rfl) _
  have s5 := hu5.size
  have s6 := hup.size
  have hz := hset.size
  have hsz := hD.upd.size
  have hview6 : Blk w6 (w.heap.size + 1) 25 #[.slice Av vs.length cv, .slice At ts.length ct] := hup.blk (hu5.blk hD.view (fun f => f)) nV
  have hres6 : Blk w6 w.heap.size 25 nil2 := hup.blk (hu5.blk hD.res (fun f => f)) nR
  have hA' : ∀ k, OwnB (.slice A' (ts.length + 1) c') k → w.heap.size ≤ k := fun k hk => by
    rcases hn k hk with f | f
    · exact (hO' k f).2
    · omega
  have hG : ∀ k, k < wr.heap.size → M k ∨ OwnB (.slice A' (ts.length + 1) c') k → M k := fun k hk f => by
    rcases f with f | f
    · exact f
    · rcases hn k f with g | g
      · exact (hO' k g).1
      · omega
  have hup6 : Upd (OwnB (.slice At ts.length ct)) wr w6 := (hu5.mono (fun _ _ f => f.elim)).trans hup (fun _ _ f => f)
  have hupF : Upd (fun k => k = w.heap.size + 1 ∨ OwnB (.slice At ts.length ct) k) wr (w6.setCell ⟨w.heap.size + 1, 1, none⟩ (.slice A' (ts.length + 1) c')) := (hup6.mono (fun _ _ f => .inr f)).trans hset (fun _ _ f => .inl f)
  have hupM : Upd M wr (w6.setCell ⟨w.heap.size + 1, 1, none⟩ (.slice A' (ts.length + 1) c')) := hupF.mono (fun k _ f => by
    rcases f with f | f
    · rw [f]; exact hD.mV
    · exact (hO' k f).1)
  refine ⟨fun k => M k ∨ OwnB (.slice A' (ts.length + 1) c') k, ?_, ?_, fun k hk => ⟨.inl (hO k hk).1, (hO k hk).2⟩, ?_, ?_⟩
  · rw [el]
    refine ⟨hview6.put 1 _, hset.blk hres6 (fun e => by have e : w.heap.size = w.heap.size + 1 := e; omega), hD.upd.trans hupF (fun k hk f => ?_), .inl hD.mV, .inl hD.mR, fun k hk => ?_, fun k hk => .inl (hD.mL k hk)⟩
    · rcases f with f | f
      · omega
      · have := (hO' k f).2; omega
    · rcases hk with hk | hk
      · have := hD.lt k hk; omega
      · have := ho.lt hk; omega
  · obtain ⟨hf, vu, f1, f2, f3⟩ := hS
    refine ⟨hf, vu, f1, f2.upd hupF (fun k hk f => ?_), fun i s hs => ?_⟩
    · rcases f with f | f
      · rw [f] at hk; exact f2.blk_ne hD.view (by decide) hk
      · exact e2.own_ne f2 (by decide) hk f
    · obtain ⟨y, h1, h2⟩ := f3 i s hs
      exact ⟨y, h1, h2.upd' hupM hG⟩
  · have hp : TxM w6 (fun k => M k ∨ OwnB (.slice A' (ts.length + 1) c') k) A' c' (ts ++ [x]) := by
      refine TxM.push (F := M) (w5 := w5) e0 e1 (fun i x hx => ?_) h1 (hx.mono (fun k _ hk => by have := hD.lt k hk; omega)) (fun k hk => (hO' k hk).1) ho hup (fun k hk f => ?_)
      · obtain ⟨y, h1, h2⟩ := e3 i x hx
        exact ⟨y, h1, h2.upd (hu5.mono (fun _ _ f => f.elim))⟩
      · rcases f with f | f
        · exact f
        · rcases hn k f with g | g
          · exact (hO' k g).1
          · omega
    refine hp.upd hset (fun k hk e => ?_) (fun k _ e => by rw [show k = w.heap.size + 1 from e]; exact .inl hD.mV)
    rw [el] at hk
    rw [show k = w.heap.size + 1 from e] at hk
    exact ho.blk_ne hview6 (by decide) hk
  · intro k hk
    rw [el] at hk
    exact ⟨.inr hk, hA' k hk⟩
end
def E1Rel (w : World) (bs : List UInt8) (N : Nat) (at_ i : Value) (wr : World) : Prop :=
  ∃ (k r a : Nat) (vs : List SignedS) (Av : Option Addr) (cv : Nat) (M : Nat → Prop), i = .int .i64 (k : Int) ∧ at_ = .int .i64 (a : Int) ∧ k = vs.length ∧ VAt bs N vs r a ∧ DvSt w wr (.slice Av vs.length cv) (.slice none 0 0) M ∧ SgM wr M Av cv vs ∧ OwnM w M (.slice Av vs.length cv)
def E2Rel (w : World) (bs : List UInt8) (vs : List SignedS) (a0 K : Nat) (at_ i : Value) (wr : World) : Prop :=
  ∃ (k r a : Nat) (ts : List (List UInt8)) (Av At : Option Addr) (cv ct : Nat) (M : Nat → Prop), i = .int .i64 (k : Int) ∧ at_ = .int .i64 (a : Int) ∧ k = ts.length ∧ TAt bs a0 K ts r a ∧ DvSt w wr (.slice Av vs.length cv) (.slice At ts.length ct) M ∧ SgM wr M Av cv vs ∧ OwnM w M (.slice Av vs.length cv) ∧ TxM wr M At ct ts ∧ OwnM w M (.slice At ts.length ct)
set_option maxRecDepth 100000 in
set_option maxHeartbeats 8000000 in
theorem DecodeView_short {w : World} {v : Value} {bs : List UInt8} (hr : Rd w 1 v bs.length (bs.map byteV)) (hs : bs.length < 4) : Calls Tryz.prog 13 #[v] w (DecPost w (decodeS bs)) := by
  have HNO := Lib.hid (dec_none1 hs)
  obtain ⟨A, c, rfl, hlc, hcm⟩ := hr.slice
  have HR := Lib.hid hr
  have sz1 : (w.alloc (.cells nil2 25)).heap.size = w.heap.size + 1 := by simp
  have sz2 : ((w.alloc (.cells nil2 25)).alloc (.cells nil2 25)).heap.size = w.heap.size + 2 := by simp
  have b1 := (Blk.new w 25 nil2).alloc (.cells nil2 25)
  have b2 := Blk.new (w.alloc (.cells nil2 25)) 25 nil2
  rw [sz1] at b2
  have D0 := Lib.hid (show DvSt w ((w.alloc (.cells nil2 25)).alloc (.cells nil2 25)) (.slice none 0 0) (.slice none 0 0) (fun k => k < w.heap.size + 2) from ⟨b2, b1, ((Upd.refl NoF w).alloc _).alloc _, by omega, by omega, fun k hk => by rw [sz2]; exact hk, fun k hk => by omega⟩)
  clear sz1 sz2 b1 b2 hr
  go_enter Tryz.func13, Tryz.ntmps13
  go_wp2_with fail
  obtain ⟨W2, hW2⟩ : ∃ x, x = (w.alloc (.cells nil2 25)).alloc (.cells nil2 25) := ⟨_, rfl⟩
  rw [← hW2] at D0 ⊢
  clear hW2
  refine (r1Uint_no (HR.out.keep D0.out.upd) 0 4 (by omega) (by omega) (by omega) (by omega)).mono ?_
  rintro e w3 ⟨rfl, rfl⟩
  have x0 : W2.cell? ⟨w.heap.size, 0, none⟩ = some (.slice none 0 0) := D0.out.res.cell 0; have x1 : W2.cell? ⟨w.heap.size, 1, none⟩ = some (.slice none 0 0) := D0.out.res.cell 1; have x2 : W2.frozen? ⟨w.heap.size, 0, none⟩ = false := D0.out.res.frozen 0; have x3 : W2.frozen? ⟨w.heap.size, 1, none⟩ = false := D0.out.res.frozen 1
  go_wp2
  refine bodyPost_ret (results_cell_tmp Tryz.results13 _ _ w.heap.size [.slice none 0 0, .slice none 0 0] _ rfl (range_blk ((D0.out.res.put 0 (.slice none 0 0)).put 1 (.slice none 0 0))) Tryz.underlying25 rfl (by rw [view_size]; rfl)) rfl ?_
  rw [HNO.out]
  exact ⟨rfl, (D0.out.upd.setCell (p := ⟨w.heap.size, 0, none⟩) (.inr (Nat.le_refl _)) _).setCell (p := ⟨w.heap.size, 1, none⟩) (.inr (Nat.le_refl _)) _⟩


set_option maxRecDepth 100000 in
set_option maxHeartbeats 16000000 in
theorem DecodeView_long {w : World} {v : Value} {bs : List UInt8} (hr : Rd w 1 v bs.length (bs.map byteV)) (h4 : 4 ≤ bs.length) (hm : bs.length ≤ 1000000000) (hq : bs.length ≤ 2000000 ∨ ∃ V, decodeS bs = some V ∧ V.votes.length ≤ 1000000 ∧ V.texts.length ≤ 1000000) : Calls Tryz.prog 13 #[v] w (DecPost w (decodeS bs)) := by
  obtain ⟨A, c, rfl, hlc, hcm⟩ := hr.slice
  have HR := Lib.hid hr
  have sz1 : (w.alloc (.cells nil2 25)).heap.size = w.heap.size + 1 := by simp
  have sz2 : ((w.alloc (.cells nil2 25)).alloc (.cells nil2 25)).heap.size = w.heap.size + 2 := by simp
  have b1 := (Blk.new w 25 nil2).alloc (.cells nil2 25)
  have b2 := Blk.new (w.alloc (.cells nil2 25)) 25 nil2
  rw [sz1] at b2
  have D0 := Lib.hid (show DvSt w ((w.alloc (.cells nil2 25)).alloc (.cells nil2 25)) (.slice none 0 0) (.slice none 0 0) (fun k => k < w.heap.size + 2) from ⟨b2, b1, ((Upd.refl NoF w).alloc _).alloc _, by omega, by omega, fun k hk => by rw [sz2]; exact hk, fun k hk => by omega⟩)
  clear sz1 sz2 b1 b2 hr
  go_enter Tryz.func13, Tryz.ntmps13
  go_wp2_with fail
  obtain ⟨W2, hW2⟩ : ∃ x, x = (w.alloc (.cells nil2 25)).alloc (.cells nil2 25) := ⟨_, rfl⟩
  rw [← hW2] at D0 ⊢
  clear hW2
  refine (r1Uint_yes (HR.out.keep D0.out.upd) 0 4 (by omega) (by omega) (by omega) (by omega)).mono ?_
  rintro e w3 ⟨rfl, rfl⟩
  obtain ⟨N, hN⟩ : ∃ n, be ((bs.drop 0).take 4) = n := ⟨_, rfl⟩
  have hNlt : N < 4294967296 := by rw [← hN]; exact be4_lt _
  rw [hN]
  rw [List.drop_zero] at hN
  have HN := Lib.hid hN
  clear hN
  have HQQ := Lib.hid hq
  clear hq
  obtain ⟨L, hL⟩ : ∃ n, bs.length = n := ⟨_, rfl⟩
  have HL := Lib.hid hL
  rw [hL] at h4 hm hlc ⊢
  clear hL
  obtain ⟨g, o, hA, -⟩ : ∃ g o, A = some ⟨g, o, none⟩ ∧ True := by
    obtain ⟨A', c', e, _, _, _, hx⟩ := HR.out
    injection e with e1
    obtain ⟨g, o, e2, _⟩ := hx (by have := HL.out; omega)
    exact ⟨g, o, e1.trans e2, trivial⟩
  subst hA
  have wN : IntKind.i64.wrap (N : Int) = N := IntWalk.i64_in _ (by omega)
  have wL : IntKind.i64.wrap ((L : Int) - 4) = (L : Int) - 4 := IntWalk.i64_in _ (by omega)
  obtain ⟨Q, hQ⟩ : ∃ q : Nat, ((L : Int) - 4).tdiv 393 = (q : Int) ∧ 393 * q ≤ L - 4 ∧ L - 4 < 393 * (q + 1) := ⟨(L - 4) / 393, by rw [show (L : Int) - 4 = ((L - 4 : Nat) : Int) by omega]; rfl, by omega, by omega⟩
  obtain ⟨hQ0, hQ1, hQ2⟩ := hQ
  by_cases hbig : Q < N
  · have HNO := Lib.hid (show decodeS bs = none from dec_none2 (by have := HL.out; omega) (by rw [HN.out]; exact decVotes_less (by have := HL.out; simp; omega)))
    have t1 : decide ((Q : Int) < (N : Int)) = true := by simp; omega
    have t1' : decide (Q < N) = true := by simp; omega
    have x0 : W2.cell? ⟨w.heap.size, 0, none⟩ = some (.slice none 0 0) := D0.out.res.cell 0; have x1 : W2.cell? ⟨w.heap.size, 1, none⟩ = some (.slice none 0 0) := D0.out.res.cell 1; have x2 : W2.frozen? ⟨w.heap.size, 0, none⟩ = false := D0.out.res.frozen 0; have x3 : W2.frozen? ⟨w.heap.size, 1, none⟩ = false := D0.out.res.frozen 1
    go_wp2
    refine bodyPost_ret (results_cell_tmp Tryz.results13 _ _ w.heap.size [.slice none 0 0, .slice none 0 0] _ rfl (range_blk ((D0.out.res.put 0 (.slice none 0 0)).put 1 (.slice none 0 0))) Tryz.underlying25 rfl (by rw [view_size]; rfl)) rfl ?_
    rw [HNO.out]
    exact ⟨rfl, (D0.out.upd.setCell (p := ⟨w.heap.size, 0, none⟩) (.inr (Nat.le_refl _)) _).setCell (p := ⟨w.heap.size, 1, none⟩) (.inr (Nat.le_refl _)) _⟩
  have t1 : decide ((Q : Int) < (N : Int)) = false := by simp; omega
  have t1' : decide (Q < N) = false := by simp; omega
  go_wp2
  obtain ⟨i1, hi1, hy0, hy1, hy2⟩ := info_parts signed_info
  obtain ⟨ti, hi0', hi1', hi2', hi3'⟩ := info_parts bytes_info'
  clear t1 t1' wL hQ0
  go_loopw [7, 8] (fun at_ i wr => E1Rel w bs N at_ i wr) (fun _ i _ => N - (intOf i).toNat)
  case atStart => exact ⟨0, N, 4, [], none, 0, _, rfl, rfl, rfl, VAt.start (by have := HL.out; omega) N, D0.out, SgM.nil _ _, fun k hk => by simp [OwnB, Value.ownBlock] at hk⟩
  case round =>
    obtain ⟨k, r, a, vs, Av, cv, M, rfl, rfl, hk, hat, hD, hS, hO⟩ := hrel
    have DD := Lib.hid hD
    have HAT := Lib.hid hat
    have HS := Lib.hid hS
    have HO := Lib.hid hO
    have hrN : k + r = N := by have := hat.1; omega
    have haE : a = 4 + 393 * k := by have := hat.2.1; omega
    have haL : a ≤ L := by have := hat.2.2.1; have := HL.out; omega
    have hva : 393 * vs.length ≤ 1000000000 := by omega
    have HK := Lib.hid hk
    have HRN := Lib.hid hrN
    have HAE := Lib.hid haE
    clear hat hD hS hO D0 hk
    by_cases hr0 : r = 0
    · have t1 : decide ((k : Int) < (N : Int)) = false := by simp; omega
      have t1' : decide (k < N) = false := by simp; omega
      have HDR := Lib.hid (show decodeS bs = decRest vs (bs.drop a) from dec_rest (by have := HL.out; omega) (by rw [HN.out]; have := HAT.out; rw [hr0] at this; exact this))
      have HVA := Lib.hid (show VAt bs N vs 0 a from by have := HAT.out; rw [hr0] at this; exact this)
      have HRD := Lib.hid (HR.out.keep DD.out.upd)
      have CY := Lib.hid (fun (h : a + 4 ≤ bs.length) => r1Uint_yes HRD.out a 4 (by omega) (by omega) h (by have := HL.out; omega))
      have CN := Lib.hid (fun (h : bs.length < a + 4) => r1Uint_no HRD.out a 4 (by omega) (by omega) (by omega) h)
      rw [HL.out] at CY CN
      clear HAT hrN haE hr0 hQ1 hQ2 hbig wN hva
      have wN : IntKind.i64.wrap (N : Int) = N := IntWalk.i64_in _ (by omega)
      go_wp2_with fail
      clear t1 t1'
      by_cases h2 : a + 4 ≤ L
      · refine (CY.out h2).mono ?_
        rintro e w5 ⟨rfl, rfl⟩
        obtain ⟨K, hK⟩ : ∃ n, be ((bs.drop a).take 4) = n := ⟨_, rfl⟩
        have hKlt : K < 4294967296 := by rw [← hK]; exact be4_lt _
        rw [hK]
        have HKK := Lib.hid hK
        clear hK CY CN
        have wK : IntKind.i64.wrap (K : Int) = K := IntWalk.i64_in _ (by omega)
        obtain ⟨Q2, hP0, hP1, hP2⟩ : ∃ q : Nat, ((L : Int) - (a : Int) - 4).tdiv 2 = (q : Int) ∧ 2 * q ≤ L - a - 4 ∧ L - a - 4 < 2 * (q + 1) := ⟨(L - a - 4) / 2, by rw [show (L : Int) - (a : Int) - 4 = ((L - a - 4 : Nat) : Int) by omega]; rfl, by omega, by omega⟩
        by_cases hbig2 : Q2 < K
        · have HNO := Lib.hid (show decodeS bs = none from HDR.out.trans (rest_none2 (by have := HL.out; omega) (by rw [HKK.out]; exact decTexts_less (by have := HL.out; simp; omega))))
          have t1 : decide ((Q2 : Int) < (K : Int)) = true := by simp; omega
          have t1' : decide (Q2 < K) = true := by simp; omega
          have x0 : wr.cell? ⟨w.heap.size, 0, none⟩ = some (.slice none 0 0) := DD.out.res.cell 0; have x1 : wr.cell? ⟨w.heap.size, 1, none⟩ = some (.slice none 0 0) := DD.out.res.cell 1; have x2 : wr.frozen? ⟨w.heap.size, 0, none⟩ = false := DD.out.res.frozen 0; have x3 : wr.frozen? ⟨w.heap.size, 1, none⟩ = false := DD.out.res.frozen 1
          go_wp2
          refine bodyPost_ret (results_cell_tmp Tryz.results13 _ _ w.heap.size [.slice none 0 0, .slice none 0 0] _ rfl (range_blk ((DD.out.res.put 0 (.slice none 0 0)).put 1 (.slice none 0 0))) Tryz.underlying25 rfl (by rw [view_size]; rfl)) rfl ?_
          rw [HNO.out]
          exact ⟨rfl, (DD.out.upd.setCell (p := ⟨w.heap.size, 0, none⟩) (.inr (Nat.le_refl _)) _).setCell (p := ⟨w.heap.size, 1, none⟩) (.inr (Nat.le_refl _)) _⟩
        have t1 : decide ((Q2 : Int) < (K : Int)) = false := by simp; omega
        have t1' : decide (Q2 < K) = false := by simp; omega
        go_wp2
        obtain ⟨wo, rfl⟩ : ∃ wo : World, wo = wr := ⟨_, rfl⟩
        obtain ⟨k0, rfl⟩ : ∃ x, x = k := ⟨_, rfl⟩
        have HS5 := Lib.hid HS.out
        have HO5 := Lib.hid HO.out
        clear t1 t1' HS HO
        go_loopw [7, 12] (fun at_ i wr => E2Rel w bs vs (a + 4) K at_ i wr) (fun _ i _ => K - (intOf i).toNat)
        case atStart => exact ⟨0, K, a + 4, [], Av, none, cv, 0, M, rfl, by go_num, rfl, TAt.start (by have := HL.out; omega) K, DD.out, HS5.out, HO5.out, TxM.nil _ _, fun k hk => by simp [OwnB, Value.ownBlock] at hk⟩
        case round =>
          clear HK HRN HAE HRD DD HS5 HO5
          obtain ⟨k, r2, a1, ts, Av, At, cv, ct, M, rfl, rfl, hk, hat, hD, hS, hO, hT, hO'⟩ := hrel
          have DD := Lib.hid hD
          have HAT := Lib.hid hat
          have HS := Lib.hid hS
          have HO := Lib.hid hO
          have HT := Lib.hid hT
          have HO' := Lib.hid hO'
          have HK := Lib.hid hk
          have HRN := Lib.hid (show k + r2 = K from by have := hat.1; omega)
          have hkl : k < 4294967296 := by have := hat.1; omega
          have hkK : k + r2 = K := by have := hat.1; omega
          have hta : 2 * ts.length ≤ 1000000000 := by have := hat.2.1; have := hat.2.2.1; have := HL.out; omega
          have haL1 : a1 ≤ L := by have := hat.2.2.1; have := HL.out; omega
          clear hat hD hS hO hT hO' hk
          by_cases hr0 : r2 = 0
          · have t1 : decide ((k : Int) < (K : Int)) = false := by simp; omega
            have t1' : decide (k < K) = false := by simp; omega
            have HTA := Lib.hid (show TAt bs (a + 4) K ts 0 a1 from by have := HAT.out; rw [hr0] at this; exact this)
            have HRF := Lib.hid (show decodeS bs = if a1 = bs.length then if ordB ⟨vs, ts⟩ then some ⟨vs, ts⟩ else none else none from HDR.out.trans (rest_fin (by have := HL.out; omega) (by rw [HKK.out]; exact HTA.out)))
            have HARG := Lib.hid (show argB ⟨vs, ts⟩ = true from by
              unfold argB
              rw [Bool.and_eq_true, List.all_eq_true, List.all_eq_true]
              exact ⟨fun s hs => ((decVotes_some _ _ _ _ HVA.out.fin).2.2 s hs).2, (decTexts_some _ _ _ _ HTA.out.fin).2.2⟩)
            have hcnt : vs.length ≤ 1000000 ∧ ts.length ≤ 1000000 := by
              have h1 := HVA.out.2.1
              have h2 := HVA.out.2.2.1
              have h3 := HTA.out.2.1
              have h4 := HTA.out.2.2.1
              rcases HQQ.out with hq | ⟨V, hq1, hq2, hq3⟩
              · omega
              · have h5 := HRF.out
                rw [hq1] at h5
                by_cases c1 : a1 = bs.length
                · by_cases c2 : ordB ⟨vs, ts⟩ = true
                  · rw [if_pos c1, if_pos c2] at h5
                    have h5 := Option.some.inj h5
                    rw [h5] at hq2 hq3
                    exact ⟨hq2, hq3⟩
                  · rw [if_pos c1, if_neg c2] at h5; cases h5
                · rw [if_neg c1] at h5; cases h5
            have CE := Lib.hid (EncodeView_any (w := wr) (V := ⟨vs, ts⟩) ⟨HS.out.rd, HT.out.rd⟩ hcnt.1 hcnt.2)
            have d0 : wr.cell? ⟨w.heap.size + 1, 0, none⟩ = some (.slice Av vs.length cv) := DD.out.view.cell 0
            have d1 : wr.cell? ⟨w.heap.size + 1, 1, none⟩ = some (.slice At ts.length ct) := DD.out.view.cell 1
            clear HAT hr0 hkK hcnt
            go_wp2_with fail
            refine CE.out.mono ?_
            cases ho : ordB ⟨vs, ts⟩ with
            | true =>
              rw [show encodeS ⟨vs, ts⟩ = (encView ⟨vs, ts⟩, 0) from by unfold encodeS; rw [if_pos HARG.out, if_pos ho]]
              rintro e w8 ⟨A8, c8, rfl, hn8⟩
              have hu8 := hn8.2.2
              have D8 := Lib.hid (DD.out.more hu8)
              have HS8 := Lib.hid (SgM.upd HS.out hu8 (fun _ _ f => f) (fun _ _ f => f.elim))
              have HT8 := Lib.hid (TxM.upd HT.out hu8 (fun _ _ f => f) (fun _ _ f => f.elim))
              have x0 : w8.cell? ⟨w.heap.size, 0, none⟩ = some (.slice none 0 0) := D8.out.res.cell 0; have x1 : w8.cell? ⟨w.heap.size, 1, none⟩ = some (.slice none 0 0) := D8.out.res.cell 1; have x2 : w8.frozen? ⟨w.heap.size, 0, none⟩ = false := D8.out.res.frozen 0; have x3 : w8.frozen? ⟨w.heap.size, 1, none⟩ = false := D8.out.res.frozen 1
              have d0 : w8.cell? ⟨w.heap.size + 1, 0, none⟩ = some (.slice Av vs.length cv) := D8.out.view.cell 0
              have d1 : w8.cell? ⟨w.heap.size + 1, 1, none⟩ = some (.slice At ts.length ct) := D8.out.view.cell 1
              clear hn8 hu8 CE
              by_cases hend : a1 = L
              · have HNO := Lib.hid (show decodeS bs = some ⟨vs, ts⟩ from by rw [HRF.out, if_pos (by rw [HL.out]; exact hend), if_pos ho])
                subst hend
                go_wp2
                refine bodyPost_ret (results_cell_tmp Tryz.results13 _ _ w.heap.size [.slice Av vs.length cv, .slice At ts.length ct] _ rfl (range_blk ((D8.out.res.put 0 (.slice Av vs.length cv)).put 1 (.slice At ts.length ct))) Tryz.underlying25 rfl (by rw [view_size]; rfl)) rfl ?_
                rw [HNO.out]
                have hz : Upd (fun k => k = w.heap.size) w8 ((w8.setCell ⟨w.heap.size, 0, none⟩ (.slice Av vs.length cv)).setCell ⟨w.heap.size, 1, none⟩ (.slice At ts.length ct)) := ((Upd.refl (fun k => k = w.heap.size) w8).setCell (p := ⟨w.heap.size, 0, none⟩) (.inl rfl) _).setCell (p := ⟨w.heap.size, 1, none⟩) (.inl rfl) _
                have hGM : ∀ k, k = w.heap.size ∨ k < w.heap.size → M k := fun k f => by
                  rcases f with f | f
                  · rw [f]; exact D8.out.mR
                  · exact D8.out.mL k f
                have hu9 : ∀ w9, Upd (fun k => k < w.heap.size) ((w8.setCell ⟨w.heap.size, 0, none⟩ (.slice Av vs.length cv)).setCell ⟨w.heap.size, 1, none⟩ (.slice At ts.length ct)) w9 → Upd (fun k => k = w.heap.size ∨ k < w.heap.size) w8 w9 := fun w9 h9 => (hz.mono (fun _ _ f => .inl f)).trans h9 (fun _ _ f => .inr f)
                exact ⟨_, _, rfl, fun w9 h9 => ⟨HS8.out.res (fun k hk f => by
                  rcases f with f | f
                  · rw [f] at hk; exact HS8.out.ne D8.out.res hk
                  · have := (HO.out k hk).2; omega) hGM (hu9 w9 h9), HT8.out.res (fun k hk f => by
                  rcases f with f | f
                  · rw [f] at hk; exact HT8.out.ne D8.out.res hk
                  · have := (HO'.out k hk).2; omega) hGM (hu9 w9 h9)⟩, (D8.out.upd.setCell (p := ⟨w.heap.size, 0, none⟩) (.inr (Nat.le_refl _)) _).setCell (p := ⟨w.heap.size, 1, none⟩) (.inr (Nat.le_refl _)) _⟩
              · have HNO := Lib.hid (show decodeS bs = none from by rw [HRF.out, if_neg (by rw [HL.out]; exact hend)])
                have t2 : decide ((a1 : Int) = (L : Int)) = false := by simp; omega
                have t2' : decide (a1 = L) = false := by simp; omega
                have t3 : ((a1 : Int) == (L : Int)) = false := by simp; omega
                have t4 : ((a1 : Int) != (L : Int)) = true := by simp; omega
                have t5 : decide (¬ (a1 : Int) = (L : Int)) = true := by simp; omega
                have t6 : decide (¬ a1 = L) = true := by simp; omega
                have t7 : (a1 != L) = true := by simp; omega
                have t8 : (a1 == L) = false := by simp; omega
                go_wp2
                refine bodyPost_ret (results_cell_tmp Tryz.results13 _ _ w.heap.size [.slice none 0 0, .slice none 0 0] _ rfl (range_blk ((D8.out.res.put 0 (.slice none 0 0)).put 1 (.slice none 0 0))) Tryz.underlying25 rfl (by rw [view_size]; rfl)) rfl ?_
                rw [HNO.out]
                exact ⟨rfl, (D8.out.upd.setCell (p := ⟨w.heap.size, 0, none⟩) (.inr (Nat.le_refl _)) _).setCell (p := ⟨w.heap.size, 1, none⟩) (.inr (Nat.le_refl _)) _⟩
            | false =>
              have HNO := Lib.hid (show decodeS bs = none from by
                rw [HRF.out]
                by_cases c1 : a1 = bs.length
                · rw [if_pos c1, if_neg (by rw [ho]; decide)]
                · rw [if_neg c1])
              rw [show encodeS ⟨vs, ts⟩ = ([], 10) from by unfold encodeS; rw [if_pos HARG.out, if_neg (by rw [ho]; decide)]]
              rintro e w8 ⟨A8, c8, rfl, hn8⟩
              have D8 := Lib.hid (DD.out.more hn8.2.2)
              have x0 : w8.cell? ⟨w.heap.size, 0, none⟩ = some (.slice none 0 0) := D8.out.res.cell 0; have x1 : w8.cell? ⟨w.heap.size, 1, none⟩ = some (.slice none 0 0) := D8.out.res.cell 1; have x2 : w8.frozen? ⟨w.heap.size, 0, none⟩ = false := D8.out.res.frozen 0; have x3 : w8.frozen? ⟨w.heap.size, 1, none⟩ = false := D8.out.res.frozen 1
              clear hn8 CE
              by_cases hend : a1 = L
              · subst hend
                go_wp2
                refine bodyPost_ret (results_cell_tmp Tryz.results13 _ _ w.heap.size [.slice none 0 0, .slice none 0 0] _ rfl (range_blk ((D8.out.res.put 0 (.slice none 0 0)).put 1 (.slice none 0 0))) Tryz.underlying25 rfl (by rw [view_size]; rfl)) rfl ?_
                rw [HNO.out]
                exact ⟨rfl, (D8.out.upd.setCell (p := ⟨w.heap.size, 0, none⟩) (.inr (Nat.le_refl _)) _).setCell (p := ⟨w.heap.size, 1, none⟩) (.inr (Nat.le_refl _)) _⟩
              · have t2 : decide ((a1 : Int) = (L : Int)) = false := by simp; omega
                have t2' : decide (a1 = L) = false := by simp; omega
                have t3 : ((a1 : Int) == (L : Int)) = false := by simp; omega
                have t4 : ((a1 : Int) != (L : Int)) = true := by simp; omega
                have t5 : decide (¬ (a1 : Int) = (L : Int)) = true := by simp; omega
                have t6 : decide (¬ a1 = L) = true := by simp; omega
                have t7 : (a1 != L) = true := by simp; omega
                have t8 : (a1 == L) = false := by simp; omega
                go_wp2
                refine bodyPost_ret (results_cell_tmp Tryz.results13 _ _ w.heap.size [.slice none 0 0, .slice none 0 0] _ rfl (range_blk ((D8.out.res.put 0 (.slice none 0 0)).put 1 (.slice none 0 0))) Tryz.underlying25 rfl (by rw [view_size]; rfl)) rfl ?_
                rw [HNO.out]
                exact ⟨rfl, (D8.out.upd.setCell (p := ⟨w.heap.size, 0, none⟩) (.inr (Nat.le_refl _)) _).setCell (p := ⟨w.heap.size, 1, none⟩) (.inr (Nat.le_refl _)) _⟩
          · obtain ⟨r', hr'⟩ : ∃ r', r2 = r' + 1 := ⟨r2 - 1, by omega⟩
            have t1 : decide ((k : Int) < (K : Int)) = true := by simp; omega
            have t1' : decide (k < K) = true := by simp; omega
            have HR' := Lib.hid hr'
            have HAT1 := Lib.hid (show TAt bs (a + 4) K ts (r' + 1) a1 from by have := HAT.out; rw [hr'] at this; exact this)
            have HRD := Lib.hid (HR.out.keep DD.out.upd)
            clear HAT hr' hr0 hkK
            by_cases hb : bs.length < a1 + 2 ∨ a1 + 2 ≤ bs.length ∧ bs.length < a1 + 2 + be ((bs.drop a1).take 2)
            · have HNO := Lib.hid (show decodeS bs = none from HDR.out.trans (rest_none2 (by have := HL.out; omega) (by rw [HKK.out]; exact HAT1.out.fail hb)))
              have CB := Lib.hid (show Calls Tryz.prog 45 #[.slice (some ⟨g, o, none⟩) bs.length c, .int .i64 (a1 : Int)] wr (NoBytes wr) from by
                rcases hb with hb | hb
                · exact r1Bytes_short HRD.out a1 (by omega) hb
                · exact r1Bytes_long HRD.out (by have := HL.out; omega) a1 hb.1 _ rfl hb.2)
              rw [HL.out] at CB
              clear hb
              go_wp2_with fail
              refine CB.out.mono ?_
              rintro e w5 ⟨rfl, rfl⟩
              have x0 : wr.cell? ⟨w.heap.size, 0, none⟩ = some (.slice none 0 0) := DD.out.res.cell 0; have x1 : wr.cell? ⟨w.heap.size, 1, none⟩ = some (.slice none 0 0) := DD.out.res.cell 1; have x2 : wr.frozen? ⟨w.heap.size, 0, none⟩ = false := DD.out.res.frozen 0; have x3 : wr.frozen? ⟨w.heap.size, 1, none⟩ = false := DD.out.res.frozen 1
              go_wp2
              refine bodyPost_ret (results_cell_tmp Tryz.results13 _ _ w.heap.size [.slice none 0 0, .slice none 0 0] _ rfl (range_blk ((DD.out.res.put 0 (.slice none 0 0)).put 1 (.slice none 0 0))) Tryz.underlying25 rfl (by rw [view_size]; rfl)) rfl ?_
              rw [HNO.out]
              exact ⟨rfl, (DD.out.upd.setCell (p := ⟨w.heap.size, 0, none⟩) (.inr (Nat.le_refl _)) _).setCell (p := ⟨w.heap.size, 1, none⟩) (.inr (Nat.le_refl _)) _⟩
            · have h1 : a1 + 2 ≤ bs.length := by omega
              have h2' : a1 + 2 + be ((bs.drop a1).take 2) ≤ bs.length := by omega
              have HAT2 := Lib.hid (HAT1.out.next rfl h1 h2')
              have CB := Lib.hid (r1Bytes_yes HRD.out (by have := HL.out; omega) a1 h1 _ rfl h2')
              rw [HL.out] at CB
              have ha2 : a1 + 2 + be ((bs.drop a1).take 2) ≤ L := by have := HL.out; omega
              generalize hx0 : (bs.drop (a1 + 2)).take (be ((bs.drop a1).take 2)) = x at HAT2 CB
              generalize hn0 : a1 + 2 + be ((bs.drop a1).take 2) = a2 at HAT2 CB ha2
              clear hb h1 h2' hx0 hn0
              go_wp2_with fail
              refine CB.out.mono ?_
              rintro e w5 ⟨A5, c5, rfl, hn5⟩
              obtain ⟨us, f1, f2, f0, f3⟩ := HT.out
              obtain ⟨n, hn⟩ : ∃ n, ts.length = n := ⟨_, rfl⟩
              have HF0 := Lib.hid f0
              have HF1 := Lib.hid f1
              have HF3 := Lib.hid f3
              have HF2 := Lib.hid f2
              have HOW := Lib.hid f2
              have HVW := Lib.hid DD.out.view
              have HLN := Lib.hid hn
              rw [hn] at HOW HVW hta
              have U5 := Lib.hid hn5.2.2
              have X5 := Lib.hid (show RdF (fun k => k < wr.heap.size) w5 1 (.slice A5 x.length c5) x.length (x.map byteV) from hn5.1.rdF (fun k hk f => by have := hn5.2.1 k hk; have f : k < wr.heap.size := f; omega))
              have VW6 := Lib.hid (show ∀ W, Upd NoF w5 W → Blk W (w.heap.size + 1) 25 #[.slice Av vs.length cv, .slice At n ct] from fun W hu => hu.blk (U5.out.blk HVW.out (fun f => f)) (fun f => f))
              have OW6 := Lib.hid (show ∀ W, Upd NoF w5 W → Own W 28 1 (.slice At n ct) n us from fun W hu => (HOW.out.upd U5.out (fun _ _ f => f)).upd hu (fun _ _ f => f))
              have d0 : w5.cell? ⟨w.heap.size + 1, 1, none⟩ = some (.slice At n ct) := (VW6.out w5 (Upd.refl _ _)).cell 1
              clear hn5 f0 f1 f2 f3 hn HT
              go_wp2_with (first
                | (refine wpList_buildSlice_row rfl 23 28 (.tmp 101) rfl (.slice A5 x.length c5) rfl #[.slice A5 x.length c5] (bs_bytes A5 x.length c5 _) ?_; intro w9 hb9 hu9 hs9; have B9 := Lib.hid hb9; have U9 := Lib.hid hu9; clear hb9 hu9 hs9)
                | (at_builtin; refine wpList_append_to _ rfl (.tmp 100) (.tmp 102) 23 rfl 28 ti _ 1 24 Tryz.underlying23 hi0' hi1' hi2' hi3' rfl _ _ _ rfl (OW6.out _ U9.out) _ 1 [.slice A5 x.length c5] rfl (Rd.of_blk B9.out (by omega) (by unfold maxLen; omega) rfl (fun j y hy => by rw [Nat.zero_add]; cases j with | zero => simpa using hy | succ j => simp at hy)) (by intro y hy; simp at hy; rw [hy]; rfl) (by unfold maxLen; omega) (by omega) ?_; intro pA pc pw hown hupd hnew; have pO := Lib.hid hown; have pV := Lib.hid hupd; have pN := Lib.hid hnew; have pf : pw.frozen? ⟨w.heap.size + 1, 1, none⟩ = false := (hupd.blk (VW6.out _ U9.out) ((OW6.out _ U9.out).blk_ne (VW6.out _ U9.out) (by decide))).frozen 1; have pz : pw.cell? ⟨w.heap.size + 1, 1, none⟩ = some (.slice At n ct) := (hupd.blk (VW6.out _ U9.out) ((OW6.out _ U9.out).blk_ne (VW6.out _ U9.out) (by decide))).cell 1; clear hown hupd hnew))
              go_roundw
              case rel =>
                have hz := E2_next (x := x) DD.out HS.out HO.out HO'.out (U5.out.trans U9.out (fun _ _ f => f)) HF0.out HF1.out HF2.out HF3.out rfl (X5.out.upd (U9.out.mono (fun _ _ f => f.elim))) (by rw [HLN.out]; exact pO.out) (by rw [HLN.out]; exact pV.out) (by rw [HLN.out]; exact pN.out)
                rw [HLN.out] at hz
                obtain ⟨M', g1, g2, g3, g4, g5⟩ := hz
                exact ⟨k + 1, r', a2, ts ++ [x], Av, pA, cv, pc, M', by go_num, rfl, by have := HK.out; simp; omega, HAT2.out, g1, g2, g3, g4, g5⟩
              case measure => have h1 := HRN.out; have h2 := HR'.out; simp [intOf]; omega
      · have HNO := Lib.hid (show decodeS bs = none from HDR.out.trans (rest_none1 (by have := HL.out; omega)))
        refine (CN.out (by omega)).mono ?_
        rintro e w5 ⟨rfl, rfl⟩
        have x0 : wr.cell? ⟨w.heap.size, 0, none⟩ = some (.slice none 0 0) := DD.out.res.cell 0; have x1 : wr.cell? ⟨w.heap.size, 1, none⟩ = some (.slice none 0 0) := DD.out.res.cell 1; have x2 : wr.frozen? ⟨w.heap.size, 0, none⟩ = false := DD.out.res.frozen 0; have x3 : wr.frozen? ⟨w.heap.size, 1, none⟩ = false := DD.out.res.frozen 1
        go_wp2
        refine bodyPost_ret (results_cell_tmp Tryz.results13 _ _ w.heap.size [.slice none 0 0, .slice none 0 0] _ rfl (range_blk ((DD.out.res.put 0 (.slice none 0 0)).put 1 (.slice none 0 0))) Tryz.underlying25 rfl (by rw [view_size]; rfl)) rfl ?_
        rw [HNO.out]
        exact ⟨rfl, (DD.out.upd.setCell (p := ⟨w.heap.size, 0, none⟩) (.inr (Nat.le_refl _)) _).setCell (p := ⟨w.heap.size, 1, none⟩) (.inr (Nat.le_refl _)) _⟩
    · obtain ⟨r', hr'⟩ : ∃ r', r = r' + 1 := ⟨r - 1, by omega⟩
      have t1 : decide ((k : Int) < (N : Int)) = true := by simp; omega
      have t1' : decide (k < N) = true := by simp; omega
      have h393 : a + 393 ≤ L := by omega
      have z1 : (0 : Int) ≤ (a : Int) := by omega
      have z2 : (a : Int) ≤ (a : Int) + 393 := by omega
      have z3 : (a : Int) + 393 ≤ (c : Int) := by omega
      have HAT1 := Lib.hid (show VAt bs N vs (r' + 1) a from by have := HAT.out; rw [hr'] at this; exact this)
      have HR' := Lib.hid hr'
      have cut : ∀ W, Upd NoF w W → Rd W 1 (.slice (some ⟨g, o + a, none⟩) 393 (c - a)) ((bs.drop a).take 393).length (((bs.drop a).take 393).map byteV) := fun W hu => rd_part (n := bs.length) (HR.out.keep hu) rfl (by have := HL.out; omega) (by omega) (by omega) _ (fun _ => rfl)
      have HCUT := Lib.hid cut
      have hxl : ((bs.drop a).take 393).length = 393 := by have := HL.out; simp; omega
      have HXL := Lib.hid hxl
      clear HAT hrN haE hr' hr0 hQ1 hQ2 hbig cut hxl hva
      have hva : 393 * vs.length ≤ 1000000000 := by have h1 := HAE.out; have h2 := HK.out; omega
      have hkl : k < 4294967296 := by have := HRN.out; omega
      cases hk : okDec ((bs.drop a).take 393) with
      | true =>
        have HAT2 := Lib.hid (HAT1.out.next hk)
        have CS := Lib.hid (show ∀ W, Upd NoF w W → Calls Tryz.prog 44 #[.slice (some ⟨g, o + a, none⟩) 393 (c - a)] W (SDecOk W (decS ((bs.drop a).take 393))) from fun W hu => rDecS_yes (HCUT.out W hu) hk)
        have HFT := Lib.hid (decS_fit (okDec_len hk))
        generalize hs0 : decS ((bs.drop a).take 393) = s at HAT2 CS HFT
        clear hs0 hk
        go_wp2_with fail
        refine (CS.out _ DD.out.upd).mono ?_
        rintro e w6 ⟨A6, c6, rfl, hx6, hu6⟩
        obtain ⟨hf, us, f1, f2, f3⟩ := HS.out
        have HF := Lib.hid hf
        have HF1 := Lib.hid f1
        have HF2 := Lib.hid f2
        have HF3 := Lib.hid f3
        obtain ⟨nv, hnv⟩ : ∃ n, vs.length = n := ⟨_, rfl⟩
        have HNV := Lib.hid hnv
        have HOW := Lib.hid f2
        have HVW := Lib.hid DD.out.view
        rw [hnv] at HOW HVW hva
        obtain ⟨Vb, hVb⟩ : ∃ x, x = w.heap.size + 1 := ⟨_, rfl⟩
        have HVB := Lib.hid hVb
        rw [← hVb] at HVW ⊢
        clear hf f1 f2 f3 HS hnv hVb
        have X6 := Lib.hid hx6
        have U6 := Lib.hid hu6
        have BSR := Lib.hid (fun W => bs_signed HFT.out A6 s.sig.length c6 W)
        obtain ⟨ra, hra⟩ : ∃ z, (rowS s (.slice A6 s.sig.length c6)).toArray = z := ⟨_, rfl⟩
        rw [hra]
        rw [hra] at BSR
        have HRA := Lib.hid hra
        have RS := Lib.hid (show zeroRow.size = ra.size ∧ (Tryz.prog.info? 57).map (·.size) = some ra.size ∧ ra.all (·.oneCell') = true from by
          rw [← hra]
          exact ⟨by rw [zeroRow_size]; simp [rowS_len HFT.out], row_info HFT.out _, row_one _ rfl⟩)
        have RB := Lib.hid (show ∀ W, Blk W w6.heap.size 57 ra → W.rangeAt w6.heap.size 0 (rowS s (.slice A6 s.sig.length c6)) from fun W h => by rw [← HRA.out] at h; exact range_blk h)
        clear hx6 hu6 hra
        have VW6 := Lib.hid (show ∀ W, Upd NoF w6 W → Blk W Vb 25 #[.slice Av nv cv, .slice none 0 0] from fun W hu => hu.blk (U6.out.blk HVW.out (fun f => f)) (fun f => f))
        have OW6 := Lib.hid (show ∀ W, Upd NoF w6 W → Own W 57 23 (.slice Av nv cv) nv (List.zipWith rowS vs us).flatten from fun W hu => (HOW.out.upd U6.out (fun _ _ f => f)).upd hu (fun _ _ f => f))
        have ROW := Lib.hid (show ∀ W g, Blk W g 57 ra → Rd W 23 (.slice (some ⟨g, 0, none⟩) 1 1) 1 (rowS s (.slice A6 s.sig.length c6)) from fun W g h => by
          rw [← HRA.out] at h
          exact Rd.of_blk h (by omega) (by unfold maxLen; omega) (by rw [rowS_len HFT.out]) (fun j y hy => by rw [Nat.zero_add]; simpa using hy))
        have ONE := Lib.hid (show ∀ y ∈ rowS s (.slice A6 s.sig.length c6), y.oneCell' = true from fun y hy => by
          have := row_one s (u := .slice A6 s.sig.length c6) rfl
          rw [List.all_toArray, List.all_eq_true] at this
          exact this y hy)
        go_wp2_with (first
          | (refine wpList_alloc_row rfl 57 rfl zeroRow alloc_signed ?_; intro w7 hb7 hu7 hs7; have B7 := Lib.hid hb7; have U7 := Lib.hid hu7; clear hb7 hu7 hs7)
          | (refine wpList_store_row rfl 57 (.tmp 9) (.tmp 48) rfl w6.heap.size rfl ra rfl 57 _ B7.out RS.out.1 RS.out.2.1 RS.out.2.2 ?_; intro w8 hb8 hu8 hs8; have B8 := Lib.hid hb8; have U8 := Lib.hid (U7.out.trans hu8 (fun k hk e => by have e : k = w6.heap.size := e; omega)); have d0 : w8.cell? ⟨Vb, 0, none⟩ = some (.slice Av nv cv) := (VW6.out w8 U8.out).cell 0; clear hb8 hu8 hs8)
          | (refine wpList_load_signed rfl (.tmp 9) rfl w6.heap.size 0 rfl s (.slice A6 s.sig.length c6) HFT.out (RB.out _ B8.out) (.agg ra) (congrArg Value.agg HRA.out) ?_)
          | (refine wpList_buildSlice_row rfl 22 57 (.tmp 55) rfl (.agg ra) rfl ra (BSR.out _) ?_; intro w9 hb9 hu9 hs9; have B9 := Lib.hid hb9; have U9 := Lib.hid (U8.out.trans hu9 (fun _ _ f => f)); clear hb9 hu9 hs9)
          | (at_builtin; refine wpList_append_to _ rfl (.tmp 54) (.tmp 56) 22 rfl 57 i1 _ 23 88 Tryz.underlying22 hi1 hy0 hy1 hy2 zeroRow_size _ _ _ rfl (OW6.out _ U9.out) _ _ _ rfl (ROW.out _ _ B9.out) ONE.out (by unfold maxLen; omega) (by omega) ?_; intro pA pc pw hown hupd hnew; have pO := Lib.hid hown; have pV := Lib.hid hupd; have pN := Lib.hid hnew; have pf : pw.frozen? ⟨Vb, 0, none⟩ = false := (hupd.blk (VW6.out _ U9.out) ((OW6.out _ U9.out).blk_ne (VW6.out _ U9.out) (by decide))).frozen 0; have pz : pw.cell? ⟨Vb, 0, none⟩ = some (.slice Av nv cv) := (hupd.blk (VW6.out _ U9.out) ((OW6.out _ U9.out).blk_ne (VW6.out _ U9.out) (by decide))).cell 0; clear hown hupd hnew))
        rw [HVB.out]
        go_roundw
        case rel =>
          have hz := E1_next (s := s) DD.out HO.out (U6.out.trans U9.out (fun _ _ f => f)) HF.out HF1.out HF2.out HF3.out HFT.out (X6.out.upd (U9.out.mono (fun _ _ f => f.elim))) (by rw [HNV.out]; exact pO.out) (by rw [HNV.out]; exact pV.out) (by rw [HNV.out]; exact pN.out)
          rw [HNV.out] at hz
          obtain ⟨M', g1, g2, g3⟩ := hz
          exact ⟨u3, .int .i64 ((a : Int) + 393), .int .i64 ((k : Int) + 1), ⟨k + 1, r', a + 393, vs ++ [s], pA, pc, M', by go_num, by go_num, by have := HK.out; simp; omega, HAT2.out, g1, g2, g3⟩, rfl, rfl, rfl, rfl⟩
        case measure => have h1 := HRN.out; have h2 := HR'.out; simp [intOf]; omega
      | false =>
        have HNO := Lib.hid (show decodeS bs = none from dec_none2 (by have := HL.out; omega) (by rw [HN.out]; exact HAT1.out.fail hk))
        have CS := Lib.hid (show ∀ W, Upd NoF w W → Calls Tryz.prog 44 #[.slice (some ⟨g, o + a, none⟩) 393 (c - a)] W (SDecBad W) from fun W hu => rDecS_bad (HCUT.out W hu) hk)
        clear hk
        go_wp2_with fail
        refine (CS.out _ DD.out.upd).mono ?_
        rintro e w6 ⟨z, hz, rfl, hu6⟩
        have D6 := Lib.hid (DD.out.more hu6)
        have t2 : decide (z = 0) = false := by simp [hz]
        have t3 : (z == 0) = false := by simp [hz]
        clear hu6
        go_wp2_with (first
          | (refine wpList_alloc_row rfl 57 rfl zeroRow alloc_signed ?_; intro w7 hb7 hu7 hs7; have B7 := Lib.hid hb7; have U7 := Lib.hid hu7; clear hb7 hu7 hs7)
          | (refine wpList_store_row rfl 57 (.tmp 9) (.tmp 48) rfl w6.heap.size rfl zeroRow rfl 57 _ B7.out rfl (by rw [signed_size, zeroRow_size]) (row_one zeroS rfl) ?_; intro w8 hb8 hu8 hs8; have D8 := Lib.hid (D6.out.more (U7.out.trans hu8 (fun k hk e => by have e : k = w6.heap.size := e; omega))); have x0 : w8.cell? ⟨w.heap.size, 0, none⟩ = some (.slice none 0 0) := D8.out.res.cell 0; have x1 : w8.cell? ⟨w.heap.size, 1, none⟩ = some (.slice none 0 0) := D8.out.res.cell 1; have x2 : w8.frozen? ⟨w.heap.size, 0, none⟩ = false := D8.out.res.frozen 0; have x3 : w8.frozen? ⟨w.heap.size, 1, none⟩ = false := D8.out.res.frozen 1; clear hb8 hu8 hs8))
        refine bodyPost_ret (results_cell_tmp Tryz.results13 _ _ w.heap.size [.slice none 0 0, .slice none 0 0] _ rfl (range_blk ((D8.out.res.put 0 (.slice none 0 0)).put 1 (.slice none 0 0))) Tryz.underlying25 rfl (by rw [view_size]; rfl)) rfl ?_
        rw [HNO.out]
        exact ⟨rfl, (D8.out.upd.setCell (p := ⟨w.heap.size, 0, none⟩) (.inr (Nat.le_refl _)) _).setCell (p := ⟨w.heap.size, 1, none⟩) (.inr (Nat.le_refl _)) _⟩
end

section
open Go.RowKit
end
end Go.Proofs.YtbgificdilpdcaaGreat
