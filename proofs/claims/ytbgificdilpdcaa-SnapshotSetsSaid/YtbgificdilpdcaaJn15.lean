/- snapshot.Clone. Conditions: sizes. EncodeView of the reference. Conditions: sizes. SameSigned, SameTexts and SameView of the reference. Conditions: sizes. -/
import Derived.Test.YtbgificdilpdcaaJn14
import Derived.Test.YtbgificdilpdcaaJn12
namespace Go.Proofs.Ytbgificdilpdcaa
section
open Go.RowKit

/-- Where the region stands that clones a text and appends it. -/
structure TcPh (w0 : World) (Vb : Nat) (vb : Value) (At : Option Addr) (n ct : Nat) (R5 : Value → World → Prop) (L : Nat → Bool) (w : World) : Prop where
  v0 : L 7 = false → Blk w Vb 25 #[vb, .slice At n ct]
  v1 : L 7 = true → ∃ x, Blk w Vb 25 #[vb, x] ∧ R5 x w
  u0 : L 5 = false → Upd NoF w0 w
  u1 : Upd (fun k => k = Vb ∨ OwnB (.slice At n ct) k) w0 w
section
variable {w0 w w' : World} {Vb n ct : Nat} {vb : Value} {At : Option Addr} {R5 : Value → World → Prop} {L : Nat → Bool}
theorem TcPh.start (hv : Blk w0 Vb 25 #[vb, .slice At n ct]) : TcPh w0 Vb vb At n ct R5 (fun _ => false) w0 :=
  ⟨fun _ => hv, (fun e => by cases e), fun _ => Upd.refl _ _, Upd.refl _ _⟩
theorem TcPh.same (h : TcPh w0 Vb vb At n ct R5 L w) {i : Nat} (h5 : 5 ≠ i) (h7 : 7 ≠ i) : TcPh w0 Vb vb At n ct R5 (fun j => j == i || L j) w := by
  have e5 : ((5 == i) || L 5) = L 5 := by simp [h5]
  have e7 : ((7 == i) || L 7) = L 7 := by simp [h7]
  exact ⟨fun e => h.v0 (by rw [← e7]; exact e), fun e => h.v1 (by rw [← e7]; exact e), fun e => h.u0 (by rw [← e5]; exact e), h.u1⟩
theorem TcPh.built (h : TcPh w0 Vb vb At n ct R5 L w) {i : Nat} (_hi5 : 5 ≠ i) (hi7 : 7 ≠ i) (h5 : L 5 = false) (h7 : L 7 = false) (hu : Upd NoF w w') : TcPh w0 Vb vb At n ct R5 (fun j => j == i || L j) w' :=
  ⟨fun _ => hu.blk (h.v0 h7) (fun f => f), (fun e => by simp [h7, hi7] at e), fun _ => (h.u0 h5).trans hu (fun _ _ f => f), h.u1.trans hu (fun _ _ f => f.elim)⟩
theorem TcPh.app (h : TcPh w0 Vb vb At n ct R5 L w) (h7 : L 7 = false) (nV : ¬ OwnB (.slice At n ct) Vb) (hu : Upd (OwnB (.slice At n ct)) w w') : TcPh w0 Vb vb At n ct R5 (fun j => j == 5 || L j) w' :=
  ⟨fun _ => hu.blk (h.v0 h7) nV, (fun e => by simp [h7] at e), (fun e => by simp at e), h.u1.trans hu (fun _ _ f => .inr f)⟩
theorem TcPh.store (h : TcPh w0 Vb vb At n ct R5 L w) (h5 : L 5 = true) (h7 : L 7 = false) {x : Value} (hx : R5 x (w.setCell ⟨Vb, 1, none⟩ x)) : TcPh w0 Vb vb At n ct R5 (fun j => j == 7 || L j) (w.setCell ⟨Vb, 1, none⟩ x) := by
  have hu : Upd (fun k => k = Vb) w (w.setCell ⟨Vb, 1, none⟩ x) := (Upd.refl (fun k => k = Vb) w).setCell (p := ⟨Vb, 1, none⟩) (.inl rfl) _
  exact ⟨(fun e => by simp at e), fun _ => ⟨x, (h.v0 h7).put 1 x, hx⟩, (fun e => by simp [h5] at e), h.u1.trans hu (fun _ _ f => .inl f)⟩
end

/-! ### the region's values -/
def CxR3 (x : List UInt8) (v : Value) (w : World) : Prop := ∃ A c, v = .slice A x.length c ∧ OwnU w (.slice A x.length c) x
def CxR4 (S0 : Nat) (x : List UInt8) (v : Value) (w : World) : Prop := ∃ g u, v = .slice (some ⟨g, 0, none⟩) 1 1 ∧ Blk w g 36 #[u] ∧ S0 ≤ g ∧ u.oneCell' = true ∧ OwnU w u x
def CxR5 (S0 : Nat) (At : Option Addr) (n ct : Nat) (us : List Value) (x : List UInt8) (v : Value) (w : World) : Prop := ∃ A' c' u, v = .slice A' (n + 1) c' ∧ u.oneCell' = true ∧ Own w 36 1 (.slice A' (n + 1) c') (n + 1) (us ++ [u]) ∧ OwnU w u x ∧ ∀ k, OwnB (.slice A' (n + 1) c') k → OwnB (.slice At n ct) k ∨ S0 ≤ k
/-- The step relation: blocks older than S0 of the types View and []byte; behind the append of the type View alone. -/
abbrev CxSt (S0 : Nat) (L : Nat → Bool) (w w' : World) : Prop := Upd (fun k => k < S0 ∧ TyF [25, 36] w k) w w' ∧ (L 5 = true → UpdT [25] w w')
section
variable {S0 n ct : Nat} {At : Option Addr} {us : List Value} {x : List UInt8} {w w' : World} {v : Value}
theorem CxSt.ty {L : Nat → Bool} (h : CxSt S0 L w w') : UpdT [25, 36] w w' := h.1.mono (fun _ _ f => f.2)
theorem CxSt.none {L : Nat → Bool} (h : Upd NoF w w') : CxSt S0 L w w' := ⟨h.mono (fun _ _ f => f.elim), fun _ => UpdT.none h⟩
theorem stbL_c3 {i : Nat} : StbL (CxSt S0) i (CxR3 x) := fun _ _ _ _ _ ⟨A, c, e, h⟩ hs => ⟨A, c, e, h.updT (CxSt.ty hs) (by decide)⟩
theorem stbL_c4 {i : Nat} : StbL (CxSt S0) i (CxR4 S0 x) := fun _ _ _ _ _ ⟨g, u, e, h1, h2, h3, h4⟩ hs => ⟨g, u, e, hs.1.blk h1 (fun f => by have := f.1; omega), h2, h3, h4.updT (CxSt.ty hs) (by decide)⟩
theorem CxR5.to (h : CxR5 S0 At n ct us x v w) (hu : UpdT [25] w w') : CxR5 S0 At n ct us x v w' := by
  obtain ⟨A', c', u, e, h1, h2, h3, h4⟩ := h
  exact ⟨A', c', u, e, h1, h2.updT hu (by decide), h3.updT hu (by decide), h4⟩
theorem stbL_c5 : StbL (CxSt S0) 5 (CxR5 S0 At n ct us x) := fun _ _ _ _ hl h hs => h.to (hs.2 hl)
end

/-- The variables of Clone: its argument, its result, the view. -/
structure ClSt (w wr : World) (arg : Array Value) (vb tb : Value) : Prop where
  arg : Blk wr w.heap.size 25 arg
  res : Blk wr (w.heap.size + 1) 25 nil2
  out : Blk wr (w.heap.size + 2) 25 #[vb, tb]
  upd : Upd NoF w wr
/-- What Clone returns. -/
def CloPost (w : World) (V : ViewS) (e : Ending) (w' : World) : Prop := ∃ (Av At : Option Addr) (cv ct : Nat), e = .returned (.agg #[.slice Av V.votes.length cv, .slice At V.texts.length ct]) ∧ SgO w' Av cv V.votes ∧ OwnN w (.slice Av V.votes.length cv) ∧ TxO w' At ct V.texts ∧ OwnN w (.slice At V.texts.length ct) ∧ Upd NoF w w'
def C2Rel (w : World) (arg : Array Value) (vs : List SignedS) (l : List (List UInt8)) (i : Value) (wr : World) : Prop :=
  ∃ (k : Nat) (ts : List (List UInt8)) (Av At : Option Addr) (cv ct : Nat), i = .int .i64 (k : Int) ∧ k ≤ l.length ∧ ts = l.take k ∧ ts.length = k ∧ ClSt w wr arg (.slice Av vs.length cv) (.slice At ts.length ct) ∧ SgO wr Av cv vs ∧ OwnN w (.slice Av vs.length cv) ∧ TxO wr At ct ts ∧ OwnN w (.slice At ts.length ct)
section
variable {w wr wz : World} {arg : Array Value} {Av At : Option Addr} {cv ct : Nat} {vs : List SignedS} {ts : List (List UInt8)} {us : List Value} {x : List UInt8} {L : Nat → Bool}
theorem C2_next (hD : ClSt w wr arg (.slice Av vs.length cv) (.slice At ts.length ct)) (hS : SgO wr Av cv vs) (hO : OwnN w (.slice Av vs.length cv)) (hO' : OwnN w (.slice At ts.length ct))
    (e0 : ∀ u ∈ us, u.oneCell' = true) (e1 : us.length = ts.length) (e2 : Own wr 36 1 (.slice At ts.length ct) ts.length us) (e3 : ∀ (i : Nat) s, ts[i]? = some s → ∃ u, us[i]? = some u ∧ OwnU wr u s)
    (h : TcPh wr.drew (w.heap.size + 2) (.slice Av vs.length cv) At ts.length ct (CxR5 wr.heap.size At ts.length ct us x) L wz) (hL : ∀ i, i < 8 → L i = true) :
    ∃ A' c', ClSt w wz arg (.slice Av vs.length cv) (.slice A' (ts ++ [x]).length c') ∧ SgO wz Av cv vs ∧ OwnN w (.slice Av vs.length cv) ∧ TxO wz A' c' (ts ++ [x]) ∧ OwnN w (.slice A' (ts ++ [x]).length c') := by
  obtain ⟨y, hvw, A', c', u, rfl, hu1, ho, hx, hn⟩ := h.v1 (hL 7 (by omega))
  have hup : Upd (fun k => k = w.heap.size + 2 ∨ OwnB (.slice At ts.length ct) k) wr wz := ((Upd.refl (fun k => k = w.heap.size + 2 ∨ OwnB (.slice At ts.length ct) k) wr).drew).trans h.u1 (fun _ _ f => f)
  have hupT : UpdT [25, 36] wr wz := UpdT.of hup (fun k f => by
    rcases f with f | f
    · rw [f]; exact hD.out.tyf (by simp)
    · exact e2.tyf (by simp) f)
  have el : (ts ++ [x]).length = ts.length + 1 := by simp
  have nR : ¬ OwnB (.slice At ts.length ct) (w.heap.size + 1) := e2.blk_ne hD.res (by decide)
  have nA : ¬ OwnB (.slice At ts.length ct) w.heap.size := e2.blk_ne hD.arg (by decide)
  have hsw := hD.upd.size
  refine ⟨A', c', ?_, hS.updT hupT (by decide) (by decide), hO, ?_, ?_⟩
  · rw [el]
    refine ⟨hup.blk hD.arg (fun f => ?_), hup.blk hD.res (fun f => ?_), hvw, hD.upd.trans hup (fun k hk f => ?_)⟩
    · rcases f with f | f
      · omega
      · exact nA f
    · rcases f with f | f
      · omega
      · exact nR f
    · rcases f with f | f
      · omega
      · have := hO' k f; omega
  · refine ⟨us ++ [u], by simp [e1], by rw [el]; exact ho, ?_, fun i s hs => ?_⟩
    · intro y hy
      rcases List.mem_append.1 hy with hy | hy
      · exact e0 y hy
      · simp at hy; rw [hy]; exact hu1
    · rcases Nat.lt_or_ge i ts.length with hlt | hge
      · rw [List.getElem?_append_left hlt] at hs
        obtain ⟨y, h1, h2⟩ := e3 i s hs
        exact ⟨y, by rw [List.getElem?_append_left (by omega)]; exact h1, h2.updT hupT (by decide)⟩
      · rw [List.getElem?_append_right hge] at hs
        have h0 : i - ts.length = 0 := by have := (List.getElem?_eq_some_iff.1 hs).1; simp at this; omega
        rw [h0] at hs
        simp at hs
        subst hs
        exact ⟨u, by rw [List.getElem?_append_right (by omega)]; simp [show i - us.length = 0 by omega], hx⟩
  · intro k hk
    rw [el] at hk
    rcases hn k hk with f | f
    · exact hO' k f
    · omega
end


set_option maxRecDepth 100000 in
set_option maxHeartbeats 16000000 in
theorem Clone0_any {w : World} {a b : Value} {l : List (List UInt8)} (ha : SgR w a []) (hb : TxR w b l) (hs : l.length ≤ 100000000) (hl : ∀ t ∈ l, t.length ≤ 140737488355328) : Calls Try.prog 15 #[.agg #[a, b]] w (CloPost w ⟨[], l⟩) := by
  obtain ⟨A, ca, rfl, hac, hcm⟩ := ha.form
  obtain ⟨B, cb, rfl, hld, hdm⟩ := hb.form
  have HT := Lib.hid hb
  have HL := Lib.hid hl
  obtain ⟨m, hm⟩ : ∃ n, l.length = n := ⟨_, rfl⟩
  have HM := Lib.hid hm
  obtain ⟨ti, hi0', hi1', hi2', hi3'⟩ := info_parts bytes_info'
  rw [hm] at hs hld ⊢
  simp only [List.length_nil] at hac ⊢
  have sz1 : (w.alloc (.cells #[.slice A 0 ca, .slice B m cb] 25)).heap.size = w.heap.size + 1 := by simp
  have sz2 : ((w.alloc (.cells #[.slice A 0 ca, .slice B m cb] 25)).alloc (.cells nil2 25)).heap.size = w.heap.size + 2 := by simp
  have hb1 := Blk.new w 25 #[.slice A 0 ca, .slice B m cb]
  have hb2 := Blk.new (w.alloc (.cells #[.slice A 0 ca, .slice B m cb] 25)) 25 nil2
  have hb3 := Blk.new ((w.alloc (.cells #[.slice A 0 ca, .slice B m cb] 25)).alloc (.cells nil2 25)) 25 nil2
  rw [sz1] at hb2
  rw [sz2] at hb3
  have D0 := Lib.hid (show ClSt w (((w.alloc (.cells #[.slice A 0 ca, .slice B m cb] 25)).alloc (.cells nil2 25)).alloc (.cells nil2 25)) #[.slice A 0 ca, .slice B m cb] (.slice none 0 0) (.slice none 0 0) from
    ⟨(hb1.alloc _).alloc _, hb2.alloc _, hb3, (((Upd.refl NoF w).alloc _).alloc _).alloc _⟩)
  clear hb1 hb2 hb3 ha hb hl hm
  go_enter Try.func15, Try.ntmps15
  go_wp2_with fail
  obtain ⟨W3, hW3⟩ : ∃ x, x = (((w.alloc (.cells #[.slice A 0 ca, .slice B m cb] 25)).alloc (.cells nil2 25)).alloc (.cells nil2 25)) := ⟨_, rfl⟩
  rw [← hW3] at D0 ⊢
  clear hW3 sz1 sz2
  have a1 : W3.cell? ⟨w.heap.size, 1, none⟩ = some (.slice B m cb) := D0.out.arg.cell 1
  refine wp_loop_once ?_
  go_wp2
  go_loopw [26] (fun i wr => C2Rel w #[.slice A 0 ca, .slice B m cb] [] l i wr) (fun i _ => m - (intOf i).toNat)
  case atStart => exact ⟨0, [], none, none, 0, 0, rfl, by omega, rfl, rfl, D0.out, SgO.nil _, OwnN.nil _, TxO.nil _, OwnN.nil _⟩
  case round =>
    obtain ⟨k, ts, Av, At, cv, ct, rfl, hk, hts, hlen, hD, hS, hO, hT, hO'⟩ := hrel
    have DD := Lib.hid hD
    have HS := Lib.hid hS
    have HO := Lib.hid hO
    have HT' := Lib.hid hT
    have HO' := Lib.hid hO'
    have HTS := Lib.hid hts
    have HLN := Lib.hid hlen
    have hmm := HM.out
    obtain ⟨vs, hvs⟩ : ∃ x : List SignedS, x = [] := ⟨_, rfl⟩
    rw [← hvs] at DD HS HO
    have HVS := Lib.hid hvs
    clear hD hS hO hT hO' D0 hts hlen hvs
    by_cases hlt : k < m
    · obtain ⟨s, hx⟩ : ∃ x, l[k]? = some x := ⟨_, List.getElem?_eq_getElem (by omega)⟩
      have t1 : decide ((k : Int) < (m : Int)) = true := by simp; omega
      have q0 : (0 : Int) ≤ (k : Int) := by omega
      have q1 : (k : Int) < (m : Int) := by omega
      obtain ⟨g, o, Au, cu, hA, r1, r2, -⟩ := (HT.out.keep DD.out.upd).at_ hx
      subst hA
      have y0 : wr.cell? ⟨g, o + k, none⟩ = some (.slice Au s.length cu) := r1
      obtain ⟨Vb, hVb⟩ : ∃ x, x = w.heap.size + 2 := ⟨_, rfl⟩
      have HVB := Lib.hid hVb
      obtain ⟨us, f1, f2, f0, f3⟩ := HT'.out
      obtain ⟨n, hn⟩ : ∃ n, ts.length = n := ⟨_, rfl⟩
      have HF0 := Lib.hid f0
      have HF1 := Lib.hid f1
      have HF3 := Lib.hid f3
      have HOW := Lib.hid f2
      have HVW := Lib.hid DD.out.out
      have HN := Lib.hid hn
      have hnk : n ≤ 100000000 := by have := HLN.out; omega
      rw [hn] at HOW HVW
      rw [← hVb] at HVW ⊢
      have HNV := Lib.hid (HOW.out.blk_ne HVW.out (by decide))
      have HX := Lib.hid hx
      have HCB := Lib.hid (show ∀ W, Upd NoF wr.drew W → Calls Try.prog 49 #[.slice Au s.length cu] W (ClonePost W s) from fun W hu => clone_any _ s W (Rd.abK r2 ((((Upd.refl NoF wr).drew).trans hu (fun _ _ f => f)).toAb)) (HL.out s (List.mem_of_getElem? HX.out)))
      clear f0 f1 f2 f3 hn HT' hx r1 r2 hVb hmm
      go_wp2_with fail
      refine wp_region_rgl (rgR [isV (.pointer (some ⟨Vb, 1, none⟩)), isV (.slice At n ct), isV (.slice Au s.length cu), CxR3 s, CxR4 wr.heap.size s, CxR5 wr.heap.size At n ct us s, isV (.pointer (some ⟨Vb, 1, none⟩)), anyV]) (CxSt wr.heap.size) (TcPh wr.drew Vb (.slice Av vs.length cv) At n ct (CxR5 wr.heap.size At n ct us s)) (by kernel_rfl) (by kernel_rfl) (by kernel_rfl) (by rfl) (fun L w => ⟨Upd.refl _ _, fun _ => Upd.refl _ _⟩) (rgR_keepL ⟨stbL_isV _, stbL_isV _, stbL_isV _, stbL_c3, stbL_c4, stbL_c5, stbL_isV _, stbL_any, trivial⟩) (TcPh.start (Blk.drew HVW.out)) ?_ ?_
      · refine ⟨?_, ?_, ?_, ?_, ?_, ?_, ?_, ?_, trivial⟩
        · refine fun ρ w' L hW hLi hcl hd hdep hext hc hg hf => ?_
          rw [if_pos (show wantedR _ _ _ = true from rfl)]
          have e3 : ρ (.tmp 3) = ptrV Vb := hext 3 (by kernel_rfl)
          clear hdep hext hcl
          have HW := Lib.hid hW
          clear hW
          unfold OpDone
          go_simp
          exact ⟨rfl, ⟨Upd.refl _ _, fun _ => Upd.refl _ _⟩, (HW.out.same (by decide) (by decide))⟩
        · refine fun ρ w' L hW hLi hcl hd hdep hext hc hg hf => ?_
          rw [if_pos (show wantedR _ _ _ = true from rfl)]
          have e30 : ρ (.tmp 30) = .pointer (some ⟨Vb, 1, none⟩) := hdep 0 _ rfl (by kernel_rfl)
          have hcz : w'.cell? ⟨Vb, 1, none⟩ = some (.slice At n ct) := by
            refine (hW.v0 ?_).cell 1
            cases h : L 7 with
            | false => rfl
            | true => exact absurd (hcl 5 1 (hcl 7 5 h (by kernel_rfl)) (by kernel_rfl)) (by rw [hLi]; decide)
          clear hdep hext hcl
          have HW := Lib.hid hW
          clear hW
          unfold OpDone
          go_simp
          exact ⟨rfl, ⟨Upd.refl _ _, fun _ => Upd.refl _ _⟩, (HW.out.same (by decide) (by decide))⟩
        · refine fun ρ w' L hW hLi hcl hd hdep hext hc hg hf => ?_
          rw [if_pos (show wantedR _ _ _ = true from rfl)]
          have e7 : ρ (.tmp 7) = .slice Au s.length cu := hext 7 (by kernel_rfl)
          clear hdep hext hcl
          have HW := Lib.hid hW
          clear hW
          unfold OpDone
          go_simp
          exact ⟨rfl, ⟨Upd.refl _ _, fun _ => Upd.refl _ _⟩, (HW.out.same (by decide) (by decide))⟩
        · refine fun ρ w' L hW hLi hcl hd hdep hext hc hg hf => ?_
          rw [if_pos (show wantedR _ _ _ = true from rfl)]
          have e32 : ρ (.tmp 32) = .slice Au s.length cu := hdep 2 _ rfl (by kernel_rfl)
          clear hdep hext
          have h5 : L 5 = false := by
            cases h : L 5 with
            | false => rfl
            | true => exact absurd (hcl 4 3 (hcl 5 4 h (by kernel_rfl)) (by kernel_rfl)) (by rw [hLi]; decide)
          have h7 : L 7 = false := by
            cases h : L 7 with
            | false => rfl
            | true => exact absurd (hcl 7 5 h (by kernel_rfl)) (by rw [h5]; decide)
          have hcb := HCB.out w' (hW.u0 h5)
          have hs2 : wr.heap.size ≤ w'.heap.size := (hW.u0 h5).size
          unfold OpDone
          go_simp
          refine hcb.mono ?_
          rintro e w2 ⟨A2, c2, rfl, hx2, hc2, hu2⟩
          exact ⟨_, rfl, ⟨A2, c2, rfl, hx2⟩, CxSt.none hu2, hW.built (by decide) (by decide) h5 h7 hu2⟩
        · refine fun ρ w' L hW hLi hcl hd hdep hext hc hg hf => ?_
          rw [if_pos (show wantedR _ _ _ = true from rfl)]
          have e33 : (CxR3 s) (ρ (.tmp 33)) w' := hdep 3 _ rfl (by kernel_rfl)
          clear hdep hext
          have h5 : L 5 = false := by
            cases h : L 5 with
            | false => rfl
            | true => exact absurd (hcl 5 4 h (by kernel_rfl)) (by rw [hLi]; decide)
          have h7 : L 7 = false := by
            cases h : L 7 with
            | false => rfl
            | true => exact absurd (hcl 7 5 h (by kernel_rfl)) (by rw [h5]; decide)
          obtain ⟨A2, c2, hv2, hx2⟩ := e33
          unfold OpDone
          go_simp
          have hs2 : wr.heap.size ≤ w'.heap.size := hW.u1.size
          exact ⟨⟨_, _, rfl, Blk.new w' _ _, hs2, rfl, hx2.updT (ts := []) (UpdT.none ((Upd.refl _ w').alloc _)) (by decide)⟩, CxSt.none ((Upd.refl _ w').alloc _), hW.built (by decide) (by decide) h5 h7 ((Upd.refl _ w').alloc _)⟩
        · refine fun ρ w' L hW hLi hcl hd hdep hext hc hg hf => ?_
          rw [if_pos (show wantedR _ _ _ = true from rfl)]
          have e31 : ρ (.tmp 31) = .slice At n ct := hdep 1 _ rfl (by kernel_rfl)
          have e34 : (CxR4 wr.heap.size s) (ρ (.tmp 34)) w' := hdep 4 _ rfl (by kernel_rfl)
          clear hdep hext
          have h7 : L 7 = false := by
            cases h : L 7 with
            | false => rfl
            | true => exact absurd (hcl 7 5 h (by kernel_rfl)) (by rw [hLi]; decide)
          obtain ⟨g, u, hv2, hb2, hg2, hu2, hx2⟩ := e34
          refine od_append (.tmp 31) (.tmp 34) 23 rfl 36 ti _ 1 24 Try.underlying23 hi0' hi1' hi2' hi3' rfl _ n us e31 (HOW.out.upd (((Upd.refl NoF wr).drew).trans (hW.u0 hLi) (fun _ _ f => f)) (fun k hk e => e)) _ 1 [u] hv2 (Rd.of_blk hb2 (by omega) (by unfold maxLen; omega) rfl (fun j y hy => by rw [Nat.zero_add]; cases j with | zero => simpa using hy | succ j => simp at hy)) (by intro y hy; simp at hy; rw [hy]; exact hu2) (by unfold maxLen; omega) (by omega) ?_
          intro A3 c3 w3 ho3 hu3 hn3
          have hs2 : wr.heap.size ≤ w'.heap.size := hW.u1.size
          have hty : ∀ k, OwnB (.slice At n ct) k → k < wr.heap.size ∧ TyF [25, 36] w' k := fun k hk => ⟨HOW.out.lt hk, (HOW.out.upd (((Upd.refl NoF wr).drew).trans (hW.u0 hLi) (fun _ _ f => f)) (fun k hk e => e)).tyf (by simp) hk⟩
          refine ⟨⟨A3, c3, u, rfl, hu2, ho3, hx2.updT (UpdT.of hu3 (fun k hk => (hty k hk).2)) (by decide), fun k hk => ?_⟩, ⟨hu3.mono (fun k _ f => hty k f), fun e => by rw [hLi] at e; cases e⟩, hW.app h7 HNV.out hu3⟩
          rcases hn3 k hk with q | q
          · exact .inl q
          · exact .inr (by omega)
        · refine fun ρ w' L hW hLi hcl hd hdep hext hc hg hf => ?_
          rw [if_pos (show wantedR _ _ _ = true from rfl)]
          have e3 : ρ (.tmp 3) = ptrV Vb := hext 3 (by kernel_rfl)
          clear hdep hext hcl
          have HW := Lib.hid hW
          clear hW
          unfold OpDone
          go_simp
          exact ⟨rfl, ⟨Upd.refl _ _, fun _ => Upd.refl _ _⟩, (HW.out.same (by decide) (by decide))⟩
        · refine fun ρ w' L hW hLi hcl hd hdep hext hc hg hf => ?_
          rw [if_pos (show wantedR _ _ _ = true from rfl)]
          have e36 : ρ (.tmp 36) = .pointer (some ⟨Vb, 1, none⟩) := hdep 6 _ rfl (by kernel_rfl)
          have e35 : (CxR5 wr.heap.size At n ct us s) (ρ (.tmp 35)) w' := hdep 5 _ rfl (by kernel_rfl)
          clear hdep hext
          have h5 : L 5 = true := hd 5 (by kernel_rfl)
          have hfz : w'.frozen? ⟨Vb, 1, none⟩ = false := (hW.v0 hLi).frozen 1
          have hcz : w'.cell? ⟨Vb, 1, none⟩ = some (.slice At n ct) := (hW.v0 hLi).cell 1
          have HW := Lib.hid hW
          have E35 := Lib.hid e35
          obtain ⟨A3, c3, u3, hv3, -⟩ := e35
          clear hW
          unfold OpDone
          rw [hv3] at E35
          go_simp
          have hu : Upd (fun k => k = Vb) w' (w'.setCell ⟨Vb, 1, none⟩ (.slice A3 (n + 1) c3)) := (Upd.refl (fun k => k = Vb) w').setCell (p := ⟨Vb, 1, none⟩) (.inl rfl) _
          have hty : UpdT [25] w' (w'.setCell ⟨Vb, 1, none⟩ (.slice A3 (n + 1) c3)) := UpdT.of hu (fun k f => by rw [show k = Vb from f]; exact (HW.out.v0 hLi).tyf (by simp))
          exact ⟨trivial, ⟨hu.mono (fun k _ f => by rw [show k = Vb from f]; exact ⟨HVW.out.lt, (HW.out.v0 hLi).tyf (by simp)⟩), fun _ => hty⟩, HW.out.store h5 hLi (E35.out.to hty)⟩
      intro vs wz L hL hW hR
      have hv0 : vs 0 = .pointer (some ⟨Vb, 1, none⟩) := hR 0 _ rfl
      have hv1 : vs 1 = .slice At n ct := hR 1 _ rfl
      have hv2 : vs 2 = .slice Au s.length cu := hR 2 _ rfl
      have hr3 : (CxR3 s) (vs 3) wz := hR 3 _ rfl
      obtain ⟨yA, yc, hv3, -⟩ := hr3
      have hr4 : (CxR4 wr.heap.size s) (vs 4) wz := hR 4 _ rfl
      obtain ⟨yg, yu, hv4, -⟩ := hr4
      have hr5 : (CxR5 wr.heap.size At n ct us s) (vs 5) wz := hR 5 _ rfl
      obtain ⟨zA, zc, zu, hv5, -⟩ := hr5
      have hv6 : vs 6 = .pointer (some ⟨Vb, 1, none⟩) := hR 6 _ rfl
      simp only [putAll, Act.put, List.setIfInBounds_toArray, List.set_cons_zero, List.set_cons_succ, hv0, hv1, hv2, hv3, hv4, hv5, hv6]
      clear hR hv0 hv1 hv2 hv3 hv4 hv5 hv6
      go_wp2
      go_roundw
      case rel =>
        have hz := C2_next (x := s) DD.out HS.out HO.out HO'.out HF0.out HF1.out (by rw [HN.out]; exact HOW.out) HF3.out (by rw [HN.out, ← HVB.out]; exact hW) (fun i hi => hL i hi)
        obtain ⟨A', c', g1, g2, g3, g4, g5⟩ := hz
        rw [HVS.out] at g1 g2 g3
        refine ⟨k + 1, ts ++ [s], Av, A', cv, c', by go_num, by have := HM.out; omega, ?_, by simp [HLN.out], g1, g2, g3, g4, g5⟩
        rw [HTS.out, List.take_succ_eq_append_getElem (by have := HM.out; omega)]
        have := HX.out
        rw [List.getElem?_eq_getElem (by have := HM.out; omega)] at this
        rw [Option.some.inj this]
      case measure => simp [intOf]; omega
    · have t1 : decide ((k : Int) < (m : Int)) = false := by simp; omega
      have HE := Lib.hid (show ts = l from by rw [HTS.out, List.take_of_length_le (by omega)])
      have d0 : wr.cell? ⟨w.heap.size + 2, 0, none⟩ = some (.slice Av vs.length cv) := DD.out.out.cell 0
      have d1 : wr.cell? ⟨w.heap.size + 2, 1, none⟩ = some (.slice At ts.length ct) := DD.out.out.cell 1
      have x0 : wr.cell? ⟨w.heap.size + 1, 0, none⟩ = some (.slice none 0 0) := DD.out.res.cell 0
      have x1 : wr.cell? ⟨w.heap.size + 1, 1, none⟩ = some (.slice none 0 0) := DD.out.res.cell 1
      have x2 : wr.frozen? ⟨w.heap.size + 1, 0, none⟩ = false := DD.out.res.frozen 0
      have x3 : wr.frozen? ⟨w.heap.size + 1, 1, none⟩ = false := DD.out.res.frozen 1
      go_wp2
      have hz : Upd (fun k => k = w.heap.size + 1) wr ((wr.setCell ⟨w.heap.size + 1, 0, none⟩ (.slice Av vs.length cv)).setCell ⟨w.heap.size + 1, 1, none⟩ (.slice At ts.length ct)) := ((Upd.refl (fun k => k = w.heap.size + 1) wr).setCell (p := ⟨w.heap.size + 1, 0, none⟩) (.inl rfl) _).setCell (p := ⟨w.heap.size + 1, 1, none⟩) (.inl rfl) _
      refine bodyPost_ret (results_cell_row Try.results15 _ _ (w.heap.size + 1) 25 #[.slice Av vs.length cv, .slice At ts.length ct] (0, 0) _ rfl ((DD.out.res.put 0 (.slice Av vs.length cv)).put 1 (.slice At ts.length ct)) Try.underlying25 rfl (by rw [view_size]; rfl)) rfl ?_
      have ev := HVS.out
      have et := HE.out
      subst ev
      subst et
      have hzT : UpdT [25] wr ((wr.setCell ⟨w.heap.size + 1, 0, none⟩ (.slice Av ([] : List SignedS).length cv)).setCell ⟨w.heap.size + 1, 1, none⟩ (.slice At ts.length ct)) := UpdT.of hz (fun k f => by rw [show k = w.heap.size + 1 from f]; exact DD.out.res.tyf (by simp))
      exact ⟨Av, At, cv, ct, rfl, HS.out.updT hzT (by decide) (by decide), HO.out, HT'.out.updT hzT (by decide) (by decide), HO'.out, DD.out.upd.trans hz (fun k hk e => by have e : k = w.heap.size + 1 := e; omega)⟩
end

section
open Go.RowKit
end

section
open Go.RowKit

/-- The first k elements are the same. -/
def SameTo {α : Type} (l m : List α) (k : Nat) : Prop := ∀ j, j < k → l[j]? = m[j]?
theorem SameTo.next {α : Type} {l m : List α} {k : Nat} {x y : α} (h : SameTo l m k) (hx : l[k]? = some x) (hy : m[k]? = some y) (e : x = y) : SameTo l m (k + 1) := fun j hj => by
  rcases Nat.lt_or_ge j k with h1 | h1
  · exact h j h1
  · obtain rfl : j = k := by omega
    rw [hx, hy, e]
theorem SameTo.end_ {α : Type} {l m : List α} {k : Nat} (h : SameTo l m k) (hl : l.length = m.length) (hk : l.length ≤ k) : l = m := by
  apply List.ext_getElem?
  intro i
  rcases Nat.lt_or_ge i k with h1 | h1
  · exact h i h1
  · rw [List.getElem?_eq_none (by omega), List.getElem?_eq_none (by omega)]
theorem same_no {α : Type} {l m : List α} {k : Nat} {x y : α} (hx : l[k]? = some x) (hy : m[k]? = some y) (e : x ≠ y) : l ≠ m := fun h => e (by rw [h, hy] at hx; exact (Option.some.inj hx).symm)
def SameRel {α : Type} (l m : List α) (W : World) (i : Value) (wr : World) : Prop := ∃ k : Nat, i = .int .i64 (k : Int) ∧ k ≤ l.length ∧ SameTo l m k ∧ Upd NoF W wr

set_option maxRecDepth 100000 in
set_option maxHeartbeats 4000000 in
theorem SameSigned_ne {s t : SignedS} {u v : Value} (hf : s.vote.Fit) (hg : t.vote.Fit) (w : World) (hu : Rd w 1 u s.sig.length (s.sig.map byteV)) (hv : Rd w 1 v t.sig.length (t.sig.map byteV)) (he : s.vote ≠ t.vote) : Calls Try.prog 26 #[.agg (rowS s u).toArray, .agg (rowS t v).toArray] w fun e w' => e = .returned (.bool (decide (s = t))) ∧ Upd NoF w w' := by
  have HZ := Lib.hid (show decide (s = t) = false from by rw [decide_eq_false_iff_not]; intro e; exact he (by rw [e]))
  have hne : ∀ w, (binOp .eql 35 (voteV s.vote) (voteV t.vote)).run Try.prog w = .ok (.bool false) w := fun w => by rw [vote_eql _ _ hf hg]; simp [he]
  obtain ⟨A, c, rfl, hlc, hcm⟩ := hu.slice
  obtain ⟨B, d, rfl, hld, hdm⟩ := hv.slice
  obtain ⟨za, hza⟩ : ∃ z, voteV s.vote = .agg z := ⟨_, rfl⟩
  obtain ⟨zb, hzb⟩ : ∃ z, voteV t.vote = .agg z := ⟨_, rfl⟩
  rw [hza, hzb] at hne
  have HZA := Lib.hid hza
  have HZB := Lib.hid hzb
  have HF := Lib.hid hf
  have HG := Lib.hid hg
  obtain ⟨ra, hra⟩ : ∃ row, (rowS s (.slice A s.sig.length c)).toArray = row := ⟨_, rfl⟩
  obtain ⟨rb, hrb⟩ : ∃ row, (rowS t (.slice B t.sig.length d)).toArray = row := ⟨_, rfl⟩
  rw [hra, hrb]
  have HRA := Lib.hid hra
  have HRB := Lib.hid hrb
  have RA := Lib.hid (show ∀ W, Blk W w.heap.size 38 ra → W.rangeAt w.heap.size 0 (rowS s (.slice A s.sig.length c)) from fun W h => by rw [← HRA.out] at h; exact range_blk h)
  have RB := Lib.hid (show ∀ W, Blk W (w.heap.size + 1) 38 rb → W.rangeAt (w.heap.size + 1) 0 (rowS t (.slice B t.sig.length d)) from fun W h => by rw [← HRB.out] at h; exact range_blk h)
  have ba : Blk ((w.alloc (.cells ra 38)).alloc (.cells rb 38)) w.heap.size 38 ra := (Blk.new w 38 ra).alloc _
  have bb : Blk ((w.alloc (.cells ra 38)).alloc (.cells rb 38)) (w.heap.size + 1) 38 rb := by have := Blk.new (w.alloc (.cells ra 38)) 38 rb; simpa using this
  have BA := Lib.hid ba
  have BB := Lib.hid bb
  clear hf hg hu hv hza hzb hra hrb hcm hdm ba bb he
  generalize decide (s = t) = Z at HZ ⊢
  go_enter Try.func26, Try.ntmps26
  go_wp2_with (first
    | (refine wpList_load_vote' rfl (.tmp 5) rfl w.heap.size 0 rfl s.vote HF.out (range_vote (RA.out _ BA.out)) (.agg za) HZA.out ?_)
    | (refine wpList_load_vote' rfl (.tmp 7) rfl (w.heap.size + 1) 0 rfl t.vote HG.out (range_vote (RB.out _ BB.out)) (.agg zb) HZB.out ?_))
  go_ret
  exact ⟨retb HZ.out.symm, ((Upd.refl NoF w).alloc _).alloc _⟩

set_option maxRecDepth 100000 in
set_option maxHeartbeats 4000000 in
theorem SameSigned_eq {s t : SignedS} {u v : Value} (hf : s.vote.Fit) (hg : t.vote.Fit) (w : World) (hu : Rd w 1 u s.sig.length (s.sig.map byteV)) (hv : Rd w 1 v t.sig.length (t.sig.map byteV)) (he : s.vote = t.vote) : Calls Try.prog 26 #[.agg (rowS s u).toArray, .agg (rowS t v).toArray] w fun e w' => e = .returned (.bool (decide (s = t))) ∧ Upd NoF w w' := by
  have HZ := Lib.hid (show decide (s = t) = (s.sig == t.sig) from by
    rw [Bool.eq_iff_iff, decide_eq_true_eq, beq_iff_eq]
    exact ⟨fun e => by rw [e], fun e => SignedS.ext' he e⟩)
  have hne : ∀ w, (binOp .eql 35 (voteV s.vote) (voteV t.vote)).run Try.prog w = .ok (.bool true) w := fun w => by rw [vote_eql _ _ hf hg]; simp [he]
  obtain ⟨A, c, rfl, hlc, hcm⟩ := hu.slice
  obtain ⟨B, d, rfl, hld, hdm⟩ := hv.slice
  obtain ⟨za, hza⟩ : ∃ z, voteV s.vote = .agg z := ⟨_, rfl⟩
  obtain ⟨zb, hzb⟩ : ∃ z, voteV t.vote = .agg z := ⟨_, rfl⟩
  rw [hza, hzb] at hne
  have HZA := Lib.hid hza
  have HZB := Lib.hid hzb
  have HF := Lib.hid hf
  have HG := Lib.hid hg
  obtain ⟨ra, hra⟩ : ∃ row, (rowS s (.slice A s.sig.length c)).toArray = row := ⟨_, rfl⟩
  obtain ⟨rb, hrb⟩ : ∃ row, (rowS t (.slice B t.sig.length d)).toArray = row := ⟨_, rfl⟩
  rw [hra, hrb]
  have HRA := Lib.hid hra
  have HRB := Lib.hid hrb
  have RA := Lib.hid (show ∀ W, Blk W w.heap.size 38 ra → W.rangeAt w.heap.size 0 (rowS s (.slice A s.sig.length c)) from fun W h => by rw [← HRA.out] at h; exact range_blk h)
  have RB := Lib.hid (show ∀ W, Blk W (w.heap.size + 1) 38 rb → W.rangeAt (w.heap.size + 1) 0 (rowS t (.slice B t.sig.length d)) from fun W h => by rw [← HRB.out] at h; exact range_blk h)
  have ba : Blk ((w.alloc (.cells ra 38)).alloc (.cells rb 38)) w.heap.size 38 ra := (Blk.new w 38 ra).alloc _
  have bb : Blk ((w.alloc (.cells ra 38)).alloc (.cells rb 38)) (w.heap.size + 1) 38 rb := by have := Blk.new (w.alloc (.cells ra 38)) 38 rb; simpa using this
  have BA := Lib.hid ba
  have BB := Lib.hid bb
  have ka := run_str (hu.keep (((Upd.refl NoF w).alloc (.cells ra 38)).alloc (.cells rb 38)))
  have kb := run_str (hv.keep (((Upd.refl NoF w).alloc (.cells ra 38)).alloc (.cells rb 38)))
  have c1 : ((w.alloc (.cells ra 38)).alloc (.cells rb 38)).cell? ⟨w.heap.size, 22, none⟩ = some (.slice A s.sig.length c) := by have := range_sig hf (RA.out _ ba); simpa using this
  have c2 : ((w.alloc (.cells ra 38)).alloc (.cells rb 38)).cell? ⟨w.heap.size + 1, 22, none⟩ = some (.slice B t.sig.length d) := by have := range_sig hg (RB.out _ bb); simpa using this
  clear hf hg hu hv hza hzb hra hrb hcm hdm ba bb he
  generalize decide (s = t) = Z at HZ ⊢
  go_enter Try.func26, Try.ntmps26
  go_wp2_with (first
    | (refine wpList_load_vote' rfl (.tmp 5) rfl w.heap.size 0 rfl s.vote HF.out (range_vote (RA.out _ BA.out)) (.agg za) HZA.out ?_)
    | (refine wpList_load_vote' rfl (.tmp 7) rfl (w.heap.size + 1) 0 rfl t.vote HG.out (range_vote (RB.out _ BB.out)) (.agg zb) HZB.out ?_))
  go_ret
  exact ⟨retb HZ.out.symm, ((Upd.refl NoF w).alloc _).alloc _⟩

theorem SameSigned_any {s t : SignedS} {u v : Value} (hf : s.vote.Fit) (hg : t.vote.Fit) (w : World) (hu : Rd w 1 u s.sig.length (s.sig.map byteV)) (hv : Rd w 1 v t.sig.length (t.sig.map byteV)) : Calls Try.prog 26 #[.agg (rowS s u).toArray, .agg (rowS t v).toArray] w fun e w' => e = .returned (.bool (decide (s = t))) ∧ Upd NoF w w' := by
  by_cases he : s.vote = t.vote
  · exact SameSigned_eq hf hg w hu hv he
  · exact SameSigned_ne hf hg w hu hv he

set_option maxRecDepth 100000 in
set_option maxHeartbeats 8000000 in
theorem SameTexts_any {w : World} {a b : Value} {l m : List (List UInt8)} (ha : TxR w a l) (hb : TxR w b m) (_hs1 : l.length ≤ 1099511627776) (_hs2 : m.length ≤ 1099511627776) : Calls Try.prog 27 #[a, b] w fun e w' => e = .returned (.bool (decide (l = m))) ∧ Upd NoF w w' := by
  obtain ⟨A, ca, rfl, hlc, hcm⟩ := ha.form
  obtain ⟨B, cb, rfl, hld, hdm⟩ := hb.form
  have HA := Lib.hid ha
  have HB := Lib.hid hb
  obtain ⟨n, hn⟩ : ∃ n, l.length = n := ⟨_, rfl⟩
  have HN := Lib.hid hn
  by_cases hlen : l.length = m.length
  rotate_left
  · have t0 : decide ((l.length : Int) = (m.length : Int)) = false := by simp; omega
    have HZ := Lib.hid (show decide (l = m) = false from by rw [decide_eq_false_iff_not]; intro e; exact hlen (by rw [e]))
    have t0' : decide (l.length = m.length) = false := by simp; omega
    generalize decide (l = m) = Z at HZ ⊢
    clear ha hb HA HB hn HN
    go_enter Try.func27, Try.ntmps27
    go_wp2
    go_ret
    exact ⟨retb HZ.out.symm, Upd.refl _ _⟩
  have HL := Lib.hid hlen
  rw [← hlen] at _hs2 hld HB ⊢
  rw [hn] at hlc _hs2 hld HA HB ⊢
  clear ha hb hlen hn
  generalize hZ : decide (l = m) = Z at ⊢
  have HZ := Lib.hid hZ
  clear hZ
  go_enter Try.func27, Try.ntmps27
  go_wp2
  go_loopw [5] (fun i wr => SameRel l m w i wr) (fun i _ => n - (intOf i).toNat)
  case atStart => exact ⟨0, rfl, by omega, fun j h => absurd h (by omega), Upd.refl _ _⟩
  case round =>
    obtain ⟨k, rfl, hk, hch, hu⟩ := hrel
    have hnn := HN.out
    have hll := HL.out
    have HU := Lib.hid hu
    by_cases hlt : k < n
    · obtain ⟨s, hx⟩ : ∃ x, l[k]? = some x := ⟨_, List.getElem?_eq_getElem (by omega)⟩
      obtain ⟨t, hy⟩ : ∃ x, m[k]? = some x := ⟨_, List.getElem?_eq_getElem (by omega)⟩
      have t1 : decide ((k : Int) < (n : Int)) = true := by simp; omega
      by_cases he : s = t
      · have GEQ := Lib.hid (show (s == t) = true from by simp [he])
        have HCH := Lib.hid (hch.next hx hy he)
        obtain ⟨g, o, Au, cu, rfl, r1, r2, -⟩ := (HA.out.keep hu).at_ hx
        obtain ⟨g2, o2, Av, cv, rfl, r3, r4, -⟩ := (HB.out.keep hu).at_ hy
        have XA := Lib.hid (show wr.drew.cell? ⟨g, o + k, none⟩ = some (.slice Au s.length cu) from r1)
        have XB := Lib.hid (show wr.drew.cell? ⟨g2, o2 + k, none⟩ = some (.slice Av t.length cv) from r3)
        have STA := Lib.hid (show ∀ wq, Upd NoF wr.drew wq → (convert 36 9 (.slice Au s.length cu)).run Try.prog wq = .ok (strV s) wq from fun wq hq => run_str (Rd.keep r2 ((((Upd.refl NoF wr).drew)).trans hq (fun _ _ h => h))))
        have STB := Lib.hid (show ∀ wq, Upd NoF wr.drew wq → (convert 36 9 (.slice Av t.length cv)).run Try.prog wq = .ok (strV t) wq from fun wq hq => run_str (Rd.keep r4 ((((Upd.refl NoF wr).drew)).trans hq (fun _ _ h => h))))
        clear r1 r2 r3 r4
        clear hx hy hch he hu hnn hll
        go_wp2
        refine wp_region_rgw (rgR [isV (.slice (some ⟨g, o, none⟩) n ca), isV (.int .i64 (k : Int)), isV (.pointer (some ⟨g, o + k, none⟩)), isV (.slice Au s.length cu), isV (strV s), isV (.slice (some ⟨g2, o2, none⟩) n cb), isV (.int .i64 (k : Int)), isV (.pointer (some ⟨g2, o2 + k, none⟩)), isV (.slice Av t.length cv), isV (strV t), isV (.bool false)]) (fun w w' => Upd NoF w w') (fun _ wq => Upd NoF wr.drew wq) (by kernel_rfl) (by kernel_rfl) (by kernel_rfl) (by rfl) (fun w => Upd.refl _ _) (rgR_keep (by
          intro p hp; simp only [List.mem_cons, List.not_mem_nil, or_false] at hp; rcases hp with rfl | rfl | rfl | rfl | rfl | rfl | rfl | rfl | rfl | rfl | rfl <;> first | exact stb_isV _ | exact stb_any)) (Upd.refl _ _) ?_ ?_
        · refine ⟨?_, ?_, ?_, ?_, ?_, ?_, ?_, ?_, ?_, ?_, ?_, trivial⟩
          · refine fun ρ w' L hW hLi hcl hd hdep hext hc hg hf => ?_
            rw [if_pos (show wantedR _ _ _ = true from rfl)]
            have e0 : ρ (.tmp 0) = .slice (some ⟨g, o, none⟩) n ca := hext 0 (by kernel_rfl)
            clear hdep hext hcl
            have HW := Lib.hid hW
            clear hW
            unfold OpDone
            go_simp
            exact ⟨rfl, Upd.refl _ _, HW.out⟩
          · refine fun ρ w' L hW hLi hcl hd hdep hext hc hg hf => ?_
            rw [if_pos (show wantedR _ _ _ = true from rfl)]
            have e5 : ρ (.tmp 5) = .int .i64 (k : Int) := hext 5 (by kernel_rfl)
            clear hdep hext hcl
            have HW := Lib.hid hW
            clear hW
            unfold OpDone
            go_simp
            exact ⟨rfl, Upd.refl _ _, HW.out⟩
          · refine fun ρ w' L hW hLi hcl hd hdep hext hc hg hf => ?_
            rw [if_pos (show wantedR _ _ _ = true from rfl)]
            have e17 : ρ (.tmp 17) = .slice (some ⟨g, o, none⟩) n ca := hdep 0 _ rfl (by kernel_rfl)
            have e18 : ρ (.tmp 18) = .int .i64 (k : Int) := hdep 1 _ rfl (by kernel_rfl)
            have q0 : (0 : Int) ≤ (k : Int) := by omega
            have q1 : (k : Int) < (n : Int) := by omega
            have q2 : k < n := by omega
            clear hdep hext hcl
            have HW := Lib.hid hW
            clear hW
            unfold OpDone
            go_simp
            exact ⟨rfl, Upd.refl _ _, HW.out⟩
          · refine fun ρ w' L hW hLi hcl hd hdep hext hc hg hf => ?_
            rw [if_pos (show wantedR _ _ _ = true from rfl)]
            have e19 : ρ (.tmp 19) = .pointer (some ⟨g, o + k, none⟩) := hdep 2 _ rfl (by kernel_rfl)
            have yy : w'.cell? ⟨g, o + k, none⟩ = some (.slice Au s.length cu) := hW.cell XA.out (fun h => h)
            clear hdep hext hcl
            have HW := Lib.hid hW
            clear hW
            unfold OpDone
            go_simp
            exact ⟨rfl, Upd.refl _ _, HW.out⟩
          · refine fun ρ w' L hW hLi hcl hd hdep hext hc hg hf => ?_
            rw [if_pos (show wantedR _ _ _ = true from rfl)]
            have e20 : ρ (.tmp 20) = .slice Au s.length cu := hdep 3 _ rfl (by kernel_rfl)
            have kk := STA.out w' hW
            clear hdep hext hcl
            have HW := Lib.hid hW
            clear hW
            unfold OpDone
            go_simp
            exact ⟨rfl, Upd.refl _ _, HW.out⟩
          · refine fun ρ w' L hW hLi hcl hd hdep hext hc hg hf => ?_
            rw [if_pos (show wantedR _ _ _ = true from rfl)]
            have e1 : ρ (.tmp 1) = .slice (some ⟨g2, o2, none⟩) n cb := hext 1 (by kernel_rfl)
            clear hdep hext hcl
            have HW := Lib.hid hW
            clear hW
            unfold OpDone
            go_simp
            exact ⟨rfl, Upd.refl _ _, HW.out⟩
          · refine fun ρ w' L hW hLi hcl hd hdep hext hc hg hf => ?_
            rw [if_pos (show wantedR _ _ _ = true from rfl)]
            have e5 : ρ (.tmp 5) = .int .i64 (k : Int) := hext 5 (by kernel_rfl)
            clear hdep hext hcl
            have HW := Lib.hid hW
            clear hW
            unfold OpDone
            go_simp
            exact ⟨rfl, Upd.refl _ _, HW.out⟩
          · refine fun ρ w' L hW hLi hcl hd hdep hext hc hg hf => ?_
            rw [if_pos (show wantedR _ _ _ = true from rfl)]
            have e22 : ρ (.tmp 22) = .slice (some ⟨g2, o2, none⟩) n cb := hdep 5 _ rfl (by kernel_rfl)
            have e23 : ρ (.tmp 23) = .int .i64 (k : Int) := hdep 6 _ rfl (by kernel_rfl)
            have q0 : (0 : Int) ≤ (k : Int) := by omega
            have q1 : (k : Int) < (n : Int) := by omega
            have q2 : k < n := by omega
            clear hdep hext hcl
            have HW := Lib.hid hW
            clear hW
            unfold OpDone
            go_simp
            exact ⟨rfl, Upd.refl _ _, HW.out⟩
          · refine fun ρ w' L hW hLi hcl hd hdep hext hc hg hf => ?_
            rw [if_pos (show wantedR _ _ _ = true from rfl)]
            have e24 : ρ (.tmp 24) = .pointer (some ⟨g2, o2 + k, none⟩) := hdep 7 _ rfl (by kernel_rfl)
            have yy : w'.cell? ⟨g2, o2 + k, none⟩ = some (.slice Av t.length cv) := hW.cell XB.out (fun h => h)
            clear hdep hext hcl
            have HW := Lib.hid hW
            clear hW
            unfold OpDone
            go_simp
            exact ⟨rfl, Upd.refl _ _, HW.out⟩
          · refine fun ρ w' L hW hLi hcl hd hdep hext hc hg hf => ?_
            rw [if_pos (show wantedR _ _ _ = true from rfl)]
            have e25 : ρ (.tmp 25) = .slice Av t.length cv := hdep 8 _ rfl (by kernel_rfl)
            have kk := STB.out w' hW
            clear hdep hext hcl
            have HW := Lib.hid hW
            clear hW
            unfold OpDone
            go_simp
            exact ⟨rfl, Upd.refl _ _, HW.out⟩
          · refine fun ρ w' L hW hLi hcl hd hdep hext hc hg hf => ?_
            rw [if_pos (show wantedR _ _ _ = true from rfl)]
            have e21 : ρ (.tmp 21) = strV s := hdep 4 _ rfl (by kernel_rfl)
            have e26 : ρ (.tmp 26) = strV t := hdep 9 _ rfl (by kernel_rfl)
            have gg := GEQ.out
            clear hdep hext hcl
            have HW := Lib.hid hW
            clear hW
            unfold OpDone
            go_simp
            exact ⟨rfl, Upd.refl _ _, HW.out⟩
        intro vs W8 L8 hL8 hW8 hR
        have hv0 : vs 0 = .slice (some ⟨g, o, none⟩) n ca := hR 0 _ rfl
        have hv1 : vs 1 = .int .i64 (k : Int) := hR 1 _ rfl
        have hv2 : vs 2 = .pointer (some ⟨g, o + k, none⟩) := hR 2 _ rfl
        have hv3 : vs 3 = .slice Au s.length cu := hR 3 _ rfl
        have hv4 : vs 4 = strV s := hR 4 _ rfl
        have hv5 : vs 5 = .slice (some ⟨g2, o2, none⟩) n cb := hR 5 _ rfl
        have hv6 : vs 6 = .int .i64 (k : Int) := hR 6 _ rfl
        have hv7 : vs 7 = .pointer (some ⟨g2, o2 + k, none⟩) := hR 7 _ rfl
        have hv8 : vs 8 = .slice Av t.length cv := hR 8 _ rfl
        have hv9 : vs 9 = strV t := hR 9 _ rfl
        have hv10 : vs 10 = .bool false := hR 10 _ rfl
        simp only [putAll, Act.put, List.setIfInBounds_toArray, List.set_cons_zero, List.set_cons_succ, hv0, hv1, hv2, hv3, hv4, hv5, hv6, hv7, hv8, hv9, hv10]
        clear hR hv0 hv1 hv2 hv3 hv4 hv5 hv6 hv7 hv8 hv9 hv10
        have U8 := Lib.hid (show Upd NoF w W8 from (HU.out.drew).trans hW8 (fun _ _ h => h))
        clear hW8 hL8
        go_wp2
        go_roundw
        case rel => exact ⟨k + 1, by go_num, by have := HN.out; omega, HCH.out, U8.out⟩
        case measure => simp [intOf]; omega
      · have GEQ := Lib.hid (show (s == t) = false from by simp [he])
        have HCH := Lib.hid (same_no hx hy he)
        obtain ⟨g, o, Au, cu, rfl, r1, r2, -⟩ := (HA.out.keep hu).at_ hx
        obtain ⟨g2, o2, Av, cv, rfl, r3, r4, -⟩ := (HB.out.keep hu).at_ hy
        have XA := Lib.hid (show wr.drew.cell? ⟨g, o + k, none⟩ = some (.slice Au s.length cu) from r1)
        have XB := Lib.hid (show wr.drew.cell? ⟨g2, o2 + k, none⟩ = some (.slice Av t.length cv) from r3)
        have STA := Lib.hid (show ∀ wq, Upd NoF wr.drew wq → (convert 36 9 (.slice Au s.length cu)).run Try.prog wq = .ok (strV s) wq from fun wq hq => run_str (Rd.keep r2 ((((Upd.refl NoF wr).drew)).trans hq (fun _ _ h => h))))
        have STB := Lib.hid (show ∀ wq, Upd NoF wr.drew wq → (convert 36 9 (.slice Av t.length cv)).run Try.prog wq = .ok (strV t) wq from fun wq hq => run_str (Rd.keep r4 ((((Upd.refl NoF wr).drew)).trans hq (fun _ _ h => h))))
        clear r1 r2 r3 r4
        clear hx hy hch he hu hnn hll
        go_wp2
        refine wp_region_rgw (rgR [isV (.slice (some ⟨g, o, none⟩) n ca), isV (.int .i64 (k : Int)), isV (.pointer (some ⟨g, o + k, none⟩)), isV (.slice Au s.length cu), isV (strV s), isV (.slice (some ⟨g2, o2, none⟩) n cb), isV (.int .i64 (k : Int)), isV (.pointer (some ⟨g2, o2 + k, none⟩)), isV (.slice Av t.length cv), isV (strV t), isV (.bool true)]) (fun w w' => Upd NoF w w') (fun _ wq => Upd NoF wr.drew wq) (by kernel_rfl) (by kernel_rfl) (by kernel_rfl) (by rfl) (fun w => Upd.refl _ _) (rgR_keep (by
          intro p hp; simp only [List.mem_cons, List.not_mem_nil, or_false] at hp; rcases hp with rfl | rfl | rfl | rfl | rfl | rfl | rfl | rfl | rfl | rfl | rfl <;> first | exact stb_isV _ | exact stb_any)) (Upd.refl _ _) ?_ ?_
        · refine ⟨?_, ?_, ?_, ?_, ?_, ?_, ?_, ?_, ?_, ?_, ?_, trivial⟩
          · refine fun ρ w' L hW hLi hcl hd hdep hext hc hg hf => ?_
            rw [if_pos (show wantedR _ _ _ = true from rfl)]
            have e0 : ρ (.tmp 0) = .slice (some ⟨g, o, none⟩) n ca := hext 0 (by kernel_rfl)
            clear hdep hext hcl
            have HW := Lib.hid hW
            clear hW
            unfold OpDone
            go_simp
            exact ⟨rfl, Upd.refl _ _, HW.out⟩
          · refine fun ρ w' L hW hLi hcl hd hdep hext hc hg hf => ?_
            rw [if_pos (show wantedR _ _ _ = true from rfl)]
            have e5 : ρ (.tmp 5) = .int .i64 (k : Int) := hext 5 (by kernel_rfl)
            clear hdep hext hcl
            have HW := Lib.hid hW
            clear hW
            unfold OpDone
            go_simp
            exact ⟨rfl, Upd.refl _ _, HW.out⟩
          · refine fun ρ w' L hW hLi hcl hd hdep hext hc hg hf => ?_
            rw [if_pos (show wantedR _ _ _ = true from rfl)]
            have e17 : ρ (.tmp 17) = .slice (some ⟨g, o, none⟩) n ca := hdep 0 _ rfl (by kernel_rfl)
            have e18 : ρ (.tmp 18) = .int .i64 (k : Int) := hdep 1 _ rfl (by kernel_rfl)
            have q0 : (0 : Int) ≤ (k : Int) := by omega
            have q1 : (k : Int) < (n : Int) := by omega
            have q2 : k < n := by omega
            clear hdep hext hcl
            have HW := Lib.hid hW
            clear hW
            unfold OpDone
            go_simp
            exact ⟨rfl, Upd.refl _ _, HW.out⟩
          · refine fun ρ w' L hW hLi hcl hd hdep hext hc hg hf => ?_
            rw [if_pos (show wantedR _ _ _ = true from rfl)]
            have e19 : ρ (.tmp 19) = .pointer (some ⟨g, o + k, none⟩) := hdep 2 _ rfl (by kernel_rfl)
            have yy : w'.cell? ⟨g, o + k, none⟩ = some (.slice Au s.length cu) := hW.cell XA.out (fun h => h)
            clear hdep hext hcl
            have HW := Lib.hid hW
            clear hW
            unfold OpDone
            go_simp
            exact ⟨rfl, Upd.refl _ _, HW.out⟩
          · refine fun ρ w' L hW hLi hcl hd hdep hext hc hg hf => ?_
            rw [if_pos (show wantedR _ _ _ = true from rfl)]
            have e20 : ρ (.tmp 20) = .slice Au s.length cu := hdep 3 _ rfl (by kernel_rfl)
            have kk := STA.out w' hW
            clear hdep hext hcl
            have HW := Lib.hid hW
            clear hW
            unfold OpDone
            go_simp
            exact ⟨rfl, Upd.refl _ _, HW.out⟩
          · refine fun ρ w' L hW hLi hcl hd hdep hext hc hg hf => ?_
            rw [if_pos (show wantedR _ _ _ = true from rfl)]
            have e1 : ρ (.tmp 1) = .slice (some ⟨g2, o2, none⟩) n cb := hext 1 (by kernel_rfl)
            clear hdep hext hcl
            have HW := Lib.hid hW
            clear hW
            unfold OpDone
            go_simp
            exact ⟨rfl, Upd.refl _ _, HW.out⟩
          · refine fun ρ w' L hW hLi hcl hd hdep hext hc hg hf => ?_
            rw [if_pos (show wantedR _ _ _ = true from rfl)]
            have e5 : ρ (.tmp 5) = .int .i64 (k : Int) := hext 5 (by kernel_rfl)
            clear hdep hext hcl
            have HW := Lib.hid hW
            clear hW
            unfold OpDone
            go_simp
            exact ⟨rfl, Upd.refl _ _, HW.out⟩
          · refine fun ρ w' L hW hLi hcl hd hdep hext hc hg hf => ?_
            rw [if_pos (show wantedR _ _ _ = true from rfl)]
            have e22 : ρ (.tmp 22) = .slice (some ⟨g2, o2, none⟩) n cb := hdep 5 _ rfl (by kernel_rfl)
            have e23 : ρ (.tmp 23) = .int .i64 (k : Int) := hdep 6 _ rfl (by kernel_rfl)
            have q0 : (0 : Int) ≤ (k : Int) := by omega
            have q1 : (k : Int) < (n : Int) := by omega
            have q2 : k < n := by omega
            clear hdep hext hcl
            have HW := Lib.hid hW
            clear hW
            unfold OpDone
            go_simp
            exact ⟨rfl, Upd.refl _ _, HW.out⟩
          · refine fun ρ w' L hW hLi hcl hd hdep hext hc hg hf => ?_
            rw [if_pos (show wantedR _ _ _ = true from rfl)]
            have e24 : ρ (.tmp 24) = .pointer (some ⟨g2, o2 + k, none⟩) := hdep 7 _ rfl (by kernel_rfl)
            have yy : w'.cell? ⟨g2, o2 + k, none⟩ = some (.slice Av t.length cv) := hW.cell XB.out (fun h => h)
            clear hdep hext hcl
            have HW := Lib.hid hW
            clear hW
            unfold OpDone
            go_simp
            exact ⟨rfl, Upd.refl _ _, HW.out⟩
          · refine fun ρ w' L hW hLi hcl hd hdep hext hc hg hf => ?_
            rw [if_pos (show wantedR _ _ _ = true from rfl)]
            have e25 : ρ (.tmp 25) = .slice Av t.length cv := hdep 8 _ rfl (by kernel_rfl)
            have kk := STB.out w' hW
            clear hdep hext hcl
            have HW := Lib.hid hW
            clear hW
            unfold OpDone
            go_simp
            exact ⟨rfl, Upd.refl _ _, HW.out⟩
          · refine fun ρ w' L hW hLi hcl hd hdep hext hc hg hf => ?_
            rw [if_pos (show wantedR _ _ _ = true from rfl)]
            have e21 : ρ (.tmp 21) = strV s := hdep 4 _ rfl (by kernel_rfl)
            have e26 : ρ (.tmp 26) = strV t := hdep 9 _ rfl (by kernel_rfl)
            have gg := GEQ.out
            clear hdep hext hcl
            have HW := Lib.hid hW
            clear hW
            unfold OpDone
            go_simp
            exact ⟨rfl, Upd.refl _ _, HW.out⟩
        intro vs W8 L8 hL8 hW8 hR
        have hv0 : vs 0 = .slice (some ⟨g, o, none⟩) n ca := hR 0 _ rfl
        have hv1 : vs 1 = .int .i64 (k : Int) := hR 1 _ rfl
        have hv2 : vs 2 = .pointer (some ⟨g, o + k, none⟩) := hR 2 _ rfl
        have hv3 : vs 3 = .slice Au s.length cu := hR 3 _ rfl
        have hv4 : vs 4 = strV s := hR 4 _ rfl
        have hv5 : vs 5 = .slice (some ⟨g2, o2, none⟩) n cb := hR 5 _ rfl
        have hv6 : vs 6 = .int .i64 (k : Int) := hR 6 _ rfl
        have hv7 : vs 7 = .pointer (some ⟨g2, o2 + k, none⟩) := hR 7 _ rfl
        have hv8 : vs 8 = .slice Av t.length cv := hR 8 _ rfl
        have hv9 : vs 9 = strV t := hR 9 _ rfl
        have hv10 : vs 10 = .bool true := hR 10 _ rfl
        simp only [putAll, Act.put, List.setIfInBounds_toArray, List.set_cons_zero, List.set_cons_succ, hv0, hv1, hv2, hv3, hv4, hv5, hv6, hv7, hv8, hv9, hv10]
        clear hR hv0 hv1 hv2 hv3 hv4 hv5 hv6 hv7 hv8 hv9 hv10
        have U8 := Lib.hid (show Upd NoF w W8 from (HU.out.drew).trans hW8 (fun _ _ h => h))
        clear hW8 hL8
        go_wp2
        go_ret
        exact ⟨retb (by rw [← HZ.out, decide_eq_false HCH.out]), U8.out⟩
    · have t1 : decide ((k : Int) < (n : Int)) = false := by simp; omega
      have HCV := Lib.hid (hch.end_ hll (by omega))
      clear hnn hch hu hll
      go_wp2
      go_ret
      exact ⟨retb (by rw [← HZ.out, decide_eq_true HCV.out]), HU.out⟩
end
end Go.Proofs.Ytbgificdilpdcaa
