/- snapshot.Clone of any view. Conditions: sizes. -/
import Derived.Test.YtbgificdilpdcaaJn23
namespace Go.Proofs.Ytbgificdilpdcaa
open Go.RowKit

theorem od_buildSlice_row {P : Program} {o : Oper} {w : World} {ρ : Operand → Value} {post : Value → World → Prop} (ty e : TypeId) (x : Operand) (ho : o.op = .buildSlice ty 1 #[(0, x)]) (v : Value) (hx : ρ x = v) (cells : Array Value) (hr : (Instr.buildSlice ty 1 #[(0, v)]).run P w = .ok (.slice (some ⟨w.heap.size, 0, none⟩) 1 1) (w.alloc (.cells cells e)))
    (hp : post (.slice (some ⟨w.heap.size, 0, none⟩) 1 1) (w.alloc (.cells cells e))) : OpDone P o ρ w post := by
  unfold OpDone execOp
  simp only [ho, hx, List.map_toArray, List.map_cons, List.map_nil, Sem.run_bind, Sem.run_pure, hr, Result.andThen_ok]
  exact hp

/-- Where the region stands that clones a vote and appends it. -/
structure VcPh (w0 : World) (Vb : Nat) (vb : Value) (At : Option Addr) (n ct : Nat) (R5 : Value → World → Prop) (L : Nat → Bool) (w : World) : Prop where
  v0 : L 7 = false → Blk w Vb 25 #[.slice At n ct, vb]
  v1 : L 7 = true → ∃ x, Blk w Vb 25 #[x, vb] ∧ R5 x w
  u0 : L 5 = false → Upd NoF w0 w
  u1 : Upd (fun k => k = Vb ∨ OwnB (.slice At n ct) k) w0 w
section
variable {w0 w w' : World} {Vb n ct : Nat} {vb : Value} {At : Option Addr} {R5 : Value → World → Prop} {L : Nat → Bool}
theorem VcPh.start (hv : Blk w0 Vb 25 #[.slice At n ct, vb]) : VcPh w0 Vb vb At n ct R5 (fun _ => false) w0 :=
  ⟨fun _ => hv, (fun e => by cases e), fun _ => Upd.refl _ _, Upd.refl _ _⟩
theorem VcPh.same (h : VcPh w0 Vb vb At n ct R5 L w) {i : Nat} (h5 : 5 ≠ i) (h7 : 7 ≠ i) : VcPh w0 Vb vb At n ct R5 (fun j => j == i || L j) w := by
  have e5 : ((5 == i) || L 5) = L 5 := by simp [h5]
  have e7 : ((7 == i) || L 7) = L 7 := by simp [h7]
  exact ⟨fun e => h.v0 (by rw [← e7]; exact e), fun e => h.v1 (by rw [← e7]; exact e), fun e => h.u0 (by rw [← e5]; exact e), h.u1⟩
theorem VcPh.built (h : VcPh w0 Vb vb At n ct R5 L w) {i : Nat} (_hi5 : 5 ≠ i) (hi7 : 7 ≠ i) (h5 : L 5 = false) (h7 : L 7 = false) (hu : Upd NoF w w') : VcPh w0 Vb vb At n ct R5 (fun j => j == i || L j) w' :=
  ⟨fun _ => hu.blk (h.v0 h7) (fun f => f), (fun e => by simp [h7, hi7] at e), fun _ => (h.u0 h5).trans hu (fun _ _ f => f), h.u1.trans hu (fun _ _ f => f.elim)⟩
theorem VcPh.app (h : VcPh w0 Vb vb At n ct R5 L w) (h7 : L 7 = false) (nV : ¬ OwnB (.slice At n ct) Vb) (hu : Upd (OwnB (.slice At n ct)) w w') : VcPh w0 Vb vb At n ct R5 (fun j => j == 5 || L j) w' :=
  ⟨fun _ => hu.blk (h.v0 h7) nV, (fun e => by simp [h7] at e), (fun e => by simp at e), h.u1.trans hu (fun _ _ f => .inr f)⟩
theorem VcPh.store (h : VcPh w0 Vb vb At n ct R5 L w) (h5 : L 5 = true) (h7 : L 7 = false) {x : Value} (hx : R5 x (w.setCell ⟨Vb, 0, none⟩ x)) : VcPh w0 Vb vb At n ct R5 (fun j => j == 7 || L j) (w.setCell ⟨Vb, 0, none⟩ x) := by
  have hu : Upd (fun k => k = Vb) w (w.setCell ⟨Vb, 0, none⟩ x) := (Upd.refl (fun k => k = Vb) w).setCell (p := ⟨Vb, 0, none⟩) (.inl rfl) _
  exact ⟨(fun e => by simp at e), fun _ => ⟨x, (h.v0 h7).put 0 x, hx⟩, (fun e => by simp [h5] at e), h.u1.trans hu (fun _ _ f => .inl f)⟩
end



def CvR3 (s : SignedS) (v : Value) (w : World) : Prop := ∃ A c, v = .agg (rowS s (.slice A s.sig.length c)).toArray ∧ OwnU w (.slice A s.sig.length c) s.sig
def CvR4 (S0 : Nat) (s : SignedS) (v : Value) (w : World) : Prop := ∃ g A c, v = .slice (some ⟨g, 0, none⟩) 1 1 ∧ Blk w g 38 (rowS s (.slice A s.sig.length c)).toArray ∧ S0 ≤ g ∧ OwnU w (.slice A s.sig.length c) s.sig
def CvR5 (S0 : Nat) (At : Option Addr) (n ct : Nat) (rows : List Value) (s : SignedS) (v : Value) (w : World) : Prop := ∃ A' c' A c, v = .slice A' (n + 1) c' ∧ Own w 38 23 (.slice A' (n + 1) c') (n + 1) (rows ++ rowS s (.slice A s.sig.length c)) ∧ OwnU w (.slice A s.sig.length c) s.sig ∧ ∀ k, OwnB (.slice A' (n + 1) c') k → OwnB (.slice At n ct) k ∨ S0 ≤ k
abbrev CvSt (S0 : Nat) (L : Nat → Bool) (w w' : World) : Prop := Upd (fun k => k < S0 ∧ TyF [25, 38] w k) w w' ∧ (L 5 = true → UpdT [25] w w')
section
variable {S0 n ct : Nat} {At : Option Addr} {rows : List Value} {s : SignedS} {w w' : World} {v : Value}
theorem CvSt.ty {L : Nat → Bool} (h : CvSt S0 L w w') : UpdT [25, 38] w w' := h.1.mono (fun _ _ f => f.2)
theorem CvSt.none {L : Nat → Bool} (h : Upd NoF w w') : CvSt S0 L w w' := ⟨h.mono (fun _ _ f => f.elim), fun _ => UpdT.none h⟩
theorem stbL_v3 {i : Nat} : StbL (CvSt S0) i (CvR3 s) := fun _ _ _ _ _ ⟨A, c, e, h⟩ hs => ⟨A, c, e, h.updT (CvSt.ty hs) (by decide)⟩
theorem stbL_v4 {i : Nat} : StbL (CvSt S0) i (CvR4 S0 s) := fun _ _ _ _ _ ⟨g, A, c, e, h1, h2, h4⟩ hs => ⟨g, A, c, e, hs.1.blk h1 (fun f => by have := f.1; omega), h2, h4.updT (CvSt.ty hs) (by decide)⟩
theorem CvR5.to (h : CvR5 S0 At n ct rows s v w) (hu : UpdT [25] w w') : CvR5 S0 At n ct rows s v w' := by
  obtain ⟨A', c', A, c, e, h2, h3, h4⟩ := h
  exact ⟨A', c', A, c, e, h2.updT hu (by decide), h3.updT hu (by decide), h4⟩
theorem stbL_v5 : StbL (CvSt S0) 5 (CvR5 S0 At n ct rows s) := fun _ _ _ _ hl h hs => h.to (hs.2 hl)
end

def C1Rel (w : World) (arg : Array Value) (l : List SignedS) (i : Value) (wr : World) : Prop :=
  ∃ (k : Nat) (vs : List SignedS) (Av : Option Addr) (cv : Nat), i = .int .i64 (k : Int) ∧ k ≤ l.length ∧ vs = l.take k ∧ vs.length = k ∧ ClSt w wr arg (.slice Av vs.length cv) (.slice none 0 0) ∧ SgO wr Av cv vs ∧ OwnN w (.slice Av vs.length cv)
section
variable {w wr wz : World} {arg : Array Value} {Av : Option Addr} {cv : Nat} {vs : List SignedS} {us : List Value} {s : SignedS} {L : Nat → Bool}
theorem C1_next (hD : ClSt w wr arg (.slice Av vs.length cv) (.slice none 0 0)) (hO : OwnN w (.slice Av vs.length cv)) (hf : ∀ s ∈ vs, s.vote.Fit) (hs : s.vote.Fit)
    (e1 : us.length = vs.length) (e2 : Own wr 38 23 (.slice Av vs.length cv) vs.length (List.zipWith rowS vs us).flatten) (e3 : ∀ (i : Nat) s, vs[i]? = some s → ∃ u, us[i]? = some u ∧ OwnU wr u s.sig)
    (h : VcPh wr.drew (w.heap.size + 2) (.slice none 0 0) Av vs.length cv (CvR5 wr.heap.size Av vs.length cv (List.zipWith rowS vs us).flatten s) L wz) (hL : ∀ i, i < 8 → L i = true) :
    ∃ A' c', ClSt w wz arg (.slice A' (vs ++ [s]).length c') (.slice none 0 0) ∧ SgO wz A' c' (vs ++ [s]) ∧ OwnN w (.slice A' (vs ++ [s]).length c') := by
  obtain ⟨y, hvw, A', c', A, c, rfl, ho, hx, hn⟩ := h.v1 (hL 7 (by omega))
  have hup : Upd (fun k => k = w.heap.size + 2 ∨ OwnB (.slice Av vs.length cv) k) wr wz := ((Upd.refl (fun k => k = w.heap.size + 2 ∨ OwnB (.slice Av vs.length cv) k) wr).drew).trans h.u1 (fun _ _ f => f)
  have hupT : UpdT [25, 38] wr wz := UpdT.of hup (fun k f => by
    rcases f with f | f
    · rw [f]; exact hD.out.tyf (by simp)
    · exact e2.tyf (by simp) f)
  have el : (vs ++ [s]).length = vs.length + 1 := by simp
  have nR : ¬ OwnB (.slice Av vs.length cv) (w.heap.size + 1) := e2.blk_ne hD.res (by decide)
  have nA : ¬ OwnB (.slice Av vs.length cv) w.heap.size := e2.blk_ne hD.arg (by decide)
  have hsw := hD.upd.size
  refine ⟨A', c', ?_, ?_, ?_⟩
  · rw [el]
    refine ⟨hup.blk hD.arg (fun f => ?_), hup.blk hD.res (fun f => ?_), hvw, hD.upd.trans hup (fun k hk f => ?_)⟩
    · rcases f with f | f
      · omega
      · exact nA f
    · rcases f with f | f
      · omega
      · exact nR f
    · rcases f with f | f
      · omega
      · have := hO k f; omega
  · refine ⟨fun x hx => ?_, us ++ [.slice A s.sig.length c], by simp [e1], ?_, fun i x hx' => ?_⟩
    · rcases List.mem_append.1 hx with hx | hx
      · exact hf x hx
      · simp at hx; rw [hx]; exact hs
    · rw [el, List.zipWith_append (by rw [e1]), List.flatten_append]
      simpa using ho
    · rcases Nat.lt_or_ge i vs.length with hlt | hge
      · rw [List.getElem?_append_left hlt] at hx'
        obtain ⟨y, h1, h2⟩ := e3 i x hx'
        exact ⟨y, by rw [List.getElem?_append_left (by omega)]; exact h1, h2.updT hupT (by decide)⟩
      · rw [List.getElem?_append_right hge] at hx'
        have h0 : i - vs.length = 0 := by have := (List.getElem?_eq_some_iff.1 hx').1; simp at this; omega
        rw [h0] at hx'
        simp at hx'
        subst hx'
        exact ⟨.slice A s.sig.length c, by rw [List.getElem?_append_right (by omega)]; simp [show i - us.length = 0 by omega], hx⟩
  · intro k hk
    rw [el] at hk
    rcases hn k hk with f | f
    · exact hO k f
    · omega
theorem ClSt.keep {a b : Value} (h : ClSt w wr arg a b) (hu : Upd NoF wr wz) : ClSt w wz arg a b := ⟨hu.blk h.arg (fun f => f), hu.blk h.res (fun f => f), hu.blk h.out (fun f => f), h.upd.trans hu (fun _ _ f => f)⟩
end


set_option maxRecDepth 100000 in
set_option maxHeartbeats 16000000 in
theorem CloneV_any {w : World} {a b : Value} {V : ViewS} (h : VwR w a b V) (hs0 : V.votes.length ≤ 100000000) (hs : V.texts.length ≤ 100000000) (hl0 : ∀ s ∈ V.votes, s.sig.length ≤ 140737488355328) (hl : ∀ t ∈ V.texts, t.length ≤ 140737488355328) : Calls Try.prog 15 #[.agg #[a, b]] w (CloPost w V) := by
  obtain ⟨A, ca, rfl, hac, hcm⟩ := h.1.form
  obtain ⟨B, cb, rfl, hld, hdm⟩ := h.2.form
  have HG := Lib.hid h.1
  have HT := Lib.hid h.2
  have HL0 := Lib.hid hl0
  have HL := Lib.hid hl
  have HFV := Lib.hid h.1.1
  obtain ⟨n0, hn0⟩ : ∃ n, V.votes.length = n := ⟨_, rfl⟩
  obtain ⟨m, hm⟩ : ∃ n, V.texts.length = n := ⟨_, rfl⟩
  have HN0 := Lib.hid hn0
  have HM := Lib.hid hm
  obtain ⟨ti, hi0', hi1', hi2', hi3'⟩ := info_parts signed_info
  rw [hm] at hs hld ⊢
  rw [hn0] at hs0 hac ⊢
  have sz1 : (w.alloc (.cells #[.slice A n0 ca, .slice B m cb] 25)).heap.size = w.heap.size + 1 := by simp
  have sz2 : ((w.alloc (.cells #[.slice A n0 ca, .slice B m cb] 25)).alloc (.cells nil2 25)).heap.size = w.heap.size + 2 := by simp
  have hb1 := Blk.new w 25 #[.slice A n0 ca, .slice B m cb]
  have hb2 := Blk.new (w.alloc (.cells #[.slice A n0 ca, .slice B m cb] 25)) 25 nil2
  have hb3 := Blk.new ((w.alloc (.cells #[.slice A n0 ca, .slice B m cb] 25)).alloc (.cells nil2 25)) 25 nil2
  rw [sz1] at hb2
  rw [sz2] at hb3
  have D0 := Lib.hid (show ClSt w (((w.alloc (.cells #[.slice A n0 ca, .slice B m cb] 25)).alloc (.cells nil2 25)).alloc (.cells nil2 25)) #[.slice A n0 ca, .slice B m cb] (.slice none 0 0) (.slice none 0 0) from
    ⟨(hb1.alloc _).alloc _, hb2.alloc _, hb3, (((Upd.refl NoF w).alloc _).alloc _).alloc _⟩)
  clear hb1 hb2 hb3 h hl hl0 hm hn0
  go_enter Try.func15, Try.ntmps15
  go_wp2_with fail
  obtain ⟨W3, hW3⟩ : ∃ x, x = (((w.alloc (.cells #[.slice A n0 ca, .slice B m cb] 25)).alloc (.cells nil2 25)).alloc (.cells nil2 25)) := ⟨_, rfl⟩
  rw [← hW3] at D0 ⊢
  clear hW3 sz1 sz2
  have a0 : W3.cell? ⟨w.heap.size, 0, none⟩ = some (.slice A n0 ca) := D0.out.arg.cell 0
  go_wp2
  go_loopw [11] (fun i wr => C1Rel w #[.slice A n0 ca, .slice B m cb] V.votes i wr) (fun i _ => n0 - (intOf i).toNat)
  case atStart => exact ⟨0, [], none, 0, rfl, by omega, rfl, rfl, D0.out, SgO.nil _, OwnN.nil _⟩
  case round =>
    obtain ⟨k, vv, Av, cv, rfl, hk, hvs, hlen, hD, hS, hO⟩ := hrel
    have DD := Lib.hid hD
    have HS := Lib.hid hS
    have HO := Lib.hid hO
    have HVS := Lib.hid hvs
    have HLN := Lib.hid hlen
    have hmm := HN0.out
    clear hD hS hO D0 hvs hlen a0
    by_cases hlt : k < n0
    · obtain ⟨s, hx⟩ : ∃ x, V.votes[k]? = some x := ⟨_, List.getElem?_eq_getElem (by omega)⟩
      have t1 : decide ((k : Int) < (n0 : Int)) = true := by simp; omega
      have q0 : (0 : Int) ≤ (k : Int) := by omega
      have q1 : (k : Int) < (n0 : Int) := by omega
      obtain ⟨g, off, Au, cu, hA, r1, r2, -, -⟩ := SgR.at_ (HG.out.keep DD.out.upd) hx
      subst hA
      have HFS := Lib.hid (HFV.out s (List.mem_of_getElem? hx))
      obtain ⟨ra, hra⟩ : ∃ row, (rowS s (.slice Au s.sig.length cu)).toArray = row := ⟨_, rfl⟩
      have HRA := Lib.hid hra
      have R1 := Lib.hid r1
      have R2 := Lib.hid r2
      have RSA := Lib.hid (show zeroRow.size = ra.size ∧ (Try.prog.info? 38).map (·.size) = some ra.size ∧ ra.all (·.oneCell') = true from by
        rw [← hra]
        exact ⟨by rw [zeroRow_size]; simp [rowS_len HFS.out], row_info HFS.out _, row_one _ rfl⟩)
      have HX := Lib.hid hx
      clear hx r1 r2 hra hmm
      go_wp2_with (first
        | (refine wpList_load_signed rfl (.tmp 13) rfl g (off + k * 23) rfl s (.slice Au s.sig.length cu) HFS.out R1.out (.agg ra) (by rw [HRA.out]) ?_)
        | (refine wpList_alloc_row rfl 38 rfl zeroRow alloc_signed ?_; intro w0 hb0 hu0 hs0'; have B0 := Lib.hid hb0; have U0 := Lib.hid hu0; have HS0 := Lib.hid hs0'; clear hb0 hu0 hs0')
        | (refine wpList_store_row rfl 38 (.tmp 5) (.tmp 14) rfl wr.heap.size rfl ra rfl 38 _ B0.out RSA.out.1 RSA.out.2.1 RSA.out.2.2 ?_; intro w1 hb1 hu1 hs1; have BZ := Lib.hid hb1; have U1 := Lib.hid (U0.out.trans hu1 (fun k hk e => by have e : k = wr.heap.size := e; omega)); clear hb1 hu1 hs1))
      obtain ⟨Z, hZ⟩ : ∃ x, x = wr.heap.size := ⟨_, rfl⟩
      rw [← hZ] at BZ ⊢
      have D1 := Lib.hid (DD.out.keep U1.out)
      have S1 := Lib.hid (HS.out.updT (ts := []) (UpdT.none U1.out) (by decide) (by decide))
      obtain ⟨hf1, us, f1, f2, f3⟩ := S1.out
      obtain ⟨Vb, hVb⟩ : ∃ x, x = w.heap.size + 2 := ⟨_, rfl⟩
      have HVB := Lib.hid hVb
      obtain ⟨n, hn⟩ : ∃ n, vv.length = n := ⟨_, rfl⟩
      have HF0 := Lib.hid hf1
      have HF1 := Lib.hid f1
      have HF3 := Lib.hid f3
      have HOW := Lib.hid f2
      have HVW := Lib.hid D1.out.out
      have HN := Lib.hid hn
      have hnk : n ≤ 100000000 := by have := HLN.out; omega
      rw [hn] at HOW HVW
      rw [← hVb] at HVW ⊢
      have HNV := Lib.hid (HOW.out.blk_ne HVW.out (by decide))
      have HCB := Lib.hid (show ∀ W, Upd NoF w1.drew W → Calls Try.prog 48 #[.agg ra] W (CvPost W s) from fun W hu => by
        rw [← HRA.out]
        exact cloneVote_any HFS.out W (Rd.abK R2.out ((U1.out.trans (((Upd.refl NoF w1).drew).trans hu (fun _ _ f => f)) (fun _ _ f => f)).toAb)) (HL0.out s (List.mem_of_getElem? HX.out)))
      clear f1 f2 f3 hf1 hn hVb hZ
      refine wp_region_rgl (rgR [isV (.pointer (some ⟨Vb, 0, none⟩)), isV (.slice Av n cv), isV (.agg ra), CvR3 s, CvR4 w1.heap.size s, CvR5 w1.heap.size Av n cv (List.zipWith rowS vv us).flatten s, isV (.pointer (some ⟨Vb, 0, none⟩)), anyV]) (CvSt w1.heap.size) (VcPh w1.drew Vb (.slice none 0 0) Av n cv (CvR5 w1.heap.size Av n cv (List.zipWith rowS vv us).flatten s)) (by kernel_rfl) (by kernel_rfl) (by kernel_rfl) (by rfl) (fun L w => ⟨Upd.refl _ _, fun _ => Upd.refl _ _⟩) (rgR_keepL ⟨stbL_isV _, stbL_isV _, stbL_isV _, stbL_v3, stbL_v4, stbL_v5, stbL_isV _, stbL_any, trivial⟩) (VcPh.start (Blk.drew HVW.out)) ?_ ?_
      · refine ⟨?_, ?_, ?_, ?_, ?_, ?_, ?_, ?_, trivial⟩
        · refine fun ρ w' L hW hLi hcl hd hdep hext hc hg hf => ?_
          rw [if_pos (show wantedR _ _ _ = true from rfl)]
          have e3 : ρ (.tmp 3) = ptrV Vb := hext 3 (by kernel_rfl)
          clear hdep hext hcl
          have HW := Lib.hid hW
          clear hW
          unfold OpDone
          go_simp
          exact ⟨rfl, ⟨Upd.refl _ _, fun _ => Upd.refl _ _⟩, (HW.out.same (by decide) (by decide))⟩
        · refine fun ρ w' L hW hLi hcl hd hdep hext hc hg hf => ?_
          rw [if_pos (show wantedR _ _ _ = true from rfl)]
          have e15 : ρ (.tmp 15) = .pointer (some ⟨Vb, 0, none⟩) := hdep 0 _ rfl (by kernel_rfl)
          have hcz : w'.cell? ⟨Vb, 0, none⟩ = some (.slice Av n cv) := by
            refine (hW.v0 ?_).cell 0
            cases h : L 7 with
            | false => rfl
            | true => exact absurd (hcl 5 1 (hcl 7 5 h (by kernel_rfl)) (by kernel_rfl)) (by rw [hLi]; decide)
          clear hdep hext hcl
          have HW := Lib.hid hW
          clear hW
          unfold OpDone
          go_simp
          exact ⟨rfl, ⟨Upd.refl _ _, fun _ => Upd.refl _ _⟩, (HW.out.same (by decide) (by decide))⟩
        · refine fun ρ w' L hW hLi hcl hd hdep hext hc hg hf => ?_
          rw [if_pos (show wantedR _ _ _ = true from rfl)]
          have e5 : ρ (.tmp 5) = ptrV Z := hext 5 (by kernel_rfl)
          clear hdep hext
          have h5 : L 5 = false := by
            cases h : L 5 with
            | false => rfl
            | true => exact absurd (hcl 3 2 (hcl 4 3 (hcl 5 4 h (by kernel_rfl)) (by kernel_rfl)) (by kernel_rfl)) (by rw [hLi]; decide)
          have h7 : L 7 = false := by
            cases h : L 7 with
            | false => rfl
            | true => exact absurd (hcl 7 5 h (by kernel_rfl)) (by rw [h5]; decide)
          refine od_load_row 38 (.tmp 5) rfl Z 0 e5 (rowS s (.slice Au s.sig.length cu)) _ (range_blk (by rw [HRA.out]; exact (hW.u0 h5).blk (Blk.drew BZ.out) (fun f => f))) Try.underlying38 rfl (by rw [signed_size, rowS_len HFS.out]) ?_
          rw [HRA.out]
          exact ⟨rfl, CvSt.none (Upd.refl _ _), hW.same (by decide) (by decide)⟩
        · refine fun ρ w' L hW hLi hcl hd hdep hext hc hg hf => ?_
          rw [if_pos (show wantedR _ _ _ = true from rfl)]
          have e17 : ρ (.tmp 17) = .agg ra := hdep 2 _ rfl (by kernel_rfl)
          clear hdep hext
          have h5 : L 5 = false := by
            cases h : L 5 with
            | false => rfl
            | true => exact absurd (hcl 4 3 (hcl 5 4 h (by kernel_rfl)) (by kernel_rfl)) (by rw [hLi]; decide)
          have h7 : L 7 = false := by
            cases h : L 7 with
            | false => rfl
            | true => exact absurd (hcl 7 5 h (by kernel_rfl)) (by rw [h5]; decide)
          have hcb := HCB.out w' (hW.u0 h5)
          have hs2 : w1.heap.size ≤ w'.heap.size := (hW.u0 h5).size
          unfold OpDone
          go_simp
          refine hcb.mono ?_
          rintro e w2 ⟨A2, c2, rfl, hx2, hc2, hu2⟩
          exact ⟨_, rfl, ⟨A2, c2, rfl, hx2⟩, CvSt.none hu2, hW.built (by decide) (by decide) h5 h7 hu2⟩
        · refine fun ρ w' L hW hLi hcl hd hdep hext hc hg hf => ?_
          rw [if_pos (show wantedR _ _ _ = true from rfl)]
          have e18 : (CvR3 s) (ρ (.tmp 18)) w' := hdep 3 _ rfl (by kernel_rfl)
          clear hdep hext
          have h5 : L 5 = false := by
            cases h : L 5 with
            | false => rfl
            | true => exact absurd (hcl 5 4 h (by kernel_rfl)) (by rw [hLi]; decide)
          have h7 : L 7 = false := by
            cases h : L 7 with
            | false => rfl
            | true => exact absurd (hcl 7 5 h (by kernel_rfl)) (by rw [h5]; decide)
          obtain ⟨A2, c2, hv2, hx2⟩ := e18
          have hs2 : w1.heap.size ≤ w'.heap.size := hW.u1.size
          refine od_buildSlice_row 22 38 (.tmp 18) rfl _ hv2 (rowS s (.slice A2 s.sig.length c2)).toArray (bs_signed HFS.out A2 s.sig.length c2 w') ?_
          exact ⟨⟨_, A2, c2, rfl, Blk.new w' _ _, hs2, hx2.updT (ts := []) (UpdT.none ((Upd.refl _ w').alloc _)) (by decide)⟩, CvSt.none ((Upd.refl _ w').alloc _), hW.built (by decide) (by decide) h5 h7 ((Upd.refl _ w').alloc _)⟩
        · refine fun ρ w' L hW hLi hcl hd hdep hext hc hg hf => ?_
          rw [if_pos (show wantedR _ _ _ = true from rfl)]
          have e16 : ρ (.tmp 16) = .slice Av n cv := hdep 1 _ rfl (by kernel_rfl)
          have e19 : (CvR4 w1.heap.size s) (ρ (.tmp 19)) w' := hdep 4 _ rfl (by kernel_rfl)
          clear hdep hext
          have h7 : L 7 = false := by
            cases h : L 7 with
            | false => rfl
            | true => exact absurd (hcl 7 5 h (by kernel_rfl)) (by rw [hLi]; decide)
          obtain ⟨g2, A2, c2, hv2, hb2, hg2, hx2⟩ := e19
          refine od_append (.tmp 16) (.tmp 19) 22 rfl 38 ti _ 23 88 Try.underlying22 hi0' hi1' hi2' hi3' zeroRow_size _ n _ e16 (HOW.out.upd (((Upd.refl NoF w1).drew).trans (hW.u0 hLi) (fun _ _ f => f)) (fun k hk e => e)) _ 1 (rowS s (.slice A2 s.sig.length c2)) hv2 (Rd.of_blk hb2 (by omega) (by unfold maxLen; omega) (by rw [rowS_len HFS.out]) (fun j y hy => by rw [Nat.zero_add]; simpa using hy)) (by have := row_one s (u := .slice A2 s.sig.length c2) rfl; rw [List.all_toArray, List.all_eq_true] at this; exact this) (by unfold maxLen; omega) (by omega) ?_
          intro A3 c3 w3 ho3 hu3 hn3
          have hs2 : w1.heap.size ≤ w'.heap.size := hW.u1.size
          have hty : ∀ k, OwnB (.slice Av n cv) k → k < w1.heap.size ∧ TyF [25, 38] w' k := fun k hk => ⟨HOW.out.lt hk, (HOW.out.upd (((Upd.refl NoF w1).drew).trans (hW.u0 hLi) (fun _ _ f => f)) (fun k hk e => e)).tyf (by simp) hk⟩
          refine ⟨⟨A3, c3, A2, c2, rfl, ho3, hx2.updT (UpdT.of hu3 (fun k hk => (hty k hk).2)) (by decide), fun k hk => ?_⟩, ⟨hu3.mono (fun k _ f => hty k f), fun e => by rw [hLi] at e; cases e⟩, hW.app h7 HNV.out hu3⟩
          rcases hn3 k hk with q | q
          · exact .inl q
          · exact .inr (by omega)
        · refine fun ρ w' L hW hLi hcl hd hdep hext hc hg hf => ?_
          rw [if_pos (show wantedR _ _ _ = true from rfl)]
          have e3 : ρ (.tmp 3) = ptrV Vb := hext 3 (by kernel_rfl)
          clear hdep hext hcl
          have HW := Lib.hid hW
          clear hW
          unfold OpDone
          go_simp
          exact ⟨rfl, ⟨Upd.refl _ _, fun _ => Upd.refl _ _⟩, (HW.out.same (by decide) (by decide))⟩
        · refine fun ρ w' L hW hLi hcl hd hdep hext hc hg hf => ?_
          rw [if_pos (show wantedR _ _ _ = true from rfl)]
          have e21 : ρ (.tmp 21) = .pointer (some ⟨Vb, 0, none⟩) := hdep 6 _ rfl (by kernel_rfl)
          have e20 : (CvR5 w1.heap.size Av n cv (List.zipWith rowS vv us).flatten s) (ρ (.tmp 20)) w' := hdep 5 _ rfl (by kernel_rfl)
          clear hdep hext
          have h5 : L 5 = true := hd 5 (by kernel_rfl)
          have hfz : w'.frozen? ⟨Vb, 0, none⟩ = false := (hW.v0 hLi).frozen 0
          have hcz : w'.cell? ⟨Vb, 0, none⟩ = some (.slice Av n cv) := (hW.v0 hLi).cell 0
          have HW := Lib.hid hW
          have E20 := Lib.hid e20
          obtain ⟨A3, c3, A4, c4, hv3, -⟩ := e20
          clear hW
          unfold OpDone
          rw [hv3] at E20
          go_simp
          have hu : Upd (fun k => k = Vb) w' (w'.setCell ⟨Vb, 0, none⟩ (.slice A3 (n + 1) c3)) := (Upd.refl (fun k => k = Vb) w').setCell (p := ⟨Vb, 0, none⟩) (.inl rfl) _
          have hty : UpdT [25] w' (w'.setCell ⟨Vb, 0, none⟩ (.slice A3 (n + 1) c3)) := UpdT.of hu (fun k f => by rw [show k = Vb from f]; exact (HW.out.v0 hLi).tyf (by simp))
          exact ⟨trivial, ⟨hu.mono (fun k _ f => by rw [show k = Vb from f]; exact ⟨HVW.out.lt, (HW.out.v0 hLi).tyf (by simp)⟩), fun _ => hty⟩, HW.out.store h5 hLi (E20.out.to hty)⟩
      intro vs wz L hL hW hR
      have hv0 : vs 0 = .pointer (some ⟨Vb, 0, none⟩) := hR 0 _ rfl
      have hv1 : vs 1 = .slice Av n cv := hR 1 _ rfl
      have hv2 : vs 2 = .agg ra := hR 2 _ rfl
      have hr3 : (CvR3 s) (vs 3) wz := hR 3 _ rfl
      obtain ⟨yA, yc, hv3, -⟩ := hr3
      have hr4 : (CvR4 w1.heap.size s) (vs 4) wz := hR 4 _ rfl
      obtain ⟨yg, yB, yd, hv4, -⟩ := hr4
      have hr5 : (CvR5 w1.heap.size Av n cv (List.zipWith rowS vv us).flatten s) (vs 5) wz := hR 5 _ rfl
      obtain ⟨zA, zc, zB, zd, hv5, -⟩ := hr5
      have hv6 : vs 6 = .pointer (some ⟨Vb, 0, none⟩) := hR 6 _ rfl
      simp only [putAll, Act.put, List.setIfInBounds_toArray, List.set_cons_zero, List.set_cons_succ, hv0, hv1, hv2, hv3, hv4, hv5, hv6]
      clear hR hv0 hv1 hv2 hv3 hv4 hv5 hv6
      go_wp2
      rw [HVB.out]
      go_roundw
      case rel =>
        have hz := C1_next (s := s) D1.out HO.out HF0.out HFS.out HF1.out (by rw [HN.out]; exact HOW.out) HF3.out (by rw [HN.out, ← HVB.out]; exact hW) (fun i hi => hL i hi)
        obtain ⟨A', c', g1, g2, g3⟩ := hz
        refine ⟨k + 1, vv ++ [s], A', c', by go_num, by have := HN0.out; omega, ?_, by simp [HLN.out], g1, g2, g3⟩
        rw [HVS.out, List.take_succ_eq_append_getElem (by have := HN0.out; omega)]
        have := HX.out
        rw [List.getElem?_eq_getElem (by have := HN0.out; omega)] at this
        rw [Option.some.inj this]
      case measure => simp [intOf]; omega
    · have t1 : decide ((k : Int) < (n0 : Int)) = false := by simp; omega
      have HE : vv = V.votes := by rw [HVS.out, List.take_of_length_le (by omega)]
      have a1 : wr.cell? ⟨w.heap.size, 1, none⟩ = some (.slice B m cb) := DD.out.arg.cell 1
      have D0 := Lib.hid (show ClSt w wr #[.slice A n0 ca, .slice B m cb] (.slice Av V.votes.length cv) (.slice none 0 0) from by have := DD.out; rw [HE] at this; exact this)
      have S0 := Lib.hid (show SgO wr Av cv V.votes from by have := HS.out; rw [HE] at this; exact this)
      have O0 := Lib.hid (show OwnN w (.slice Av V.votes.length cv) from by have := HO.out; rw [HE] at this; exact this)
      obtain ⟨Av0, hAv0⟩ : ∃ x, x = Av := ⟨_, rfl⟩
      obtain ⟨cv0, hcv0⟩ : ∃ x, x = cv := ⟨_, rfl⟩
      rw [← hAv0, ← hcv0] at D0 S0 O0
      obtain ⟨ti, hi0', hi1', hi2', hi3'⟩ := info_parts bytes_info'
      clear HE DD HS HO HVS HLN hk t1 hAv0 hcv0
      go_wp2
      go_loopw [26] (fun i wr => C2Rel w #[.slice A n0 ca, .slice B m cb] V.votes V.texts i wr) (fun i _ => m - (intOf i).toNat)
      case atStart => exact ⟨0, [], Av0, none, cv0, 0, rfl, by omega, rfl, rfl, D0.out, S0.out, O0.out, TxO.nil _, OwnN.nil _⟩
      case round =>
        obtain ⟨k, ts, Av, At, cv, ct, rfl, hk, hts, hlen, hD, hS, hO, hT, hO'⟩ := hrel
        have DD := Lib.hid hD
        have HS := Lib.hid hS
        have HO := Lib.hid hO
        have HT' := Lib.hid hT
        have HO' := Lib.hid hO'
        have HTS := Lib.hid hts
        have HLN := Lib.hid hlen
        have hmm := HM.out
        obtain ⟨vs, hvs⟩ : ∃ x : List SignedS, x = V.votes := ⟨_, rfl⟩
        rw [← hvs] at DD HS HO
        have HVS := Lib.hid hvs
        clear hD hS hO hT hO' D0 S0 O0 hts hlen hvs
        by_cases hlt : k < m
        · obtain ⟨s, hx⟩ : ∃ x, V.texts[k]? = some x := ⟨_, List.getElem?_eq_getElem (by omega)⟩
          have t1 : decide ((k : Int) < (m : Int)) = true := by simp; omega
          have q0 : (0 : Int) ≤ (k : Int) := by omega
          have q1 : (k : Int) < (m : Int) := by omega
          obtain ⟨g, o, Au, cu, hA, r1, r2, -⟩ := (HT.out.keep DD.out.upd).at_ hx
          subst hA
          have y0 : wr.cell? ⟨g, o + k, none⟩ = some (.slice Au s.length cu) := r1
          obtain ⟨Vb, hVb⟩ : ∃ x, x = w.heap.size + 2 := ⟨_, rfl⟩
          have HVB := Lib.hid hVb
          obtain ⟨us, f1, f2, f0, f3⟩ := HT'.out
          obtain ⟨n, hn⟩ : ∃ n, ts.length = n := ⟨_, rfl⟩
          have HF0 := Lib.hid f0
          have HF1 := Lib.hid f1
          have HF3 := Lib.hid f3
          have HOW := Lib.hid f2
          have HVW := Lib.hid DD.out.out
          have HN := Lib.hid hn
          have hnk : n ≤ 100000000 := by have := HLN.out; omega
          rw [hn] at HOW HVW
          rw [← hVb] at HVW ⊢
          have HNV := Lib.hid (HOW.out.blk_ne HVW.out (by decide))
          have HX := Lib.hid hx
          have HCB := Lib.hid (show ∀ W, Upd NoF wr.drew W → Calls Try.prog 49 #[.slice Au s.length cu] W (ClonePost W s) from fun W hu => clone_any _ s W (Rd.abK r2 ((((Upd.refl NoF wr).drew).trans hu (fun _ _ f => f)).toAb)) (HL.out s (List.mem_of_getElem? HX.out)))
          clear f0 f1 f2 f3 hn HT' hx r1 r2 hVb hmm
          go_wp2_with fail
          refine wp_region_rgl (rgR [isV (.pointer (some ⟨Vb, 1, none⟩)), isV (.slice At n ct), isV (.slice Au s.length cu), CxR3 s, CxR4 wr.heap.size s, CxR5 wr.heap.size At n ct us s, isV (.pointer (some ⟨Vb, 1, none⟩)), anyV]) (CxSt wr.heap.size) (TcPh wr.drew Vb (.slice Av vs.length cv) At n ct (CxR5 wr.heap.size At n ct us s)) (by kernel_rfl) (by kernel_rfl) (by kernel_rfl) (by rfl) (fun L w => ⟨Upd.refl _ _, fun _ => Upd.refl _ _⟩) (rgR_keepL ⟨stbL_isV _, stbL_isV _, stbL_isV _, stbL_c3, stbL_c4, stbL_c5, stbL_isV _, stbL_any, trivial⟩) (TcPh.start (Blk.drew HVW.out)) ?_ ?_
          · refine ⟨?_, ?_, ?_, ?_, ?_, ?_, ?_, ?_, trivial⟩
            · refine fun ρ w' L hW hLi hcl hd hdep hext hc hg hf => ?_
              rw [if_pos (show wantedR _ _ _ = true from rfl)]
              have e3 : ρ (.tmp 3) = ptrV Vb := hext 3 (by kernel_rfl)
              clear hdep hext hcl
              have HW := Lib.hid hW
              clear hW
              unfold OpDone
              go_simp
              exact ⟨rfl, ⟨Upd.refl _ _, fun _ => Upd.refl _ _⟩, (HW.out.same (by decide) (by decide))⟩
            · refine fun ρ w' L hW hLi hcl hd hdep hext hc hg hf => ?_
              rw [if_pos (show wantedR _ _ _ = true from rfl)]
              have e30 : ρ (.tmp 30) = .pointer (some ⟨Vb, 1, none⟩) := hdep 0 _ rfl (by kernel_rfl)
              have hcz : w'.cell? ⟨Vb, 1, none⟩ = some (.slice At n ct) := by
                refine (hW.v0 ?_).cell 1
                cases h : L 7 with
                | false => rfl
                | true => exact absurd (hcl 5 1 (hcl 7 5 h (by kernel_rfl)) (by kernel_rfl)) (by rw [hLi]; decide)
              clear hdep hext hcl
              have HW := Lib.hid hW
              clear hW
              unfold OpDone
              go_simp
              exact ⟨rfl, ⟨Upd.refl _ _, fun _ => Upd.refl _ _⟩, (HW.out.same (by decide) (by decide))⟩
            · refine fun ρ w' L hW hLi hcl hd hdep hext hc hg hf => ?_
              rw [if_pos (show wantedR _ _ _ = true from rfl)]
              have e7 : ρ (.tmp 7) = .slice Au s.length cu := hext 7 (by kernel_rfl)
              clear hdep hext hcl
              have HW := Lib.hid hW
              clear hW
              unfold OpDone
              go_simp
              exact ⟨rfl, ⟨Upd.refl _ _, fun _ => Upd.refl _ _⟩, (HW.out.same (by decide) (by decide))⟩
            · refine fun ρ w' L hW hLi hcl hd hdep hext hc hg hf => ?_
              rw [if_pos (show wantedR _ _ _ = true from rfl)]
              have e32 : ρ (.tmp 32) = .slice Au s.length cu := hdep 2 _ rfl (by kernel_rfl)
              clear hdep hext
              have h5 : L 5 = false := by
                cases h : L 5 with
                | false => rfl
                | true => exact absurd (hcl 4 3 (hcl 5 4 h (by kernel_rfl)) (by kernel_rfl)) (by rw [hLi]; decide)
              have h7 : L 7 = false := by
                cases h : L 7 with
                | false => rfl
                | true => exact absurd (hcl 7 5 h (by kernel_rfl)) (by rw [h5]; decide)
              have hcb := HCB.out w' (hW.u0 h5)
              have hs2 : wr.heap.size ≤ w'.heap.size := (hW.u0 h5).size
              unfold OpDone
              go_simp
              refine hcb.mono ?_
              rintro e w2 ⟨A2, c2, rfl, hx2, hc2, hu2⟩
              exact ⟨_, rfl, ⟨A2, c2, rfl, hx2⟩, CxSt.none hu2, hW.built (by decide) (by decide) h5 h7 hu2⟩
            · refine fun ρ w' L hW hLi hcl hd hdep hext hc hg hf => ?_
              rw [if_pos (show wantedR _ _ _ = true from rfl)]
              have e33 : (CxR3 s) (ρ (.tmp 33)) w' := hdep 3 _ rfl (by kernel_rfl)
              clear hdep hext
              have h5 : L 5 = false := by
                cases h : L 5 with
                | false => rfl
                | true => exact absurd (hcl 5 4 h (by kernel_rfl)) (by rw [hLi]; decide)
              have h7 : L 7 = false := by
                cases h : L 7 with
                | false => rfl
                | true => exact absurd (hcl 7 5 h (by kernel_rfl)) (by rw [h5]; decide)
              obtain ⟨A2, c2, hv2, hx2⟩ := e33
              unfold OpDone
              go_simp
              have hs2 : wr.heap.size ≤ w'.heap.size := hW.u1.size
              exact ⟨⟨_, _, rfl, Blk.new w' _ _, hs2, rfl, hx2.updT (ts := []) (UpdT.none ((Upd.refl _ w').alloc _)) (by decide)⟩, CxSt.none ((Upd.refl _ w').alloc _), hW.built (by decide) (by decide) h5 h7 ((Upd.refl _ w').alloc _)⟩
            · refine fun ρ w' L hW hLi hcl hd hdep hext hc hg hf => ?_
              rw [if_pos (show wantedR _ _ _ = true from rfl)]
              have e31 : ρ (.tmp 31) = .slice At n ct := hdep 1 _ rfl (by kernel_rfl)
              have e34 : (CxR4 wr.heap.size s) (ρ (.tmp 34)) w' := hdep 4 _ rfl (by kernel_rfl)
              clear hdep hext
              have h7 : L 7 = false := by
                cases h : L 7 with
                | false => rfl
                | true => exact absurd (hcl 7 5 h (by kernel_rfl)) (by rw [hLi]; decide)
              obtain ⟨g, u, hv2, hb2, hg2, hu2, hx2⟩ := e34
              refine od_append (.tmp 31) (.tmp 34) 23 rfl 36 ti _ 1 24 Try.underlying23 hi0' hi1' hi2' hi3' rfl _ n us e31 (HOW.out.upd (((Upd.refl NoF wr).drew).trans (hW.u0 hLi) (fun _ _ f => f)) (fun k hk e => e)) _ 1 [u] hv2 (Rd.of_blk hb2 (by omega) (by unfold maxLen; omega) rfl (fun j y hy => by rw [Nat.zero_add]; cases j with | zero => simpa using hy | succ j => simp at hy)) (by intro y hy; simp at hy; rw [hy]; exact hu2) (by unfold maxLen; omega) (by omega) ?_
              intro A3 c3 w3 ho3 hu3 hn3
              have hs2 : wr.heap.size ≤ w'.heap.size := hW.u1.size
              have hty : ∀ k, OwnB (.slice At n ct) k → k < wr.heap.size ∧ TyF [25, 36] w' k := fun k hk => ⟨HOW.out.lt hk, (HOW.out.upd (((Upd.refl NoF wr).drew).trans (hW.u0 hLi) (fun _ _ f => f)) (fun k hk e => e)).tyf (by simp) hk⟩
              refine ⟨⟨A3, c3, u, rfl, hu2, ho3, hx2.updT (UpdT.of hu3 (fun k hk => (hty k hk).2)) (by decide), fun k hk => ?_⟩, ⟨hu3.mono (fun k _ f => hty k f), fun e => by rw [hLi] at e; cases e⟩, hW.app h7 HNV.out hu3⟩
              rcases hn3 k hk with q | q
              · exact .inl q
              · exact .inr (by omega)
            · refine fun ρ w' L hW hLi hcl hd hdep hext hc hg hf => ?_
              rw [if_pos (show wantedR _ _ _ = true from rfl)]
              have e3 : ρ (.tmp 3) = ptrV Vb := hext 3 (by kernel_rfl)
              clear hdep hext hcl
              have HW := Lib.hid hW
              clear hW
              unfold OpDone
              go_simp
              exact ⟨rfl, ⟨Upd.refl _ _, fun _ => Upd.refl _ _⟩, (HW.out.same (by decide) (by decide))⟩
            · refine fun ρ w' L hW hLi hcl hd hdep hext hc hg hf => ?_
              rw [if_pos (show wantedR _ _ _ = true from rfl)]
              have e36 : ρ (.tmp 36) = .pointer (some ⟨Vb, 1, none⟩) := hdep 6 _ rfl (by kernel_rfl)
              have e35 : (CxR5 wr.heap.size At n ct us s) (ρ (.tmp 35)) w' := hdep 5 _ rfl (by kernel_rfl)
              clear hdep hext
              have h5 : L 5 = true := hd 5 (by kernel_rfl)
              have hfz : w'.frozen? ⟨Vb, 1, none⟩ = false := (hW.v0 hLi).frozen 1
              have hcz : w'.cell? ⟨Vb, 1, none⟩ = some (.slice At n ct) := (hW.v0 hLi).cell 1
              have HW := Lib.hid hW
              have E35 := Lib.hid e35
              obtain ⟨A3, c3, u3, hv3, -⟩ := e35
              clear hW
              unfold OpDone
              rw [hv3] at E35
              go_simp
              have hu : Upd (fun k => k = Vb) w' (w'.setCell ⟨Vb, 1, none⟩ (.slice A3 (n + 1) c3)) := (Upd.refl (fun k => k = Vb) w').setCell (p := ⟨Vb, 1, none⟩) (.inl rfl) _
              have hty : UpdT [25] w' (w'.setCell ⟨Vb, 1, none⟩ (.slice A3 (n + 1) c3)) := UpdT.of hu (fun k f => by rw [show k = Vb from f]; exact (HW.out.v0 hLi).tyf (by simp))
              exact ⟨trivial, ⟨hu.mono (fun k _ f => by rw [show k = Vb from f]; exact ⟨HVW.out.lt, (HW.out.v0 hLi).tyf (by simp)⟩), fun _ => hty⟩, HW.out.store h5 hLi (E35.out.to hty)⟩
          intro vs wz L hL hW hR
          have hv0 : vs 0 = .pointer (some ⟨Vb, 1, none⟩) := hR 0 _ rfl
          have hv1 : vs 1 = .slice At n ct := hR 1 _ rfl
          have hv2 : vs 2 = .slice Au s.length cu := hR 2 _ rfl
          have hr3 : (CxR3 s) (vs 3) wz := hR 3 _ rfl
          obtain ⟨yA, yc, hv3, -⟩ := hr3
          have hr4 : (CxR4 wr.heap.size s) (vs 4) wz := hR 4 _ rfl
          obtain ⟨yg, yu, hv4, -⟩ := hr4
          have hr5 : (CxR5 wr.heap.size At n ct us s) (vs 5) wz := hR 5 _ rfl
          obtain ⟨zA, zc, zu, hv5, -⟩ := hr5
          have hv6 : vs 6 = .pointer (some ⟨Vb, 1, none⟩) := hR 6 _ rfl
          simp only [putAll, Act.put, List.setIfInBounds_toArray, List.set_cons_zero, List.set_cons_succ, hv0, hv1, hv2, hv3, hv4, hv5, hv6]
          clear hR hv0 hv1 hv2 hv3 hv4 hv5 hv6
          go_wp2
          go_roundw
          case rel =>
            have hz := C2_next (x := s) DD.out HS.out HO.out HO'.out HF0.out HF1.out (by rw [HN.out]; exact HOW.out) HF3.out (by rw [HN.out, ← HVB.out]; exact hW) (fun i hi => hL i hi)
            obtain ⟨A', c', g1, g2, g3, g4, g5⟩ := hz
            rw [HVS.out] at g1 g2 g3
            refine ⟨k + 1, ts ++ [s], Av, A', cv, c', by go_num, by have := HM.out; omega, ?_, by simp [HLN.out], g1, g2, g3, g4, g5⟩
            rw [HTS.out, List.take_succ_eq_append_getElem (by have := HM.out; omega)]
            have := HX.out
            rw [List.getElem?_eq_getElem (by have := HM.out; omega)] at this
            rw [Option.some.inj this]
          case measure => simp [intOf]; omega
        · have t1 : decide ((k : Int) < (m : Int)) = false := by simp; omega
          have HE := Lib.hid (show ts = V.texts from by rw [HTS.out, List.take_of_length_le (by omega)])
          have d0 : wr.cell? ⟨w.heap.size + 2, 0, none⟩ = some (.slice Av vs.length cv) := DD.out.out.cell 0
          have d1 : wr.cell? ⟨w.heap.size + 2, 1, none⟩ = some (.slice At ts.length ct) := DD.out.out.cell 1
          have x0 : wr.cell? ⟨w.heap.size + 1, 0, none⟩ = some (.slice none 0 0) := DD.out.res.cell 0
          have x1 : wr.cell? ⟨w.heap.size + 1, 1, none⟩ = some (.slice none 0 0) := DD.out.res.cell 1
          have x2 : wr.frozen? ⟨w.heap.size + 1, 0, none⟩ = false := DD.out.res.frozen 0
          have x3 : wr.frozen? ⟨w.heap.size + 1, 1, none⟩ = false := DD.out.res.frozen 1
          go_wp2
          have hz : Upd (fun k => k = w.heap.size + 1) wr ((wr.setCell ⟨w.heap.size + 1, 0, none⟩ (.slice Av vs.length cv)).setCell ⟨w.heap.size + 1, 1, none⟩ (.slice At ts.length ct)) := ((Upd.refl (fun k => k = w.heap.size + 1) wr).setCell (p := ⟨w.heap.size + 1, 0, none⟩) (.inl rfl) _).setCell (p := ⟨w.heap.size + 1, 1, none⟩) (.inl rfl) _
          refine bodyPost_ret (results_cell_row Try.results15 _ _ (w.heap.size + 1) 25 #[.slice Av vs.length cv, .slice At ts.length ct] (0, 0) _ rfl ((DD.out.res.put 0 (.slice Av vs.length cv)).put 1 (.slice At ts.length ct)) Try.underlying25 rfl (by rw [view_size]; rfl)) rfl ?_
          have ev := HVS.out
          have et := HE.out
          subst ev
          unfold CloPost
          rw [← et]
          have hzT : UpdT [25] wr ((wr.setCell ⟨w.heap.size + 1, 0, none⟩ (.slice Av V.votes.length cv)).setCell ⟨w.heap.size + 1, 1, none⟩ (.slice At ts.length ct)) := UpdT.of hz (fun k f => by rw [show k = w.heap.size + 1 from f]; exact DD.out.res.tyf (by simp))
          exact ⟨Av, At, cv, ct, rfl, HS.out.updT hzT (by decide) (by decide), HO.out, HT'.out.updT hzT (by decide) (by decide), HO'.out, DD.out.upd.trans hz (fun k hk e => by have e : k = w.heap.size + 1 := e; omega)⟩
end Go.Proofs.Ytbgificdilpdcaa
