/- snapshot.Union of views without votes. Conditions: sizes. Write of package snapshot. Conditions: sizes. Read of package snapshot. Conditions: sizes. slices.EqualFunc of texts. Conditions: sizes. -/
import Derived.Test.YtbgificdilpdcaaJn17
import Derived.Test.YtbgificdilpdcaaJn12
import Derived.Test.YtbgificdilpdcaaJn4
import Derived.Test.YtbgificdilpdcaaJn14
import Derived.Test.YtbgificdilpdcaaJn16
namespace Go.Proofs.Ytbgificdilpdcaa
section
open Go.RowKit

/-- What the region of Union has done: slot 5 holds the new view. -/
structure UnPh (w0 : World) (V : ViewS) (L : Nat → Bool) (ρ : Operand → Value) (w : World) : Prop where
  up : Upd NoF w0 w
  lk : L 14 = true → ∃ b, ρ (.tmp 5) = ptrV b ∧ w0.heap.size ≤ b ∧ (L 15 = false → Blk w b 25 nil2) ∧
    (L 15 = true → ∃ Av At cv ct, Blk w b 25 #[.slice Av V.votes.length cv, .slice At V.texts.length ct] ∧ SgO w Av cv V.votes ∧ OwnN w0 (.slice Av V.votes.length cv) ∧ TxO w At ct V.texts ∧ OwnN w0 (.slice At V.texts.length ct))
abbrev UnSt (S0 : Nat) (_ : Nat → Bool) (w w' : World) : Prop := Upd (fun k => S0 ≤ k ∧ TyF [25] w k) w w'
section
variable {w0 w w' : World} {V : ViewS} {L : Nat → Bool} {ρ ρ' : Operand → Value} {S0 : Nat}
theorem UnSt.ty (h : UnSt S0 L w w') : UpdT [25] w w' := Upd.mono h (fun _ _ f => f.2)
theorem UnSt.none (h : Upd NoF w w') : UnSt S0 L w w' := Upd.mono h (fun _ _ f => f.elim)
theorem UnPh.start : UnPh w0 V (fun _ => false) ρ w0 := ⟨Upd.refl _ _, fun e => by cases e⟩
theorem UnPh.more (h : UnPh w0 V L ρ w) {i : Nat} (hi : 14 ≠ i) (hi2 : 15 ≠ i) (hu : Upd NoF w w') (h5 : ρ' (.tmp 5) = ρ (.tmp 5)) : UnPh w0 V (fun j => j == i || L j) ρ' w' := by
  have e4 : ((14 == i) || L 14) = L 14 := by simp [hi]
  have e5 : ((15 == i) || L 15) = L 15 := by simp [hi2]
  refine ⟨h.up.trans hu (fun _ _ f => f), fun e => ?_⟩
  obtain ⟨b, b1, b2, b3, b4⟩ := h.lk (by rw [← e4]; exact e)
  refine ⟨b, h5.trans b1, b2, fun e => hu.blk (b3 (by rw [← e5]; exact e)) (fun f => f), fun e => ?_⟩
  obtain ⟨Av, At, cv, ct, c1, c2, c3, c4, c5⟩ := b4 (by rw [← e5]; exact e)
  exact ⟨Av, At, cv, ct, hu.blk c1 (fun f => f), c2.updT (ts := []) (UpdT.none hu) (by decide) (by decide), c3, c4.updT (ts := []) (UpdT.none hu) (by decide) (by decide), c5⟩
theorem UnPh.alloc (h : UnPh w0 V L ρ w) (h15 : L 15 = false) (h5 : ρ' (.tmp 5) = ptrV w.heap.size) : UnPh w0 V (fun j => j == 14 || L j) ρ' (w.alloc (.cells nil2 25)) := by
  refine ⟨h.up.alloc _, fun _ => ⟨w.heap.size, h5, h.up.size, fun _ => Blk.new w _ _, fun e => ?_⟩⟩
  simp [h15] at e
theorem UnPh.store (h : UnPh w0 V L ρ w) (h14 : L 14 = true) (h15 : L 15 = false) {b : Nat} (hb : ρ (.tmp 5) = ptrV b) (h5 : ρ' (.tmp 5) = ρ (.tmp 5)) {Av At : Option Addr} {cv ct : Nat} (c2 : SgO w Av cv V.votes) (c3 : OwnN w0 (.slice Av V.votes.length cv)) (c4 : TxO w At ct V.texts) (c5 : OwnN w0 (.slice At V.texts.length ct)) :
    UnPh w0 V (fun j => j == 15 || L j) ρ' ((w.setCell ⟨b, 0, none⟩ (.slice Av V.votes.length cv)).setCell ⟨b, 1, none⟩ (.slice At V.texts.length ct)) ∧ UnSt w0.heap.size L w ((w.setCell ⟨b, 0, none⟩ (.slice Av V.votes.length cv)).setCell ⟨b, 1, none⟩ (.slice At V.texts.length ct)) := by
  obtain ⟨b', b1, b2, b3, _⟩ := h.lk h14
  have eb : b' = b := by
    have := b1.symm.trans hb
    unfold ptrV at this
    injection this with this
    injection this with this
    injection this
  subst eb
  have hbk := b3 h15
  have hu : Upd (fun k => k = b') w ((w.setCell ⟨b', 0, none⟩ (.slice Av V.votes.length cv)).setCell ⟨b', 1, none⟩ (.slice At V.texts.length ct)) := ((Upd.refl (fun k => k = b') w).setCell (p := ⟨b', 0, none⟩) (.inl rfl) _).setCell (p := ⟨b', 1, none⟩) (.inl rfl) _
  have hT : UpdT [25] w ((w.setCell ⟨b', 0, none⟩ (.slice Av V.votes.length cv)).setCell ⟨b', 1, none⟩ (.slice At V.texts.length ct)) := UpdT.of hu (fun k f => by rw [show k = b' from f]; exact hbk.tyf (by simp))
  refine ⟨⟨h.up.trans hu (fun k hk e => by have e : k = b' := e; omega), fun _ => ⟨b', h5.trans hb, b2, fun e => by simp at e, fun _ => ⟨Av, At, cv, ct, (hbk.put 0 _).put 1 _, c2.updT hT (by decide) (by decide), c3, c4.updT hT (by decide) (by decide), c5⟩⟩⟩, hu.mono (fun k _ f => by rw [show k = b' from f]; exact ⟨b2, hbk.tyf (by simp)⟩)⟩
end
def UnB (t : TypeId) (x y : Value) (v : Value) (w : World) : Prop := ∃ g, v = .slice (some ⟨g, 0, none⟩) 2 2 ∧ Blk w g t #[x, y]
def UnC (e : TypeId) (size n : Nat) (xs : List Value) (v : Value) (w : World) : Prop := ∃ A c, v = .slice A n c ∧ Own w e size (.slice A n c) n xs
def UnA (n m : Nat) (xs ys : List Value) (v : Value) (w : World) : Prop := ∃ A c B d, v = .agg #[.slice A n c, .slice B m d] ∧ Own w 38 23 (.slice A n c) n xs ∧ Own w 36 1 (.slice B m d) m ys
def UnD (w0 : World) (V : ViewS) (v : Value) (w : World) : Prop := ∃ Av At cv ct, v = .agg #[.slice Av V.votes.length cv, .slice At V.texts.length ct] ∧ SgO w Av cv V.votes ∧ OwnN w0 (.slice Av V.votes.length cv) ∧ TxO w At ct V.texts ∧ OwnN w0 (.slice At V.texts.length ct)
section
variable {S0 : Nat} {i : Nat}
theorem stbL_ub {t : TypeId} {x y : Value} (ht : t ≠ 25) : StbL (UnSt S0) i (UnB t x y) := fun _ _ _ _ _ ⟨g, e, h⟩ hs => ⟨g, e, (UnSt.ty (L := fun _ => false) hs).blk h (by simpa using ht)⟩
theorem stbL_uc {t : TypeId} {size n : Nat} {xs : List Value} (ht : t ≠ 25) : StbL (UnSt S0) i (UnC t size n xs) := fun _ _ _ _ _ ⟨A, c, e, h⟩ hs => ⟨A, c, e, h.updT (UnSt.ty (L := fun _ => false) hs) (by simpa using ht)⟩
theorem stbL_ua {n m : Nat} {xs ys : List Value} : StbL (UnSt S0) i (UnA n m xs ys) := fun _ _ _ _ _ ⟨A, c, B, d, e, h, k⟩ hs => ⟨A, c, B, d, e, h.updT (UnSt.ty (L := fun _ => false) hs) (by decide), k.updT (UnSt.ty (L := fun _ => false) hs) (by decide)⟩
theorem stbL_ud {w0 : World} {V : ViewS} : StbL (UnSt S0) i (UnD w0 V) := fun _ _ _ _ _ ⟨Av, At, cv, ct, e, h1, h2, h3, h4⟩ hs => ⟨Av, At, cv, ct, e, h1.updT (UnSt.ty (L := fun _ => false) hs) (by decide) (by decide), h2, h3.updT (UnSt.ty (L := fun _ => false) hs) (by decide) (by decide), h4⟩
end
theorem bs_sgs (A B : Option Addr) (n m c d : Nat) (w : World) : (Instr.buildSlice 84 2 #[(0, .slice A n c), (1, .slice B m d)]).run Try.prog w = .ok (.slice (some ⟨w.heap.size, 0, none⟩) 2 2) (w.alloc (.cells #[.slice A n c, .slice B m d] 22)) := by kernel_rfl
theorem bs_txs (A B : Option Addr) (n m c d : Nat) (w : World) : (Instr.buildSlice 86 2 #[(0, .slice A n c), (1, .slice B m d)]).run Try.prog w = .ok (.slice (some ⟨w.heap.size, 0, none⟩) 2 2) (w.alloc (.cells #[.slice A n c, .slice B m d] 23)) := by kernel_rfl
/-- Two slices of texts, one behind the other. -/
theorem TxR.cat {w w' : World} {l m : List (List UInt8)} {us vs : List Value} (h1 : us.length = l.length) (h2 : vs.length = m.length) (hl : ∀ (i : Nat) b, l[i]? = some b → ∃ u, us[i]? = some u ∧ Rd w 1 u b.length (b.map byteV)) (hm : ∀ (i : Nat) b, m[i]? = some b → ∃ u, vs[i]? = some u ∧ Rd w 1 u b.length (b.map byteV))
    {v : Value} (ho : Rd w' 1 v (l ++ m).length (us ++ vs)) (hu : Upd NoF w w') : TxR w' v (l ++ m) := by
  refine ⟨us ++ vs, by simp [h1, h2], ho, fun i b hb => ?_⟩
  rcases Nat.lt_or_ge i l.length with h | h
  · rw [List.getElem?_append_left h] at hb
    obtain ⟨u, e1, e2⟩ := hl i b hb
    exact ⟨u, by rw [List.getElem?_append_left (by omega)]; exact e1, e2.keep hu⟩
  · rw [List.getElem?_append_right h] at hb
    obtain ⟨u, e1, e2⟩ := hm _ b hb
    exact ⟨u, by rw [List.getElem?_append_right (by omega), h1]; exact e1, e2.keep hu⟩
theorem tx_one {w : World} {l : List (List UInt8)} {us : List Value} (h1 : us.length = l.length) (hl : ∀ (i : Nat) b, l[i]? = some b → ∃ u, us[i]? = some u ∧ Rd w 1 u b.length (b.map byteV)) : ∀ u ∈ us, u.oneCell' = true := by
  intro u hu
  obtain ⟨i, hi⟩ := List.getElem?_of_mem hu
  have hlt : i < l.length := by rw [← h1]; exact (List.getElem?_eq_some_iff.1 hi).1
  obtain ⟨y, e1, e2⟩ := hl i _ (List.getElem?_eq_getElem hlt)
  rw [hi] at e1
  rw [Option.some.inj e1]
  obtain ⟨A, c, e, -⟩ := e2.slice
  rw [e]
  rfl
set_option maxRecDepth 100000 in
set_option maxHeartbeats 4000000 in
theorem insSort0 (A : Option Addr) (c : Nat) (fv : Value) (w : World) : Calls Try.prog 71 #[.slice A 0 c, .int .i64 0, .int .i64 0, fv] w fun e w' => e = .returned (.tuple #[]) ∧ w' = w := by
  go_enter Try.func71, Try.ntmps71
  go_wp2
  refine wp_loop_once ?_
  go_wp2
  go_end0
  exact ⟨rfl, rfl⟩
set_option maxRecDepth 100000 in
set_option maxHeartbeats 4000000 in
theorem stable0 (A : Option Addr) (c : Nat) (fv : Value) (w : World) : Calls Try.prog 52 #[.slice A 0 c, .int .i64 0, fv] w fun e w' => e = .returned (.tuple #[]) ∧ w' = w := by
  have CI := Lib.hid (insSort0 A c fv w)
  go_enter Try.func52, Try.ntmps52
  go_wp2
  refine wp_loop_once ?_
  go_wp2_with fail
  refine CI.out.mono ?_
  rintro e w' ⟨rfl, rfl⟩
  go_wp2
  refine wp_loop_once ?_
  go_wp2
  go_end0
  exact ⟨rfl, rfl⟩
set_option maxRecDepth 100000 in
set_option maxHeartbeats 4000000 in
theorem sortStable0 (A : Option Addr) (c : Nat) (fv : Value) (w : World) : Calls Try.prog 18 #[.slice A 0 c, fv] w fun e w' => e = .returned (.tuple #[]) ∧ w' = w := by
  have CI := Lib.hid (stable0 A c fv w)
  go_enter Try.func18, Try.ntmps18
  go_wp2_with fail
  refine CI.out.mono ?_
  rintro e w' ⟨rfl, rfl⟩
  go_wp2
  go_end0
  exact ⟨rfl, rfl⟩
set_option maxRecDepth 100000 in
set_option maxHeartbeats 4000000 in
theorem CompactS0 (A : Option Addr) (c : Nat) (fv : Value) (w : World) : Calls Try.prog 22 #[.slice A 0 c, fv] w fun e w' => e = .returned (.slice A 0 c) ∧ w' = w := by
  go_enter Try.func22, Try.ntmps22
  go_wp2
  go_ret
  exact ⟨rfl, rfl⟩


theorem Rd.of0 (w : World) (size : Nat) {A : Option Addr} {c : Nat} (h : c ≤ maxLen) : Rd w size (.slice A 0 c) 0 [] := ⟨A, c, rfl, Nat.zero_le _, h, by simp, fun h => absurd h (by omega)⟩
theorem SgR.of0 {w : World} {A : Option Addr} {c : Nat} (h : Rd w 23 (.slice A 0 c) 0 []) : SgR w (.slice A 0 c) [] := ⟨by simp, [], rfl, h, fun _ _ h => by cases h⟩
def uniT (l m : List (List UInt8)) : List (List UInt8) := compL (sortL lessT (l ++ m))
def UniPost (w : World) (V : ViewS) (e : Ending) (w' : World) : Prop := ∃ a b, e = .returned (.agg #[a, b]) ∧ VwR w' a b V ∧ Upd NoF w w'
set_option maxRecDepth 100000 in
set_option maxHeartbeats 16000000 in
theorem Union0_any {w : World} {a b a' b' : Value} {l m : List (List UInt8)} (ha : SgR w a []) (hb : TxR w b l) (ha' : SgR w a' []) (hb' : TxR w b' m) (hs1 : l.length ≤ 1000000) (hs2 : m.length ≤ 1000000) (hl : ∀ t ∈ l ++ m, t.length ≤ 140737488355328) :
    Calls Try.prog 6 #[.agg #[a, b], .agg #[a', b']] w (UniPost w ⟨[], uniT l m⟩) := by
  obtain ⟨A, ca, rfl, -, hca⟩ := ha.form
  obtain ⟨B, cb, rfl, -, hcb⟩ := ha'.form
  obtain ⟨C, cc, rfl, hcc, hccm⟩ := hb.form
  obtain ⟨D, cd, rfl, hcd, hcdm⟩ := hb'.form
  obtain ⟨us, hu1, hu2, hu3⟩ := hb
  obtain ⟨vs, hv1, hv2, hv3⟩ := hb'
  simp only [List.length_nil]
  have HCA := Lib.hid hca
  have HCB := Lib.hid hcb
  have HU1 := Lib.hid hu1
  have HV1 := Lib.hid hv1
  have HUL := Lib.hid hu3
  have HVL := Lib.hid hv3
  have HO1 := Lib.hid (tx_one hu1 hu3)
  have HO2 := Lib.hid (tx_one hv1 hv3)
  have HLL := Lib.hid hl
  have sz1 : (w.alloc (.cells #[.slice A 0 ca, .slice C l.length cc] 25)).heap.size = w.heap.size + 1 := by simp
  have sz2 : ((w.alloc (.cells #[.slice A 0 ca, .slice C l.length cc] 25)).alloc (.cells #[.slice B 0 cb, .slice D m.length cd] 25)).heap.size = w.heap.size + 2 := by simp
  have b1 := ((Blk.new w 25 #[.slice A 0 ca, .slice C l.length cc]).alloc (.cells #[.slice B 0 cb, .slice D m.length cd] 25)).alloc (.cells nil2 25)
  have b2 := (Blk.new (w.alloc (.cells #[.slice A 0 ca, .slice C l.length cc] 25)) 25 #[.slice B 0 cb, .slice D m.length cd]).alloc (.cells nil2 25)
  have b3 := Blk.new ((w.alloc (.cells #[.slice A 0 ca, .slice C l.length cc] 25)).alloc (.cells #[.slice B 0 cb, .slice D m.length cd] 25)) 25 nil2
  rw [sz1] at b2
  rw [sz2] at b3
  have BA3 := Lib.hid b1
  have BB3 := Lib.hid b2
  have BR3 := Lib.hid b3
  have UW3 := Lib.hid ((((Upd.refl NoF w).alloc (.cells #[.slice A 0 ca, .slice C l.length cc] 25)).alloc (.cells #[.slice B 0 cb, .slice D m.length cd] 25)).alloc (.cells nil2 25))
  obtain ⟨W3, hW3⟩ : ∃ x, x = (((w.alloc (.cells #[.slice A 0 ca, .slice C l.length cc] 25)).alloc (.cells #[.slice B 0 cb, .slice D m.length cd] 25)).alloc (.cells nil2 25)) := ⟨_, rfl⟩
  rw [← hW3] at BA3 BB3 BR3 UW3
  have hr3 : w.heap.size + 2 < W3.heap.size := BR3.out.lt
  have HRL := Lib.hid (show ∀ W, Upd NoF W3.drew W → Rd W 1 (.slice C l.length cc) l.length us from fun W hu => hu2.keep (UW3.out.trans (((Upd.refl NoF W3).drew).trans hu (fun _ _ f => f)) (fun _ _ f => f)))
  have HRM := Lib.hid (show ∀ W, Upd NoF W3.drew W → Rd W 1 (.slice D m.length cd) m.length vs from fun W hu => hv2.keep (UW3.out.trans (((Upd.refl NoF W3).drew).trans hu (fun _ _ f => f)) (fun _ _ f => f)))
  clear sz1 sz2 b1 b2 b3 hu1 hu2 hu3 hv1 hv2 hv3 ha ha' hl hca hcb
  go_enter Try.func6, Try.ntmps6
  go_wp2_with fail
  rw [← hW3]
  clear hW3
  refine wp_region_rgv (rgR [isV (.pointer (some ⟨w.heap.size, 0, none⟩)), isV (.slice A 0 ca), isV (.pointer (some ⟨(w.heap.size + 1), 0, none⟩)), isV (.slice B 0 cb), UnB 22 (.slice A 0 ca) (.slice B 0 cb), UnC 38 23 0 [], isV (.pointer (some ⟨w.heap.size, 1, none⟩)), isV (.slice C l.length cc), isV (.pointer (some ⟨(w.heap.size + 1), 1, none⟩)), isV (.slice D m.length cd), UnB 23 (.slice C l.length cc) (.slice D m.length cd), UnC 36 1 (l.length + m.length) (us ++ vs), UnA 0 (l.length + m.length) [] (us ++ vs), UnD W3.drew ⟨[], l ++ m⟩, anyV, anyV]) (UnSt W3.drew.heap.size) (UnPh W3.drew ⟨[], l ++ m⟩) (by kernel_rfl) (by kernel_rfl) (by kernel_rfl) (by rfl) (fun L w => Upd.refl _ _) (rgR_keepL ⟨stbL_isV _, stbL_isV _, stbL_isV _, stbL_isV _, stbL_ub (by decide), stbL_uc (by decide), stbL_isV _, stbL_isV _, stbL_isV _, stbL_isV _, stbL_ub (by decide), stbL_uc (by decide), stbL_ua, stbL_ud, stbL_any, stbL_any, trivial⟩) (UnPh.start) ?_ ?_
  · refine ⟨?_, ?_, ?_, ?_, ?_, ?_, ?_, ?_, ?_, ?_, ?_, ?_, ?_, ?_, ?_, ?_, trivial⟩
    · refine fun ρ w' L hW hLi hcl hd hdep hext hc hg hf => ?_
      rw [if_pos (show wantedR _ _ _ = true from rfl)]
      have e2 : ρ (.tmp 2) = ptrV w.heap.size := hext 2 (by kernel_rfl)
      clear hdep hext hcl
      have HW := Lib.hid hW
      clear hW
      unfold OpDone
      go_simp
      exact ⟨rfl, Upd.refl _ _, (fun ρ' hk _ => HW.out.more (by decide) (by decide) (Upd.refl _ _) (hk 5 (by decide)))⟩
    · refine fun ρ w' L hW hLi hcl hd hdep hext hc hg hf => ?_
      rw [if_pos (show wantedR _ _ _ = true from rfl)]
      have e6 : ρ (.tmp 6) = .pointer (some ⟨w.heap.size, 0, none⟩) := hdep 0 _ rfl (by kernel_rfl)
      have hcz : w'.cell? ⟨w.heap.size, 0, none⟩ = some (.slice A 0 ca) := (hW.up.blk (Blk.drew BA3.out) (fun f => f)).cell 0
      clear hdep hext hcl
      have HW := Lib.hid hW
      clear hW
      unfold OpDone
      go_simp
      exact ⟨rfl, Upd.refl _ _, (fun ρ' hk _ => HW.out.more (by decide) (by decide) (Upd.refl _ _) (hk 5 (by decide)))⟩
    · refine fun ρ w' L hW hLi hcl hd hdep hext hc hg hf => ?_
      rw [if_pos (show wantedR _ _ _ = true from rfl)]
      have e3 : ρ (.tmp 3) = ptrV (w.heap.size + 1) := hext 3 (by kernel_rfl)
      clear hdep hext hcl
      have HW := Lib.hid hW
      clear hW
      unfold OpDone
      go_simp
      exact ⟨rfl, Upd.refl _ _, (fun ρ' hk _ => HW.out.more (by decide) (by decide) (Upd.refl _ _) (hk 5 (by decide)))⟩
    · refine fun ρ w' L hW hLi hcl hd hdep hext hc hg hf => ?_
      rw [if_pos (show wantedR _ _ _ = true from rfl)]
      have e8 : ρ (.tmp 8) = .pointer (some ⟨(w.heap.size + 1), 0, none⟩) := hdep 2 _ rfl (by kernel_rfl)
      have hcz : w'.cell? ⟨(w.heap.size + 1), 0, none⟩ = some (.slice B 0 cb) := (hW.up.blk (Blk.drew BB3.out) (fun f => f)).cell 0
      clear hdep hext hcl
      have HW := Lib.hid hW
      clear hW
      unfold OpDone
      go_simp
      exact ⟨rfl, Upd.refl _ _, (fun ρ' hk _ => HW.out.more (by decide) (by decide) (Upd.refl _ _) (hk 5 (by decide)))⟩
    · refine fun ρ w' L hW hLi hcl hd hdep hext hc hg hf => ?_
      rw [if_pos (show wantedR _ _ _ = true from rfl)]
      have e7 : ρ (.tmp 7) = .slice A 0 ca := hdep 1 _ rfl (by kernel_rfl)
      have e9 : ρ (.tmp 9) = .slice B 0 cb := hdep 3 _ rfl (by kernel_rfl)
      clear hdep hext
      have kk := bs_sgs A B 0 0 ca cb w'
      have HW := Lib.hid hW
      clear hW
      unfold OpDone
      go_simp
      exact ⟨⟨_, rfl, Blk.new w' _ _⟩, UnSt.none ((Upd.refl _ w').alloc _), (fun ρ' hk _ => HW.out.more (by decide) (by decide) ((Upd.refl _ w').alloc _) (hk 5 (by decide)))⟩
    · refine fun ρ w' L hW hLi hcl hd hdep hext hc hg hf => ?_
      rw [if_pos (show wantedR _ _ _ = true from rfl)]
      have e10 : (UnB 22 (.slice A 0 ca) (.slice B 0 cb)) (ρ (.tmp 10)) w' := hdep 4 _ rfl (by kernel_rfl)
      clear hdep hext
      obtain ⟨g, hv, hbk⟩ := e10
      have CC := Lib.hid (ConcatS_any (xs := []) (ys := []) hbk (Rd.of0 w' 23 HCA.out) (Rd.of0 w' 23 HCB.out) (by simp) (by simp) (by omega) (by omega))
      have HW := Lib.hid hW
      clear hW hbk
      unfold OpDone
      go_simp
      refine CC.out.mono ?_
      rintro e w2 ⟨A2, c2, rfl, ho2, hn2, hu2⟩
      exact ⟨_, rfl, ⟨A2, c2, rfl, ho2⟩, UnSt.none hu2, (fun ρ' hk _ => HW.out.more (by decide) (by decide) hu2 (hk 5 (by decide)))⟩
    · refine fun ρ w' L hW hLi hcl hd hdep hext hc hg hf => ?_
      rw [if_pos (show wantedR _ _ _ = true from rfl)]
      have e2 : ρ (.tmp 2) = ptrV w.heap.size := hext 2 (by kernel_rfl)
      clear hdep hext hcl
      have HW := Lib.hid hW
      clear hW
      unfold OpDone
      go_simp
      exact ⟨rfl, Upd.refl _ _, (fun ρ' hk _ => HW.out.more (by decide) (by decide) (Upd.refl _ _) (hk 5 (by decide)))⟩
    · refine fun ρ w' L hW hLi hcl hd hdep hext hc hg hf => ?_
      rw [if_pos (show wantedR _ _ _ = true from rfl)]
      have e12 : ρ (.tmp 12) = .pointer (some ⟨w.heap.size, 1, none⟩) := hdep 6 _ rfl (by kernel_rfl)
      have hcz : w'.cell? ⟨w.heap.size, 1, none⟩ = some (.slice C l.length cc) := (hW.up.blk (Blk.drew BA3.out) (fun f => f)).cell 1
      clear hdep hext hcl
      have HW := Lib.hid hW
      clear hW
      unfold OpDone
      go_simp
      exact ⟨rfl, Upd.refl _ _, (fun ρ' hk _ => HW.out.more (by decide) (by decide) (Upd.refl _ _) (hk 5 (by decide)))⟩
    · refine fun ρ w' L hW hLi hcl hd hdep hext hc hg hf => ?_
      rw [if_pos (show wantedR _ _ _ = true from rfl)]
      have e3 : ρ (.tmp 3) = ptrV (w.heap.size + 1) := hext 3 (by kernel_rfl)
      clear hdep hext hcl
      have HW := Lib.hid hW
      clear hW
      unfold OpDone
      go_simp
      exact ⟨rfl, Upd.refl _ _, (fun ρ' hk _ => HW.out.more (by decide) (by decide) (Upd.refl _ _) (hk 5 (by decide)))⟩
    · refine fun ρ w' L hW hLi hcl hd hdep hext hc hg hf => ?_
      rw [if_pos (show wantedR _ _ _ = true from rfl)]
      have e14 : ρ (.tmp 14) = .pointer (some ⟨(w.heap.size + 1), 1, none⟩) := hdep 8 _ rfl (by kernel_rfl)
      have hcz : w'.cell? ⟨(w.heap.size + 1), 1, none⟩ = some (.slice D m.length cd) := (hW.up.blk (Blk.drew BB3.out) (fun f => f)).cell 1
      clear hdep hext hcl
      have HW := Lib.hid hW
      clear hW
      unfold OpDone
      go_simp
      exact ⟨rfl, Upd.refl _ _, (fun ρ' hk _ => HW.out.more (by decide) (by decide) (Upd.refl _ _) (hk 5 (by decide)))⟩
    · refine fun ρ w' L hW hLi hcl hd hdep hext hc hg hf => ?_
      rw [if_pos (show wantedR _ _ _ = true from rfl)]
      have e13 : ρ (.tmp 13) = .slice C l.length cc := hdep 7 _ rfl (by kernel_rfl)
      have e15 : ρ (.tmp 15) = .slice D m.length cd := hdep 9 _ rfl (by kernel_rfl)
      clear hdep hext
      have kk := bs_txs C D l.length m.length cc cd w'
      have HW := Lib.hid hW
      clear hW
      unfold OpDone
      go_simp
      exact ⟨⟨_, rfl, Blk.new w' _ _⟩, UnSt.none ((Upd.refl _ w').alloc _), (fun ρ' hk _ => HW.out.more (by decide) (by decide) ((Upd.refl _ w').alloc _) (hk 5 (by decide)))⟩
    · refine fun ρ w' L hW hLi hcl hd hdep hext hc hg hf => ?_
      rw [if_pos (show wantedR _ _ _ = true from rfl)]
      have e16 : (UnB 23 (.slice C l.length cc) (.slice D m.length cd)) (ρ (.tmp 16)) w' := hdep 10 _ rfl (by kernel_rfl)
      clear hdep hext
      obtain ⟨g, hv, hbk⟩ := e16
      have CC := Lib.hid (ConcatT_any hbk (HRL.out w' hW.up) (HRM.out w' hW.up) HO1.out HO2.out hs1 hs2)
      have HW := Lib.hid hW
      clear hW hbk
      unfold OpDone
      go_simp
      refine CC.out.mono ?_
      rintro e w2 ⟨A2, c2, rfl, ho2, hn2, hu2⟩
      exact ⟨_, rfl, ⟨A2, c2, rfl, ho2⟩, UnSt.none hu2, (fun ρ' hk _ => HW.out.more (by decide) (by decide) hu2 (hk 5 (by decide)))⟩
    · refine fun ρ w' L hW hLi hcl hd hdep hext hc hg hf => ?_
      rw [if_pos (show wantedR _ _ _ = true from rfl)]
      have e11 : (UnC 38 23 0 []) (ρ (.tmp 11)) w' := hdep 5 _ rfl (by kernel_rfl)
      have e17 : (UnC 36 1 (l.length + m.length) (us ++ vs)) (ρ (.tmp 17)) w' := hdep 11 _ rfl (by kernel_rfl)
      clear hdep hext
      obtain ⟨A2, c2, hv2, ho2⟩ := e11
      obtain ⟨A4, c4, hv4, ho4⟩ := e17
      have HO2' := Lib.hid ho2
      have HO4' := Lib.hid ho4
      have HW := Lib.hid hW
      clear hW ho2 ho4
      unfold OpDone
      go_simp
      exact ⟨⟨_, _, _, _, rfl, HO2'.out, HO4'.out⟩, Upd.refl _ _, (fun ρ' hk _ => HW.out.more (by decide) (by decide) (Upd.refl _ _) (hk 5 (by decide)))⟩
    · refine fun ρ w' L hW hLi hcl hd hdep hext hc hg hf => ?_
      rw [if_pos (show wantedR _ _ _ = true from rfl)]
      have e18 : (UnA 0 (l.length + m.length) [] (us ++ vs)) (ρ (.tmp 18)) w' := hdep 12 _ rfl (by kernel_rfl)
      clear hdep hext
      obtain ⟨A2, c2, B2, d2, hv2, ho2, ho4⟩ := e18
      have CC := Lib.hid (Clone0_any (w := w') (a := .slice A2 0 c2) (b := .slice B2 (l.length + m.length) d2) (l := l ++ m) (SgR.of0 ho2.rd) (TxR.cat HU1.out HV1.out HUL.out HVL.out (by rw [List.length_append]; exact ho4.rd) (UW3.out.trans (((Upd.refl NoF W3).drew).trans hW.up (fun _ _ f => f)) (fun _ _ f => f))) (by rw [List.length_append]; omega) HLL.out)
      have hs0 : W3.drew.heap.size ≤ w'.heap.size := hW.up.size
      have HS0 := Lib.hid hs0
      have HW := Lib.hid hW
      clear hW ho2 ho4 hs0
      unfold OpDone
      go_simp
      refine CC.out.mono ?_
      rintro e w2 ⟨Av, At, cv, ct, rfl, k1, k2, k3, k4, hu2⟩
      exact ⟨_, rfl, ⟨Av, At, cv, ct, rfl, k1, fun k hk => Nat.le_trans HS0.out (k2 k hk), k3, fun k hk => Nat.le_trans HS0.out (k4 k hk)⟩, UnSt.none hu2, (fun ρ' hk _ => HW.out.more (by decide) (by decide) hu2 (hk 5 (by decide)))⟩
    · refine fun ρ w' L hW hLi hcl hd hdep hext hc hg hf => ?_
      rw [if_pos (show wantedR _ _ _ = true from rfl)]
      clear hdep hext
      have h15 : L 15 = false := by
        cases h : L 15 with
        | false => rfl
        | true => exact absurd (hcl 15 14 h (by kernel_rfl)) (by rw [hLi]; decide)
      have HW := Lib.hid hW
      clear hW
      unfold OpDone
      go_simp
      exact ⟨trivial, UnSt.none ((Upd.refl _ w').alloc _), fun ρ' _ hp => HW.out.alloc h15 hp⟩
    · refine fun ρ w' L hW hLi hcl hd hdep hext hc hg hf => ?_
      rw [if_pos (show wantedR _ _ _ = true from rfl)]
      have e19 : (UnD W3.drew ⟨[], l ++ m⟩) (ρ (.tmp 19)) w' := hdep 13 _ rfl (by kernel_rfl)
      clear hdep hext
      have h14 : L 14 = true := hd 14 (by kernel_rfl)
      obtain ⟨Av, At, cv, ct, hv, k1, k2, k3, k4⟩ := e19
      obtain ⟨b, b1, b2, b3, -⟩ := hW.lk h14
      have e5' : ρ (.tmp 5) = .pointer (some ⟨b, 0, none⟩) := b1
      have x0 : w'.cell? ⟨b, 0, none⟩ = some (.slice none 0 0) := (b3 hLi).cell 0
      have x1 : w'.cell? ⟨b, 1, none⟩ = some (.slice none 0 0) := (b3 hLi).cell 1
      have x2 : w'.frozen? ⟨b, 0, none⟩ = false := (b3 hLi).frozen 0
      have x3 : w'.frozen? ⟨b, 1, none⟩ = false := (b3 hLi).frozen 1
      have hkk := fun (ρ' : Operand → Value) (h5 : ρ' (.tmp 5) = ρ (.tmp 5)) => hW.store (ρ' := ρ') h14 hLi b1 h5 k1 k2 k3 k4
      simp only [List.length_append, List.length_nil] at hkk
      have KK := Lib.hid hkk
      clear hW b1 b3 k1 k2 k3 k4 hkk
      unfold OpDone
      go_simp
      exact ⟨trivial, (KK.out ρ rfl).2, fun ρ' hk => (KK.out ρ' (hk 5)).1⟩
  intro vs_ wz L hL hW hR
  obtain ⟨b, hb5, hbS, -, hst⟩ := hW.lk (hL 14 (by decide))
  obtain ⟨Av, At, cv, ct, k0, k1, k2, k3, k4⟩ := hst (hL 15 (by decide))
  simp only [putAll, Act.put, List.setIfInBounds_toArray, List.set_cons_zero, List.set_cons_succ, Act.eval] at hb5
  have hb5 : vs_ 14 = ptrV b := hb5
  have hv0 : vs_ 0 = .pointer (some ⟨w.heap.size, 0, none⟩) := hR 0 _ rfl
  have hv1 : vs_ 1 = .slice A 0 ca := hR 1 _ rfl
  have hv2 : vs_ 2 = .pointer (some ⟨(w.heap.size + 1), 0, none⟩) := hR 2 _ rfl
  have hv3 : vs_ 3 = .slice B 0 cb := hR 3 _ rfl
  have hr4 : (UnB 22 (.slice A 0 ca) (.slice B 0 cb)) (vs_ 4) wz := hR 4 _ rfl
  obtain ⟨g4, hv4, -⟩ := hr4
  have hr5 : (UnC 38 23 0 []) (vs_ 5) wz := hR 5 _ rfl
  obtain ⟨A5, c5, hv5, -⟩ := hr5
  have hv6 : vs_ 6 = .pointer (some ⟨w.heap.size, 1, none⟩) := hR 6 _ rfl
  have hv7 : vs_ 7 = .slice C l.length cc := hR 7 _ rfl
  have hv8 : vs_ 8 = .pointer (some ⟨(w.heap.size + 1), 1, none⟩) := hR 8 _ rfl
  have hv9 : vs_ 9 = .slice D m.length cd := hR 9 _ rfl
  have hr10 : (UnB 23 (.slice C l.length cc) (.slice D m.length cd)) (vs_ 10) wz := hR 10 _ rfl
  obtain ⟨g10, hv10, -⟩ := hr10
  have hr11 : (UnC 36 1 (l.length + m.length) (us ++ vs)) (vs_ 11) wz := hR 11 _ rfl
  obtain ⟨A11, c11, hv11, -⟩ := hr11
  have hr12 : (UnA 0 (l.length + m.length) [] (us ++ vs)) (vs_ 12) wz := hR 12 _ rfl
  obtain ⟨A12, c12, B12, d12, hv12, -⟩ := hr12
  have hr13 : (UnD W3.drew ⟨[], l ++ m⟩) (vs_ 13) wz := hR 13 _ rfl
  obtain ⟨A13, B13, c13, d13, hv13, -⟩ := hr13
  have hr14 : (anyV) (vs_ 14) wz := hR 14 _ rfl
  have hv14 := hb5
  simp only [putAll, Act.put, List.setIfInBounds_toArray, List.set_cons_zero, List.set_cons_succ, hv0, hv1, hv2, hv3, hv4, hv5, hv6, hv7, hv8, hv9, hv10, hv11, hv12, hv13, hv14]
  clear hR hv0 hv1 hv2 hv3 hv4 hv5 hv6 hv7 hv8 hv9 hv10 hv11 hv12 hv13 hv14
  have hsz3 : W3.heap.size ≤ b := hbS
  have U4 := Lib.hid (show Upd NoF w wz from UW3.out.trans (((Upd.refl NoF W3).drew).trans hW.up (fun _ _ f => f)) (fun _ _ f => f))
  have BR4 := Lib.hid (show Blk wz (w.heap.size + 2) 25 nil2 from hW.up.blk (Blk.drew BR3.out) (fun f => f))
  have BV4 := Lib.hid k0
  have hnT : ∀ k, OwnB (.slice At (l ++ m).length ct) k → w.heap.size + 2 < k := fun k hk => Nat.lt_of_lt_of_le hr3 (k4 k hk)
  have HNT := Lib.hid hnT
  have HTX := Lib.hid k3
  have TM4 := Lib.hid (show TxM wz (fun k => OwnB (.slice At (l ++ m).length ct) k ∨ k = b ∨ k = w.heap.size + 2) At ct (l ++ m) from k3.to (fun k hk cs hbk => by
    obtain ⟨us', q1, q2, q3, q4⟩ := k3
    rcases hk with hk | hk | hk
    · exact q2.blk_ne hbk (by decide) hk
    · rw [hk] at hbk
      exact absurd rfl (Blk.unlike k0 hbk (by decide))
    · rw [hk] at hbk
      exact absurd rfl (Blk.unlike BR4.out hbk (by decide))))
  have HCV := Lib.hid (show cv ≤ maxLen from by
    obtain ⟨_, us', q1, q2, q3⟩ := k1
    obtain ⟨A', c', e, h1, h2, -⟩ := q2.rd
    injection e with _ _ e3
    rw [e3]
    exact h2)
  have CS := Lib.hid (SortT_any TM4.out (fun k hk => .inl hk) (by rw [List.length_append]; omega))
  have HLN := Lib.hid (show (l ++ m).length = l.length + m.length from List.length_append)
  have v0 : wz.cell? ⟨b, 0, none⟩ = some (.slice Av 0 cv) := k0.cell 0
  have v1 : wz.cell? ⟨b, 1, none⟩ = some (.slice At (l ++ m).length ct) := k0.cell 1
  have C0 := Lib.hid (fun W => sortStable0 Av cv (fnV 19) W)
  have D0 := Lib.hid (fun W => CompactS0 Av cv (fnV 23) W)
  clear hW hL hbS k0 k1 k2 k3 k4 hnT UW3 BA3 BB3 HRL HRM HUL HVL
  obtain ⟨N, hN⟩ : ∃ n, (l ++ m).length = n := ⟨_, rfl⟩
  rw [hN] at v1 CS
  have HN := Lib.hid hN
  clear hN
  unfold ptrV
  unfold fnV at C0 D0 CS
  go_wp2_with fail
  refine (C0.out _).mono ?_
  rintro e w4 ⟨rfl, rfl⟩
  go_wp2_with fail
  refine CS.out.mono ?_
  rintro e w5 ⟨rfl, ht5, hu5⟩
  have hTN := HNT.out
  have nb : ¬ OwnB (.slice At (l ++ m).length ct) b := HTX.out.ne BV4.out
  have TM5 := Lib.hid ht5
  have BV5 := Lib.hid (hu5.blk BV4.out nb)
  have BR5 := Lib.hid (hu5.blk BR4.out (fun f => by have := hTN _ f; omega))
  have U5 := Lib.hid (U4.out.trans hu5 (fun k hk f => by have := hTN k f; omega))
  have v0 : w5.cell? ⟨b, 0, none⟩ = some (.slice Av 0 cv) := BV5.out.cell 0
  have v1 : w5.cell? ⟨b, 1, none⟩ = some (.slice At N ct) := by have := BV5.out.cell 1; rw [← HN.out]; exact this
  have v2 : w5.frozen? ⟨b, 0, none⟩ = false := BV5.out.frozen 0
  have v3 : w5.frozen? ⟨b, 1, none⟩ = false := BV5.out.frozen 1
  have hS5 : Upd (fun k => k = b) w5 (w5.setCell ⟨b, 0, none⟩ (.slice Av 0 cv)) := (Upd.refl (fun k => k = b) w5).setCell (p := ⟨b, 0, none⟩) (.inl rfl) _
  have sl : (sortL lessT (l ++ m)).length = (l ++ m).length := sortL_len _
  have CT := Lib.hid (CompactT_any (ht5.upd hS5 (fun k hk f => by rw [show k = b from f, sl] at hk; exact nb hk) (fun k _ f => .inr (.inl f))) (fun k hk => by rw [sl, HN.out] at hk; exact .inl hk) (by rw [sl, List.length_append]; omega))
  rw [sl, HN.out] at CT
  unfold fnV at CT
  have BV6 := Lib.hid (BV5.out.put 0 (.slice Av 0 cv))
  have BR6 := Lib.hid (hS5.blk BR5.out (fun f => by have f : w.heap.size + 2 = b := f; omega))
  have U6 := Lib.hid (U5.out.trans hS5 (fun k hk f => by have f : k = b := f; omega))
  have HNB := Lib.hid nb
  clear ht5 hu5 hS5 sl CS C0 nb hTN
  go_wp2_with fail
  refine (D0.out _).mono ?_
  rintro e w6 ⟨rfl, rfl⟩
  go_wp2_with fail
  refine CT.out.mono ?_
  rintro e w7 ⟨rfl, ht7, hu7⟩
  have hTN := HNT.out
  have sl : (sortL lessT (l ++ m)).length = (l ++ m).length := sortL_len _
  unfold CompTPost at *
  rw [sl] at hu7
  have TM7 := Lib.hid ht7
  have BV7 := Lib.hid (hu7.blk BV6.out HNB.out)
  have BR7 := Lib.hid (hu7.blk BR6.out (fun f => by have := hTN _ f; omega))
  have U7 := Lib.hid (U6.out.trans hu7 (fun k hk f => by have := hTN k f; omega))
  have v0 : w7.cell? ⟨b, 0, none⟩ = some (.slice Av 0 cv) := BV7.out.cell 0
  have v1 : w7.cell? ⟨b, 1, none⟩ = some (.slice At (l ++ m).length ct) := BV7.out.cell 1
  have v2 : w7.frozen? ⟨b, 0, none⟩ = false := BV7.out.frozen 0
  have v3 : w7.frozen? ⟨b, 1, none⟩ = false := BV7.out.frozen 1
  have x0 : w7.cell? ⟨w.heap.size + 2, 0, none⟩ = some (.slice none 0 0) := BR7.out.cell 0
  have x1 : w7.cell? ⟨w.heap.size + 2, 1, none⟩ = some (.slice none 0 0) := BR7.out.cell 1
  have x2 : w7.frozen? ⟨w.heap.size + 2, 0, none⟩ = false := BR7.out.frozen 0
  have x3 : w7.frozen? ⟨w.heap.size + 2, 1, none⟩ = false := BR7.out.frozen 1
  have hRb : w.heap.size + 2 ≠ b := by omega
  have hbR : b ≠ w.heap.size + 2 := by omega
  have HLE := Lib.hid (comp_len (sortL lessT (l ++ m)))
  have HTN' := Lib.hid (show ∀ k, OwnB (.slice At (compL (sortL lessT (l ++ m))).length ct) k → OwnB (.slice At (l ++ m).length ct) k from fun k hk => by
    cases At <;> (simp [OwnB, Value.ownBlock] at hk ⊢; try exact hk))
  obtain ⟨q, hq⟩ : ∃ n, (compL (sortL lessT (l ++ m))).length = n := ⟨_, rfl⟩
  have HQ := Lib.hid hq
  rw [hq]
  clear ht7 hu7 hTN sl hq D0 CT
  go_wp2
  have hzb : Upd (fun k => k = b) w7 (w7.setCell ⟨b, 1, none⟩ (.slice At q ct)) := (Upd.refl (fun k => k = b) w7).setCell (p := ⟨b, 1, none⟩) (.inl rfl) _
  have BR8 := hzb.blk BR7.out (fun f => hRb f)
  have hzR : Upd (fun k => k = w.heap.size + 2) (w7.setCell ⟨b, 1, none⟩ (.slice At q ct)) (((w7.setCell ⟨b, 1, none⟩ (.slice At q ct)).setCell ⟨w.heap.size + 2, 0, none⟩ (.slice Av 0 cv)).setCell ⟨w.heap.size + 2, 1, none⟩ (.slice At q ct)) := ((Upd.refl (fun k => k = w.heap.size + 2) _).setCell (p := ⟨w.heap.size + 2, 0, none⟩) (.inl rfl) _).setCell (p := ⟨w.heap.size + 2, 1, none⟩) (.inl rfl) _
  refine bodyPost_ret (results_cell_row Try.results6 _ _ (w.heap.size + 2) 25 #[.slice Av 0 cv, .slice At q ct] (0, 0) _ rfl ((BR8.put 0 (.slice Av 0 cv)).put 1 (.slice At q ct)) Try.underlying25 rfl (by rw [view_size]; rfl)) rfl ?_
  have hTN := HNT.out
  have hT8 := TM7.out.upd hzb (fun k hk f => by rw [show k = b from f] at hk; exact HNB.out (HTN'.out _ hk)) (fun k _ f => .inr (.inl f))
  have hT9 := (hT8.upd hzR (fun k hk f => by rw [show k = w.heap.size + 2 from f] at hk; have := hTN _ (HTN'.out _ hk); omega) (fun k _ f => .inr (.inr f))).rd
  rw [HQ.out] at hT9
  exact ⟨_, _, rfl, ⟨SgR.of0 (Rd.of0 _ 23 HCV.out), hT9⟩, (U7.out.trans hzb (fun k hk f => by have f : k = b := f; omega)).trans hzR (fun k hk f => by have f : k = w.heap.size + 2 := f; omega)⟩
end

section
open Go.RowKit

def tmpN (nm : List UInt8) : List UInt8 := nm ++ [46, 110, 101, 119]
/-- Write on plain data. -/
def sWrite (s : DSt) (nm : List UInt8) (V : ViewS) : Int × DSt :=
  if (encodeS V).2 ≠ 0 then ((encodeS V).2, s) else
  if (sRemove s (tmpN nm)).1 ≠ 0 ∧ (sRemove s (tmpN nm)).1 ≠ 6 then sRemove s (tmpN nm) else
  if (sAppend (sRemove s (tmpN nm)).2 (tmpN nm) (encodeS V).1).1 ≠ 0 then sAppend (sRemove s (tmpN nm)).2 (tmpN nm) (encodeS V).1 else
  if (sSync (sAppend (sRemove s (tmpN nm)).2 (tmpN nm) (encodeS V).1).2 (tmpN nm)).1 ≠ 0 then sSync (sAppend (sRemove s (tmpN nm)).2 (tmpN nm) (encodeS V).1).2 (tmpN nm) else
  sRename (sSync (sAppend (sRemove s (tmpN nm)).2 (tmpN nm) (encodeS V).1).2 (tmpN nm)).2 (tmpN nm) nm
theorem rename_dk {w0 w : World} {F0 : Nat → Prop} {d : Nat} {s : DSt} (h : Dk w0 F0 d s w) (nm to : List UInt8) (hm : nm.length ≤ maxLen) (hto : to.length ≤ maxLen) (hL : s.fs.length < maxLen) : Calls Try.prog 46 #[ptrV d, strV nm, strV to] w (ErrDk w0 F0 d (sRename s nm to)) := by
  obtain ⟨F, a, b', c⟩ := h
  exact (rename_spec a nm to hm hto hL).mono fun e w' he => he.dk c b'
theorem str_cat (a b : List UInt8) : (({ data := a.toArray } : ByteArray) ++ { data := b.toArray }) = { data := (a ++ b).toArray } := by
  apply ByteArray.ext
  simp
theorem dk_from {w w2 w' : World} {F : Nat → Prop} {d : Nat} {r : Int × DSt} {e : Ending} (hu : Upd NoF w w2) (h : ErrDk w2 F d r e w') : ErrDk w F d r e w' := ⟨h.1, DiskStep.after hu h.2⟩
set_option maxRecDepth 100000 in
set_option maxHeartbeats 8000000 in
theorem Write_any {w : World} {F : Nat → Prop} {d : Nat} {s : DSt} {a b : Value} {V : ViewS} (h : DiskAt w d s F) (hv : VwR w a b V) (nm : List UInt8) (hm : nm.length ≤ 1000000) (hs1 : V.votes.length ≤ 1000000) (hs2 : V.texts.length ≤ 1000000)
    (hl : ((getF (sRemove s (tmpN nm)).2.fs (tmpN nm)).getD ⟨[], 0⟩).c.length + (encodeS V).1.length ≤ 1099511627776) (hL1 : (sRemove s (tmpN nm)).2.fs.length < maxLen) (hL3 : (sSync (sAppend (sRemove s (tmpN nm)).2 (tmpN nm) (encodeS V).1).2 (tmpN nm)).2.fs.length < maxLen) :
    Calls Try.prog 13 #[ptrV d, strV nm, .agg #[a, b]] w (ErrDk w F d (sWrite s nm V)) := by
  have DK := Lib.hid h.dk
  have HV := Lib.hid hv
  obtain ⟨A, ca, hea, -, -⟩ := hv.1.form
  obtain ⟨B, cb, heb, -, -⟩ := hv.2.form
  have UW := Lib.hid ((Upd.refl NoF w).alloc (.cells #[a, b] 25))
  have BW := Lib.hid (Blk.new w 25 #[a, b])
  obtain ⟨W1, hW1⟩ : ∃ x, x = w.alloc (.cells #[a, b] 25) := ⟨_, rfl⟩
  rw [← hW1] at UW BW
  have CE := Lib.hid (Encode_any (hv.keep UW.out) hs1 hs2)
  have c0 : W1.cell? ⟨w.heap.size, 0, none⟩ = some a := BW.out.cell 0
  have c1 : W1.cell? ⟨w.heap.size, 1, none⟩ = some b := BW.out.cell 1
  rw [hW1] at c0 c1
  have HTL := Lib.hid (show (tmpN nm).length ≤ maxLen from by unfold tmpN maxLen; simp; omega)
  have HNL := Lib.hid (show nm.length ≤ maxLen from by unfold maxLen; omega)
  have HL := Lib.hid hl
  have HL1 := Lib.hid hL1
  have HL3 := Lib.hid hL3
  have hcat : (({ data := nm.toArray } : ByteArray) ++ { data := #[46, 110, 101, 119] }) = { data := (tmpN nm).toArray } := str_cat nm [46, 110, 101, 119]
  have hll : ¬ (9223372036854775807 < nm.length + 4) := by omega
  have HD := Lib.hid h
  clear hv h hl hL1 hL3
  subst hea heb
  go_enter Try.func13, Try.ntmps13
  go_wp2_with fail
  rw [← hW1]
  clear hW1
  refine CE.out.mono ?_
  rintro e w2 ⟨A2, c2, rfl, hn2⟩
  have E2 := Lib.hid hn2
  have UW2 := Lib.hid (UW.out.trans hn2.2.2 (fun _ _ f => f))
  have D2 := Lib.hid ((HD.out.upd UW2.out (fun _ _ f => f)).dk)
  clear hn2
  by_cases h0 : (encodeS V).2 = 0
  rotate_left
  · have SW := Lib.hid (show sWrite s nm V = ((encodeS V).2, s) from by unfold sWrite; rw [if_pos h0])
    generalize (encodeS V).2 = ec at h0 SW ⊢
    have t0 : decide (ec = 0) = false := by simp [h0]
    have t0' : (ec == 0) = false := by simp [h0]
    go_wp2
    go_ret
    rw [SW.out]
    exact dk_from UW2.out ⟨rfl, D2.out⟩
  have SW := Lib.hid (show sWrite s nm V = _ from by unfold sWrite; rw [if_neg (by rw [h0]; decide)])
  rw [h0]
  go_wp2_with fail
  refine (remove_dk D2.out (tmpN nm) HTL.out).mono ?_
  rintro e w3 ⟨rfl, hd3⟩
  obtain ⟨⟨e1, s1⟩, hr1⟩ : ∃ x, sRemove s (tmpN nm) = x := ⟨_, rfl⟩
  rw [hr1] at hd3 HL HL1 HL3 SW ⊢
  clear h0 hr1
  simp only at HL HL1 HL3 hd3 SW
  by_cases h1 : e1 = 0
  · subst h1
    rw [if_neg (by simp)] at SW
    have N3 := Lib.hid hd3
    clear hd3
    go_wp2_with fail
    refine (append_dk N3.out (Upd.refl NoF w3) (tmpN nm) HTL.out _ _ (fun G hG => ?_) HL.out HL1.out).mono ?_
    · have hne : ∀ k, OwnB (.slice A2 (encodeS V).1.length c2) k → ¬ F k := fun k hk f => by have h1 := HD.out.lt f; have h2 := E2.out.2.1 k hk; have h3 := UW.out.size; omega
      refine (E2.out.1.upd N3.out.out hne).rdF (fun k hk f => ?_)
      rcases (hG k f).1 with q | q
      · exact hne k hk q
      · have := E2.out.1.lt hk; omega
    rintro e w4 ⟨rfl, hd4⟩
    obtain ⟨⟨e2, s2⟩, hr2⟩ : ∃ x, sAppend s1 (tmpN nm) (encodeS V).1 = x := ⟨_, rfl⟩
    rw [hr2] at hd4 HL3 SW ⊢
    have N4 := Lib.hid hd4
    clear hd4 hr2
    by_cases h2 : e2 = 0
    · subst h2
      go_wp2_with fail
      refine (sync_dk N4.out (tmpN nm) HTL.out).mono ?_
      rintro e w5 ⟨rfl, hd5⟩
      obtain ⟨⟨e3, s3⟩, hr3⟩ : ∃ x, sSync s2 (tmpN nm) = x := ⟨_, rfl⟩
      try simp only at HL3
      rw [hr3] at hd5 HL3 SW ⊢
      have N5 := Lib.hid hd5
      clear hd5 hr3
      by_cases h3 : e3 = 0
      · subst h3
        go_wp2_with fail
        refine (rename_dk N5.out (tmpN nm) nm HTL.out HNL.out HL3.out).mono ?_
        rintro e w6 ⟨rfl, hd6⟩
        have N6 := Lib.hid hd6
        clear hd6
        go_wp2
        go_ret
        rw [SW.out]
        exact dk_from UW2.out ⟨rfl, N6.out⟩
      · have t3 : decide (e3 = 0) = false := by simp [h3]
        have t3' : (e3 == 0) = false := by simp [h3]
        go_wp2
        go_ret
        rw [SW.out]
        simp only [h3, if_true, ne_eq, not_false_eq_true, not_true_eq_false, if_false]
        exact dk_from UW2.out ⟨rfl, N5.out⟩
    · have t2 : decide (e2 = 0) = false := by simp [h2]
      have t2' : (e2 == 0) = false := by simp [h2]
      go_wp2
      go_ret
      rw [SW.out]
      simp only [h2, if_true, ne_eq, not_false_eq_true]
      exact dk_from UW2.out ⟨rfl, N4.out⟩
  · by_cases h6 : e1 = 6
    · subst h6
      rw [if_neg (by simp)] at SW
      have N3 := Lib.hid hd3
      clear hd3
      go_wp2_with fail
      refine (append_dk N3.out (Upd.refl NoF w3) (tmpN nm) HTL.out _ _ (fun G hG => ?_) HL.out HL1.out).mono ?_
      · have hne : ∀ k, OwnB (.slice A2 (encodeS V).1.length c2) k → ¬ F k := fun k hk f => by have h1 := HD.out.lt f; have h2 := E2.out.2.1 k hk; have h3 := UW.out.size; omega
        refine (E2.out.1.upd N3.out.out hne).rdF (fun k hk f => ?_)
        rcases (hG k f).1 with q | q
        · exact hne k hk q
        · have := E2.out.1.lt hk; omega
      rintro e w4 ⟨rfl, hd4⟩
      obtain ⟨⟨e2, s2⟩, hr2⟩ : ∃ x, sAppend s1 (tmpN nm) (encodeS V).1 = x := ⟨_, rfl⟩
      rw [hr2] at hd4 HL3 SW ⊢
      have N4 := Lib.hid hd4
      clear hd4 hr2
      by_cases h2 : e2 = 0
      · subst h2
        go_wp2_with fail
        refine (sync_dk N4.out (tmpN nm) HTL.out).mono ?_
        rintro e w5 ⟨rfl, hd5⟩
        obtain ⟨⟨e3, s3⟩, hr3⟩ : ∃ x, sSync s2 (tmpN nm) = x := ⟨_, rfl⟩
        try simp only at HL3
        rw [hr3] at hd5 HL3 SW ⊢
        have N5 := Lib.hid hd5
        clear hd5 hr3
        by_cases h3 : e3 = 0
        · subst h3
          go_wp2_with fail
          refine (rename_dk N5.out (tmpN nm) nm HTL.out HNL.out HL3.out).mono ?_
          rintro e w6 ⟨rfl, hd6⟩
          have N6 := Lib.hid hd6
          clear hd6
          go_wp2
          go_ret
          rw [SW.out]
          exact dk_from UW2.out ⟨rfl, N6.out⟩
        · have t3 : decide (e3 = 0) = false := by simp [h3]
          have t3' : (e3 == 0) = false := by simp [h3]
          go_wp2
          go_ret
          rw [SW.out]
          simp only [h3, if_true, ne_eq, not_false_eq_true, not_true_eq_false, if_false]
          exact dk_from UW2.out ⟨rfl, N5.out⟩
      · have t2 : decide (e2 = 0) = false := by simp [h2]
        have t2' : (e2 == 0) = false := by simp [h2]
        go_wp2
        go_ret
        rw [SW.out]
        simp only [h2, if_true, ne_eq, not_false_eq_true]
        exact dk_from UW2.out ⟨rfl, N4.out⟩
    · have t1 : decide (e1 = 0) = false := by simp [h1]
      have t1' : (e1 == 0) = false := by simp [h1]
      have t6 : decide (e1 = 6) = false := by simp [h6]
      have t6' : (e1 == 6) = false := by simp [h6]
      rw [if_pos ⟨h1, h6⟩] at SW
      have N3 := Lib.hid hd3
      clear hd3
      go_wp2
      go_ret
      rw [SW.out]
      exact dk_from UW2.out ⟨rfl, N3.out⟩
end

section
open Go.RowKit

theorem alloc_view (w : World) : (Instr.alloc 25 true (.tuple #[])).run Try.prog w = .ok (.pointer (some ⟨w.heap.size, 0, none⟩)) (w.alloc (.cells nil2 25)) := by kernel_rfl
theorem Decode_any {w : World} {v : Value} {bs : List UInt8} (hr : Rd w 1 v bs.length (bs.map byteV)) (hm : bs.length ≤ 1000000000) : Calls Try.prog 11 #[v] w (DecPost w (decodeS bs)) := by
  rcases Nat.lt_or_ge bs.length 4 with h | h
  · exact Decode_short hr h
  · exact Decode_long hr h hm
def sReadV (s : DSt) (nm : List UInt8) : Option ViewS × Int :=
  if (sRead s nm).2 ≠ 0 then (none, (sRead s nm).2) else
  match decodeS (sRead s nm).1 with
  | none => (none, 104)
  | some V => (some V, 0)
theorem sReadV_eq (s : DSt) (nm : List UInt8) : sReadV s nm = if (sRead s nm).2 ≠ 0 then (none, (sRead s nm).2) else
  match decodeS (sRead s nm).1 with
  | none => (none, 104)
  | some V => (some V, 0) := rfl
/-- What Read returns. -/
def SnReadPost (w : World) : Option ViewS × Int → Ending → World → Prop
  | (none, c), e, w' => e = .returned (.tuple #[.agg nil2, .int .i64 c]) ∧ Upd NoF w w'
  | (some V, c), e, w' => ∃ a b, e = .returned (.tuple #[.agg #[a, b], .int .i64 c]) ∧ (∀ w'', Upd (fun k => k < w.heap.size) w' w'' → VwR w'' a b V) ∧ Upd NoF w w'
set_option maxRecDepth 100000 in
set_option maxHeartbeats 8000000 in
theorem Read_any {w : World} {F : Nat → Prop} {d : Nat} {s : DSt} (h : DiskAt w d s F) (nm : List UInt8) (hm : nm.length ≤ maxLen) (hb : (sRead s nm).1.length ≤ 1000000000) : Calls Try.prog 14 #[ptrV d, strV nm] w (SnReadPost w (sReadV s nm)) := by
  have UW := Lib.hid ((Upd.refl NoF w).alloc (.cells nil2 25))
  have BW := Lib.hid (Blk.new w 25 nil2)
  obtain ⟨W1, hW1⟩ : ∃ x, x = w.alloc (.cells nil2 25) := ⟨_, rfl⟩
  rw [← hW1] at UW BW
  have CR := Lib.hid (read_spec (h.upd UW.out (fun _ _ f => f)) nm hm)
  have SR := Lib.hid (sReadV_eq s nm)
  have hR1 : w.heap.size < W1.heap.size := BW.out.lt
  clear h hm
  go_enter Try.func14, Try.ntmps14
  go_wp2_with fail
  rw [← hW1]
  clear hW1
  refine CR.out.mono ?_
  rintro e w2 ⟨A2, c2, rfl, hn2⟩
  have B2 := Lib.hid (hn2.2.2.blk BW.out (fun f => f))
  have U2 := Lib.hid (UW.out.trans hn2.2.2 (fun _ _ f => f))
  have R2 := Lib.hid hn2.1.rd
  have hR2 : w.heap.size < w2.heap.size := B2.out.lt
  clear hn2 CR
  obtain ⟨⟨bs, ec⟩, hr⟩ : ∃ x, sRead s nm = x := ⟨_, rfl⟩
  rw [hr] at R2 SR hb ⊢
  simp only at R2 SR hb
  clear hr
  by_cases h0 : ec = 0
  rotate_left
  · have t0 : decide (ec = 0) = false := by simp [h0]
    have t0' : (ec == 0) = false := by simp [h0]
    rw [if_pos h0] at SR
    have x0 : w2.cell? ⟨w.heap.size, 0, none⟩ = some (.slice none 0 0) := B2.out.cell 0; have x1 : w2.cell? ⟨w.heap.size, 1, none⟩ = some (.slice none 0 0) := B2.out.cell 1; have x2 : w2.frozen? ⟨w.heap.size, 0, none⟩ = false := B2.out.frozen 0; have x3 : w2.frozen? ⟨w.heap.size, 1, none⟩ = false := B2.out.frozen 1
    go_wp2
    refine bodyPost_ret (results_cell_tmp Try.results14 _ _ w.heap.size [.slice none 0 0, .slice none 0 0] _ rfl (range_blk ((B2.out.put 0 (.slice none 0 0)).put 1 (.slice none 0 0))) Try.underlying25 rfl (by rw [view_size]; rfl)) rfl ?_
    rw [SR.out]
    exact ⟨rfl, (U2.out.setCell (p := ⟨w.heap.size, 0, none⟩) (.inr (Nat.le_refl _)) _).setCell (p := ⟨w.heap.size, 1, none⟩) (.inr (Nat.le_refl _)) _⟩
  subst h0
  rw [if_neg (by decide)] at SR
  have CD := Lib.hid (Decode_any R2.out hb)
  go_wp2_with fail
  refine CD.out.mono ?_
  cases hd : decodeS bs with
  | none =>
    rw [hd] at SR
    clear hd CD
    rintro e w3 ⟨rfl, hu3⟩
    have B3 := Lib.hid (hu3.blk B2.out (fun f => f))
    have U3 := Lib.hid (U2.out.trans hu3 (fun _ _ f => f))
    have hR3 : w.heap.size < w3.heap.size := B3.out.lt
    clear hu3
    go_wp2_with (first
      | (refine wpList_alloc_row rfl 25 rfl nil2 alloc_view ?_; intro w4 hb4 hu4 hs4; have B4 := Lib.hid hb4; have U4 := Lib.hid hu4; have BR4 := Lib.hid (hu4.blk B3.out (fun f => f)); have y0 : w4.cell? ⟨w3.heap.size, 0, none⟩ = some (.slice none 0 0) := hb4.cell 0; have y1 : w4.cell? ⟨w3.heap.size, 1, none⟩ = some (.slice none 0 0) := hb4.cell 1; have y2 : w4.frozen? ⟨w3.heap.size, 0, none⟩ = false := hb4.frozen 0; have y3 : w4.frozen? ⟨w3.heap.size, 1, none⟩ = false := hb4.frozen 1; have x0 : w4.cell? ⟨w.heap.size, 0, none⟩ = some (.slice none 0 0) := BR4.out.cell 0; have x1 : w4.cell? ⟨w.heap.size, 1, none⟩ = some (.slice none 0 0) := BR4.out.cell 1; have x2 : w4.frozen? ⟨w.heap.size, 0, none⟩ = false := BR4.out.frozen 0; have x3 : w4.frozen? ⟨w.heap.size, 1, none⟩ = false := BR4.out.frozen 1; clear hb4 hu4 hs4))
    have RB1 := Lib.hid (show ∀ x y p q, Blk ((((w4.setCell ⟨w.heap.size, 0, none⟩ x).setCell ⟨w.heap.size, 1, none⟩ y).setCell ⟨w3.heap.size, 0, none⟩ p).setCell ⟨w3.heap.size, 1, none⟩ q) w.heap.size 25 #[x, y] from fun x y p q => (((Upd.refl (fun k => k = w3.heap.size) _).setCell (p := ⟨w3.heap.size, 0, none⟩) (.inl rfl) p).setCell (p := ⟨w3.heap.size, 1, none⟩) (.inl rfl) q).blk ((BR4.out.put 0 x).put 1 y) (fun e => by have e : w.heap.size = w3.heap.size := e; omega))
    have RB2 := Lib.hid (show ∀ x y p q, Blk ((((w4.setCell ⟨w3.heap.size, 0, none⟩ p).setCell ⟨w3.heap.size, 1, none⟩ q).setCell ⟨w.heap.size, 0, none⟩ x).setCell ⟨w.heap.size, 1, none⟩ y) w.heap.size 25 #[x, y] from fun x y p q => (((((Upd.refl (fun k => k = w3.heap.size) w4).setCell (p := ⟨w3.heap.size, 0, none⟩) (.inl rfl) p).setCell (p := ⟨w3.heap.size, 1, none⟩) (.inl rfl) q).blk BR4.out (fun e => by have e : w.heap.size = w3.heap.size := e; omega)).put 0 x).put 1 y)
    refine bodyPost_ret (results_cell_tmp Try.results14 _ _ w.heap.size [.slice none 0 0, .slice none 0 0] _ rfl (range_blk (RB2.out _ _ _ _)) Try.underlying25 rfl (by rw [view_size]; rfl)) rfl ?_
    rw [SR.out]
    refine ⟨rfl, ?_⟩
    exact ((((U3.out.trans U4.out (fun _ _ f => f)).setCell (p := ⟨w3.heap.size, 0, none⟩) (.inr (Nat.le_of_lt hR3)) _).setCell (p := ⟨w3.heap.size, 1, none⟩) (.inr (Nat.le_of_lt hR3)) _).setCell (p := ⟨w.heap.size, 0, none⟩) (.inr (Nat.le_refl _)) _).setCell (p := ⟨w.heap.size, 1, none⟩) (.inr (Nat.le_refl _)) _
  | some V =>
    rw [hd] at SR
    clear hd CD
    rintro e w3 ⟨a, b, rfl, hv3, hu3⟩
    have V3 := Lib.hid hv3
    obtain ⟨Aa, ca, rfl, -, -⟩ := (hv3 w3 (Upd.refl _ _)).1.form
    obtain ⟨Ab, cb, rfl, -, -⟩ := (hv3 w3 (Upd.refl _ _)).2.form
    have B3 := Lib.hid (hu3.blk B2.out (fun f => f))
    have U3 := Lib.hid (U2.out.trans hu3 (fun _ _ f => f))
    have hR3 : w.heap.size < w3.heap.size := B3.out.lt
    have hs3 := hu3.size
    have hs2 := U2.out.size
    clear hu3 hv3
    go_wp2_with (first
      | (refine wpList_alloc_row rfl 25 rfl nil2 alloc_view ?_; intro w4 hb4 hu4 hs4; have B4 := Lib.hid hb4; have U4 := Lib.hid hu4; have BR4 := Lib.hid (hu4.blk B3.out (fun f => f)); have y0 : w4.cell? ⟨w3.heap.size, 0, none⟩ = some (.slice none 0 0) := hb4.cell 0; have y1 : w4.cell? ⟨w3.heap.size, 1, none⟩ = some (.slice none 0 0) := hb4.cell 1; have y2 : w4.frozen? ⟨w3.heap.size, 0, none⟩ = false := hb4.frozen 0; have y3 : w4.frozen? ⟨w3.heap.size, 1, none⟩ = false := hb4.frozen 1; have x0 : w4.cell? ⟨w.heap.size, 0, none⟩ = some (.slice none 0 0) := BR4.out.cell 0; have x1 : w4.cell? ⟨w.heap.size, 1, none⟩ = some (.slice none 0 0) := BR4.out.cell 1; have x2 : w4.frozen? ⟨w.heap.size, 0, none⟩ = false := BR4.out.frozen 0; have x3 : w4.frozen? ⟨w.heap.size, 1, none⟩ = false := BR4.out.frozen 1; clear hb4 hu4 hs4))
    have RB1 := Lib.hid (show ∀ x y p q, Blk ((((w4.setCell ⟨w.heap.size, 0, none⟩ x).setCell ⟨w.heap.size, 1, none⟩ y).setCell ⟨w3.heap.size, 0, none⟩ p).setCell ⟨w3.heap.size, 1, none⟩ q) w.heap.size 25 #[x, y] from fun x y p q => (((Upd.refl (fun k => k = w3.heap.size) _).setCell (p := ⟨w3.heap.size, 0, none⟩) (.inl rfl) p).setCell (p := ⟨w3.heap.size, 1, none⟩) (.inl rfl) q).blk ((BR4.out.put 0 x).put 1 y) (fun e => by have e : w.heap.size = w3.heap.size := e; omega))
    have RB2 := Lib.hid (show ∀ x y p q, Blk ((((w4.setCell ⟨w3.heap.size, 0, none⟩ p).setCell ⟨w3.heap.size, 1, none⟩ q).setCell ⟨w.heap.size, 0, none⟩ x).setCell ⟨w.heap.size, 1, none⟩ y) w.heap.size 25 #[x, y] from fun x y p q => (((((Upd.refl (fun k => k = w3.heap.size) w4).setCell (p := ⟨w3.heap.size, 0, none⟩) (.inl rfl) p).setCell (p := ⟨w3.heap.size, 1, none⟩) (.inl rfl) q).blk BR4.out (fun e => by have e : w.heap.size = w3.heap.size := e; omega)).put 0 x).put 1 y)
    refine bodyPost_ret (results_cell_tmp Try.results14 _ _ w.heap.size [.slice Aa V.votes.length ca, .slice Ab V.texts.length cb] _ rfl (range_blk (RB2.out _ _ _ _)) Try.underlying25 rfl (by rw [view_size]; rfl)) rfl ?_
    rw [SR.out]
    refine ⟨_, _, rfl, fun w9 h9 => V3.out w9 (Upd.trans (F := fun k => k < w2.heap.size) ?_ h9 (fun k _ f => Nat.lt_of_lt_of_le (show k < w.heap.size from f) hs2)), ?_⟩
    · exact ((((U4.out.mono (fun _ _ f => f.elim)).setCell (p := ⟨w3.heap.size, 0, none⟩) (.inr (Nat.le_refl _)) _).setCell (p := ⟨w3.heap.size, 1, none⟩) (.inr (Nat.le_refl _)) _).setCell (p := ⟨w.heap.size, 0, none⟩) (.inl hR2) _).setCell (p := ⟨w.heap.size, 1, none⟩) (.inl hR2) _
    · exact ((((U3.out.trans U4.out (fun _ _ f => f)).setCell (p := ⟨w3.heap.size, 0, none⟩) (.inr (Nat.le_of_lt hR3)) _).setCell (p := ⟨w3.heap.size, 1, none⟩) (.inr (Nat.le_of_lt hR3)) _).setCell (p := ⟨w.heap.size, 0, none⟩) (.inr (Nat.le_refl _)) _).setCell (p := ⟨w.heap.size, 1, none⟩) (.inr (Nat.le_refl _)) _
end

section
open Go.RowKit

set_option maxRecDepth 100000 in
set_option maxHeartbeats 8000000 in
theorem EqualFuncT_any {w : World} {a b : Value} {l m : List (List UInt8)} (ha : TxR w a l) (hb : TxR w b m) (_hs1 : l.length ≤ 1099511627776) (_hs2 : m.length ≤ 1099511627776) : Calls Try.prog 31 #[a, b, fnV 25] w fun e w' => e = .returned (.bool (decide (l = m))) ∧ Upd NoF w w' := by
  obtain ⟨A, ca, rfl, hlc, hcm⟩ := ha.form
  obtain ⟨B, cb, rfl, hld, hdm⟩ := hb.form
  have HA := Lib.hid ha
  have HB := Lib.hid hb
  obtain ⟨n, hn⟩ : ∃ n, l.length = n := ⟨_, rfl⟩
  have HN := Lib.hid hn
  by_cases hlen : l.length = m.length
  rotate_left
  · have t0 : decide ((l.length : Int) = (m.length : Int)) = false := by simp; omega
    have HZ := Lib.hid (show decide (l = m) = false from by rw [decide_eq_false_iff_not]; intro e; exact hlen (by rw [e]))
    have t0' : decide (l.length = m.length) = false := by simp; omega
    generalize decide (l = m) = Z at HZ ⊢
    clear ha hb HA HB hn HN
    go_enter Try.func31, Try.ntmps31
    go_wp2
    go_ret
    exact ⟨retb HZ.out.symm, Upd.refl _ _⟩
  have HL := Lib.hid hlen
  rw [← hlen] at _hs2 hld HB ⊢
  rw [hn] at hlc _hs2 hld HA HB ⊢
  clear ha hb hlen hn
  generalize hZ : decide (l = m) = Z at ⊢
  have HZ := Lib.hid hZ
  clear hZ
  unfold fnV
  go_enter Try.func31, Try.ntmps31
  go_wp2
  go_loopw [17] (fun i wr => SameRel l m w i wr) (fun i _ => n - (intOf i).toNat)
  case atStart => exact ⟨0, rfl, by omega, fun j h => absurd h (by omega), Upd.refl _ _⟩
  case round =>
    obtain ⟨k, rfl, hk, hch, hu⟩ := hrel
    have hnn := HN.out
    have hll := HL.out
    have HU := Lib.hid hu
    by_cases hlt : k < n
    · obtain ⟨s, hx⟩ : ∃ x, l[k]? = some x := ⟨_, List.getElem?_eq_getElem (by omega)⟩
      obtain ⟨t, hy⟩ : ∃ x, m[k]? = some x := ⟨_, List.getElem?_eq_getElem (by omega)⟩
      have t1 : decide ((k : Int) < (n : Int)) = true := by simp; omega
      have q0 : (0 : Int) ≤ (k : Int) := by omega
      have q1 : (k : Int) < (n : Int) := by omega
      obtain ⟨g, o, Au, cu, rfl, r1, r2, -⟩ := (HA.out.keep hu).at_ hx
      obtain ⟨g2, o2, Av, cv, rfl, r3, r4, -⟩ := (HB.out.keep hu).at_ hy
      have x1 : wr.cell? ⟨g, o + k, none⟩ = some (.slice Au s.length cu) := r1
      have x2 : wr.cell? ⟨g2, o2 + k, none⟩ = some (.slice Av t.length cv) := r3
      have CB := Lib.hid (bEqual_any r2 r4)
      clear r1 r2 r3 r4
      by_cases he : s = t
      · have HCH := Lib.hid (hch.next hx hy he)
        have hst : (s == t) = true := by simp [he]
        clear hx hy hch hu hnn hll he
        go_wp2_with fail
        refine CB.out.mono ?_
        rintro e w3 ⟨rfl, rfl⟩
        rw [hst]
        clear hst
        go_wp2
        go_roundw
        case rel => exact ⟨k + 1, by go_num, by have := HN.out; omega, HCH.out, HU.out⟩
        case measure => simp [intOf]; omega
      · have HCH := Lib.hid (same_no hx hy he)
        have hst : (s == t) = false := by simp [he]
        clear hx hy hch hu hnn hll he
        go_wp2_with fail
        refine CB.out.mono ?_
        rintro e w3 ⟨rfl, rfl⟩
        rw [hst]
        clear hst
        go_wp2
        go_ret
        exact ⟨retb (by rw [← HZ.out, decide_eq_false HCH.out]), HU.out⟩
    · have t1 : decide ((k : Int) < (n : Int)) = false := by simp; omega
      have HCV := Lib.hid (hch.end_ hll (by omega))
      clear hnn hch hu hll
      go_wp2
      go_ret
      exact ⟨retb (by rw [← HZ.out, decide_eq_true HCV.out]), HU.out⟩
end
end Go.Proofs.Ytbgificdilpdcaa
