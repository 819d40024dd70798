/- Slices of signed votes and of texts that are being collected. No condition. Decode of package snapshot. Conditions: sizes. The rule of text Rg with a relation of worlds that looks at the operations that have run. No condition. What the loops of Decode of package snapshot keep. No condition. -/
import Derived.Test.YtbgificdilpdcaaJn12
import Derived.Test.YtbgificdilpdcaaJn8
namespace Go.Proofs.Ytbgificdilpdcaa
section
open Go.RowKit

theorem signed_info : (Try.prog.info? 38).map (fun i => (i.zero, i.size, i.bytes)) = some (some (.agg zeroRow), 23, 88) := by kernel_rfl
theorem bs_signed' (z0 z1 z2 z3 z4 z5 : Int) (p0 p1 p2 p3 p4 p5 p6 p7 q0 q1 q2 q3 q4 q5 q6 q7 : UInt8) (A : Option Addr) (n c : Nat) (w : World) : (Instr.buildSlice 22 1 #[(0, .agg #[.int .i64 z0, .int .i64 z1, .int .i64 z2, .int .i64 z3, .int .i64 z4, .int .i64 z5, byteV p0, byteV p1, byteV p2, byteV p3, byteV p4, byteV p5, byteV p6, byteV p7, byteV q0, byteV q1, byteV q2, byteV q3, byteV q4, byteV q5, byteV q6, byteV q7, .slice A n c])]).run Try.prog w = .ok (.slice (some ⟨w.heap.size, 0, none⟩) 1 1) (w.alloc (.cells #[.int .i64 z0, .int .i64 z1, .int .i64 z2, .int .i64 z3, .int .i64 z4, .int .i64 z5, byteV p0, byteV p1, byteV p2, byteV p3, byteV p4, byteV p5, byteV p6, byteV p7, byteV q0, byteV q1, byteV q2, byteV q3, byteV q4, byteV q5, byteV q6, byteV q7, .slice A n c] 38)) := by kernel_rfl
theorem bs_signed {s : SignedS} (hf : s.vote.Fit) (A : Option Addr) (n c : Nat) (w : World) : (Instr.buildSlice 22 1 #[(0, .agg (rowS s (.slice A n c)).toArray)]).run Try.prog w = .ok (.slice (some ⟨w.heap.size, 0, none⟩) 1 1) (w.alloc (.cells (rowS s (.slice A n c)).toArray 38)) := by
  obtain ⟨p0, p1, p2, p3, p4, p5, p6, p7, q0, q1, q2, q3, q4, q5, q6, q7, e1, e2⟩ := fit_spell hf
  unfold rowS voteCells
  rw [e1, e2]
  exact bs_signed' s.vote.kind s.vote.slot s.vote.round s.vote.choice s.vote.signer s.vote.support p0 p1 p2 p3 p4 p5 p6 p7 q0 q1 q2 q3 q4 q5 q6 q7 A n c w
/-- A slice of one row, made anew. -/
theorem wpList_buildSlice_row {P : Program} {o : Oper} {w : World} {ops : Array Oper} {rest : List Oper} {a : Act} {Q : Exit → Act → World → Prop} (hgd : o.guard = none) (ty e : TypeId) (x : Operand) (ho : o.op = .buildSlice ty 1 #[(0, x)]) (v : Value) (hx : a.eval x = v) (cells : Array Value) (hr : (Instr.buildSlice ty 1 #[(0, v)]).run P w = .ok (.slice (some ⟨w.heap.size, 0, none⟩) 1 1) (w.alloc (.cells cells e)))
    (hk : ∀ w', Blk w' w.heap.size e cells → Upd NoF w w' → w'.heap.size = w.heap.size + 1 → wpList P ops Q rest (a.put o.dst (.slice (some ⟨w.heap.size, 0, none⟩) 1 1)) w') : wpList P ops Q (o :: rest) a w := by
  refine wpList_od (post := fun v w' => wpList P ops Q rest (a.put o.dst v) w') hgd ?_ (fun _ _ h => h)
  unfold OpDone execOp
  simp only [ho, hx, List.map_toArray, List.map_cons, List.map_nil, Sem.run_bind, Sem.run_pure, hr, Result.andThen_ok]
  exact hk _ (Blk.new w e cells) ((Upd.refl NoF w).alloc _) (by simp)

/-- Signed votes that are being collected; F: the blocks that may be written meanwhile. -/
def SgM (w : World) (F : Nat → Prop) (A : Option Addr) (c : Nat) (l : List SignedS) : Prop :=
  (∀ s ∈ l, s.vote.Fit) ∧ ∃ us : List Value, us.length = l.length ∧ Own w 38 23 (.slice A l.length c) l.length (List.zipWith rowS l us).flatten ∧ ∀ (i : Nat) s, l[i]? = some s → ∃ u, us[i]? = some u ∧ RdF F w 1 u s.sig.length (s.sig.map byteV)
/-- Texts that are being collected. -/
def TxM (w : World) (F : Nat → Prop) (A : Option Addr) (c : Nat) (l : List (List UInt8)) : Prop :=
  ∃ us : List Value, us.length = l.length ∧ Own w 36 1 (.slice A l.length c) l.length us ∧ (∀ u ∈ us, u.oneCell' = true) ∧ ∀ (i : Nat) s, l[i]? = some s → ∃ u, us[i]? = some u ∧ RdF F w 1 u s.length (s.map byteV)
section
variable {w w' w5 w6 : World} {F G : Nat → Prop} {A A' : Option Addr} {c c' : Nat}
theorem SgM.nil (w : World) (F : Nat → Prop) : SgM w F none 0 [] := ⟨by simp, [], rfl, Own.nil _ _ _, fun _ _ h => by cases h⟩
theorem TxM.nil (w : World) (F : Nat → Prop) : TxM w F none 0 [] := ⟨[], rfl, Own.nil _ _ _, by simp, fun _ _ h => by cases h⟩
theorem SgM.upd {l : List SignedS} (h : SgM w F A c l) (hu : Upd G w w') (h1 : ∀ k, OwnB (.slice A l.length c) k → ¬ G k) (h2 : ∀ i, i < w.heap.size → G i → F i) : SgM w' F A c l := by
  obtain ⟨hf, us, e1, e2, e3⟩ := h
  refine ⟨hf, us, e1, e2.upd hu h1, fun i s hs => ?_⟩
  obtain ⟨u, a, b⟩ := e3 i s hs
  exact ⟨u, a, b.upd (hu.mono h2)⟩
theorem TxM.upd {l : List (List UInt8)} (h : TxM w F A c l) (hu : Upd G w w') (h1 : ∀ k, OwnB (.slice A l.length c) k → ¬ G k) (h2 : ∀ i, i < w.heap.size → G i → F i) : TxM w' F A c l := by
  obtain ⟨us, e1, e2, e0, e3⟩ := h
  refine ⟨us, e1, e2.upd hu h1, e0, fun i s hs => ?_⟩
  obtain ⟨u, a, b⟩ := e3 i s hs
  exact ⟨u, a, b.upd (hu.mono h2)⟩
theorem SgM.to {l : List SignedS} (h : SgM w F A c l) (h2 : ∀ i, i < w.heap.size → G i → F i) : SgM w G A c l := by
  obtain ⟨hf, us, e1, e2, e3⟩ := h
  refine ⟨hf, us, e1, e2, fun i s hs => ?_⟩
  obtain ⟨u, a, b⟩ := e3 i s hs
  exact ⟨u, a, b.mono h2⟩
theorem TxM.to {l : List (List UInt8)} (h : TxM w F A c l) (h2 : ∀ i, i < w.heap.size → G i → F i) : TxM w G A c l := by
  obtain ⟨us, e1, e2, e0, e3⟩ := h
  refine ⟨us, e1, e2, e0, fun i s hs => ?_⟩
  obtain ⟨u, a, b⟩ := e3 i s hs
  exact ⟨u, a, b.mono h2⟩
theorem SgM.rd {l : List SignedS} (h : SgM w F A c l) : SgR w (.slice A l.length c) l := by
  obtain ⟨hf, us, e1, e2, e3⟩ := h
  refine ⟨hf, us, e1, e2.rd, fun i s hs => ?_⟩
  obtain ⟨u, a, b⟩ := e3 i s hs
  exact ⟨u, a, b.now⟩
theorem TxM.rd {l : List (List UInt8)} (h : TxM w F A c l) : TxR w (.slice A l.length c) l := by
  obtain ⟨us, e1, e2, e0, e3⟩ := h
  refine ⟨us, e1, e2.rd, fun i s hs => ?_⟩
  obtain ⟨u, a, b⟩ := e3 i s hs
  exact ⟨u, a, b.now⟩
theorem SgM.lt {l : List SignedS} (h : SgM w F A c l) {k : Nat} (hk : OwnB (.slice A l.length c) k) : k < w.heap.size := by
  obtain ⟨hf, us, e1, e2, e3⟩ := h
  exact e2.lt hk
theorem TxM.lt {l : List (List UInt8)} (h : TxM w F A c l) {k : Nat} (hk : OwnB (.slice A l.length c) k) : k < w.heap.size := by
  obtain ⟨us, e1, e2, e0, e3⟩ := h
  exact e2.lt hk
theorem zip_snoc {l : List SignedS} {us : List Value} (h : us.length = l.length) (s : SignedS) (u : Value) : (List.zipWith rowS (l ++ [s]) (us ++ [u])).flatten = (List.zipWith rowS l us).flatten ++ rowS s u := by
  rw [List.zipWith_append h.symm]
  simp
/-- One more signed vote; hF: what may be written from now on was so before, or is new. -/
theorem SgM.push {l : List SignedS} {s : SignedS} {u : Value} {us : List Value} (hf : ∀ s ∈ l, s.vote.Fit) (e1 : us.length = l.length) (e3 : ∀ (i : Nat) s, l[i]? = some s → ∃ u, us[i]? = some u ∧ RdF F w5 1 u s.sig.length (s.sig.map byteV)) (hs : s.vote.Fit) (hu : RdF F w5 1 u s.sig.length (s.sig.map byteV)) (hA : ∀ k, OwnB (.slice A l.length c) k → F k)
    (happ : Own w6 38 23 (.slice A' (l.length + 1) c') (l.length + 1) ((List.zipWith rowS l us).flatten ++ rowS s u)) (hup : Upd (OwnB (.slice A l.length c)) w5 w6) (hG : ∀ i, i < w5.heap.size → G i → F i) : SgM w6 G A' c' (l ++ [s]) := by
  have hupF : Upd F w5 w6 := hup.mono (fun k _ f => hA k f)
  refine ⟨?_, us ++ [u], by simp [e1], ?_, fun i x hx => ?_⟩
  · intro x hx
    rcases List.mem_append.1 hx with h | h
    · exact hf x h
    · simp at h; rw [h]; exact hs
  · rw [zip_snoc e1, List.length_append, List.length_singleton]
    exact happ
  · rcases Nat.lt_or_ge i l.length with hlt | hge
    · rw [List.getElem?_append_left hlt] at hx
      obtain ⟨v, a, b⟩ := e3 i x hx
      exact ⟨v, by rw [List.getElem?_append_left (by omega)]; exact a, b.upd' hupF hG⟩
    · rw [List.getElem?_append_right hge] at hx
      have h0 : i - l.length = 0 := by have := (List.getElem?_eq_some_iff.1 hx).1; simp at this; omega
      rw [h0] at hx
      simp at hx
      subst hx
      exact ⟨u, by rw [List.getElem?_append_right (by omega)]; simp [show i - us.length = 0 by omega], hu.upd' hupF hG⟩
theorem TxM.push {l : List (List UInt8)} {s : List UInt8} {u : Value} {us : List Value} (e0 : ∀ u ∈ us, u.oneCell' = true) (e1 : us.length = l.length) (e3 : ∀ (i : Nat) s, l[i]? = some s → ∃ u, us[i]? = some u ∧ RdF F w5 1 u s.length (s.map byteV)) (h1 : u.oneCell' = true) (hu : RdF F w5 1 u s.length (s.map byteV)) (hA : ∀ k, OwnB (.slice A l.length c) k → F k)
    (happ : Own w6 36 1 (.slice A' (l.length + 1) c') (l.length + 1) (us ++ [u])) (hup : Upd (OwnB (.slice A l.length c)) w5 w6) (hG : ∀ i, i < w5.heap.size → G i → F i) : TxM w6 G A' c' (l ++ [s]) := by
  have hupF : Upd F w5 w6 := hup.mono (fun k _ f => hA k f)
  refine ⟨us ++ [u], by simp [e1], ?_, ?_, fun i x hx => ?_⟩
  · rw [List.length_append, List.length_singleton]
    exact happ
  · intro x hx
    rcases List.mem_append.1 hx with h | h
    · exact e0 x h
    · simp at h; rw [h]; exact h1
  · rcases Nat.lt_or_ge i l.length with hlt | hge
    · rw [List.getElem?_append_left hlt] at hx
      obtain ⟨v, a, b⟩ := e3 i x hx
      exact ⟨v, by rw [List.getElem?_append_left (by omega)]; exact a, b.upd' hupF hG⟩
    · rw [List.getElem?_append_right hge] at hx
      have h0 : i - l.length = 0 := by have := (List.getElem?_eq_some_iff.1 hx).1; simp at this; omega
      rw [h0] at hx
      simp at hx
      subst hx
      exact ⟨u, by rw [List.getElem?_append_right (by omega)]; simp [show i - us.length = 0 by omega], hu.upd' hupF hG⟩
end

/-! ### decoding on plain data, step by step -/
theorem decVotes_no {r : Nat} {b : List UInt8} (h : okDec (b.take 393) = false) : decVotes (r + 1) b = none := by
  rw [decVotes]
  by_cases hl : b.length < 393
  · rw [if_pos hl]
  · rw [if_neg hl]
    unfold okDec at h
    rw [show decide ((b.take 393).length = 393) = true by simp; omega, Bool.true_and] at h
    rw [if_neg]
    intro e
    have : validB (decV ((b.take 393).take 23)) = true := e
    rw [h] at this
    cases this
theorem decVotes_yes {r : Nat} {b : List UInt8} (h : okDec (b.take 393) = true) : decVotes (r + 1) b = (decVotes r (b.drop 393)).map (fun p => (decS (b.take 393) :: p.1, p.2)) := by
  unfold okDec at h
  rw [Bool.and_eq_true, decide_eq_true_eq] at h
  have hl : 393 ≤ b.length := by have := h.1; simp at this; omega
  rw [decVotes, if_neg (by omega), if_pos (show validB (decS (b.take 393)).vote = true from h.2)]
/-- Where the votes stand. -/
def VAt (bs : List UInt8) (N : Nat) (vs : List SignedS) (r a : Nat) : Prop := vs.length + r = N ∧ a = 4 + 393 * vs.length ∧ a ≤ bs.length ∧ decVotes N (bs.drop 4) = (decVotes r (bs.drop a)).map (fun p => (vs ++ p.1, p.2))
theorem VAt.start {bs : List UInt8} (h : 4 ≤ bs.length) (N : Nat) : VAt bs N [] N 4 := by
  refine ⟨by simp, rfl, h, ?_⟩
  cases decVotes N (bs.drop 4) <;> simp
theorem VAt.fail {bs : List UInt8} {N r a : Nat} {vs : List SignedS} (h : VAt bs N vs (r + 1) a) (hk : okDec ((bs.drop a).take 393) = false) : decVotes N (bs.drop 4) = none := by
  rw [h.2.2.2, decVotes_no hk]
  rfl
theorem VAt.next {bs : List UInt8} {N r a : Nat} {vs : List SignedS} (h : VAt bs N vs (r + 1) a) (hk : okDec ((bs.drop a).take 393) = true) : VAt bs N (vs ++ [decS ((bs.drop a).take 393)]) r (a + 393) := by
  obtain ⟨h1, h2, h3, h4⟩ := h
  have hl : a + 393 ≤ bs.length := by
    unfold okDec at hk
    rw [Bool.and_eq_true, decide_eq_true_eq] at hk
    have := hk.1
    simp at this
    omega
  refine ⟨by simp; omega, by simp; omega, hl, ?_⟩
  rw [h4, decVotes_yes hk, List.drop_drop]
  cases decVotes r (bs.drop (a + 393)) <;> simp
def TAt (bs : List UInt8) (a0 N : Nat) (ts : List (List UInt8)) (r a : Nat) : Prop := ts.length + r = N ∧ a0 + 2 * ts.length ≤ a ∧ a ≤ bs.length ∧ decTexts N (bs.drop a0) = (decTexts r (bs.drop a)).map (fun p => (ts ++ p.1, p.2))
theorem TAt.start {bs : List UInt8} {a0 : Nat} (h : a0 ≤ bs.length) (N : Nat) : TAt bs a0 N [] N a0 := by
  refine ⟨by simp, by simp, h, ?_⟩
  cases decTexts N (bs.drop a0) <;> simp
theorem TAt.fail {bs : List UInt8} {a0 N r a : Nat} {ts : List (List UInt8)} (h : TAt bs a0 N ts (r + 1) a) (hb : bs.length < a + 2 ∨ a + 2 ≤ bs.length ∧ bs.length < a + 2 + be ((bs.drop a).take 2)) : decTexts N (bs.drop a0) = none := by
  obtain ⟨h1, h2, h3, h4⟩ := h
  rw [h4, decTexts]
  rcases hb with hb | ⟨hb, hc⟩
  · rw [if_pos (by simp; omega)]; rfl
  · rw [if_neg (by simp; omega), if_pos (by simp; omega)]; rfl
theorem TAt.next {bs : List UInt8} {a0 N r a n : Nat} {ts : List (List UInt8)} (h : TAt bs a0 N ts (r + 1) a) (hn : be ((bs.drop a).take 2) = n) (h2' : a + 2 ≤ bs.length) (hb : a + 2 + n ≤ bs.length) : TAt bs a0 N (ts ++ [(bs.drop (a + 2)).take n]) r (a + 2 + n) := by
  obtain ⟨h1, h2, h3, h4⟩ := h
  refine ⟨by simp; omega, by simp; omega, hb, ?_⟩
  rw [h4, decTexts, if_neg (by simp; omega), if_neg (by simp [hn]; omega), hn, List.drop_drop, List.drop_drop, show a + (2 + n) = a + 2 + n by omega]
  cases decTexts r (bs.drop (a + 2 + n)) <;> simp
theorem dec_none1 {bs : List UInt8} (h : bs.length < 4) : decodeS bs = none := by unfold decodeS; rw [if_pos h]
theorem dec_none2 {bs : List UInt8} (h : 4 ≤ bs.length) (hd : decVotes (be (bs.take 4)) (bs.drop 4) = none) : decodeS bs = none := by unfold decodeS; rw [if_neg (by omega), hd]
theorem VAt.fin {bs : List UInt8} {N a : Nat} {vs : List SignedS} (h : VAt bs N vs 0 a) : decVotes N (bs.drop 4) = some (vs, bs.drop a) := by
  rw [h.2.2.2, decVotes]
  simp
theorem TAt.fin {bs : List UInt8} {a0 N a : Nat} {ts : List (List UInt8)} (h : TAt bs a0 N ts 0 a) : decTexts N (bs.drop a0) = some (ts, bs.drop a) := by
  rw [h.2.2.2, decTexts]
  simp
theorem dec_rest {bs : List UInt8} {a : Nat} {vs : List SignedS} (h : 4 ≤ bs.length) (hv : VAt bs (be (bs.take 4)) vs 0 a) : decodeS bs = decRest vs (bs.drop a) := by
  unfold decodeS
  rw [if_neg (by omega), hv.fin]
theorem rest_none1 {bs : List UInt8} {a : Nat} {vs : List SignedS} (h : bs.length < a + 4) : decRest vs (bs.drop a) = none := by
  unfold decRest
  rw [if_pos (by simp; omega)]
theorem rest_none2 {bs : List UInt8} {a : Nat} {vs : List SignedS} (h : a + 4 ≤ bs.length) (hd : decTexts (be ((bs.drop a).take 4)) (bs.drop (a + 4)) = none) : decRest vs (bs.drop a) = none := by
  unfold decRest
  rw [if_neg (by simp; omega), List.drop_drop, hd]
theorem rest_fin {bs : List UInt8} {a a' : Nat} {vs : List SignedS} {ts : List (List UInt8)} (h : a + 4 ≤ bs.length) (ht : TAt bs (a + 4) (be ((bs.drop a).take 4)) ts 0 a') : decRest vs (bs.drop a) = if a' = bs.length then if ordB ⟨vs, ts⟩ then some ⟨vs, ts⟩ else none else none := by
  unfold decRest
  rw [if_neg (by simp; omega), List.drop_drop, ht.fin]
  simp only
  have h3 := ht.2.2.1
  by_cases e : a' = bs.length
  · rw [if_pos e, if_pos (by rw [e]; simp)]
  · rw [if_neg e, if_neg (by intro h0; have := congrArg List.length h0; simp at this; omega)]
end

section
open Go.RowKit

abbrev nil2 : Array Value := #[.slice none 0 0, .slice none 0 0]
/-- What Decode returns. -/
def DecPost (w : World) : Option ViewS → Ending → World → Prop
  | none, e, w' => e = .returned (.tuple #[.agg nil2, .int .i64 4]) ∧ Upd NoF w w'
  | some V, e, w' => ∃ a b, e = .returned (.tuple #[.agg #[a, b], .int .i64 0]) ∧ (∀ w'', Upd (fun k => k < w.heap.size) w' w'' → VwR w'' a b V) ∧ Upd NoF w w'
theorem view_size : (Try.prog.info? 25).map (·.size) = some 2 := by kernel_rfl
/-- The variables of Decode: its result, the cursor, the view; M: the blocks that it writes. -/
structure DcSt (w wr : World) (C Vb : Nat) (v : Value) (a : Nat) (bad : Bool) (vb tb : Value) (M : Nat → Prop) : Prop where
  cur : CurB wr C v a bad
  view : Blk wr Vb 25 #[vb, tb]
  res : Blk wr w.heap.size 25 nil2
  upd : Upd NoF w wr
  mC : M C
  mV : M Vb
  mR : M w.heap.size
  lt : ∀ k, M k → k < wr.heap.size
  hC : w.heap.size < C
  hV : w.heap.size < Vb
  hCV : C ≠ Vb
  mL : ∀ k, k < w.heap.size → M k
theorem DcSt.cursor {w wr w' : World} {C Vb : Nat} {v : Value} {a a' : Nat} {bad bad' : Bool} {vb tb : Value} {M : Nat → Prop} (h : DcSt w wr C Vb v a bad vb tb M) (hc : CurB w' C v a' bad') (hu : Upd (fun k => k = C) wr w') : DcSt w w' C Vb v a' bad' vb tb M :=
  ⟨hc, hu.blk h.view (fun e => h.hCV e.symm), hu.blk h.res (fun e => by have := h.hC; have e : w.heap.size = C := e; omega), h.upd.trans hu (fun k hk e => by have := h.hC; have e : k = C := e; omega), h.mC, h.mV, h.mR, fun k hk => Nat.lt_of_lt_of_le (h.lt k hk) hu.size, h.hC, h.hV, h.hCV, h.mL⟩
theorem DcSt.more {w wr w' : World} {C Vb : Nat} {v : Value} {a : Nat} {bad : Bool} {vb tb : Value} {M : Nat → Prop} (h : DcSt w wr C Vb v a bad vb tb M) (hu : Upd NoF wr w') : DcSt w w' C Vb v a bad vb tb M :=
  ⟨hu.blk h.cur (fun e => e), hu.blk h.view (fun e => e), hu.blk h.res (fun e => e), h.upd.trans hu (fun _ _ f => f), h.mC, h.mV, h.mR, fun k hk => Nat.lt_of_lt_of_le (h.lt k hk) hu.size, h.hC, h.hV, h.hCV, h.mL⟩


theorem runDone_bad {w wr : World} {C Vb : Nat} {A : Option Addr} {n c a : Nat} {vb tb : Value} {M : Nat → Prop} (h : DcSt w wr C Vb (.slice A n c) a true vb tb M) : Calls Try.prog 42 #[ptrV C] wr fun e w' => e = .returned (.bool false) ∧ Upd NoF wr w' := curDone_any h.cur
set_option maxRecDepth 100000 in
set_option maxHeartbeats 8000000 in
theorem Decode_short {w : World} {v : Value} {bs : List UInt8} (hr : Rd w 1 v bs.length (bs.map byteV)) (hs : bs.length < 4) : Calls Try.prog 11 #[v] w (DecPost w (decodeS bs)) := by
  have HNO := Lib.hid (dec_none1 hs)
  obtain ⟨A, c, rfl, hlc, hcm⟩ := hr.slice
  have HR := Lib.hid hr
  have CN := Lib.hid (fun W => curNew_any (.slice A bs.length c) bs.length c A rfl W)
  clear hr
  go_enter Try.func11, Try.ntmps11
  go_wp2_with fail
  refine (CN.out _).mono ?_
  rintro e w2 ⟨rfl, hc2, hu2⟩
  have hsz : (w.alloc (.cells nil2 25)).heap.size = w.heap.size + 1 := by simp
  rw [hsz] at hc2
  have hb2 := hu2.blk (Blk.new w 25 nil2) (fun h => h)
  have hlt2 : w.heap.size + 1 < w2.heap.size := hc2.lt
  have D3 := Lib.hid (show DcSt w (w2.alloc (.cells nil2 25)) (w.heap.size + 1) w2.heap.size (.slice A bs.length c) 0 false (.slice none 0 0) (.slice none 0 0) (fun k => k = w.heap.size + 1 ∨ k = w2.heap.size ∨ k = w.heap.size ∨ k < w.heap.size) from
    ⟨Blk.alloc hc2 _, Blk.new w2 _ _, hb2.alloc _, (((Upd.refl NoF w).alloc _).trans hu2 (fun _ _ f => f)).alloc _, .inl rfl, .inr (.inl rfl), .inr (.inr (.inl rfl)), fun k hk => by rcases hk with e | e | e | e <;> (simp; omega), by omega, by omega, by omega, fun k hk => .inr (.inr (.inr hk))⟩)
  obtain ⟨W3, hW3⟩ : ∃ x, x = w2.alloc (.cells nil2 25) := ⟨_, rfl⟩
  rw [← hW3] at D3
  clear hsz hc2 hu2 hb2
  go_wp2_with fail
  rw [← hW3]
  clear hW3
  refine (curUint_short D3.out.cur (HR.out.keep D3.out.upd) (by omega) (by omega) (by omega)).mono ?_
  rintro e w4 ⟨rfl, hc4, hu4⟩
  have D4 := Lib.hid (D3.out.cursor hc4 hu4)
  clear hc4 hu4
  go_wp2
  refine wp_loop_once ?_
  go_wp2_with fail
  refine (curUint_bad D4.out.cur (HR.out.keep D4.out.upd) (by omega) (by omega)).mono ?_
  rintro e w5 ⟨rfl, hc5, hu5⟩
  have D5 := Lib.hid (D4.out.cursor hc5 hu5)
  clear hc5 hu5
  go_wp2
  refine wp_loop_once ?_
  go_wp2_with fail
  refine (runDone_bad D5.out).mono ?_
  rintro e w6 ⟨rfl, hu6⟩
  have D6 := Lib.hid (D5.out.more hu6)
  have x0 : w6.cell? ⟨w.heap.size, 0, none⟩ = some (.slice none 0 0) := D6.out.res.cell 0; have x1 : w6.cell? ⟨w.heap.size, 1, none⟩ = some (.slice none 0 0) := D6.out.res.cell 1; have x2 : w6.frozen? ⟨w.heap.size, 0, none⟩ = false := D6.out.res.frozen 0; have x3 : w6.frozen? ⟨w.heap.size, 1, none⟩ = false := D6.out.res.frozen 1
  clear hu6
  go_wp2
  refine bodyPost_ret (results_cell_tmp Try.results11 _ _ w.heap.size [.slice none 0 0, .slice none 0 0] _ rfl (range_blk ((D6.out.res.put 0 (.slice none 0 0)).put 1 (.slice none 0 0))) Try.underlying25 rfl (by rw [view_size]; rfl)) rfl ?_
  rw [HNO.out]
  exact ⟨rfl, (D6.out.upd.setCell (p := ⟨w.heap.size, 0, none⟩) (.inr (Nat.le_refl _)) _).setCell (p := ⟨w.heap.size, 1, none⟩) (.inr (Nat.le_refl _)) _⟩
end

section
open Go.RowKit

/-- What op number i is owed: L says which operations have run; W what the world is like then. -/
def OpStepL (P : Program) (l : List Oper) (R : Nat → Value → World → Prop) (St : (Nat → Bool) → World → World → Prop) (W : (Nat → Bool) → World → Prop) (ρ0 : Operand → Value) (i : Nat) (o : Oper) : Prop :=
  ∀ (ρ : Operand → Value) (w : World) (L : Nat → Bool), W L w → L i = false → (∀ j k, L j = true → depOn l j k = true → L k = true) → (∀ k, depOn l i k = true → L k = true) → (∀ j oj, l[j]? = some oj → depOn l i j = true → R j (slotV ρ oj) w) → (∀ t, extOk l i t = true → ρ (.tmp t) = ρ0 (.tmp t)) → (∀ v, ρ (.const v) = v) → (∀ g, ρ (.global g) = .pointer (some ⟨g, 0, none⟩)) → (∀ f, ρ (.func f) = .func (.func f) #[] #[]) →
    if wantedR l o ρ = true then OpDone P o ρ w (fun v w' => R i (leftV o v) w' ∧ St L w w' ∧ W (fun j => j == i || L j) w') else R i undef w ∧ W (fun j => j == i || L j) w

def AllOpsL (P : Program) (l : List Oper) (R : Nat → Value → World → Prop) (St : (Nat → Bool) → World → World → Prop) (W : (Nat → Bool) → World → Prop) (ρ0 : Operand → Value) : Nat → List Oper → Prop
  | _, [] => True
  | i, o :: r => OpStepL P l R St W ρ0 i o ∧ AllOpsL P l R St W ρ0 (i + 1) r

section
variable {P : Program} {l : List Oper} {R : Nat → Value → World → Prop} {St : (Nat → Bool) → World → World → Prop} {W : (Nat → Bool) → World → Prop} {a0 : Act}

theorem AllOpsL.get {ρ0 : Operand → Value} : ∀ {r : List Oper} {k : Nat}, AllOpsL P l R St W ρ0 k r → ∀ {i : Nat} {o : Oper}, r[i]? = some o → OpStepL P l R St W ρ0 (k + i) o
  | [], _, _, i, o, h => by cases h
  | x :: r, k, h, 0, o, hi => by
    simp at hi
    subst hi
    exact h.1
  | x :: r, k, h, i + 1, o, hi => by
    have := AllOpsL.get h.2 (i := i) (o := o) (by simpa using hi)
    rw [show k + (i + 1) = k + 1 + i by omega]
    exact this

theorem RgAt.stepL (st_refl : ∀ L w, St L w w) (keep : ∀ L i v w w', L i = true → R i v w → St L w w' → R i v w') (hdi : distinctB l = true) (hdst : ∀ o ∈ l, ∀ d, o.dst = some d → d < a0.tmps.size) {Q : Exit → Act → World → Prop} (hops : AllOpsL P l R St W a0.eval 0 l) {listed : Array Bool} {a : Act} {w : World} (h : RgAt l R W a0 listed a w) {i : Nat} {o : Oper} (ho : l[i]? = some o) (hun : listed[i]? = some false) (hrdy : ∀ k, depOn l i k = true → listed[k]? = some true) :
    if Region.wanted o (yielded l.toArray a.tmps) then o.wp P a w (fun a' w' => RgAt l R W a0 (listed.setIfInBounds i true) a' w') Q else RgAt l R W a0 (listed.setIfInBounds i true) (a.put o.dst undef) w := by
  have hi : i < listed.size := (Array.getElem?_eq_some_iff.1 hun).1
  have hs := (hops.get ho) a.eval w (lst listed) h.st (by simp [lst, hun]) (fun j k hj hk => by unfold lst at hj ⊢; rw [beq_iff_eq] at hj ⊢; exact h.closed j k hj hk) (fun k hk => by unfold lst; rw [beq_iff_eq]; exact hrdy k (by simpa using hk)) (fun j oj hj hd => h.done j oj hj (hrdy j (by simpa using hd))) (fun t ht => by
    have hx := h.ext t (fun j oj hj hd => by
      have hdep := extFrom_get ht hj hd
      rw [Nat.zero_add, Nat.zero_add] at hdep
      have hjl : j < listed.size := by rw [h.ls]; exact (List.getElem?_eq_some_iff.1 hj).1
      rw [Array.getElem?_eq_getElem hjl]
      cases hb : listed[j] with
      | false => rfl
      | true =>
        have := h.closed j i (by rw [Array.getElem?_eq_getElem hjl, hb]) hdep
        rw [hun] at this
        cases this)
    simp only [Act.eval, Array.getD_eq_getD_getElem?, hx]) (fun _ => rfl) (fun _ => rfl) (fun _ => rfl)
  rw [Nat.zero_add] at hs
  have hlst : lst (listed.setIfInBounds i true) = fun j => j == i || lst listed j := by
    funext j
    unfold lst
    by_cases hji : j = i
    · subst hji; simp [hi]
    · rw [Array.getElem?_setIfInBounds_ne (fun e => hji e.symm)]; simp [hji]
  have next : ∀ v w', R i (leftV o v) w' → St (lst listed) w w' → W (fun j => j == i || lst listed j) w' → RgAt l R W a0 (listed.setIfInBounds i true) (a.put o.dst v) w' := by
    intro v w' hv hst hW
    have hset : ∀ j, j ≠ i → (listed.setIfInBounds i true)[j]? = listed[j]? := fun j hj => Array.getElem?_setIfInBounds_ne (fun e => hj e.symm)
    have hseti : (listed.setIfInBounds i true)[i]? = some true := by simp [hi]
    refine ⟨by simp [h.ls], by rw [put_size, h.size], by rw [put_defers, h.defers], by rw [hlst]; exact hW, ?_, ?_, ?_⟩
    · intro j oj hj hl
      by_cases hji : j = i
      · subst hji
        have e := ho.symm.trans hj
        have e := Option.some.inj e
        subst e
        have : slotV (a.put o.dst v).eval o = leftV o v := by
          unfold slotV leftV
          cases hd : o.dst with
          | none => rfl
          | some d =>
            have hlt : d < a.tmps.size := by rw [h.size]; exact hdst o (List.mem_of_getElem? ho) d hd
            simp only [Act.eval, Array.getD_eq_getD_getElem?, put_get_same a hlt]
            rfl
        rw [this]
        exact hv
      · rw [hset j hji] at hl
        have hr := h.done j oj hj hl
        have e : slotV (a.put o.dst v).eval oj = slotV a.eval oj := by
          unfold slotV
          cases hd : oj.dst with
          | none => rfl
          | some d =>
            have : o.dst ≠ some d := fun e => hji (distinct_get hdi hj ho hd e)
            simp only [Act.eval, Array.getD_eq_getD_getElem?, put_get_ne a this]
        rw [e]
        exact keep (lst listed) _ _ _ _ (by unfold lst; rw [hl]; rfl) hr hst
    · intro t ht
      have hne : o.dst ≠ some t := fun e => by
        have := ht i o ho e
        rw [hseti] at this
        cases this
      rw [put_get_ne a hne]
      refine h.ext t (fun j oj hj hd => ?_)
      have := ht j oj hj hd
      by_cases hji : j = i
      · subst hji; rw [hseti] at this; cases this
      · rw [hset j hji] at this; exact this
    · intro j k hj hd
      by_cases hji : j = i
      · subst hji
        have := hrdy k hd
        by_cases hki : k = j
        · subst hki; exact hseti
        · rw [hset k hki]; exact this
      · rw [hset j hji] at hj
        have := h.closed j k hj hd
        by_cases hki : k = i
        · subst hki; exact hseti
        · rw [hset k hki]; exact this
  rw [wanted_eq]
  by_cases hw : wantedR l o a.eval = true
  · rw [if_pos hw] at hs ⊢
    exact hs.wp (fun v w' ⟨h1, h2, h3⟩ => next v w' h1 h2 h3)
  · rw [if_neg hw] at hs ⊢
    have e : leftV o undef = undef := by unfold leftV; cases o.dst <;> rfl
    exact next undef w (by rw [e]; exact hs.1) (st_refl _ w) hs.2


theorem RgAt.anyL (st_refl : ∀ L w, St L w w) (keep : ∀ L i v w w', L i = true → R i v w → St L w w' → R i v w') (hac : acycFrom 0 l = true) (hdi : distinctB l = true) (hdst : ∀ o ∈ l, ∀ d, o.dst = some d → d < a0.tmps.size) {Q : Exit → Act → World → Prop} (hops : AllOpsL P l R St W a0.eval 0 l) (hend : ∀ (vs : Nat → Value) (w : World) (L : Nat → Bool), (∀ i, i < l.length → L i = true) → W L w → (∀ (i : Nat) o, l[i]? = some o → R i (leftV o (vs i)) w) → Q .normal (putAll l vs 0 a0) w) :
    ∀ (fuel : Nat) (listed : Array Bool) (a : Act) (w : World), unl listed.toList ≤ fuel → RgAt l R W a0 listed a w → wpAny P .any l.toArray Q fuel listed a w := by
  have fin : ∀ (listed : Array Bool) (a : Act) (w : World), RgAt l R W a0 listed a w → Region.ready .any l.toArray listed = [] → Q .normal a w := by
    intro listed a w h hr
    have hn := not_ready hac h.ls hr
    obtain ⟨vs, rfl, hv⟩ := h.fin hdi (fun b hb => by
      obtain ⟨i, hi⟩ := List.getElem?_of_mem hb
      have hlt : i < l.length := by rw [← h.ls]; have := (List.getElem?_eq_some_iff.1 hi).1; simpa using this
      have := hn i hlt
      have hi' : listed[i]? = some b := by simpa using hi
      rw [hi'] at this
      exact Option.some.inj this)
    exact hend vs w (lst listed) (fun i hi => by unfold lst; rw [beq_iff_eq]; exact hn i hi) h.st hv
  intro fuel
  induction fuel with
  | zero =>
    intro listed a w hu h
    have hz := unl_zero _ (by omega : unl listed.toList = 0)
    have hr : Region.ready .any l.toArray listed = [] := by
      apply List.eq_nil_iff_forall_not_mem.2
      intro i hi
      obtain ⟨o, _, h2, _⟩ := ready_iff h.ls hi
      have := hz false (List.mem_of_getElem? (i := i) (by simpa using h2))
      cases this
    exact ⟨hr, fin listed a w h hr⟩
  | succ fuel ih =>
    intro listed a w hu h
    refine ⟨fun hr => fin listed a w h hr, fun i hi => ?_⟩
    obtain ⟨o, h1, h2, h3⟩ := ready_iff h.ls hi
    have hs := h.stepL st_refl keep hdi hdst (Q := Q) hops h1 h2 h3
    have hun : unl (listed.setIfInBounds i true).toList ≤ fuel := by
      have := unl_set listed.toList i (by simpa using h2)
      rw [Array.toList_setIfInBounds]
      omega
    unfold wpOp
    simp only [List.getElem?_toArray, h1]
    split
    · rename_i hw
      rw [if_pos hw] at hs
      exact .inl (Oper.wp_mono (fun a' w' h' => ih _ a' w' hun h') hs)
    · rename_i hw
      rw [if_neg hw] at hs
      exact ih _ _ _ hun hs
end


theorem wp_region_rgl {P : Program} {l : List Oper} {a0 : Act} {w0 : World} {Q : Exit → Act → World → Prop} {id : Nat} (R : Nat → Value → World → Prop) (St : (Nat → Bool) → World → World → Prop) (W : (Nat → Bool) → World → Prop) (hm : P.follows .mixedOrders = true) (hac : acycFrom 0 l = true) (hdi : distinctB l = true) (hdst : (l.all fun o => match o.dst with | some d => decide (d < a0.tmps.size) | none => true) = true)
    (st_refl : ∀ L w, St L w w) (keep : ∀ L i v w w', L i = true → R i v w → St L w w' → R i v w') (hW : W (fun _ => false) w0.drew)
    (hops : AllOpsL P l R St W a0.eval 0 l) (hend : ∀ (vs : Nat → Value) (w : World) (L : Nat → Bool), (∀ i, i < l.length → L i = true) → W L w → (∀ (i : Nat) o, l[i]? = some o → R i (leftV o (vs i)) w) → Q .normal (putAll l vs 0 a0) w) : (Code.region id l.toArray true).wp P Q a0 w0 := by
  have hdst' : ∀ o ∈ l, ∀ d, o.dst = some d → d < a0.tmps.size := fun o ho d hd => by
    have := List.all_eq_true.1 hdst o ho
    rw [hd] at this
    simpa using this
  have hl0 : lst (Array.replicate l.length false) = fun _ => false := by
    funext j
    unfold lst
    rw [Array.getElem?_replicate]
    split <;> rfl
  refine wp_region_any hm ?_
  refine RgAt.anyL (R := R) (St := St) (W := W) (a0 := a0) st_refl keep hac hdi hdst' hops hend _ _ _ _ ?_ ?_
  · simp [unl_replicate]
  · refine ⟨by simp, rfl, rfl, by simp only [List.size_toArray]; rw [hl0]; exact hW, fun j oj _ h => ?_, fun _ _ => rfl, fun j k h => ?_⟩
    · rw [Array.getElem?_replicate] at h
      split at h
      · cases h
      · cases h
    · rw [Array.getElem?_replicate] at h
      split at h
      · cases h
      · cases h

def StbL (St : (Nat → Bool) → World → World → Prop) (i : Nat) (p : Value → World → Prop) : Prop := ∀ L v w w', L i = true → p v w → St L w w' → p v w'
def AllStbL (St : (Nat → Bool) → World → World → Prop) : Nat → List (Value → World → Prop) → Prop
  | _, [] => True
  | i, p :: l => StbL St i p ∧ AllStbL St (i + 1) l
theorem AllStbL.get {St : (Nat → Bool) → World → World → Prop} : ∀ {l : List (Value → World → Prop)} {k i : Nat} {p : Value → World → Prop}, AllStbL St k l → l[i]? = some p → StbL St (k + i) p
  | [], _, _, _, _, h => by cases h
  | x :: l, k, 0, p, h, hi => by simp at hi; subst hi; exact h.1
  | x :: l, k, i + 1, p, h, hi => by
    have := AllStbL.get h.2 (i := i) (p := p) (by simpa using hi)
    rw [show k + (i + 1) = k + 1 + i by omega]
    exact this
end

section
open Go.RowKit

theorem rgR_keepL {St : (Nat → Bool) → World → World → Prop} {ps : List (Value → World → Prop)} (h : AllStbL St 0 ps) : ∀ L i v w w', L i = true → rgR ps i v w → St L w w' → rgR ps i v w' := by
  intro L i v w w' hl h1 h2
  unfold rgR at *
  rw [List.getD_eq_getElem?_getD] at *
  cases hi : ps[i]? with
  | none => trivial
  | some p =>
    rw [hi] at h1
    have := h.get hi
    rw [Nat.zero_add] at this
    exact this L v w w' hl h1 h2
theorem stbL_isV {St : (Nat → Bool) → World → World → Prop} {i : Nat} (x : Value) : StbL St i (isV x) := fun _ _ _ _ _ h _ => h
theorem stbL_any {St : (Nat → Bool) → World → World → Prop} {i : Nat} : StbL St i anyV := fun _ _ _ _ _ _ _ => trivial
theorem Own.own_ne {w : World} {e t : TypeId} {size n size' n' : Nat} {v v' : Value} {xs xs' : List Value} (h : Own w e size v n xs) (h' : Own w t size' v' n' xs') (hne : e ≠ t) {k : Nat} (hk : OwnB v' k) : ¬ OwnB v k := by
  rcases h'.2 with ⟨rfl, _⟩ | ⟨g', cap, cur, rfl, hb', _⟩
  · simp [OwnB, Value.ownBlock] at hk
  · simp [OwnB, Value.ownBlock] at hk
    subst hk
    exact h.blk_ne hb' hne

/-! ### cursors over signed votes and texts -/
/-- Fixed where no signed vote can be read. -/
def FixAny (w : World) (g : Nat) (v : Value) (e : Ending) (w' : World) : Prop := ∃ (x : List UInt8) (A : Option Addr) (c a' : Nat) (bad : Bool), e = .returned (.slice A x.length c) ∧ Rd w' 1 (.slice A x.length c) x.length (x.map byteV) ∧ okDec x = false ∧ CurB w' g v a' bad ∧ Upd (fun k => k = g) w w'
theorem okDec_len {x : List UInt8} (h : okDec x = true) : x.length = 393 := by
  unfold okDec at h
  rw [Bool.and_eq_true, decide_eq_true_eq] at h
  exact h.1
theorem curFixed_no {w : World} {g : Nat} {v : Value} {bs : List UInt8} {a : Nat} (h : CurB w g v a false) (hr : Rd w 1 v bs.length (bs.map byteV)) (hm : bs.length ≤ 1099511627776) (ha2 : a ≤ bs.length) (hk : okDec ((bs.drop a).take 393) = false) : Calls Try.prog 40 #[ptrV g, .int .i64 393] w (FixAny w g v) := by
  rcases Nat.lt_or_ge bs.length (a + 393) with h1 | h1
  · refine (curFixed_short h hr hm h1 ha2).mono ?_
    rintro e w' ⟨rfl, hc, hu⟩
    exact ⟨[], none, 0, a, true, rfl, Rd.nil _ _, rfl, hc, hu⟩
  · refine (curFixed_ok h hr hm h1).mono ?_
    rintro e w' ⟨A, c, rfl, hr', hc, hu⟩
    exact ⟨_, A, c, _, false, rfl, hr', hk, hc, hu⟩
theorem curFixed_yes {w : World} {g : Nat} {v : Value} {bs : List UInt8} {a : Nat} (h : CurB w g v a false) (hr : Rd w 1 v bs.length (bs.map byteV)) (hm : bs.length ≤ 1099511627776) (hk : okDec ((bs.drop a).take 393) = true) : Calls Try.prog 40 #[ptrV g, .int .i64 393] w (FixOk w g v a 393 ((bs.drop a).take 393)) :=
  curFixed_ok h hr hm (by have := okDec_len hk; simp at this; omega)
/-- Bytes in both cases. -/
def BytAny (w : World) (g : Nat) (v : Value) (x : List UInt8) (a' : Nat) (bad : Bool) (e : Ending) (w' : World) : Prop := ∃ A c, e = .returned (.slice A x.length c) ∧ RdF (fun k => k < w.heap.size) w' 1 (.slice A x.length c) x.length (x.map byteV) ∧ CurB w' g v a' bad ∧ Upd (fun k => k = g) w w'
/-- What a text at a is, and what comes of it. -/
theorem text_step {v : Value} {bs : List UInt8} {a a0 N r : Nat} {ts : List (List UInt8)} (h : TAt bs a0 N ts (r + 1) a) (hm : bs.length ≤ 1099511627776) : ∃ (x : List UInt8) (a' : Nat) (bad : Bool), (∀ W g, CurB W g v a false → Rd W 1 v bs.length (bs.map byteV) → Calls Try.prog 41 #[ptrV g] W (BytAny W g v x a' bad)) ∧ a' ≤ bs.length ∧
    (bad = false → TAt bs a0 N (ts ++ [x]) r a') ∧ (bad = true → decTexts N (bs.drop a0) = none) := by
  by_cases hb : bs.length < a + 2 ∨ a + 2 ≤ bs.length ∧ bs.length < a + 2 + be ((bs.drop a).take 2)
  · refine ⟨[], a, true, fun W g hc hr => (curBytes_bad hc hr hm h.2.2.1 hb).mono ?_, h.2.2.1, (fun e => by cases e), fun _ => h.fail hb⟩
    rintro e w' ⟨rfl, hc', hu⟩
    exact ⟨none, 0, rfl, RdF.nil _ _ _, hc', hu⟩
  · have h1 : a + 2 ≤ bs.length := by omega
    have h2 : a + 2 + be ((bs.drop a).take 2) ≤ bs.length := by omega
    exact ⟨_, _, false, fun W g hc hr => curBytes_ok hc hr hm _ h1 rfl h2, h2, fun _ => h.next rfl h1 h2, (fun e => by cases e)⟩

/-! ### loop 1 -/
def OwnM (w : World) (M : Nat → Prop) (v : Value) : Prop := ∀ k, OwnB v k → M k ∧ w.heap.size ≤ k
def D1Rel (w : World) (C Vb : Nat) (v : Value) (bs : List UInt8) (N : Nat) (n : Value) (wr : World) : Prop :=
  ∃ (r : Nat) (vs : List SignedS) (Av : Option Addr) (cv a : Nat) (M : Nat → Prop), n = .int .i64 (r : Int) ∧ VAt bs N vs r a ∧ DcSt w wr C Vb v a false (.slice Av vs.length cv) (.slice none 0 0) M ∧ SgM wr M Av cv vs ∧ OwnM w M (.slice Av vs.length cv)
section
variable {w wr w1 w5 w6 : World} {C Vb a a' : Nat} {v : Value} {M : Nat → Prop} {Av A' : Option Addr} {cv c' : Nat} {vs : List SignedS} {us : List Value} {s : SignedS} {u : Value}
theorem D1_next (hD : DcSt w wr C Vb v a false (.slice Av vs.length cv) (.slice none 0 0) M) (hO : OwnM w M (.slice Av vs.length cv)) (hc : CurB w1 C v a' false) (hu1 : Upd (fun k => k = C) wr w1) (hu5 : Upd NoF w1 w5)
    (hf : ∀ s ∈ vs, s.vote.Fit) (e1 : us.length = vs.length) (e2 : Own wr 38 23 (.slice Av vs.length cv) vs.length (List.zipWith rowS vs us).flatten) (e3 : ∀ (i : Nat) s, vs[i]? = some s → ∃ u, us[i]? = some u ∧ RdF M wr 1 u s.sig.length (s.sig.map byteV))
    (hs : s.vote.Fit) (hsig : RdF (fun k => k < w1.heap.size) w5 1 u s.sig.length (s.sig.map byteV))
    (ho : Own w6 38 23 (.slice A' (vs.length + 1) c') (vs.length + 1) ((List.zipWith rowS vs us).flatten ++ rowS s u)) (hup : Upd (OwnB (.slice Av vs.length cv)) w5 w6) (hn : ∀ k, OwnB (.slice A' (vs.length + 1) c') k → OwnB (.slice Av vs.length cv) k ∨ w5.heap.size ≤ k) :
    ∃ M', DcSt w (w6.setCell ⟨Vb, 0, none⟩ (.slice A' (vs.length + 1) c')) C Vb v a' false (.slice A' (vs ++ [s]).length c') (.slice none 0 0) M' ∧ SgM (w6.setCell ⟨Vb, 0, none⟩ (.slice A' (vs.length + 1) c')) M' A' c' (vs ++ [s]) ∧ OwnM w M' (.slice A' (vs ++ [s]).length c') := by
  have el : (vs ++ [s]).length = vs.length + 1 := by simp
  have nC : ¬ OwnB (.slice Av vs.length cv) C := e2.blk_ne hD.cur (by decide)
  have nV : ¬ OwnB (.slice Av vs.length cv) Vb := e2.blk_ne hD.view (by decide)
  have nR : ¬ OwnB (.slice Av vs.length cv) w.heap.size := e2.blk_ne hD.res (by decide)
  have hset : Upd (fun k => k = Vb) w6 (w6.setCell ⟨Vb, 0, none⟩ (.slice A' (vs.length + 1) c')) := (Upd.refl (fun k => k = Vb) w6).setCell (p := ⟨Vb, 0, none⟩) (.inl rfl) _
  have s1 := hu1.size
  have s5 := hu5.size
  have s6 := hup.size
  have hsz := hD.upd.size
  have hview6 : Blk w6 Vb 25 #[.slice Av vs.length cv, .slice none 0 0] := hup.blk (hu5.blk (hu1.blk hD.view (fun e => hD.hCV e.symm)) (fun f => f)) nV
  have hcur6 : CurB w6 C v a' false := hup.blk (hu5.blk hc (fun f => f)) nC
  have hres6 : Blk w6 w.heap.size 25 nil2 := hup.blk (hu5.blk (hu1.blk hD.res (fun e => by have := hD.hC; have e : w.heap.size = C := e; omega)) (fun f => f)) nR
  have u5 : Upd (fun k => k = C) wr w5 := hu1.trans hu5 (fun _ _ f => f.elim)
  have u6 : Upd M wr w6 := (u5.mono (G := M) (fun k _ e => by rw [show k = C from e]; exact hD.mC)).trans hup (fun k _ f => (hO k f).1)
  have hA' : ∀ k, OwnB (.slice A' (vs.length + 1) c') k → w.heap.size ≤ k := fun k hk => by
    rcases hn k hk with f | f
    · exact (hO k f).2
    · omega
  refine ⟨fun k => M k ∨ OwnB (.slice A' (vs.length + 1) c') k, ?_, ?_, ?_⟩
  · rw [el]
    refine ⟨hset.blk hcur6 hD.hCV, hview6.put 0 _, hset.blk hres6 (fun e => by have := hD.hV; have e : w.heap.size = Vb := e; omega), ?_, .inl hD.mC, .inl hD.mV, .inl hD.mR, ?_, hD.hC, hD.hV, hD.hCV, fun k hk => .inl (hD.mL k hk)⟩
    · have h1 : Upd NoF w w5 := hD.upd.trans u5 (fun k hk e => by have := hD.hC; have e : k = C := e; omega)
      exact (h1.trans hup (fun k hk f => by have := (hO k f).2; omega)).trans hset (fun k hk e => by have := hD.hV; have e : k = Vb := e; omega)
    · intro k hk
      have hz := hset.size
      rcases hk with hk | hk
      · have := hD.lt k hk; omega
      · have := ho.lt hk; omega
  · have hp : SgM w6 (fun k => M k ∨ OwnB (.slice A' (vs.length + 1) c') k) A' c' (vs ++ [s]) := by
      refine SgM.push (F := M) (w5 := w5) hf e1 (fun i x hx => ?_) hs (hsig.mono (fun k _ hk => by have := hD.lt k hk; omega)) (fun k hk => (hO k hk).1) ho hup (fun k hk f => ?_)
      · obtain ⟨y, h1, h2⟩ := e3 i x hx
        exact ⟨y, h1, h2.upd (u5.mono (G := M) (fun k _ e => by rw [show k = C from e]; exact hD.mC))⟩
      · rcases f with f | f
        · exact f
        · rcases hn k f with g | g
          · exact (hO k g).1
          · omega
    refine hp.upd hset (fun k hk e => ?_) (fun k _ e => by rw [show k = Vb from e]; exact .inl hD.mV)
    rw [el] at hk
    rw [show k = Vb from e] at hk
    exact ho.blk_ne hview6 (by decide) hk
  · intro k hk
    rw [el] at hk
    exact ⟨.inr hk, hA' k hk⟩
end

/-! ### loop 2 -/
def D2Good (w : World) (C Vb : Nat) (v : Value) (bs : List UInt8) (vs : List SignedS) (a0 N r : Nat) (wr : World) : Prop :=
  ∃ (ts : List (List UInt8)) (Av At : Option Addr) (cv ct a : Nat) (M : Nat → Prop), TAt bs a0 N ts r a ∧ DcSt w wr C Vb v a false (.slice Av vs.length cv) (.slice At ts.length ct) M ∧ SgM wr M Av cv vs ∧ OwnM w M (.slice Av vs.length cv) ∧ TxM wr M At ct ts ∧ OwnM w M (.slice At ts.length ct)
def D2Bad (w : World) (C Vb : Nat) (v : Value) (bs : List UInt8) (a0 N : Nat) (wr : World) : Prop :=
  decTexts N (bs.drop a0) = none ∧ ∃ (a : Nat) (vb tb : Value) (M : Nat → Prop), a ≤ bs.length ∧ DcSt w wr C Vb v a true vb tb M
def D2Rel (w : World) (C Vb : Nat) (v : Value) (bs : List UInt8) (vs : List SignedS) (a0 N : Nat) (n : Value) (wr : World) : Prop :=
  ∃ r : Nat, n = .int .i64 (r : Int) ∧ r ≤ N ∧ (D2Good w C Vb v bs vs a0 N r wr ∨ D2Bad w C Vb v bs a0 N wr)

/-- Where the region stands that reads a text and appends it. -/
structure TxPh (w0 : World) (C Vb : Nat) (v : Value) (a a' : Nat) (bad' : Bool) (vb : Value) (At : Option Addr) (n ct : Nat) (R5 : Value → World → Prop) (L : Nat → Bool) (w : World) : Prop where
  c0 : L 3 = false → CurB w C v a false
  c1 : L 3 = true → CurB w C v a' bad'
  v0 : L 7 = false → Blk w Vb 25 #[vb, .slice At n ct]
  v1 : L 7 = true → ∃ x, Blk w Vb 25 #[vb, x] ∧ R5 x w
  u0 : L 5 = false → Upd (fun k => k = C) w0 w
  u1 : Upd (fun k => k = C ∨ k = Vb ∨ OwnB (.slice At n ct) k) w0 w
section
variable {w0 w w' : World} {C Vb a a' n ct : Nat} {v vb : Value} {bad' : Bool} {At : Option Addr} {R5 : Value → World → Prop} {L : Nat → Bool}
abbrev TxF (C Vb : Nat) (At : Option Addr) (n ct : Nat) : Nat → Prop := fun k => k = C ∨ k = Vb ∨ OwnB (.slice At n ct) k
/-- The step relation. -/
abbrev TxSt (C Vb : Nat) (At : Option Addr) (n ct : Nat) (L : Nat → Bool) (w w' : World) : Prop := Upd (TxF C Vb At n ct) w w' ∧ (L 5 = true → Upd (fun k => k = Vb) w w')
def TxR3 (S0 : Nat) (x : List UInt8) (v : Value) (w : World) : Prop := ∃ A c, v = .slice A x.length c ∧ RdF (fun k => k < S0) w 1 (.slice A x.length c) x.length (x.map byteV)
def TxR4 (S0 : Nat) (x : List UInt8) (v : Value) (w : World) : Prop := ∃ g u, v = .slice (some ⟨g, 0, none⟩) 1 1 ∧ Blk w g 36 #[u] ∧ S0 ≤ g ∧ u.oneCell' = true ∧ RdF (fun k => k < S0) w 1 u x.length (x.map byteV)
def TxR5 (S0 : Nat) (At : Option Addr) (n ct : Nat) (us : List Value) (x : List UInt8) (v : Value) (w : World) : Prop := ∃ A' c' u, v = .slice A' (n + 1) c' ∧ u.oneCell' = true ∧ Own w 36 1 (.slice A' (n + 1) c') (n + 1) (us ++ [u]) ∧ RdF (fun k => k < S0 ∨ OwnB (.slice A' (n + 1) c') k) w 1 u x.length (x.map byteV) ∧ ∀ k, OwnB (.slice A' (n + 1) c') k → OwnB (.slice At n ct) k ∨ S0 ≤ k
theorem TxPh.start (hc : CurB w0 C v a false) (hv : Blk w0 Vb 25 #[vb, .slice At n ct]) : TxPh w0 C Vb v a a' bad' vb At n ct R5 (fun _ => false) w0 :=
  ⟨fun _ => hc, (fun e => by cases e), fun _ => hv, (fun e => by cases e), fun _ => Upd.refl _ _, Upd.refl _ _⟩
theorem TxPh.same (h : TxPh w0 C Vb v a a' bad' vb At n ct R5 L w) {i : Nat} (h3 : 3 ≠ i) (h5 : 5 ≠ i) (h7 : 7 ≠ i) : TxPh w0 C Vb v a a' bad' vb At n ct R5 (fun j => j == i || L j) w := by
  have e3 : ((3 == i) || L 3) = L 3 := by simp [h3]
  have e5 : ((5 == i) || L 5) = L 5 := by simp [h5]
  have e7 : ((7 == i) || L 7) = L 7 := by simp [h7]
  exact ⟨fun e => h.c0 (by rw [← e3]; exact e), fun e => h.c1 (by rw [← e3]; exact e), fun e => h.v0 (by rw [← e7]; exact e), fun e => h.v1 (by rw [← e7]; exact e), fun e => h.u0 (by rw [← e5]; exact e), h.u1⟩
theorem TxPh.call (h : TxPh w0 C Vb v a a' bad' vb At n ct R5 L w) (h5 : L 5 = false) (h7 : L 7 = false) (hCV : C ≠ Vb) (hc : CurB w' C v a' bad') (hu : Upd (fun k => k = C) w w') : TxPh w0 C Vb v a a' bad' vb At n ct R5 (fun j => j == 3 || L j) w' :=
  ⟨(fun e => by simp at e), fun _ => hc, fun _ => hu.blk (h.v0 h7) (fun e => hCV e.symm), (fun e => by simp [h7] at e), fun _ => (h.u0 h5).trans hu (fun _ _ f => f), h.u1.trans hu (fun _ _ f => .inl f)⟩
theorem TxPh.built (h : TxPh w0 C Vb v a a' bad' vb At n ct R5 L w) (h3 : L 3 = true) (h5 : L 5 = false) (h7 : L 7 = false) (hu : Upd NoF w w') : TxPh w0 C Vb v a a' bad' vb At n ct R5 (fun j => j == 4 || L j) w' :=
  ⟨(fun e => by simp [h3] at e), fun _ => hu.blk (h.c1 h3) (fun f => f), fun _ => hu.blk (h.v0 h7) (fun f => f), (fun e => by simp [h7] at e), fun _ => (h.u0 h5).trans hu (fun _ _ f => f.elim), h.u1.trans hu (fun _ _ f => f.elim)⟩
theorem TxPh.app (h : TxPh w0 C Vb v a a' bad' vb At n ct R5 L w) (h3 : L 3 = true) (h7 : L 7 = false) (nC : ¬ OwnB (.slice At n ct) C) (nV : ¬ OwnB (.slice At n ct) Vb) (hu : Upd (OwnB (.slice At n ct)) w w') : TxPh w0 C Vb v a a' bad' vb At n ct R5 (fun j => j == 5 || L j) w' :=
  ⟨(fun e => by simp [h3] at e), fun _ => hu.blk (h.c1 h3) nC, fun _ => hu.blk (h.v0 h7) nV, (fun e => by simp [h7] at e), (fun e => by simp at e), h.u1.trans hu (fun _ _ f => .inr (.inr f))⟩
theorem TxPh.store (h : TxPh w0 C Vb v a a' bad' vb At n ct R5 L w) (h3 : L 3 = true) (h5 : L 5 = true) (h7 : L 7 = false) (hCV : C ≠ Vb) {x : Value} (hx : R5 x (w.setCell ⟨Vb, 1, none⟩ x)) : TxPh w0 C Vb v a a' bad' vb At n ct R5 (fun j => j == 7 || L j) (w.setCell ⟨Vb, 1, none⟩ x) := by
  have hu : Upd (fun k => k = Vb) w (w.setCell ⟨Vb, 1, none⟩ x) := (Upd.refl (fun k => k = Vb) w).setCell (p := ⟨Vb, 1, none⟩) (.inl rfl) _
  exact ⟨(fun e => by simp [h3] at e), fun _ => hu.blk (h.c1 h3) hCV, (fun e => by simp at e), fun _ => ⟨x, (h.v0 h7).put 1 x, hx⟩, (fun e => by simp [h5] at e), h.u1.trans hu (fun _ _ f => .inr (.inl f))⟩
variable {S0 : Nat} {us : List Value} {x : List UInt8}
theorem stbL_3 {i : Nat} (hF : ∀ k, TxF C Vb At n ct k → k < S0) : StbL (TxSt C Vb At n ct) i (TxR3 S0 x) := fun _ _ _ _ _ ⟨A, c, e, h⟩ hs => ⟨A, c, e, h.upd (hs.1.mono (fun k _ f => hF k f))⟩
theorem stbL_4 {i : Nat} (hF : ∀ k, TxF C Vb At n ct k → k < S0) : StbL (TxSt C Vb At n ct) i (TxR4 S0 x) := fun _ _ _ _ _ ⟨g, u, e, h1, h2, h3, h4⟩ hs => ⟨g, u, e, hs.1.blk h1 (fun f => by have := hF g f; omega), h2, h3, h4.upd (hs.1.mono (fun k _ f => hF k f))⟩
theorem TxR5.to (h : TxR5 S0 At n ct us x v w) (hF : ∀ k, TxF C Vb At n ct k → k < S0) (nV : ¬ OwnB (.slice At n ct) Vb) (hu : Upd (fun k => k = Vb) w w') : TxR5 S0 At n ct us x v w' := by
  obtain ⟨A', c', u, e, h1, h2, h3, h4⟩ := h
  have hV : Vb < S0 := hF Vb (.inr (.inl rfl))
  refine ⟨A', c', u, e, h1, h2.upd hu (fun k hk f => ?_), h3.upd (hu.mono (fun k _ f => by rw [show k = Vb from f]; exact .inl hV)), h4⟩
  rw [show k = Vb from f] at hk
  rcases h4 Vb hk with g | g
  · exact nV g
  · omega
theorem stbL_5 (hF : ∀ k, TxF C Vb At n ct k → k < S0) (nV : ¬ OwnB (.slice At n ct) Vb) : StbL (TxSt C Vb At n ct) 5 (TxR5 S0 At n ct us x) := fun _ _ _ _ hl h hs => h.to hF nV (hs.2 hl)
end
section
variable {w wr wz : World} {C Vb a a' : Nat} {v : Value} {bad' : Bool} {M : Nat → Prop} {Av At : Option Addr} {cv ct : Nat} {vs : List SignedS} {ts : List (List UInt8)} {us : List Value} {x : List UInt8} {L : Nat → Bool}
theorem D2_next (hD : DcSt w wr C Vb v a false (.slice Av vs.length cv) (.slice At ts.length ct) M) (hS : SgM wr M Av cv vs) (hO : OwnM w M (.slice Av vs.length cv)) (hO' : OwnM w M (.slice At ts.length ct))
    (e0 : ∀ u ∈ us, u.oneCell' = true) (e1 : us.length = ts.length) (e2 : Own wr 36 1 (.slice At ts.length ct) ts.length us) (e3 : ∀ (i : Nat) s, ts[i]? = some s → ∃ u, us[i]? = some u ∧ RdF M wr 1 u s.length (s.map byteV))
    (h : TxPh wr.drew C Vb v a a' bad' (.slice Av vs.length cv) At ts.length ct (TxR5 wr.heap.size At ts.length ct us x) L wz) (hL : ∀ i, i < 8 → L i = true) :
    ∃ A' c' M', DcSt w wz C Vb v a' bad' (.slice Av vs.length cv) (.slice A' (ts ++ [x]).length c') M' ∧ SgM wz M' Av cv vs ∧ OwnM w M' (.slice Av vs.length cv) ∧ TxM wz M' A' c' (ts ++ [x]) ∧ OwnM w M' (.slice A' (ts ++ [x]).length c') := by
  obtain ⟨y, hvw, A', c', u, rfl, hu1, ho, hx, hn⟩ := h.v1 (hL 7 (by omega))
  have hcur := h.c1 (hL 3 (by omega))
  have hup : Upd (TxF C Vb At ts.length ct) wr wz := ((Upd.refl (TxF C Vb At ts.length ct) wr).drew).trans h.u1 (fun _ _ f => f)
  have el : (ts ++ [x]).length = ts.length + 1 := by simp
  have nR : ¬ OwnB (.slice At ts.length ct) w.heap.size := e2.blk_ne hD.res (by decide)
  have hsz := hup.size
  have hsw := hD.upd.size
  have hFM : ∀ k, TxF C Vb At ts.length ct k → M k := fun k f => by
    rcases f with f | f | f
    · rw [f]; exact hD.mC
    · rw [f]; exact hD.mV
    · exact (hO' k f).1
  have hA' : ∀ k, OwnB (.slice A' (ts.length + 1) c') k → w.heap.size ≤ k := fun k hk => by
    rcases hn k hk with f | f
    · exact (hO' k f).2
    · omega
  have hG : ∀ k, k < wr.heap.size → M k ∨ OwnB (.slice A' (ts.length + 1) c') k → M k := fun k hk f => by
    rcases f with f | f
    · exact f
    · rcases hn k f with g | g
      · exact (hO' k g).1
      · omega
  have hupM : Upd M wr wz := hup.mono (fun k _ f => hFM k f)
  refine ⟨A', c', fun k => M k ∨ OwnB (.slice A' (ts.length + 1) c') k, ?_, ?_, fun k hk => ⟨.inl (hO k hk).1, (hO k hk).2⟩, ?_, ?_⟩
  · rw [el]
    refine ⟨hcur, hvw, hup.blk hD.res (fun f => ?_), hD.upd.trans hup (fun k hk f => ?_), .inl hD.mC, .inl hD.mV, .inl hD.mR, fun k hk => ?_, hD.hC, hD.hV, hD.hCV, fun k hk => .inl (hD.mL k hk)⟩
    · have h1 := hD.hC
      have h2 := hD.hV
      rcases f with f | f | f
      · omega
      · omega
      · exact nR f
    · have h1 := hD.hC
      have h2 := hD.hV
      rcases f with f | f | f
      · omega
      · omega
      · have := (hO' k f).2; omega
    · rcases hk with hk | hk
      · have := hD.lt k hk; omega
      · exact ho.lt hk
  · obtain ⟨hf, vu, f1, f2, f3⟩ := hS
    refine ⟨hf, vu, f1, f2.upd hup (fun k hk f => ?_), fun i s hs => ?_⟩
    · rcases f with f | f | f
      · rw [f] at hk; exact f2.blk_ne hD.cur (by decide) hk
      · rw [f] at hk; exact f2.blk_ne hD.view (by decide) hk
      · exact e2.own_ne f2 (by decide) hk f
    · obtain ⟨y, h1, h2⟩ := f3 i s hs
      exact ⟨y, h1, h2.upd' hupM hG⟩
  · refine ⟨us ++ [u], by simp [e1], by rw [el]; exact ho, ?_, fun i s hs => ?_⟩
    · intro y hy
      rcases List.mem_append.1 hy with hy | hy
      · exact e0 y hy
      · simp at hy; rw [hy]; exact hu1
    · rcases Nat.lt_or_ge i ts.length with hlt | hge
      · rw [List.getElem?_append_left hlt] at hs
        obtain ⟨y, h1, h2⟩ := e3 i s hs
        exact ⟨y, by rw [List.getElem?_append_left (by omega)]; exact h1, h2.upd' hupM hG⟩
      · rw [List.getElem?_append_right hge] at hs
        have h0 : i - ts.length = 0 := by have := (List.getElem?_eq_some_iff.1 hs).1; simp at this; omega
        rw [h0] at hs
        simp at hs
        subst hs
        refine ⟨u, by rw [List.getElem?_append_right (by omega)]; simp [show i - us.length = 0 by omega], hx.mono (fun k _ f => ?_)⟩
        rcases f with f | f
        · exact .inl (hD.lt k f)
        · exact .inr f
  · intro k hk
    rw [el] at hk
    exact ⟨.inr hk, hA' k hk⟩
end
end
end Go.Proofs.Ytbgificdilpdcaa
