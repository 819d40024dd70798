/- Union of the reference. Conditions: sizes. -/
import Derived.Test.YtbgificdilpdcaaJn20
import Derived.Test.YtbgificdilpdcaaUniV
import Derived.Test.YtbgificdilpdcaaJn15
import Derived.Deep.DeepCutAuto
import Derived.Test.YtbgificdilpdcaaCloV
namespace Go.Proofs.Ytbgificdilpdcaa
open Go.RowKit

theorem SgM.two {w wx : World} {p q : List SignedS} {us vs : List Value} {A : Option Addr} {c : Nat} (hp : ∀ s ∈ p, s.vote.Fit) (hq : ∀ s ∈ q, s.vote.Fit) (h1 : us.length = p.length) (h2 : vs.length = q.length) (h3 : ∀ (i : Nat) s, p[i]? = some s → ∃ u, us[i]? = some u ∧ Rd w 1 u s.sig.length (s.sig.map byteV)) (h4 : ∀ (i : Nat) s, q[i]? = some s → ∃ u, vs[i]? = some u ∧ Rd w 1 u s.sig.length (s.sig.map byteV))
    (ho : Own wx 38 23 (.slice A (p.length + q.length) c) (p.length + q.length) ((List.zipWith rowS p us).flatten ++ (List.zipWith rowS q vs).flatten)) {F : Nat → Prop} (hu : Upd NoF w wx) (hg : ∀ k, F k → w.heap.size ≤ k) : SgM wx F A c (p ++ q) := by
  have hr : ∀ (v : Value) (n : Nat) (xs : List Value), Rd w 1 v n xs → RdF F wx 1 v n xs := fun v n xs h w' hw' => h.ab w' ((hu.mono (G := Ab w) (fun _ _ f => f.elim)).trans hw' (fun k _ f => hg k f))
  refine ⟨fun s hs => (List.mem_append.1 hs).elim (hp s) (hq s), us ++ vs, by simp [h1, h2], ?_, fun i s hs => ?_⟩
  · rw [List.zipWith_append (by rw [h1]), List.flatten_append, List.length_append]
    exact ho
  rcases Nat.lt_or_ge i p.length with h | h
  · rw [List.getElem?_append_left h] at hs
    obtain ⟨u, e1, e2⟩ := h3 i s hs
    exact ⟨u, by rw [List.getElem?_append_left (by omega)]; exact e1, hr _ _ _ e2⟩
  · rw [List.getElem?_append_right h] at hs
    obtain ⟨u, e1, e2⟩ := h4 _ s hs
    exact ⟨u, by rw [List.getElem?_append_right (by omega), h1]; exact e1, hr _ _ _ e2⟩
theorem ld_row {w : World} {g o : Nat} {cs : List Value} (hc : w.rangeAt g o cs) (hl : cs.length = 23) (p : UpdBy w) : Sem.run Try.prog (loadCellsFrom ⟨g, o, none⟩ 0 23 #[]) p.w' = .ok cs.toArray p.w' :=
  run_loadCellsFrom_list Try.prog p.w' ⟨g, o, none⟩ cs 23 hl (fun j v hj => by
    have hadd : (⟨g, o, none⟩ : Addr).add j = ⟨g, o + j, none⟩ := by unfold Addr.add; split <;> simp_all
    rw [hadd]
    exact p.h.cell (hc j v hj) (fun f => f))
/-- Where the reference's Union stands: the variables, the votes of both, what u holds. -/
structure UnL (w : World) (a b a' b' : Value) (AL : Option Addr) (cL : Nat) (all : List SignedS) (A3 : Option Addr) (c3 : Nat) (L : List SignedS) (wr : World) : Prop where
  b2 : Blk wr w.heap.size 25 #[a, b]
  b3 : Blk wr (w.heap.size + 1) 25 #[a', b']
  b4 : Blk wr (w.heap.size + 2) 25 nil2
  b5 : Blk wr (w.heap.size + 3) 25 #[.slice A3 L.length c3, .slice none 0 0]
  up : Upd NoF w wr
  al : SgM wr (fun k => k = w.heap.size + 2 ∨ k = w.heap.size + 3) AL cL all
  ac : SgM wr (fun k => k = w.heap.size + 2 ∨ k = w.heap.size + 3) A3 c3 L
section
variable {w wr w' : World} {a b a' b' : Value} {AL A3 A' : Option Addr} {cL c3 c' : Nat} {all L L' : List SignedS}
theorem UnL.same (h : UnL w a b a' b' AL cL all A3 c3 L wr) (hu : Upd NoF wr w') : UnL w a b a' b' AL cL all A3 c3 L w' :=
  ⟨hu.blk h.b2 (fun f => f), hu.blk h.b3 (fun f => f), hu.blk h.b4 (fun f => f), hu.blk h.b5 (fun f => f), h.up.trans hu (fun _ _ f => f), h.al.upd hu (fun _ _ f => f) (fun _ _ f => f.elim), h.ac.upd hu (fun _ _ f => f) (fun _ _ f => f.elim)⟩
theorem UnL.c5 (h : UnL w a b a' b' AL cL all A3 c3 L wr) {B5 m3 : Nat} (hB : w.heap.size + 3 = B5) (hm : L.length = m3) (p : UpdBy wr) : p.w'.cell? ⟨B5, 0, none⟩ = some (.slice A3 m3 c3) := by
  rw [← hB, ← hm]
  exact (p.h.blk h.b5 (fun f => f)).cell 0
theorem SgM.not_view {F : Nat → Prop} {l : List SignedS} {A : Option Addr} {c g : Nat} {cs : Array Value} (h : SgM wr F A c l) (hb : Blk wr g 25 cs) : ¬ OwnB (.slice A l.length c) g := by
  obtain ⟨_, us, _, e2, _⟩ := h
  exact e2.blk_ne hb (by decide)
/-- u gets another list. -/
theorem UnL.put (h : UnL w a b a' b' AL cL all A3 c3 L wr) (hn : SgM wr (fun k => k = w.heap.size + 2 ∨ k = w.heap.size + 3) A' c' L') : UnL w a b a' b' AL cL all A' c' L' (wr.setCell ⟨w.heap.size + 3, 0, none⟩ (.slice A' L'.length c')) := by
  have hu : Upd (fun k => k = w.heap.size + 3) wr (wr.setCell ⟨w.heap.size + 3, 0, none⟩ (.slice A' L'.length c')) := (Upd.refl (fun k => k = w.heap.size + 3) wr).setCell (p := ⟨w.heap.size + 3, 0, none⟩) (.inl rfl) _
  refine ⟨hu.blk h.b2 (fun f => by omega), hu.blk h.b3 (fun f => by omega), hu.blk h.b4 (fun f => by omega), h.b5.put 0 _, h.up.trans hu (fun k hk f => by omega), h.al.upd hu (fun k hk f => ?_) (fun _ _ f => .inr f), hn.upd hu (fun k hk f => ?_) (fun _ _ f => .inr f)⟩
  · rw [f] at hk; exact h.al.not_view h.b5 hk
  · rw [f] at hk; exact hn.not_view h.b5 hk
end
/-- A list of signed votes that is being collected, with one more at k. -/
theorem SgM.ins {F : Nat → Prop} {w w' : World} {l : List SignedS} {us : List Value} {x : SignedS} {u : Value} {A : Option Addr} {c k n : Nat} (hf : ∀ s ∈ l, s.vote.Fit) (hxf : x.vote.Fit) (h1 : us.length = l.length) (hl : ∀ (i : Nat) s, l[i]? = some s → ∃ u, us[i]? = some u ∧ RdF F w 1 u s.sig.length (s.sig.map byteV)) (hk : k ≤ l.length) (hx : RdF F w' 1 u x.sig.length (x.sig.map byteV)) (hu : Upd F w w') (hn : n = (l.take k ++ [x] ++ l.drop k).length) (ho : Own w' 38 23 (.slice A n c) n ((List.zipWith rowS l us).flatten.take (k * 23) ++ rowS x u ++ (List.zipWith rowS l us).flatten.drop (k * 23))) : SgM w' F A c (l.take k ++ [x] ++ l.drop k) := by
  subst hn
  have a1 : (l.take k).length = k := by simp [hk]
  have a2 : (us.take k).length = k := by simp [h1, hk]
  refine ⟨fun s hs => ?_, us.take k ++ [u] ++ us.drop k, by simp [h1], ?_, fun i b hb => ?_⟩
  · simp only [List.mem_append, List.mem_singleton] at hs
    rcases hs with (hs | rfl) | hs
    · exact hf s (List.mem_of_mem_take hs)
    · exact hxf
    · exact hf s (List.mem_of_mem_drop hs)
  · rw [flat_take _ _ (zip_rows hf), flat_drop _ _ (zip_rows hf), List.take_zipWith, List.drop_zipWith] at ho
    rw [List.zipWith_append (by simp [h1]), List.zipWith_append (by simp [h1]), List.flatten_append, List.flatten_append]
    simpa using ho
  rcases Nat.lt_trichotomy i k with h | h | h
  · rw [List.append_assoc, List.getElem?_append_left (by omega), List.getElem?_take, if_pos h] at hb
    obtain ⟨y, e1, e2⟩ := hl i b hb
    exact ⟨y, by rw [List.append_assoc, List.getElem?_append_left (by omega), List.getElem?_take, if_pos h]; exact e1, e2.upd hu⟩
  · subst h
    rw [List.append_assoc, List.getElem?_append_right (by omega), a1, Nat.sub_self] at hb
    have hb' : x = b := by simpa using hb
    subst hb'
    exact ⟨u, by rw [List.append_assoc, List.getElem?_append_right (by omega), a2, Nat.sub_self]; rfl, hx⟩
  · rw [List.getElem?_append_right (by simp [a1]; omega), List.getElem?_drop] at hb
    obtain ⟨y, e1, e2⟩ := hl _ b hb
    refine ⟨y, ?_, e2.upd hu⟩
    rw [List.getElem?_append_right (by simp [a2]; omega), List.getElem?_drop, ← e1]
    congr 1
    simp [a1, a2]
theorem run_append_fresh {P : Program} (w : World) (t ty e : TypeId) (i : TypeInfo) (z : Value) (size bytes : Nat) (ht : P.underlying t = some (.slice e)) (hi : P.info? e = some i) (hz : i.zero = some z)
    (hsize : i.size = size) (hby : i.bytes = bytes) (hzs : z.cells.size = size) (g : Nat) (hb : Blk w g e #[]) (s : Value) (m : Nat) (ys : List Value) (hs : Rd w size s m ys) (h63 : m ≤ maxLen) (hbytes : m * bytes ≤ 140737488355328) :
    ∃ v' w', (Builtin.append_ #[t, t] ty #[.slice (some ⟨g, 0, none⟩) 0 0, s]).run P w = .ok v' w' ∧ Own w' e size v' m ys ∧ Upd NoF w w' ∧ (∀ k, OwnB v' k → k = g ∨ w.heap.size ≤ k) := by
  subst hsize
  subst hby
  obtain ⟨A, c, rfl, hmc, hc, hyl, hA⟩ := hs
  have hsmall : m ≤ 9223372036854775807 := by simp only [maxLen] at h63; omega
  rcases Nat.eq_zero_or_pos m with hm | hm
  · subst hm
    have hy : ys = [] := List.eq_nil_of_length_eq_zero (by simpa using hyl)
    subst hy
    refine ⟨.slice (some ⟨g, 0, none⟩) 0 0, w, ?_, ⟨by simp, .inr ⟨g, 0, #[], rfl, hb, Nat.le_refl _, Nat.zero_le _, by simp, by simp⟩⟩, Upd.refl _ _, fun k hk => .inl ?_⟩
    · cases A <;> simp [Builtin.append_, run_underlying ht, sizeOf, typeInfo, hi, Builtin.lenOf, Builtin.firstCells, storeCells, loadCells, loadCellsFrom]
    · simp [OwnB, Value.ownBlock] at hk
      omega
  · obtain ⟨g0, o0, rfl, hcell⟩ := hA hm
    have hcells : ∀ j u, ys[j]? = some u → w.cell? ((⟨g0, o0, none⟩ : Addr).add j) = some u := by
      intro j u hu
      have : (⟨g0, o0, none⟩ : Addr).add j = ⟨g0, o0 + j, none⟩ := by unfold Addr.add; split <;> simp_all
      rw [this]; exact hcell j u hu
    have hr := run_append_grow (P := P) w t ty e i z ht hi hz ⟨g, 0, none⟩ 0 0 [] (by simp) (by simp) ⟨g0, o0, none⟩ m c ys hyl hcells (by omega) (by omega) (growslice_fits (by omega) (by simpa using hbytes))
    have hge := grownCap_ge w (0 + m) 0 e
    have hcm : grownCap w (0 + m) 0 e ≤ maxLen := grownCap_le_maxLen w (0 + m) 0 e (by omega)
    refine ⟨.slice (some ⟨w.heap.size, 0, none⟩) (0 + m) (grownCap w (0 + m) 0 e), _, hr, ⟨hyl, .inr ⟨w.heap.size, grownCap w (0 + m) 0 e, _, by rw [Nat.zero_add], Blk.new w.drew _ _, by omega, hcm, ?_, ?_⟩⟩, (((Upd.refl _ w).drew).alloc _), fun k hk => ?_⟩
    · simp only [Array.size_append, List.size_toArray, size_zeroCells, hzs, hyl, List.length_nil, Nat.zero_add, ← Nat.add_mul]
      rw [Nat.zero_add] at hge
      exact Nat.le_of_eq (by congr 1; omega)
    · simp only [Array.toList_append, List.nil_append]
      rw [← hyl]
      exact List.take_left
    · simp [OwnB, Value.ownBlock] at hk
      exact .inr (by omega)
theorem od_append_fresh {P : Program} {o : Oper} {ρ : Operand → Value} {w : World} {post : Value → World → Prop} (s x : Operand) (t : TypeId) (ho : o.op = .call { callee := .builtin .append, args := #[s, x], argTypes := #[t, t] })
    (e : TypeId) (i : TypeInfo) (z : Value) (size bytes : Nat) (ht : P.underlying t = some (.slice e)) (hi : P.info? e = some i) (hz : i.zero = some z) (hsize : i.size = size) (hby : i.bytes = bytes) (hzs : z.cells.size = size)
    (g : Nat) (hs : ρ s = .slice (some ⟨g, 0, none⟩) 0 0) (hb : Blk w g e #[]) (u : Value) (m : Nat) (ys : List Value) (hx : ρ x = u) (hr : Rd w size u m ys) (h63 : m ≤ maxLen) (hbytes : m * bytes ≤ 140737488355328)
    (hp : ∀ A c w', Own w' e size (.slice A m c) m ys → Upd NoF w w' → (∀ k, OwnB (.slice A m c) k → k = g ∨ w.heap.size ≤ k) → post (.slice A m c) w') : OpDone P o ρ w post := by
  obtain ⟨v', w', hrun, h2, h3, h4⟩ := run_append_fresh (P := P) w t o.type e i z size bytes ht hi hz hsize hby hzs g hb u m ys hr h63 hbytes
  unfold OpDone execOp
  simp only [ho, resolve, invoke, builtin, Sem.run_bind, Sem.run_pure, Result.andThen_ok, List.map_toArray, List.map_cons, List.map_nil, hs, hx, hrun]
  obtain ⟨A, c, rfl⟩ := h2.form
  exact hp A c w' h2 h3 h4
/-! ### the region that copies a vote -/
def InNew (S0 : Nat) (x : SignedS) (A : Option Addr) (c : Nat) (w : World) : Prop := OwnU w (.slice A x.sig.length c) x.sig ∧ ∀ j, OwnB (.slice A x.sig.length c) j → S0 ≤ j
def InR6 (S0 : Nat) (v : Value) (w : World) : Prop := ∃ g, v = .slice (some ⟨g, 0, none⟩) 0 0 ∧ Blk w g 5 #[] ∧ S0 ≤ g
def InR12 (S0 : Nat) (x : SignedS) (v : Value) (w : World) : Prop := ∃ A c, v = .slice A x.sig.length c ∧ InNew S0 x A c w
def InR13 (S0 : Nat) (x : SignedS) (v : Value) (w : World) : Prop := ∃ A c, v = .agg (rowS x (.slice A x.sig.length c)).toArray ∧ InNew S0 x A c w
def InR14 (S0 : Nat) (x : SignedS) (v : Value) (w : World) : Prop := ∃ g A c, v = .slice (some ⟨g, 0, none⟩) 1 1 ∧ Blk w g 38 (rowS x (.slice A x.sig.length c)).toArray ∧ S0 ≤ g ∧ InNew S0 x A c w
def InR15 (S0 : Nat) (A6 : Option Addr) (k c6 : Nat) (rows : List Value) (x : SignedS) (v : Value) (w : World) : Prop := ∃ A' c' A c, v = .slice A' (k + 1) c' ∧ Own w 38 23 (.slice A' (k + 1) c') (k + 1) (rows ++ rowS x (.slice A x.sig.length c)) ∧ InNew S0 x A c w ∧ ∀ j, OwnB (.slice A' (k + 1) c') j → OwnB (.slice A6 k c6) j ∨ S0 ≤ j
abbrev InSt (S0 : Nat) (L : Nat → Bool) (w w' : World) : Prop := Upd (fun k => k < S0 ∧ TyF [38] w k) w w' ∧ (L 15 = true → Upd NoF w w') ∧ (L 16 = true → Upd NoF w w')
structure InPh (w0 : World) (A6 : Option Addr) (k c6 : Nat) (L : Nat → Bool) (w : World) : Prop where
  u0 : L 15 = false → Upd NoF w0 w
  u1 : Upd (OwnB (.slice A6 k c6)) w0 w
section
variable {S0 k c6 : Nat} {A6 : Option Addr} {rows : List Value} {x : SignedS} {w0 w w' : World} {v : Value} {L : Nat → Bool}
theorem InSt.none (h : Upd NoF w w') : InSt S0 L w w' := ⟨h.mono (fun _ _ f => f.elim), fun _ => h, fun _ => h⟩
theorem InSt.ty (h : InSt S0 L w w') : UpdT [38] w w' := h.1.mono (fun _ _ f => f.2)
theorem InNew.to {A : Option Addr} {c : Nat} (h : InNew S0 x A c w) (hu : UpdT [38] w w') : InNew S0 x A c w' := ⟨h.1.updT hu (by decide), h.2⟩
theorem stbL_i6 {i : Nat} : StbL (InSt S0) i (InR6 S0) := fun _ _ _ _ _ ⟨g, e, h1, h2⟩ hs => ⟨g, e, hs.1.blk h1 (fun f => by have := f.1; omega), h2⟩
theorem stbL_i12 {i : Nat} : StbL (InSt S0) i (InR12 S0 x) := fun _ _ _ _ _ ⟨A, c, e, h1⟩ hs => ⟨A, c, e, h1.to (InSt.ty hs)⟩
theorem stbL_i13 {i : Nat} : StbL (InSt S0) i (InR13 S0 x) := fun _ _ _ _ _ ⟨A, c, e, h1⟩ hs => ⟨A, c, e, h1.to (InSt.ty hs)⟩
theorem stbL_i14 {i : Nat} : StbL (InSt S0) i (InR14 S0 x) := fun _ _ _ _ _ ⟨g, A, c, e, h1, h2, h3⟩ hs => ⟨g, A, c, e, hs.1.blk h1 (fun f => by have := f.1; omega), h2, h3.to (InSt.ty hs)⟩
theorem InR15.to (h : InR15 S0 A6 k c6 rows x v w) (hu : Upd NoF w w') : InR15 S0 A6 k c6 rows x v w' := by
  obtain ⟨A', c', A, c, e, h1, h2, h3⟩ := h
  exact ⟨A', c', A, c, e, h1.upd hu (fun _ _ f => f), h2.to (UpdT.none hu), h3⟩
theorem stbL_i15 : StbL (InSt S0) 15 (InR15 S0 A6 k c6 rows x) := fun _ _ _ _ hl h hs => h.to (hs.2.1 hl)
theorem stbL_i16 : StbL (InSt S0) 16 (InR15 S0 A6 k c6 rows x) := fun _ _ _ _ hl h hs => h.to (hs.2.2 hl)
theorem InPh.start (w : World) : InPh w A6 k c6 (fun _ => false) w := ⟨fun _ => Upd.refl _ _, Upd.refl _ _⟩
theorem InPh.more (h : InPh w0 A6 k c6 L w) {i : Nat} (hi : (15 == i) = false) (hu : Upd NoF w w') : InPh w0 A6 k c6 (fun j => j == i || L j) w' :=
  ⟨fun e => (h.u0 (by simpa [hi] using e)).trans hu (fun _ _ f => f), h.u1.trans hu (fun _ _ f => f.elim)⟩
theorem InPh.app (h : InPh w0 A6 k c6 L w) (hu : Upd (OwnB (.slice A6 k c6)) w w') : InPh w0 A6 k c6 (fun j => j == 15 || L j) w' :=
  ⟨fun e => by simp at e, h.u1.trans hu (fun _ _ f => f)⟩
end
/-- What is laid between the two appends of an insertion: the new slice, the signature's copy. -/
structure InsM (w4 : World) (k : Nat) (rows : List Value) (x : SignedS) (A8 : Option Addr) (c8 : Nat) (Ax : Option Addr) (cx : Nat) (wx : World) : Prop where
  nw : NewR w4 38 23 (k + 1) (rows ++ rowS x (.slice Ax x.sig.length cx)) (.slice A8 (k + 1) c8) wx
  sg : Own wx 5 1 (.slice Ax x.sig.length cx) x.sig.length (x.sig.map byteV)
  sn : ∀ j, OwnB (.slice Ax x.sig.length cx) j → w4.heap.size ≤ j

attribute [local irreducible] Go.wpQuiet
set_option maxHeartbeats 8000000 in
set_option maxRecDepth 100000 in
theorem refUnion_any {w : World} {a b a' b' : Value} {p q : List SignedS} {l m : List (List UInt8)} (ha : SgR w a p) (hb : TxR w b l) (ha' : SgR w a' q) (hb' : TxR w b' m) (hs1 : l.length ≤ 1000000) (hs2 : m.length ≤ 1000000) (hs3 : p.length ≤ 1000000) (hs4 : q.length ≤ 1000000) (hs5 : ∀ s ∈ p ++ q, s.sig.length ≤ 140737488355328) (hl : ∀ t ∈ l ++ m, t.length ≤ 140737488355328) :
    Calls Try.prog 8 #[.agg #[a, b], .agg #[a', b']] w (UniPost w ⟨refL lessS (p ++ q), refL lessT (l ++ m)⟩) := by
  obtain ⟨A, ca, rfl, -, hca⟩ := ha.form
  obtain ⟨B, cb, rfl, -, hcb⟩ := ha'.form
  obtain ⟨C, cc, rfl, hcc, hccm⟩ := hb.form
  obtain ⟨D, cd, rfl, hcd, hcdm⟩ := hb'.form
  obtain ⟨i0, hi0, hz0, hz1, hz2⟩ := info_parts signed_info
  have s1 : (w.alloc (.cells #[.slice A p.length ca, .slice C l.length cc] 25)).heap.size = w.heap.size + 1 := by simp
  have s2 : ((w.alloc (.cells #[.slice A p.length ca, .slice C l.length cc] 25)).alloc (.cells #[.slice B q.length cb, .slice D m.length cd] 25)).heap.size = w.heap.size + 2 := by simp
  have s3 : (((w.alloc (.cells #[.slice A p.length ca, .slice C l.length cc] 25)).alloc (.cells #[.slice B q.length cb, .slice D m.length cd] 25)).alloc (.cells nil2 25)).heap.size = w.heap.size + 3 := by simp
  have b1 := (((Blk.new w 25 #[.slice A p.length ca, .slice C l.length cc]).alloc (.cells #[.slice B q.length cb, .slice D m.length cd] 25)).alloc (.cells nil2 25)).alloc (.cells nil2 25)
  have b2 := ((Blk.new (w.alloc (.cells #[.slice A p.length ca, .slice C l.length cc] 25)) 25 #[.slice B q.length cb, .slice D m.length cd]).alloc (.cells nil2 25)).alloc (.cells nil2 25)
  have b3 := (Blk.new ((w.alloc (.cells #[.slice A p.length ca, .slice C l.length cc] 25)).alloc (.cells #[.slice B q.length cb, .slice D m.length cd] 25)) 25 nil2).alloc (.cells nil2 25)
  have b4 := Blk.new (((w.alloc (.cells #[.slice A p.length ca, .slice C l.length cc] 25)).alloc (.cells #[.slice B q.length cb, .slice D m.length cd] 25)).alloc (.cells nil2 25)) 25 nil2
  rw [s1] at b2
  rw [s2] at b3
  rw [s3] at b4
  have B1 := Lib.hid b1
  have B2 := Lib.hid b2
  have B3 := Lib.hid b3
  have B4 := Lib.hid b4
  have UW := Lib.hid (((((Upd.refl NoF w).alloc (.cells #[.slice A p.length ca, .slice C l.length cc] 25)).alloc (.cells #[.slice B q.length cb, .slice D m.length cd] 25)).alloc (.cells nil2 25)).alloc (.cells nil2 25))
  obtain ⟨W4, hW4⟩ : ∃ x, x = (((w.alloc (.cells #[.slice A p.length ca, .slice C l.length cc] 25)).alloc (.cells #[.slice B q.length cb, .slice D m.length cd] 25)).alloc (.cells nil2 25)).alloc (.cells nil2 25) := ⟨_, rfl⟩
  rw [← hW4] at B1 B2 B3 B4 UW
  clear s1 s2 s3 b1 b2 b3 b4
  have HA := Lib.hid ha
  have HB := Lib.hid hb
  have HA' := Lib.hid ha'
  have HB' := Lib.hid hb'
  have HS5 := Lib.hid hs5
  have HLL := Lib.hid hl
  clear ha hb ha' hb' hs5 hl
  go_enter Try.func8, Try.ntmps8
  go_wp2_with fail
  have hW4' : (((w.alloc (.cells #[.slice A p.length ca, .slice C l.length cc] 25)).alloc (.cells #[.slice B q.length cb, .slice D m.length cd] 25)).alloc (.cells #[.slice none 0 0, .slice none 0 0] 25)).alloc (.cells #[.slice none 0 0, .slice none 0 0] 25) = W4 := hW4.symm
  first | rw [← hW4] | rw [hW4']
  clear hW4 hW4'
  obtain ⟨us, hu1, hu2, hu3⟩ := HA.out.2
  obtain ⟨vs, hv1, hv2, hv3⟩ := HA'.out.2
  have x0 : ∀ wq, Upd NoF W4 wq → wq.cell? ⟨w.heap.size, 0, none⟩ = some (.slice A p.length ca) := fun wq hq => (hq.blk B1.out (fun f => f)).cell 0
  have x1 : ∀ wq, Upd NoF W4 wq → wq.cell? ⟨w.heap.size + 1, 0, none⟩ = some (.slice B q.length cb) := fun wq hq => (hq.blk B2.out (fun f => f)).cell 0
  have X0 := Lib.hid x0
  have X1 := Lib.hid x1
  have y0 := x0 W4.drew ((Upd.refl NoF W4).drew)
  have y1 := x1 W4.drew ((Upd.refl NoF W4).drew)
  have z0 := x0 (W4.alloc (.cells #[] 38)).drew (((Upd.refl NoF W4).alloc _).drew)
  have z1 := x1 (W4.alloc (.cells #[] 38)).drew (((Upd.refl NoF W4).alloc _).drew)
  have HU1 := Lib.hid hu1
  have HV1 := Lib.hid hv1
  have HU2 := Lib.hid hu2
  have HV2 := Lib.hid hv2
  have HU3 := Lib.hid hu3
  have HV3 := Lib.hid hv3
  have O1 := Lib.hid (sg_one hu1 hu3)
  have O2 := Lib.hid (sg_one hv1 hv3)
  have N0 := Lib.hid ((NewR.fresh W4 38 23).keep ((Upd.refl NoF _).drew))
  have UD := Lib.hid (show Upd NoF w ((W4.alloc (.cells #[] 38)).drew) from (UW.out.alloc _).drew)
  have L1 := Lib.hid (show p.length ≤ maxLen ∧ p.length * 88 ≤ 140737488355328 from by unfold maxLen; omega)
  have L2 := Lib.hid (show p.length + q.length ≤ maxLen ∧ (p.length + q.length) * 88 ≤ 140737488355328 from by unfold maxLen; omega)
  clear hu1 hv1 hu2 hv2 hu3 hv3 x0 x1
  go_cut [6] (fun s6 wx => ∃ (A6 : Option Addr) (c6 : Nat), s6 = .slice A6 (p.length + q.length) c6 ∧ Hid (UnL w (.slice A p.length ca) (.slice C l.length cc) (.slice B q.length cb) (.slice D m.length cd) A6 c6 (p ++ q) none 0 [] wx))
  case first =>
    go_region_law
      (first
        | (refine step_append_new _ (by rfl) (.tmp 10) (.tmp 12) _ (by rfl) 38 i0 _ 23 88 Try.underlying22 hi0 hz0 hz1 hz2 zeroRow_size (.slice (some ⟨W4.heap.size, 0, none⟩) 0 0) (by rfl) (by exact N0.out.1) (.slice A p.length ca) p.length _ (by rfl) (by exact HU2.out.keep UD.out) O1.out L1.out.1 L1.out.2 ?_; intro A5 c5 w5 hown hupd hnew; have N5 := Lib.hid (NewR.app0 N0.out hown hupd hnew); have t0 := X0.out w5 N5.out.2.2; have t1 := X1.out w5 N5.out.2.2; clear hown hupd hnew)
        | (refine step_append_to _ (by rfl) (.tmp 13) (.tmp 15) _ (by rfl) 38 i0 _ 23 88 Try.underlying22 hi0 hz0 hz1 hz2 zeroRow_size (.slice A5 p.length c5) p.length _ (by rfl) N5.out.1 (.slice B q.length cb) q.length _ (by rfl) (HV2.out.keep (UW.out.trans N5.out.2.2 (fun _ _ f => f))) O2.out L2.out.1 L2.out.2 ?_; intro A6 c6 w6 hown hupd hnew; have N6 := Lib.hid (NewR.app N5.out hown hupd hnew); clear hown hupd hnew))
    all_goals
      have FIN := Lib.hid (show UnL w (.slice A p.length ca) (.slice C l.length cc) (.slice B q.length cb) (.slice D m.length cd) A6 c6 (p ++ q) none 0 [] w6 from
        ⟨N6.out.2.2.blk B1.out (fun f => f), N6.out.2.2.blk B2.out (fun f => f), N6.out.2.2.blk B3.out (fun f => f), N6.out.2.2.blk B4.out (fun f => f), UW.out.trans N6.out.2.2 (fun _ _ f => f), SgM.two HA.out.1 HA'.out.1 HU1.out HV1.out HU3.out HV3.out N6.out.1 (UW.out.trans N6.out.2.2 (fun _ _ f => f)) (fun k f => by omega), SgM.nil _ _⟩)
      go_wp2_with fail
      go_meet
      exact ⟨_, _, rfl, FIN⟩
  case rest =>
  obtain ⟨AL, cL, rfl, T0⟩ := hcut
  clear N0 UD L1 L2 y0 y1 z0 z1 X0 X1 B1 B2 B3 B4 UW HU1 HV1 HU2 HV2 HU3 HV3 O1 O2
  obtain ⟨N, hN⟩ : ∃ N, p.length + q.length = N := ⟨_, rfl⟩
  obtain ⟨all, hall⟩ : ∃ l, l = p ++ q := ⟨_, rfl⟩
  have HNL := Lib.hid (show all.length = N by rw [hall, ← hN]; simp)
  have HFIT := Lib.hid (show ∀ s ∈ all, s.vote.Fit from by rw [hall]; exact fun s hs => (List.mem_append.1 hs).elim (HA.out.1 s) (HA'.out.1 s))
  have hN2 : N ≤ 2000000 := by omega
  rw [← hall] at T0 HS5
  have HALL := Lib.hid hall
  have HNN := Lib.hid hN
  rw [hN]
  clear hN hall
  obtain ⟨B5, hB5⟩ : ∃ x, w.heap.size + 1 + 1 + 1 = x := ⟨_, rfl⟩
  rw [hB5]
  have HB5 := Lib.hid (show w.heap.size + 3 = B5 from hB5)
  clear hB5
  have aE : ∀ w, (isAgg 38).run Try.prog w = .ok true w := fun w => by kernel_rfl
  have zE : ∀ w, (Go.sizeOf 38).run Try.prog w = .ok 23 w := fun w => by kernel_rfl
  obtain ⟨kk, hkk⟩ : ∃ k, k = 23 := ⟨_, rfl⟩
  rw [← hkk] at zE
  have HK := Lib.hid hkk
  have HK' := Lib.hid HK.out
  clear hkk
  go_wp2_with fail
  go_loopg [7] N (fun kx s7 wr => ∃ (i m3 : Nat) (A3 : Option Addr) (c3 : Nat), s7 = .int .i64 (i : Int) ∧ i ≤ N ∧ N - i ≤ kx ∧ m3 ≤ N ∧ Hid ((refL lessS (all.take i)).length = m3) ∧ Hid (UnL w (.slice A p.length ca) (.slice C l.length cc) (.slice B q.length cb) (.slice D m.length cd) AL cL all A3 c3 (refL lessS (all.take i)) wr))
  case atStart => exact ⟨0, 0, none, 0, rfl, by omega, by omega, by omega, Lib.hid (by simp [refL]), Lib.hid (by simpa [refL] using T0.out)⟩
  case round =>
    obtain ⟨i, m3, A3, c3, rfl, hi, hix, hmn, HM, T1⟩ := hrel
    by_cases hlt : i < N
    · have hltz : (i : Int) < (N : Int) := by omega
      obtain ⟨x, hx⟩ : ∃ x, all[i]? = some x := ⟨_, List.getElem?_eq_getElem (by have := HNL.out; omega)⟩
      have HX := Lib.hid hx
      have HFX := Lib.hid (HFIT.out x (List.mem_of_getElem? hx))
      have XL := Lib.hid (HS5.out x (List.mem_of_getElem? hx))
      obtain ⟨L, hL⟩ : ∃ L, L = refL lessS (all.take i) := ⟨_, rfl⟩
      have HL := Lib.hid hL
      rw [← hL] at HM T1
      obtain ⟨pos, hpos⟩ : ∃ p, p = posL lessS x L := ⟨_, rfl⟩
      have HPOS := Lib.hid hpos
      have hpm : pos ≤ m3 := by rw [hpos, ← HM.out]; exact posL_le _ _
      clear hx hL hpos T0
      go_wp2_with fail
      go_loopg [8] pos (fun kx2 s8 wr2 => ∃ k : Nat, s8 = .int .i64 (k : Int) ∧ k ≤ pos ∧ pos - k ≤ kx2 ∧ Hid (UnL w (.slice A p.length ca) (.slice C l.length cc) (.slice B q.length cb) (.slice D m.length cd) AL cL all A3 c3 L wr2))
      case atStart => exact ⟨0, rfl, by omega, by omega, T1⟩
      case round =>
        obtain ⟨k, rfl, hk, hkx, T2⟩ := hrel
        have HML := HM.out
        by_cases hkp : k < pos
        · obtain ⟨s, hs, hless⟩ := posL_lt x L k (by rw [← HPOS.out]; exact hkp)
          have hkm : k < m3 := by omega
          have HS := Lib.hid hs
          have HFS := Lib.hid (T2.out.ac.1 s (List.mem_of_getElem? hs))
          have HLE := Lib.hid hless
          clear hs hless HML T1
          have ea1 : (((k : Int))).toNat = k := by omega
          have pa1 : (0 : Int) ≤ (k : Int) := by omega
          have ba1 : (k : Int) < (m3 : Int) := by omega
          have ra1 : IntKind.i64.wrap ((k : Int)) = (k : Int) := by rw [IntKind.wrap_i64]; omega
          have ec1 : (((i : Int))).toNat = i := by omega
          have pc1 : (0 : Int) ≤ (i : Int) := by omega
          have bc1 : (i : Int) < (N : Int) := by omega
          have rc1 : IntKind.i64.wrap ((i : Int)) = (i : Int) := by rw [IntKind.wrap_i64]; omega
          obtain ⟨g, o, Au, cu, hA3, r1, r2, -⟩ := T2.out.ac.rd.at_ HS.out
          obtain ⟨g2, o2, Av, cv, hA2, x1, x2, -⟩ := T2.out.al.rd.at_ HX.out
          subst hA3
          subst hA2
          have c15 := fun p : UpdBy wr => T2.out.c5 HB5.out HM.out p
          have l1a := fun p : UpdBy wr => ld_row r1 (rowS_len HFS.out _) p
          have l1b := fun p : UpdBy wr => ld_row x1 (rowS_len HFX.out _) p
          have h1c : ∀ p : UpdBy wr, Calls Try.prog 28 #[.agg (rowS s (.slice Au s.sig.length cu)).toArray, .agg (rowS x (.slice Av x.sig.length cv)).toArray] p.w' fun e w'' => e = .returned (.bool true) ∧ ∃ q : UpdBy wr, w'' = q.w' := fun p => by
            have h := rLessS_any HFS.out HFX.out p.w' (r2.keep p.h) (x2.keep p.h)
            rw [HLE.out] at h
            refine h.mono ?_
            rintro e w'' ⟨rfl, h2⟩
            exact ⟨rfl, ⟨w'', p.h.trans h2 (fun _ _ f => f)⟩, rfl⟩
          obtain ⟨ex1, hex1⟩ : ∃ z, z = (rowS s (.slice Au s.sig.length cu)).toArray := ⟨_, rfl⟩
          obtain ⟨ey1, hey1⟩ : ∃ z, z = (rowS x (.slice Av x.sig.length cv)).toArray := ⟨_, rfl⟩
          rw [← hex1] at l1a h1c
          rw [← hey1] at l1b h1c
          rw [← HK.out] at l1a l1b
          clear hex1 hey1 r1 r2 x1 x2
          go_wp2_with fail
          refine wp_region_quiet_upd (by kernel_rfl) (by kernel_rfl) ?_
          repeat (quiet_step (exact h1c _))
          refine wpQuiet_nil ?_
          intro w3 hw'
          have hq : Upd NoF wr w3 := by obtain ⟨p, rfl⟩ := hw'; exact p.h
          clear hw' c15 l1a l1b h1c
          have T3 := Lib.hid (T2.out.same hq)
          clear hq
          go_wp2
          go_roundg (pos - (k + 1))
          case measure => omega
          case rel => exact ⟨k + 1, by first | rfl | go_num, by omega, by omega, T3⟩
        · have hkk : k = pos := by omega
          subst hkk
          clear hkx hkp
          rcases Nat.lt_or_ge k m3 with hkm | hkm
          · obtain ⟨s, hs⟩ : ∃ s, L[k]? = some s := ⟨_, List.getElem?_eq_getElem (by omega)⟩
            have hless : lessS s x = false := posL_at x L s (by rw [← HPOS.out]; exact hs)
            have HS := Lib.hid hs
            have HFS := Lib.hid (T2.out.ac.1 s (List.mem_of_getElem? hs))
            have HLE := Lib.hid hless
            clear hs hless HML T1
            have ea1 : (((k : Int))).toNat = k := by omega
            have pa1 : (0 : Int) ≤ (k : Int) := by omega
            have ba1 : (k : Int) < (m3 : Int) := by omega
            have ra1 : IntKind.i64.wrap ((k : Int)) = (k : Int) := by rw [IntKind.wrap_i64]; omega
            have ec1 : (((i : Int))).toNat = i := by omega
            have pc1 : (0 : Int) ≤ (i : Int) := by omega
            have bc1 : (i : Int) < (N : Int) := by omega
            have rc1 : IntKind.i64.wrap ((i : Int)) = (i : Int) := by rw [IntKind.wrap_i64]; omega
            obtain ⟨g, o, Au, cu, hA3, r1, r2, -⟩ := T2.out.ac.rd.at_ HS.out
            obtain ⟨g2, o2, Av, cv, hA2, x1, x2, -⟩ := T2.out.al.rd.at_ HX.out
            subst hA3
            subst hA2
            have c15 := fun p : UpdBy wr => T2.out.c5 HB5.out HM.out p
            have l1a := fun p : UpdBy wr => ld_row r1 (rowS_len HFS.out _) p
            have l1b := fun p : UpdBy wr => ld_row x1 (rowS_len HFX.out _) p
            have h1c : ∀ p : UpdBy wr, Calls Try.prog 28 #[.agg (rowS s (.slice Au s.sig.length cu)).toArray, .agg (rowS x (.slice Av x.sig.length cv)).toArray] p.w' fun e w'' => e = .returned (.bool false) ∧ ∃ q : UpdBy wr, w'' = q.w' := fun p => by
              have h := rLessS_any HFS.out HFX.out p.w' (r2.keep p.h) (x2.keep p.h)
              rw [HLE.out] at h
              refine h.mono ?_
              rintro e w'' ⟨rfl, h2⟩
              exact ⟨rfl, ⟨w'', p.h.trans h2 (fun _ _ f => f)⟩, rfl⟩
            obtain ⟨ex1, hex1⟩ : ∃ z, z = (rowS s (.slice Au s.sig.length cu)).toArray := ⟨_, rfl⟩
            obtain ⟨ey1, hey1⟩ : ∃ z, z = (rowS x (.slice Av x.sig.length cv)).toArray := ⟨_, rfl⟩
            rw [← hex1] at l1a h1c
            rw [← hey1] at l1b h1c
            rw [← HK.out] at l1a l1b
            clear hex1 hey1 r1 r2 x1 x2
            go_wp2_with fail
            refine wp_region_quiet_upd (by kernel_rfl) (by kernel_rfl) ?_
            repeat (quiet_step (exact h1c _))
            refine wpQuiet_nil ?_
            intro w3 hw'
            have hq : Upd NoF wr w3 := by obtain ⟨p, rfl⟩ := hw'; exact p.h
            clear hw' c15 l1a l1b h1c
            have T3 := Lib.hid (T2.out.same hq)
            clear hq
            by_cases hsx : s = x
            · have HSX := Lib.hid (decide_eq_true hsx)
              have E := Lib.hid (show refL lessS (all.take (i + 1)) = L from by
                rw [ref_next HX.out, ← HL.out]
                unfold rIns
                rw [← HPOS.out, if_pos (by rw [HS.out, hsx])])
              clear hsx
              have ea2 : (((k : Int))).toNat = k := by omega
              have pa2 : (0 : Int) ≤ (k : Int) := by omega
              have ba2 : (k : Int) < (m3 : Int) := by omega
              have ra2 : IntKind.i64.wrap ((k : Int)) = (k : Int) := by rw [IntKind.wrap_i64]; omega
              have ec2 : (((i : Int))).toNat = i := by omega
              have pc2 : (0 : Int) ≤ (i : Int) := by omega
              have bc2 : (i : Int) < (N : Int) := by omega
              have rc2 : IntKind.i64.wrap ((i : Int)) = (i : Int) := by rw [IntKind.wrap_i64]; omega
              obtain ⟨g', o', Au, cu, hA3, r1, r2, -⟩ := T3.out.ac.rd.at_ HS.out
              obtain ⟨g2', o2', Av, cv, hA2, x1, x2, -⟩ := T3.out.al.rd.at_ HX.out
              obtain ⟨rfl, rfl⟩ : g = g' ∧ o = o' := by simpa using hA3
              obtain ⟨rfl, rfl⟩ : g2 = g2' ∧ o2 = o2' := by simpa using hA2
              clear hA3 hA2
              have c25 := fun p : UpdBy w3 => T3.out.c5 HB5.out HM.out p
              have l2a := fun p : UpdBy w3 => ld_row r1 (rowS_len HFS.out _) p
              have l2b := fun p : UpdBy w3 => ld_row x1 (rowS_len HFX.out _) p
              have h2c : ∀ p : UpdBy w3, Calls Try.prog 26 #[.agg (rowS s (.slice Au s.sig.length cu)).toArray, .agg (rowS x (.slice Av x.sig.length cv)).toArray] p.w' fun e w'' => e = .returned (.bool true) ∧ ∃ q : UpdBy w3, w'' = q.w' := fun p => by
                have h := SameSigned_any HFS.out HFX.out p.w' (r2.keep p.h) (x2.keep p.h)
                rw [HSX.out] at h
                refine h.mono ?_
                rintro e w'' ⟨rfl, h2⟩
                exact ⟨rfl, ⟨w'', p.h.trans h2 (fun _ _ f => f)⟩, rfl⟩
              obtain ⟨ex2, hex2⟩ : ∃ z, z = (rowS s (.slice Au s.sig.length cu)).toArray := ⟨_, rfl⟩
              obtain ⟨ey2, hey2⟩ : ∃ z, z = (rowS x (.slice Av x.sig.length cv)).toArray := ⟨_, rfl⟩
              rw [← hex2] at l2a h2c
              rw [← hey2] at l2b h2c
              rw [← HK.out] at l2a l2b
              clear hex2 hey2 r1 r2 x1 x2
              go_wp2_with fail
              refine wp_region_quiet_upd (by kernel_rfl) (by kernel_rfl) ?_
              repeat (quiet_step (exact h2c _))
              refine wpQuiet_nil ?_
              intro w4 hw'
              have hq : Upd NoF w3 w4 := by obtain ⟨p, rfl⟩ := hw'; exact p.h
              clear hw' c25 l2a l2b h2c
              have T4 := Lib.hid (T3.out.same hq)
              clear hq
              go_wp2
              go_roundg (N - (i + 1))
              case measure => omega
              case rel => exact ⟨i + 1, m3, some ⟨g, o, none⟩, c3, by first | rfl | go_num, by omega, by omega, hmn, Lib.hid (by rw [E.out]; exact HM.out), Lib.hid (by rw [E.out]; exact T4.out)⟩
            · have HSX := Lib.hid (decide_eq_false hsx)
              have HNE := Lib.hid (show ¬ L[k]? = some x from by rw [HS.out]; intro e; exact hsx (Option.some.inj e))
              clear hsx
              have ea2 : (((k : Int))).toNat = k := by omega
              have pa2 : (0 : Int) ≤ (k : Int) := by omega
              have ba2 : (k : Int) < (m3 : Int) := by omega
              have ra2 : IntKind.i64.wrap ((k : Int)) = (k : Int) := by rw [IntKind.wrap_i64]; omega
              have ec2 : (((i : Int))).toNat = i := by omega
              have pc2 : (0 : Int) ≤ (i : Int) := by omega
              have bc2 : (i : Int) < (N : Int) := by omega
              have rc2 : IntKind.i64.wrap ((i : Int)) = (i : Int) := by rw [IntKind.wrap_i64]; omega
              obtain ⟨g', o', Au, cu, hA3, r1, r2, -⟩ := T3.out.ac.rd.at_ HS.out
              obtain ⟨g2', o2', Av, cv, hA2, x1, x2, -⟩ := T3.out.al.rd.at_ HX.out
              obtain ⟨rfl, rfl⟩ : g = g' ∧ o = o' := by simpa using hA3
              obtain ⟨rfl, rfl⟩ : g2 = g2' ∧ o2 = o2' := by simpa using hA2
              clear hA3 hA2
              have c25 := fun p : UpdBy w3 => T3.out.c5 HB5.out HM.out p
              have l2a := fun p : UpdBy w3 => ld_row r1 (rowS_len HFS.out _) p
              have l2b := fun p : UpdBy w3 => ld_row x1 (rowS_len HFX.out _) p
              have h2c : ∀ p : UpdBy w3, Calls Try.prog 26 #[.agg (rowS s (.slice Au s.sig.length cu)).toArray, .agg (rowS x (.slice Av x.sig.length cv)).toArray] p.w' fun e w'' => e = .returned (.bool false) ∧ ∃ q : UpdBy w3, w'' = q.w' := fun p => by
                have h := SameSigned_any HFS.out HFX.out p.w' (r2.keep p.h) (x2.keep p.h)
                rw [HSX.out] at h
                refine h.mono ?_
                rintro e w'' ⟨rfl, h2⟩
                exact ⟨rfl, ⟨w'', p.h.trans h2 (fun _ _ f => f)⟩, rfl⟩
              obtain ⟨ex2, hex2⟩ : ∃ z, z = (rowS s (.slice Au s.sig.length cu)).toArray := ⟨_, rfl⟩
              obtain ⟨ey2, hey2⟩ : ∃ z, z = (rowS x (.slice Av x.sig.length cv)).toArray := ⟨_, rfl⟩
              rw [← hex2] at l2a h2c
              rw [← hey2] at l2b h2c
              rw [← HK.out] at l2a l2b
              clear hex2 hey2 r1 r2 x1 x2
              go_wp2_with fail
              refine wp_region_quiet_upd (by kernel_rfl) (by kernel_rfl) ?_
              repeat (quiet_step (exact h2c _))
              refine wpQuiet_nil ?_
              intro w4 hw'
              have hq : Upd NoF w3 w4 := by obtain ⟨p, rfl⟩ := hw'; exact p.h
              clear hw' c25 l2a l2b h2c
              have T4 := Lib.hid (T3.out.same hq)
              clear hq
              have HK := Lib.hid (show k ≤ L.length from by rw [HM.out]; omega)
              have KM := Lib.hid (show k ≤ m3 from by omega)
              have E := Lib.hid (show refL lessS (all.take (i + 1)) = L.take k ++ [x] ++ L.drop k from by
                rw [ref_next HX.out, ← HL.out]
                unfold rIns
                rw [← HPOS.out, if_neg HNE.out])
              have hm1 : m3 + 1 ≤ N := by
                have h1 := ref_take_len (lt := lessS) all (i + 1)
                rw [E.out, HNL.out] at h1
                have h2 := HM.out
                have h3 := HK.out
                simp only [List.length_append, List.length_take, List.length_cons, List.length_nil, List.length_drop] at h1
                omega
              obtain ⟨i2, hi2, hy0, hy1, hy2⟩ := info_parts byte_info
              have HFL := Lib.hid T4.out.ac.1
              obtain ⟨us, us1, us2, us3⟩ := T4.out.ac.2
              have US1 := Lib.hid us1
              have US3 := Lib.hid us3
              have us2 := us2.rd
              rw [HM.out] at us2
              have UO := Lib.hid (sg_one us1 (fun i s hs => by obtain ⟨u, e1, e2⟩ := us3 i s hs; exact ⟨u, e1, e2.now⟩))
              obtain ⟨rows, hrows⟩ : ∃ r, r = (List.zipWith rowS L us).flatten := ⟨_, rfl⟩
              rw [← hrows] at us2 UO
              have US2 := Lib.hid us2
              have HRW := Lib.hid hrows
              have V5 := Lib.hid (show ∀ wq, Upd NoF w4 wq → wq.cell? ⟨B5, 0, none⟩ = some (.slice (some ⟨g, o, none⟩) m3 c3) ∧ wq.frozen? ⟨B5, 0, none⟩ = false from fun wq hq => by
                have h := (T4.out.same hq).b5
                rw [HB5.out, HM.out] at h
                exact ⟨h.cell 0, h.frozen 0⟩)
              have hb5 : B5 < w4.heap.size := by have := T4.out.b5.lt; rw [HB5.out] at this; exact this
              have v5 := (V5.out w4 (Upd.refl _ _)).1
              have v5a := (V5.out (w4.alloc (.cells #[] 38)) ((Upd.refl NoF w4).alloc _)).1
              have NW := Lib.hid (NewR.fresh w4 38 23)
              have UT := Lib.hid (show ∀ u ∈ rows.take (k * 23), u.oneCell' = true from fun u hu => UO.out u (List.mem_of_mem_take hu))
              have UD := Lib.hid (show ∀ u ∈ rows.drop (k * 23), u.oneCell' = true from fun u hu => UO.out u (List.mem_of_mem_drop hu))
              have B1 := Lib.hid (show k ≤ maxLen ∧ k * 88 ≤ 140737488355328 from by unfold maxLen; omega)
              have B2 := Lib.hid (show k + 1 ≤ maxLen ∧ (k + 1) * 88 ≤ 140737488355328 from by unfold maxLen; omega)
              have B3 := Lib.hid (show k + 1 + (m3 - k) ≤ maxLen ∧ (k + 1 + (m3 - k)) * 88 ≤ 140737488355328 from by unfold maxLen; omega)
              have B4 := Lib.hid (show x.sig.length ≤ maxLen ∧ x.sig.length * 1 ≤ 140737488355328 from by have := XL.out; unfold maxLen; omega)
              have MM := Lib.hid (show k + 1 + (m3 - k) = m3 + 1 from by omega)
              have zEk : ∀ w, (Go.sizeOf 38).run Try.prog w = .ok 23 w := fun w => by kernel_rfl
              have ZK := Lib.hid zEk
              have hzk : ∀ w, (Go.sizeOf 38).run Try.prog w = .ok kk w := zE
              clear us1 us2 us3 hrows zEk hkm hpm
              go_wp2_with (first
                | (refine wpList_cut_to rfl (.tmp 61) (.tmp 62) rfl rfl rfl (US2.out.keep ((Upd.refl NoF w4).alloc (.cells #[] 38))) Try.underlying22 ZK.out KM.out ?_; intro A5 hcut5; have C5 := Lib.hid hcut5; clear hcut5)
                | (at_builtin; refine wpList_append_new _ rfl (.tmp 59) (.tmp 63) 22 rfl 38 i0 _ 23 88 Try.underlying22 hi0 hz0 hz1 hz2 zeroRow_size _ rfl NW.out.1 _ k _ rfl C5.out UT.out B1.out.1 B1.out.2 ?_; intro A6 c6 w6 hown hupd hnew; have N6 := Lib.hid (NW.out.app0 hown hupd hnew); clear hown hupd hnew))
              obtain ⟨gx, ox, Av, cv, hAL, x1, x2, -⟩ := T4.out.al.rd.at_ HX.out
              have hAL := hAL.symm
              obtain ⟨rfl, rfl⟩ : gx = g2 ∧ ox = o2 := by simpa using hAL
              clear hAL
              have VC := Lib.hid (range_vote x1)
              have SC := Lib.hid (range_sig HFX.out x1)
              have XR := Lib.hid x2
              clear x1 x2
              obtain ⟨vz, hvz⟩ : ∃ z, (voteCells x.vote).toArray = z := ⟨_, rfl⟩
              have HVZ := Lib.hid hvz
              have eix : (((i : Int))).toNat = i := by omega
              have pix : (0 : Int) ≤ (i : Int) := by omega
              have bix : (i : Int) < (N : Int) := by omega
              have rix : IntKind.i64.wrap ((i : Int)) = (i : Int) := by rw [IntKind.wrap_i64]; omega
              clear v5 v5a
              refine wp_region_rgl (rgR [isV (.slice A6 k c6), isV (.slice (some ⟨gx, ox, none⟩) N cL), isV (.int .i64 (i : Int)), isV (.pointer (some ⟨gx, ox + i * kk, none⟩)), isV (.pointer (some ⟨gx, ox + i * kk, none⟩)), isV (.agg vz), InR6 w6.heap.size, isV (.slice (some ⟨gx, ox, none⟩) N cL), isV (.int .i64 (i : Int)), isV (.pointer (some ⟨gx, ox + i * kk, none⟩)), isV (.pointer (some ⟨gx, ox + i * kk + 22, none⟩)), isV (.slice Av x.sig.length cv), InR12 w6.heap.size x, InR13 w6.heap.size x, InR14 w6.heap.size x, InR15 w6.heap.size A6 k c6 (rows.take (k * 23)) x, InR15 w6.heap.size A6 k c6 (rows.take (k * 23)) x]) (InSt w6.heap.size) (InPh w6.drew A6 k c6) (by kernel_rfl) (by kernel_rfl) (by kernel_rfl) (by rfl) (fun L w => InSt.none (Upd.refl _ _)) (rgR_keepL ⟨stbL_isV _, stbL_isV _, stbL_isV _, stbL_isV _, stbL_isV _, stbL_isV _, stbL_i6, stbL_isV _, stbL_isV _, stbL_isV _, stbL_isV _, stbL_isV _, stbL_i12, stbL_i13, stbL_i14, stbL_i15, stbL_i16, trivial⟩) (InPh.start _) ?_ ?_
              · refine ⟨?_, ?_, ?_, ?_, ?_, ?_, ?_, ?_, ?_, ?_, ?_, ?_, ?_, ?_, ?_, ?_, ?_, trivial⟩
                · refine fun ρ w' L hW hLi hcl hd hdep hext hc hg hf => ?_
                  rw [if_pos (show wantedR _ _ _ = true from rfl)]
                  have e9 : ρ (.tmp 9) = .slice A6 k c6 := hext 9 (by kernel_rfl)
                  clear hdep hext hcl
                  have HW := Lib.hid hW
                  clear hW
                  unfold OpDone
                  go_simp
                  exact ⟨rfl, InSt.none (Upd.refl _ _), (HW.out.more (by decide) (Upd.refl _ _))⟩
                · refine fun ρ w' L hW hLi hcl hd hdep hext hc hg hf => ?_
                  rw [if_pos (show wantedR _ _ _ = true from rfl)]
                  have e6 : ρ (.tmp 6) = .slice (some ⟨gx, ox, none⟩) N cL := hext 6 (by kernel_rfl)
                  clear hdep hext hcl
                  have HW := Lib.hid hW
                  clear hW
                  unfold OpDone
                  go_simp
                  exact ⟨rfl, InSt.none (Upd.refl _ _), (HW.out.more (by decide) (Upd.refl _ _))⟩
                · refine fun ρ w' L hW hLi hcl hd hdep hext hc hg hf => ?_
                  rw [if_pos (show wantedR _ _ _ = true from rfl)]
                  have e7 : ρ (.tmp 7) = .int .i64 (i : Int) := hext 7 (by kernel_rfl)
                  clear hdep hext hcl
                  have HW := Lib.hid hW
                  clear hW
                  unfold OpDone
                  go_simp
                  exact ⟨rfl, InSt.none (Upd.refl _ _), (HW.out.more (by decide) (Upd.refl _ _))⟩
                · refine fun ρ w' L hW hLi hcl hd hdep hext hc hg hf => ?_
                  rw [if_pos (show wantedR _ _ _ = true from rfl)]
                  have e66 : ρ (.tmp 66) = .slice (some ⟨gx, ox, none⟩) N cL := hdep 1 _ rfl (by kernel_rfl)
                  have e67 : ρ (.tmp 67) = .int .i64 (i : Int) := hdep 2 _ rfl (by kernel_rfl)
                  clear hdep hext hcl
                  have HW := Lib.hid hW
                  clear hW
                  unfold OpDone
                  go_simp
                  exact ⟨rfl, InSt.none (Upd.refl _ _), (HW.out.more (by decide) (Upd.refl _ _))⟩
                · refine fun ρ w' L hW hLi hcl hd hdep hext hc hg hf => ?_
                  rw [if_pos (show wantedR _ _ _ = true from rfl)]
                  have e68 : ρ (.tmp 68) = .pointer (some ⟨gx, ox + i * kk, none⟩) := hdep 3 _ rfl (by kernel_rfl)
                  clear hdep hext hcl
                  have HW := Lib.hid hW
                  clear hW
                  unfold OpDone
                  go_simp
                  exact ⟨rfl, InSt.none (Upd.refl _ _), (HW.out.more (by decide) (Upd.refl _ _))⟩
                · refine fun ρ w' L hW hLi hcl hd hdep hext hc hg hf => ?_
                  rw [if_pos (show wantedR _ _ _ = true from rfl)]
                  have e69 : ρ (.tmp 69) = .pointer (some ⟨gx, ox + i * kk, none⟩) := hdep 4 _ rfl (by kernel_rfl)
                  clear hdep hext
                  have hu4 : Upd NoF w4 w' := (N6.out.2.2.drew).trans hW.u1 (fun j hj f => by have := N6.out.2.1 j f; omega)
                  have hS0 : w6.heap.size ≤ w'.heap.size := hW.u1.size
                  have hrg : w'.rangeAt gx (ox + i * kk) (voteCells x.vote) := by rw [HK'.out]; exact fun j v hj => hu4.cell (VC.out j v hj) (fun f => f)
                  refine od_load_row 35 (.tmp 69) rfl gx (ox + i * kk) e69 (voteCells x.vote) _ hrg Try.underlying35 rfl (by rw [vote_size, vc_len HFX.out]) ?_
                  exact ⟨by rw [hvz]; rfl, InSt.none (Upd.refl _ _), hW.more (by decide) (Upd.refl _ _)⟩
                · refine fun ρ w' L hW hLi hcl hd hdep hext hc hg hf => ?_
                  rw [if_pos (show wantedR _ _ _ = true from rfl)]
                  clear hdep hext
                  have hS0 : w6.heap.size ≤ w'.heap.size := hW.u1.size
                  have HW := Lib.hid hW
                  clear hW
                  unfold OpDone
                  go_simp
                  exact ⟨⟨_, rfl, Blk.new w' 5 #[], hS0⟩, InSt.none ((Upd.refl NoF w').alloc _), HW.out.more (by decide) ((Upd.refl NoF w').alloc _)⟩
                · refine fun ρ w' L hW hLi hcl hd hdep hext hc hg hf => ?_
                  rw [if_pos (show wantedR _ _ _ = true from rfl)]
                  have e6 : ρ (.tmp 6) = .slice (some ⟨gx, ox, none⟩) N cL := hext 6 (by kernel_rfl)
                  clear hdep hext hcl
                  have HW := Lib.hid hW
                  clear hW
                  unfold OpDone
                  go_simp
                  exact ⟨rfl, InSt.none (Upd.refl _ _), (HW.out.more (by decide) (Upd.refl _ _))⟩
                · refine fun ρ w' L hW hLi hcl hd hdep hext hc hg hf => ?_
                  rw [if_pos (show wantedR _ _ _ = true from rfl)]
                  have e7 : ρ (.tmp 7) = .int .i64 (i : Int) := hext 7 (by kernel_rfl)
                  clear hdep hext hcl
                  have HW := Lib.hid hW
                  clear hW
                  unfold OpDone
                  go_simp
                  exact ⟨rfl, InSt.none (Upd.refl _ _), (HW.out.more (by decide) (Upd.refl _ _))⟩
                · refine fun ρ w' L hW hLi hcl hd hdep hext hc hg hf => ?_
                  rw [if_pos (show wantedR _ _ _ = true from rfl)]
                  have e72 : ρ (.tmp 72) = .slice (some ⟨gx, ox, none⟩) N cL := hdep 7 _ rfl (by kernel_rfl)
                  have e73 : ρ (.tmp 73) = .int .i64 (i : Int) := hdep 8 _ rfl (by kernel_rfl)
                  clear hdep hext hcl
                  have HW := Lib.hid hW
                  clear hW
                  unfold OpDone
                  go_simp
                  exact ⟨rfl, InSt.none (Upd.refl _ _), (HW.out.more (by decide) (Upd.refl _ _))⟩
                · refine fun ρ w' L hW hLi hcl hd hdep hext hc hg hf => ?_
                  rw [if_pos (show wantedR _ _ _ = true from rfl)]
                  have e74 : ρ (.tmp 74) = .pointer (some ⟨gx, ox + i * kk, none⟩) := hdep 9 _ rfl (by kernel_rfl)
                  clear hdep hext hcl
                  have HW := Lib.hid hW
                  clear hW
                  unfold OpDone
                  go_simp
                  exact ⟨rfl, InSt.none (Upd.refl _ _), (HW.out.more (by decide) (Upd.refl _ _))⟩
                · refine fun ρ w' L hW hLi hcl hd hdep hext hc hg hf => ?_
                  rw [if_pos (show wantedR _ _ _ = true from rfl)]
                  have e75 : ρ (.tmp 75) = .pointer (some ⟨gx, ox + i * kk + 22, none⟩) := hdep 10 _ rfl (by kernel_rfl)
                  have hu4 : Upd NoF w4 w' := (N6.out.2.2.drew).trans hW.u1 (fun j hj f => by have := N6.out.2.1 j f; omega)
                  have hS0 : w6.heap.size ≤ w'.heap.size := hW.u1.size
                  have q0 : w'.cell? ⟨gx, ox + i * kk + 22, none⟩ = some (.slice Av x.sig.length cv) := by rw [HK'.out]; exact hu4.cell SC.out (fun f => f)
                  clear hu4 hS0
                  clear hdep hext hcl
                  have HW := Lib.hid hW
                  clear hW
                  unfold OpDone
                  go_simp
                  exact ⟨rfl, InSt.none (Upd.refl _ _), (HW.out.more (by decide) (Upd.refl _ _))⟩
                · refine fun ρ w' L hW hLi hcl hd hdep hext hc hg hf => ?_
                  rw [if_pos (show wantedR _ _ _ = true from rfl)]
                  have e71 : (InR6 w6.heap.size) (ρ (.tmp 71)) w' := hdep 6 _ rfl (by kernel_rfl)
                  have e76 : ρ (.tmp 76) = .slice Av x.sig.length cv := hdep 11 _ rfl (by kernel_rfl)
                  clear hdep hext
                  have hu4 : Upd NoF w4 w' := (N6.out.2.2.drew).trans hW.u1 (fun j hj f => by have := N6.out.2.1 j f; omega)
                  have hS0 : w6.heap.size ≤ w'.heap.size := hW.u1.size
                  obtain ⟨g6, e71, hb6, hg6⟩ := e71
                  refine od_append_fresh (.tmp 71) (.tmp 76) 36 rfl 5 i2 _ 1 1 Try.underlying36 hi2 hy0 hy1 hy2 rfl g6 e71 hb6 _ x.sig.length _ e76 (XR.out.keep hu4) B4.out.1 B4.out.2 ?_
                  intro A7 c7 w7 ho7 hu7 hn7
                  exact ⟨⟨A7, c7, rfl, ho7, fun j hj => by rcases hn7 j hj with q | q <;> omega⟩, InSt.none hu7, hW.more (by decide) hu7⟩
                · refine fun ρ w' L hW hLi hcl hd hdep hext hc hg hf => ?_
                  rw [if_pos (show wantedR _ _ _ = true from rfl)]
                  have e70 : ρ (.tmp 70) = .agg vz := hdep 5 _ rfl (by kernel_rfl)
                  have e77 : (InR12 w6.heap.size x) (ρ (.tmp 77)) w' := hdep 12 _ rfl (by kernel_rfl)
                  clear hdep hext
                  obtain ⟨A7, c7, e77, hx7⟩ := e77
                  refine od_build 38 _ rfl #[(0, .agg vz), (1, .slice A7 x.sig.length c7)] (by simp [e70, e77]) (by rw [← hvz]; exact build_signed HFX.out A7 _ c7 x.sig w') ?_
                  exact ⟨⟨A7, c7, rfl, hx7⟩, InSt.none (Upd.refl _ _), hW.more (by decide) (Upd.refl _ _)⟩
                · refine fun ρ w' L hW hLi hcl hd hdep hext hc hg hf => ?_
                  rw [if_pos (show wantedR _ _ _ = true from rfl)]
                  have e78 : (InR13 w6.heap.size x) (ρ (.tmp 78)) w' := hdep 13 _ rfl (by kernel_rfl)
                  clear hdep hext
                  have hS0 : w6.heap.size ≤ w'.heap.size := hW.u1.size
                  obtain ⟨A7, c7, e78, hx7⟩ := e78
                  refine od_buildSlice_row 22 38 (.tmp 78) rfl _ e78 (rowS x (.slice A7 x.sig.length c7)).toArray (bs_signed HFX.out A7 x.sig.length c7 w') ?_
                  exact ⟨⟨_, A7, c7, rfl, Blk.new w' _ _, hS0, hx7.to (UpdT.none ((Upd.refl _ w').alloc _))⟩, InSt.none ((Upd.refl _ w').alloc _), hW.more (by decide) ((Upd.refl _ w').alloc _)⟩
                · refine fun ρ w' L hW hLi hcl hd hdep hext hc hg hf => ?_
                  rw [if_pos (show wantedR _ _ _ = true from rfl)]
                  have e65 : ρ (.tmp 65) = .slice A6 k c6 := hdep 0 _ rfl (by kernel_rfl)
                  have e79 : (InR14 w6.heap.size x) (ρ (.tmp 79)) w' := hdep 14 _ rfl (by kernel_rfl)
                  clear hdep hext
                  have hS0 : w6.heap.size ≤ w'.heap.size := hW.u1.size
                  have h16 : L 16 = false := by
                    cases h : L 16 with
                    | false => rfl
                    | true => exact absurd (hcl 16 15 h (by kernel_rfl)) (by rw [hLi]; decide)
                  obtain ⟨g7, A7, c7, e79, hb7, hg7, hx7⟩ := e79
                  have hO6 : Own w' 38 23 (.slice A6 k c6) k (rows.take (k * 23)) := N6.out.1.upd (((Upd.refl NoF w6).drew).trans (hW.u0 hLi) (fun _ _ f => f)) (fun _ _ f => f)
                  refine od_append (.tmp 65) (.tmp 79) 22 rfl 38 i0 _ 23 88 Try.underlying22 hi0 hz0 hz1 hz2 zeroRow_size _ k _ e65 hO6 _ 1 (rowS x (.slice A7 x.sig.length c7)) e79 (Rd.of_blk hb7 (by omega) (by unfold maxLen; omega) (by rw [rowS_len HFX.out]) (fun j y hy => by rw [Nat.zero_add]; simpa using hy)) (by have := row_one x (u := .slice A7 x.sig.length c7) rfl; rw [List.all_toArray, List.all_eq_true] at this; exact this) B2.out.1 B2.out.2 ?_
                  intro A8 c8 w8 ho8 hu8 hn8
                  have hty : ∀ j, OwnB (.slice A6 k c6) j → j < w6.heap.size ∧ TyF [38] w' j := fun j hj => ⟨N6.out.1.lt hj, hO6.tyf (by simp) hj⟩
                  refine ⟨⟨A8, c8, A7, c7, rfl, ho8, hx7.to (UpdT.of hu8 (fun j hj => (hty j hj).2)), fun j hj => ?_⟩, ⟨hu8.mono (fun j _ f => hty j f), (fun e => by rw [hLi] at e; cases e), (fun e => by rw [h16] at e; cases e)⟩, hW.app hu8⟩
                  rcases hn8 j hj with q | q
                  · exact .inl q
                  · exact .inr (by omega)
                · refine fun ρ w' L hW hLi hcl hd hdep hext hc hg hf => ?_
                  rw [if_pos (show wantedR _ _ _ = true from rfl)]
                  have e80 : (InR15 w6.heap.size A6 k c6 (rows.take (k * 23)) x) (ρ (.tmp 80)) w' := hdep 15 _ rfl (by kernel_rfl)
                  clear hdep hext
                  obtain ⟨A8, c8, A7, c7, hv8, hr8⟩ := e80
                  have HW := Lib.hid hW
                  have HR8 := Lib.hid hr8
                  clear hW hr8
                  unfold OpDone
                  go_simp
                  exact ⟨⟨A8, c8, A7, c7, rfl, HR8.out⟩, InSt.none (Upd.refl _ _), HW.out.more (by decide) (Upd.refl _ _)⟩
              intro vs wz Lz hLz hWz hR
              have hv0 : vs 0 = .slice A6 k c6 := hR 0 _ rfl
              have hv1 : vs 1 = .slice (some ⟨gx, ox, none⟩) N cL := hR 1 _ rfl
              have hv2 : vs 2 = .int .i64 (i : Int) := hR 2 _ rfl
              have hv3 : vs 3 = .pointer (some ⟨gx, ox + i * kk, none⟩) := hR 3 _ rfl
              have hv4 : vs 4 = .pointer (some ⟨gx, ox + i * kk, none⟩) := hR 4 _ rfl
              have hv5 : vs 5 = .agg vz := hR 5 _ rfl
              have hr6 : (InR6 w6.heap.size) (vs 6) wz := hR 6 _ rfl
              obtain ⟨g6, hv6, -⟩ := hr6
              have hv7 : vs 7 = .slice (some ⟨gx, ox, none⟩) N cL := hR 7 _ rfl
              have hv8 : vs 8 = .int .i64 (i : Int) := hR 8 _ rfl
              have hv9 : vs 9 = .pointer (some ⟨gx, ox + i * kk, none⟩) := hR 9 _ rfl
              have hv10 : vs 10 = .pointer (some ⟨gx, ox + i * kk + 22, none⟩) := hR 10 _ rfl
              have hv11 : vs 11 = .slice Av x.sig.length cv := hR 11 _ rfl
              have hr12 : (InR12 w6.heap.size x) (vs 12) wz := hR 12 _ rfl
              obtain ⟨yA, yc, hv12, -⟩ := hr12
              have hr13 : (InR13 w6.heap.size x) (vs 13) wz := hR 13 _ rfl
              obtain ⟨yB, yd, hv13, -⟩ := hr13
              have hr14 : (InR14 w6.heap.size x) (vs 14) wz := hR 14 _ rfl
              obtain ⟨yg, yE, ye, hv14, -⟩ := hr14
              have hr15 : (InR15 w6.heap.size A6 k c6 (rows.take (k * 23)) x) (vs 15) wz := hR 15 _ rfl
              obtain ⟨zA, zc, zB, zd, hv15, -⟩ := hr15
              have hr16 : (InR15 w6.heap.size A6 k c6 (rows.take (k * 23)) x) (vs 16) wz := hR 16 _ rfl
              obtain ⟨A8, c8, Ax, cx, hv16, ho8, hx8, hb8⟩ := hr16
              simp only [putAll, Act.put, List.setIfInBounds_toArray, List.set_cons_zero, List.set_cons_succ, hv0, hv1, hv2, hv3, hv4, hv5, hv6, hv7, hv8, hv9, hv10, hv11, hv12, hv13, hv14, hv15, hv16]
              clear hR hv0 hv1 hv2 hv3 hv4 hv5 hv6 hv7 hv8 hv9 hv10 hv11 hv12 hv13 hv14 hv15 hv16
              have U4z := Lib.hid (show Upd NoF w4 wz from (N6.out.2.2.drew).trans hWz.u1 (fun j hj f => by have := N6.out.2.1 j f; omega))
              have MX := Lib.hid (show InsM w4 k (rows.take (k * 23)) x A8 c8 Ax cx wz from ⟨⟨ho8, fun j hj => (hb8 j hj).elim (fun q => N6.out.2.1 j q) (fun q => by have := N6.out.2.2.size; omega), U4z.out⟩, hx8.1, fun j hj => by have := hx8.2 j hj; have := N6.out.2.2.size; omega⟩)
              clear hLz hWz ho8 hx8 hb8 hvz VC SC XR HVZ
              have v5 := (V5.out _ MX.out.nw.2.2).1
              go_wp2_with (first
                | (refine wpList_cut_from rfl (.tmp 83) (.tmp 84) rfl rfl rfl (US2.out.keep MX.out.nw.2.2) Try.underlying22 ZK.out KM.out ?_; intro A9 hcut9; have C9 := Lib.hid hcut9; clear hcut9)
                | (at_builtin; refine wpList_append_to _ rfl (.tmp 81) (.tmp 85) 22 rfl 38 i0 _ 23 88 Try.underlying22 hi0 hz0 hz1 hz2 zeroRow_size _ (k + 1) _ rfl MX.out.nw.1 _ (m3 - k) _ rfl C9.out UD.out B3.out.1 B3.out.2 ?_; intro Aa ca' wa hown hupd hnew; have Na := Lib.hid (MX.out.nw.app hown hupd hnew); have Ga := Lib.hid (MX.out.sg.updT (ts := [38]) (UpdT.of hupd (fun kk hk => MX.out.nw.1.tyf (by simp) hk)) (by decide)); have va := (V5.out wa Na.out.2.2).1; have vf := (V5.out wa Na.out.2.2).2; clear hown hupd hnew v5))
              go_roundg (N - (i + 1))
              case measure => omega
              case rel =>
                have LL : (L.take k ++ [x] ++ L.drop k).length = m3 + 1 := by
                  have h2 := HM.out
                  have h3 := HK.out
                  simp only [List.length_append, List.length_take, List.length_cons, List.length_nil, List.length_drop]
                  omega
                have ho := Na.out.1
                rw [HRW.out] at ho
                have hp := (T4.out.same Na.out.2.2).put (A' := Aa) (c' := ca') (L' := L.take k ++ [x] ++ L.drop k) (SgM.ins HFL.out HFX.out US1.out US3.out HK.out (Ga.out.rdF (fun j hj f => by have := MX.out.sn j hj; have := HB5.out; omega)) (Na.out.2.2.mono (fun _ _ f => f.elim)) (n := m3 + 1) (by rw [LL]) (by rw [MM.out] at ho; exact ho))
                rw [LL, HB5.out] at hp
                rw [MM.out]
                refine ⟨i + 1, m3 + 1, Aa, ca', by first | rfl | go_num, by omega, by omega, hm1, Lib.hid ?_, Lib.hid ?_⟩
                · rw [E.out]; exact LL
                · rw [E.out]; exact hp
          · have KQ := Lib.hid (And.intro hkm hpm)
            have tk3 : decide (k < m3) = false := by simp; omega
            have HNE := Lib.hid (show ¬ L[k]? = some x from by rw [List.getElem?_eq_none (by have := HM.out; omega)]; simp)
            clear T1 HML hkm hpm hk
            have c15 := fun p : UpdBy wr => T2.out.c5 HB5.out HM.out p
            go_wp2_with fail
            refine wp_region_quiet_upd (by kernel_rfl) (by kernel_rfl) ?_
            repeat (quiet_step (fail))
            refine wpQuiet_nil ?_
            intro w3 hw'
            have hq : Upd NoF wr w3 := by obtain ⟨p, rfl⟩ := hw'; exact p.h
            clear hw' c15
            have T3 := Lib.hid (T2.out.same hq)
            clear hq
            have c25 := fun p : UpdBy w3 => T3.out.c5 HB5.out HM.out p
            go_wp2_with fail
            refine wp_region_quiet_upd (by kernel_rfl) (by kernel_rfl) ?_
            repeat (quiet_step (fail))
            refine wpQuiet_nil ?_
            intro w4 hw'
            have hq : Upd NoF w3 w4 := by obtain ⟨p, rfl⟩ := hw'; exact p.h
            clear hw' c25
            have T4 := Lib.hid (T3.out.same hq)
            clear hq tk3
            have hpm := KQ.out.2
            have hkm := KQ.out.1
            have HK := Lib.hid (show k ≤ L.length from by rw [HM.out]; omega)
            have KM := Lib.hid (show k ≤ m3 from by omega)
            have E := Lib.hid (show refL lessS (all.take (i + 1)) = L.take k ++ [x] ++ L.drop k from by
              rw [ref_next HX.out, ← HL.out]
              unfold rIns
              rw [← HPOS.out, if_neg HNE.out])
            have hm1 : m3 + 1 ≤ N := by
              have h1 := ref_take_len (lt := lessS) all (i + 1)
              rw [E.out, HNL.out] at h1
              have h2 := HM.out
              have h3 := HK.out
              simp only [List.length_append, List.length_take, List.length_cons, List.length_nil, List.length_drop] at h1
              omega
            obtain ⟨i2, hi2, hy0, hy1, hy2⟩ := info_parts byte_info
            have HFL := Lib.hid T4.out.ac.1
            obtain ⟨us, us1, us2, us3⟩ := T4.out.ac.2
            have US1 := Lib.hid us1
            have US3 := Lib.hid us3
            have us2 := us2.rd
            rw [HM.out] at us2
            have UO := Lib.hid (sg_one us1 (fun i s hs => by obtain ⟨u, e1, e2⟩ := us3 i s hs; exact ⟨u, e1, e2.now⟩))
            obtain ⟨rows, hrows⟩ : ∃ r, r = (List.zipWith rowS L us).flatten := ⟨_, rfl⟩
            rw [← hrows] at us2 UO
            have US2 := Lib.hid us2
            have HRW := Lib.hid hrows
            have V5 := Lib.hid (show ∀ wq, Upd NoF w4 wq → wq.cell? ⟨B5, 0, none⟩ = some (.slice A3 m3 c3) ∧ wq.frozen? ⟨B5, 0, none⟩ = false from fun wq hq => by
              have h := (T4.out.same hq).b5
              rw [HB5.out, HM.out] at h
              exact ⟨h.cell 0, h.frozen 0⟩)
            have hb5 : B5 < w4.heap.size := by have := T4.out.b5.lt; rw [HB5.out] at this; exact this
            have v5 := (V5.out w4 (Upd.refl _ _)).1
            have v5a := (V5.out (w4.alloc (.cells #[] 38)) ((Upd.refl NoF w4).alloc _)).1
            have NW := Lib.hid (NewR.fresh w4 38 23)
            have UT := Lib.hid (show ∀ u ∈ rows.take (k * 23), u.oneCell' = true from fun u hu => UO.out u (List.mem_of_mem_take hu))
            have UD := Lib.hid (show ∀ u ∈ rows.drop (k * 23), u.oneCell' = true from fun u hu => UO.out u (List.mem_of_mem_drop hu))
            have B1 := Lib.hid (show k ≤ maxLen ∧ k * 88 ≤ 140737488355328 from by unfold maxLen; omega)
            have B2 := Lib.hid (show k + 1 ≤ maxLen ∧ (k + 1) * 88 ≤ 140737488355328 from by unfold maxLen; omega)
            have B3 := Lib.hid (show k + 1 + (m3 - k) ≤ maxLen ∧ (k + 1 + (m3 - k)) * 88 ≤ 140737488355328 from by unfold maxLen; omega)
            have B4 := Lib.hid (show x.sig.length ≤ maxLen ∧ x.sig.length * 1 ≤ 140737488355328 from by have := XL.out; unfold maxLen; omega)
            have MM := Lib.hid (show k + 1 + (m3 - k) = m3 + 1 from by omega)
            have zEk : ∀ w, (Go.sizeOf 38).run Try.prog w = .ok 23 w := fun w => by kernel_rfl
            have ZK := Lib.hid zEk
            have hzk : ∀ w, (Go.sizeOf 38).run Try.prog w = .ok kk w := zE
            clear us1 us2 us3 hrows zEk hkm hpm
            go_wp2_with (first
              | (refine wpList_cut_to rfl (.tmp 61) (.tmp 62) rfl rfl rfl (US2.out.keep ((Upd.refl NoF w4).alloc (.cells #[] 38))) Try.underlying22 ZK.out KM.out ?_; intro A5 hcut5; have C5 := Lib.hid hcut5; clear hcut5)
              | (at_builtin; refine wpList_append_new _ rfl (.tmp 59) (.tmp 63) 22 rfl 38 i0 _ 23 88 Try.underlying22 hi0 hz0 hz1 hz2 zeroRow_size _ rfl NW.out.1 _ k _ rfl C5.out UT.out B1.out.1 B1.out.2 ?_; intro A6 c6 w6 hown hupd hnew; have N6 := Lib.hid (NW.out.app0 hown hupd hnew); clear hown hupd hnew))
            obtain ⟨gx, ox, Av, cv, hAL, x1, x2, -⟩ := T4.out.al.rd.at_ HX.out
            subst hAL
            have VC := Lib.hid (range_vote x1)
            have SC := Lib.hid (range_sig HFX.out x1)
            have XR := Lib.hid x2
            clear x1 x2
            obtain ⟨vz, hvz⟩ : ∃ z, (voteCells x.vote).toArray = z := ⟨_, rfl⟩
            have HVZ := Lib.hid hvz
            have eix : (((i : Int))).toNat = i := by omega
            have pix : (0 : Int) ≤ (i : Int) := by omega
            have bix : (i : Int) < (N : Int) := by omega
            have rix : IntKind.i64.wrap ((i : Int)) = (i : Int) := by rw [IntKind.wrap_i64]; omega
            clear v5 v5a
            refine wp_region_rgl (rgR [isV (.slice A6 k c6), isV (.slice (some ⟨gx, ox, none⟩) N cL), isV (.int .i64 (i : Int)), isV (.pointer (some ⟨gx, ox + i * kk, none⟩)), isV (.pointer (some ⟨gx, ox + i * kk, none⟩)), isV (.agg vz), InR6 w6.heap.size, isV (.slice (some ⟨gx, ox, none⟩) N cL), isV (.int .i64 (i : Int)), isV (.pointer (some ⟨gx, ox + i * kk, none⟩)), isV (.pointer (some ⟨gx, ox + i * kk + 22, none⟩)), isV (.slice Av x.sig.length cv), InR12 w6.heap.size x, InR13 w6.heap.size x, InR14 w6.heap.size x, InR15 w6.heap.size A6 k c6 (rows.take (k * 23)) x, InR15 w6.heap.size A6 k c6 (rows.take (k * 23)) x]) (InSt w6.heap.size) (InPh w6.drew A6 k c6) (by kernel_rfl) (by kernel_rfl) (by kernel_rfl) (by rfl) (fun L w => InSt.none (Upd.refl _ _)) (rgR_keepL ⟨stbL_isV _, stbL_isV _, stbL_isV _, stbL_isV _, stbL_isV _, stbL_isV _, stbL_i6, stbL_isV _, stbL_isV _, stbL_isV _, stbL_isV _, stbL_isV _, stbL_i12, stbL_i13, stbL_i14, stbL_i15, stbL_i16, trivial⟩) (InPh.start _) ?_ ?_
            · refine ⟨?_, ?_, ?_, ?_, ?_, ?_, ?_, ?_, ?_, ?_, ?_, ?_, ?_, ?_, ?_, ?_, ?_, trivial⟩
              · refine fun ρ w' L hW hLi hcl hd hdep hext hc hg hf => ?_
                rw [if_pos (show wantedR _ _ _ = true from rfl)]
                have e9 : ρ (.tmp 9) = .slice A6 k c6 := hext 9 (by kernel_rfl)
                clear hdep hext hcl
                have HW := Lib.hid hW
                clear hW
                unfold OpDone
                go_simp
                exact ⟨rfl, InSt.none (Upd.refl _ _), (HW.out.more (by decide) (Upd.refl _ _))⟩
              · refine fun ρ w' L hW hLi hcl hd hdep hext hc hg hf => ?_
                rw [if_pos (show wantedR _ _ _ = true from rfl)]
                have e6 : ρ (.tmp 6) = .slice (some ⟨gx, ox, none⟩) N cL := hext 6 (by kernel_rfl)
                clear hdep hext hcl
                have HW := Lib.hid hW
                clear hW
                unfold OpDone
                go_simp
                exact ⟨rfl, InSt.none (Upd.refl _ _), (HW.out.more (by decide) (Upd.refl _ _))⟩
              · refine fun ρ w' L hW hLi hcl hd hdep hext hc hg hf => ?_
                rw [if_pos (show wantedR _ _ _ = true from rfl)]
                have e7 : ρ (.tmp 7) = .int .i64 (i : Int) := hext 7 (by kernel_rfl)
                clear hdep hext hcl
                have HW := Lib.hid hW
                clear hW
                unfold OpDone
                go_simp
                exact ⟨rfl, InSt.none (Upd.refl _ _), (HW.out.more (by decide) (Upd.refl _ _))⟩
              · refine fun ρ w' L hW hLi hcl hd hdep hext hc hg hf => ?_
                rw [if_pos (show wantedR _ _ _ = true from rfl)]
                have e66 : ρ (.tmp 66) = .slice (some ⟨gx, ox, none⟩) N cL := hdep 1 _ rfl (by kernel_rfl)
                have e67 : ρ (.tmp 67) = .int .i64 (i : Int) := hdep 2 _ rfl (by kernel_rfl)
                clear hdep hext hcl
                have HW := Lib.hid hW
                clear hW
                unfold OpDone
                go_simp
                exact ⟨rfl, InSt.none (Upd.refl _ _), (HW.out.more (by decide) (Upd.refl _ _))⟩
              · refine fun ρ w' L hW hLi hcl hd hdep hext hc hg hf => ?_
                rw [if_pos (show wantedR _ _ _ = true from rfl)]
                have e68 : ρ (.tmp 68) = .pointer (some ⟨gx, ox + i * kk, none⟩) := hdep 3 _ rfl (by kernel_rfl)
                clear hdep hext hcl
                have HW := Lib.hid hW
                clear hW
                unfold OpDone
                go_simp
                exact ⟨rfl, InSt.none (Upd.refl _ _), (HW.out.more (by decide) (Upd.refl _ _))⟩
              · refine fun ρ w' L hW hLi hcl hd hdep hext hc hg hf => ?_
                rw [if_pos (show wantedR _ _ _ = true from rfl)]
                have e69 : ρ (.tmp 69) = .pointer (some ⟨gx, ox + i * kk, none⟩) := hdep 4 _ rfl (by kernel_rfl)
                clear hdep hext
                have hu4 : Upd NoF w4 w' := (N6.out.2.2.drew).trans hW.u1 (fun j hj f => by have := N6.out.2.1 j f; omega)
                have hS0 : w6.heap.size ≤ w'.heap.size := hW.u1.size
                have hrg : w'.rangeAt gx (ox + i * kk) (voteCells x.vote) := by rw [HK'.out]; exact fun j v hj => hu4.cell (VC.out j v hj) (fun f => f)
                refine od_load_row 35 (.tmp 69) rfl gx (ox + i * kk) e69 (voteCells x.vote) _ hrg Try.underlying35 rfl (by rw [vote_size, vc_len HFX.out]) ?_
                exact ⟨by rw [hvz]; rfl, InSt.none (Upd.refl _ _), hW.more (by decide) (Upd.refl _ _)⟩
              · refine fun ρ w' L hW hLi hcl hd hdep hext hc hg hf => ?_
                rw [if_pos (show wantedR _ _ _ = true from rfl)]
                clear hdep hext
                have hS0 : w6.heap.size ≤ w'.heap.size := hW.u1.size
                have HW := Lib.hid hW
                clear hW
                unfold OpDone
                go_simp
                exact ⟨⟨_, rfl, Blk.new w' 5 #[], hS0⟩, InSt.none ((Upd.refl NoF w').alloc _), HW.out.more (by decide) ((Upd.refl NoF w').alloc _)⟩
              · refine fun ρ w' L hW hLi hcl hd hdep hext hc hg hf => ?_
                rw [if_pos (show wantedR _ _ _ = true from rfl)]
                have e6 : ρ (.tmp 6) = .slice (some ⟨gx, ox, none⟩) N cL := hext 6 (by kernel_rfl)
                clear hdep hext hcl
                have HW := Lib.hid hW
                clear hW
                unfold OpDone
                go_simp
                exact ⟨rfl, InSt.none (Upd.refl _ _), (HW.out.more (by decide) (Upd.refl _ _))⟩
              · refine fun ρ w' L hW hLi hcl hd hdep hext hc hg hf => ?_
                rw [if_pos (show wantedR _ _ _ = true from rfl)]
                have e7 : ρ (.tmp 7) = .int .i64 (i : Int) := hext 7 (by kernel_rfl)
                clear hdep hext hcl
                have HW := Lib.hid hW
                clear hW
                unfold OpDone
                go_simp
                exact ⟨rfl, InSt.none (Upd.refl _ _), (HW.out.more (by decide) (Upd.refl _ _))⟩
              · refine fun ρ w' L hW hLi hcl hd hdep hext hc hg hf => ?_
                rw [if_pos (show wantedR _ _ _ = true from rfl)]
                have e72 : ρ (.tmp 72) = .slice (some ⟨gx, ox, none⟩) N cL := hdep 7 _ rfl (by kernel_rfl)
                have e73 : ρ (.tmp 73) = .int .i64 (i : Int) := hdep 8 _ rfl (by kernel_rfl)
                clear hdep hext hcl
                have HW := Lib.hid hW
                clear hW
                unfold OpDone
                go_simp
                exact ⟨rfl, InSt.none (Upd.refl _ _), (HW.out.more (by decide) (Upd.refl _ _))⟩
              · refine fun ρ w' L hW hLi hcl hd hdep hext hc hg hf => ?_
                rw [if_pos (show wantedR _ _ _ = true from rfl)]
                have e74 : ρ (.tmp 74) = .pointer (some ⟨gx, ox + i * kk, none⟩) := hdep 9 _ rfl (by kernel_rfl)
                clear hdep hext hcl
                have HW := Lib.hid hW
                clear hW
                unfold OpDone
                go_simp
                exact ⟨rfl, InSt.none (Upd.refl _ _), (HW.out.more (by decide) (Upd.refl _ _))⟩
              · refine fun ρ w' L hW hLi hcl hd hdep hext hc hg hf => ?_
                rw [if_pos (show wantedR _ _ _ = true from rfl)]
                have e75 : ρ (.tmp 75) = .pointer (some ⟨gx, ox + i * kk + 22, none⟩) := hdep 10 _ rfl (by kernel_rfl)
                have hu4 : Upd NoF w4 w' := (N6.out.2.2.drew).trans hW.u1 (fun j hj f => by have := N6.out.2.1 j f; omega)
                have hS0 : w6.heap.size ≤ w'.heap.size := hW.u1.size
                have q0 : w'.cell? ⟨gx, ox + i * kk + 22, none⟩ = some (.slice Av x.sig.length cv) := by rw [HK'.out]; exact hu4.cell SC.out (fun f => f)
                clear hu4 hS0
                clear hdep hext hcl
                have HW := Lib.hid hW
                clear hW
                unfold OpDone
                go_simp
                exact ⟨rfl, InSt.none (Upd.refl _ _), (HW.out.more (by decide) (Upd.refl _ _))⟩
              · refine fun ρ w' L hW hLi hcl hd hdep hext hc hg hf => ?_
                rw [if_pos (show wantedR _ _ _ = true from rfl)]
                have e71 : (InR6 w6.heap.size) (ρ (.tmp 71)) w' := hdep 6 _ rfl (by kernel_rfl)
                have e76 : ρ (.tmp 76) = .slice Av x.sig.length cv := hdep 11 _ rfl (by kernel_rfl)
                clear hdep hext
                have hu4 : Upd NoF w4 w' := (N6.out.2.2.drew).trans hW.u1 (fun j hj f => by have := N6.out.2.1 j f; omega)
                have hS0 : w6.heap.size ≤ w'.heap.size := hW.u1.size
                obtain ⟨g6, e71, hb6, hg6⟩ := e71
                refine od_append_fresh (.tmp 71) (.tmp 76) 36 rfl 5 i2 _ 1 1 Try.underlying36 hi2 hy0 hy1 hy2 rfl g6 e71 hb6 _ x.sig.length _ e76 (XR.out.keep hu4) B4.out.1 B4.out.2 ?_
                intro A7 c7 w7 ho7 hu7 hn7
                exact ⟨⟨A7, c7, rfl, ho7, fun j hj => by rcases hn7 j hj with q | q <;> omega⟩, InSt.none hu7, hW.more (by decide) hu7⟩
              · refine fun ρ w' L hW hLi hcl hd hdep hext hc hg hf => ?_
                rw [if_pos (show wantedR _ _ _ = true from rfl)]
                have e70 : ρ (.tmp 70) = .agg vz := hdep 5 _ rfl (by kernel_rfl)
                have e77 : (InR12 w6.heap.size x) (ρ (.tmp 77)) w' := hdep 12 _ rfl (by kernel_rfl)
                clear hdep hext
                obtain ⟨A7, c7, e77, hx7⟩ := e77
                refine od_build 38 _ rfl #[(0, .agg vz), (1, .slice A7 x.sig.length c7)] (by simp [e70, e77]) (by rw [← hvz]; exact build_signed HFX.out A7 _ c7 x.sig w') ?_
                exact ⟨⟨A7, c7, rfl, hx7⟩, InSt.none (Upd.refl _ _), hW.more (by decide) (Upd.refl _ _)⟩
              · refine fun ρ w' L hW hLi hcl hd hdep hext hc hg hf => ?_
                rw [if_pos (show wantedR _ _ _ = true from rfl)]
                have e78 : (InR13 w6.heap.size x) (ρ (.tmp 78)) w' := hdep 13 _ rfl (by kernel_rfl)
                clear hdep hext
                have hS0 : w6.heap.size ≤ w'.heap.size := hW.u1.size
                obtain ⟨A7, c7, e78, hx7⟩ := e78
                refine od_buildSlice_row 22 38 (.tmp 78) rfl _ e78 (rowS x (.slice A7 x.sig.length c7)).toArray (bs_signed HFX.out A7 x.sig.length c7 w') ?_
                exact ⟨⟨_, A7, c7, rfl, Blk.new w' _ _, hS0, hx7.to (UpdT.none ((Upd.refl _ w').alloc _))⟩, InSt.none ((Upd.refl _ w').alloc _), hW.more (by decide) ((Upd.refl _ w').alloc _)⟩
              · refine fun ρ w' L hW hLi hcl hd hdep hext hc hg hf => ?_
                rw [if_pos (show wantedR _ _ _ = true from rfl)]
                have e65 : ρ (.tmp 65) = .slice A6 k c6 := hdep 0 _ rfl (by kernel_rfl)
                have e79 : (InR14 w6.heap.size x) (ρ (.tmp 79)) w' := hdep 14 _ rfl (by kernel_rfl)
                clear hdep hext
                have hS0 : w6.heap.size ≤ w'.heap.size := hW.u1.size
                have h16 : L 16 = false := by
                  cases h : L 16 with
                  | false => rfl
                  | true => exact absurd (hcl 16 15 h (by kernel_rfl)) (by rw [hLi]; decide)
                obtain ⟨g7, A7, c7, e79, hb7, hg7, hx7⟩ := e79
                have hO6 : Own w' 38 23 (.slice A6 k c6) k (rows.take (k * 23)) := N6.out.1.upd (((Upd.refl NoF w6).drew).trans (hW.u0 hLi) (fun _ _ f => f)) (fun _ _ f => f)
                refine od_append (.tmp 65) (.tmp 79) 22 rfl 38 i0 _ 23 88 Try.underlying22 hi0 hz0 hz1 hz2 zeroRow_size _ k _ e65 hO6 _ 1 (rowS x (.slice A7 x.sig.length c7)) e79 (Rd.of_blk hb7 (by omega) (by unfold maxLen; omega) (by rw [rowS_len HFX.out]) (fun j y hy => by rw [Nat.zero_add]; simpa using hy)) (by have := row_one x (u := .slice A7 x.sig.length c7) rfl; rw [List.all_toArray, List.all_eq_true] at this; exact this) B2.out.1 B2.out.2 ?_
                intro A8 c8 w8 ho8 hu8 hn8
                have hty : ∀ j, OwnB (.slice A6 k c6) j → j < w6.heap.size ∧ TyF [38] w' j := fun j hj => ⟨N6.out.1.lt hj, hO6.tyf (by simp) hj⟩
                refine ⟨⟨A8, c8, A7, c7, rfl, ho8, hx7.to (UpdT.of hu8 (fun j hj => (hty j hj).2)), fun j hj => ?_⟩, ⟨hu8.mono (fun j _ f => hty j f), (fun e => by rw [hLi] at e; cases e), (fun e => by rw [h16] at e; cases e)⟩, hW.app hu8⟩
                rcases hn8 j hj with q | q
                · exact .inl q
                · exact .inr (by omega)
              · refine fun ρ w' L hW hLi hcl hd hdep hext hc hg hf => ?_
                rw [if_pos (show wantedR _ _ _ = true from rfl)]
                have e80 : (InR15 w6.heap.size A6 k c6 (rows.take (k * 23)) x) (ρ (.tmp 80)) w' := hdep 15 _ rfl (by kernel_rfl)
                clear hdep hext
                obtain ⟨A8, c8, A7, c7, hv8, hr8⟩ := e80
                have HW := Lib.hid hW
                have HR8 := Lib.hid hr8
                clear hW hr8
                unfold OpDone
                go_simp
                exact ⟨⟨A8, c8, A7, c7, rfl, HR8.out⟩, InSt.none (Upd.refl _ _), HW.out.more (by decide) (Upd.refl _ _)⟩
            intro vs wz Lz hLz hWz hR
            have hv0 : vs 0 = .slice A6 k c6 := hR 0 _ rfl
            have hv1 : vs 1 = .slice (some ⟨gx, ox, none⟩) N cL := hR 1 _ rfl
            have hv2 : vs 2 = .int .i64 (i : Int) := hR 2 _ rfl
            have hv3 : vs 3 = .pointer (some ⟨gx, ox + i * kk, none⟩) := hR 3 _ rfl
            have hv4 : vs 4 = .pointer (some ⟨gx, ox + i * kk, none⟩) := hR 4 _ rfl
            have hv5 : vs 5 = .agg vz := hR 5 _ rfl
            have hr6 : (InR6 w6.heap.size) (vs 6) wz := hR 6 _ rfl
            obtain ⟨g6, hv6, -⟩ := hr6
            have hv7 : vs 7 = .slice (some ⟨gx, ox, none⟩) N cL := hR 7 _ rfl
            have hv8 : vs 8 = .int .i64 (i : Int) := hR 8 _ rfl
            have hv9 : vs 9 = .pointer (some ⟨gx, ox + i * kk, none⟩) := hR 9 _ rfl
            have hv10 : vs 10 = .pointer (some ⟨gx, ox + i * kk + 22, none⟩) := hR 10 _ rfl
            have hv11 : vs 11 = .slice Av x.sig.length cv := hR 11 _ rfl
            have hr12 : (InR12 w6.heap.size x) (vs 12) wz := hR 12 _ rfl
            obtain ⟨yA, yc, hv12, -⟩ := hr12
            have hr13 : (InR13 w6.heap.size x) (vs 13) wz := hR 13 _ rfl
            obtain ⟨yB, yd, hv13, -⟩ := hr13
            have hr14 : (InR14 w6.heap.size x) (vs 14) wz := hR 14 _ rfl
            obtain ⟨yg, yE, ye, hv14, -⟩ := hr14
            have hr15 : (InR15 w6.heap.size A6 k c6 (rows.take (k * 23)) x) (vs 15) wz := hR 15 _ rfl
            obtain ⟨zA, zc, zB, zd, hv15, -⟩ := hr15
            have hr16 : (InR15 w6.heap.size A6 k c6 (rows.take (k * 23)) x) (vs 16) wz := hR 16 _ rfl
            obtain ⟨A8, c8, Ax, cx, hv16, ho8, hx8, hb8⟩ := hr16
            simp only [putAll, Act.put, List.setIfInBounds_toArray, List.set_cons_zero, List.set_cons_succ, hv0, hv1, hv2, hv3, hv4, hv5, hv6, hv7, hv8, hv9, hv10, hv11, hv12, hv13, hv14, hv15, hv16]
            clear hR hv0 hv1 hv2 hv3 hv4 hv5 hv6 hv7 hv8 hv9 hv10 hv11 hv12 hv13 hv14 hv15 hv16
            have U4z := Lib.hid (show Upd NoF w4 wz from (N6.out.2.2.drew).trans hWz.u1 (fun j hj f => by have := N6.out.2.1 j f; omega))
            have MX := Lib.hid (show InsM w4 k (rows.take (k * 23)) x A8 c8 Ax cx wz from ⟨⟨ho8, fun j hj => (hb8 j hj).elim (fun q => N6.out.2.1 j q) (fun q => by have := N6.out.2.2.size; omega), U4z.out⟩, hx8.1, fun j hj => by have := hx8.2 j hj; have := N6.out.2.2.size; omega⟩)
            clear hLz hWz ho8 hx8 hb8 hvz VC SC XR HVZ
            have v5 := (V5.out _ MX.out.nw.2.2).1
            go_wp2_with (first
              | (refine wpList_cut_from rfl (.tmp 83) (.tmp 84) rfl rfl rfl (US2.out.keep MX.out.nw.2.2) Try.underlying22 ZK.out KM.out ?_; intro A9 hcut9; have C9 := Lib.hid hcut9; clear hcut9)
              | (at_builtin; refine wpList_append_to _ rfl (.tmp 81) (.tmp 85) 22 rfl 38 i0 _ 23 88 Try.underlying22 hi0 hz0 hz1 hz2 zeroRow_size _ (k + 1) _ rfl MX.out.nw.1 _ (m3 - k) _ rfl C9.out UD.out B3.out.1 B3.out.2 ?_; intro Aa ca' wa hown hupd hnew; have Na := Lib.hid (MX.out.nw.app hown hupd hnew); have Ga := Lib.hid (MX.out.sg.updT (ts := [38]) (UpdT.of hupd (fun kk hk => MX.out.nw.1.tyf (by simp) hk)) (by decide)); have va := (V5.out wa Na.out.2.2).1; have vf := (V5.out wa Na.out.2.2).2; clear hown hupd hnew v5))
            go_roundg (N - (i + 1))
            case measure => omega
            case rel =>
              have LL : (L.take k ++ [x] ++ L.drop k).length = m3 + 1 := by
                have h2 := HM.out
                have h3 := HK.out
                simp only [List.length_append, List.length_take, List.length_cons, List.length_nil, List.length_drop]
                omega
              have ho := Na.out.1
              rw [HRW.out] at ho
              have hp := (T4.out.same Na.out.2.2).put (A' := Aa) (c' := ca') (L' := L.take k ++ [x] ++ L.drop k) (SgM.ins HFL.out HFX.out US1.out US3.out HK.out (Ga.out.rdF (fun j hj f => by have := MX.out.sn j hj; have := HB5.out; omega)) (Na.out.2.2.mono (fun _ _ f => f.elim)) (n := m3 + 1) (by rw [LL]) (by rw [MM.out] at ho; exact ho))
              rw [LL, HB5.out] at hp
              rw [MM.out]
              refine ⟨i + 1, m3 + 1, Aa, ca', by first | rfl | go_num, by omega, by omega, hm1, Lib.hid ?_, Lib.hid ?_⟩
              · rw [E.out]; exact LL
              · rw [E.out]; exact hp
    · have hltz : ¬ (i : Int) < (N : Int) := by omega
      have E := Lib.hid (show all.take i = all from List.take_of_length_le (by have := HNL.out; omega))
      obtain ⟨i1, hi1, hy0, hy1, hy2⟩ := info_parts bytes_info'
      obtain ⟨us, hu1, hu2, hu3⟩ := HB.out
      obtain ⟨vs, hv1, hv2, hv3⟩ := HB'.out
      have X0 := Lib.hid (show ∀ wq, Upd NoF wr wq → wq.cell? ⟨w.heap.size, 1, none⟩ = some (.slice C l.length cc) from fun wq hq => (hq.blk T1.out.b2 (fun f => f)).cell 1)
      have X1 := Lib.hid (show ∀ wq, Upd NoF wr wq → wq.cell? ⟨w.heap.size + 1, 1, none⟩ = some (.slice D m.length cd) from fun wq hq => (hq.blk T1.out.b3 (fun f => f)).cell 1)
      have Y5 := Lib.hid (show ∀ wq, Upd NoF wr wq → Blk wq B5 25 #[.slice A3 m3 c3, .slice none 0 0] from fun wq hq => by
        have h := hq.blk T1.out.b5 (fun f => f)
        rw [HM.out, HB5.out] at h
        exact h)
      have y0 := X0.out wr.drew ((Upd.refl NoF wr).drew)
      have y1 := X1.out wr.drew ((Upd.refl NoF wr).drew)
      have z0 := X0.out (wr.alloc (.cells #[] 36)).drew (((Upd.refl NoF wr).alloc _).drew)
      have z1 := X1.out (wr.alloc (.cells #[] 36)).drew (((Upd.refl NoF wr).alloc _).drew)
      have HU1 := Lib.hid hu1
      have HV1 := Lib.hid hv1
      have HU2 := Lib.hid hu2
      have HV2 := Lib.hid hv2
      have HU3 := Lib.hid hu3
      have HV3 := Lib.hid hv3
      have O1 := Lib.hid (tx_one hu1 hu3)
      have O2 := Lib.hid (tx_one hv1 hv3)
      have N0 := Lib.hid ((NewR.fresh wr 36 1).keep ((Upd.refl NoF _).drew))
      have UD := Lib.hid (show Upd NoF w (wr.alloc (.cells #[] 36)).drew from (T1.out.up.alloc _).drew)
      have L1 := Lib.hid (show l.length ≤ maxLen ∧ l.length * 24 ≤ 140737488355328 from by unfold maxLen; omega)
      have L2 := Lib.hid (show l.length + m.length ≤ maxLen ∧ (l.length + m.length) * 24 ≤ 140737488355328 from by unfold maxLen; omega)
      have CT := Lib.hid (show ∀ wq A6 c6, NewR wr 36 1 (l.length + m.length) (us ++ vs) (.slice A6 (l.length + m.length) c6) wq → Calls Try.prog 29 #[.slice A6 (l.length + m.length) c6] wq (RefTPost wq (refL lessT (l ++ m))) from fun wq A6 c6 h =>
        SortedTexts_any (TxR.cat hu1 hv1 hu3 hv3 (by rw [List.length_append]; exact h.1.rd) (T1.out.up.trans h.2.2 (fun _ _ f => f))) (by rw [List.length_append]; omega) HLL.out)
      clear hu1 hv1 hu2 hv2 hu3 hv3
      obtain ⟨n7, hn7⟩ : ∃ n, (refL lessT (l ++ m)).length = n := ⟨_, rfl⟩
      have HN7 := Lib.hid hn7
      clear hn7
      go_wp2_with fail
      go_region_law
        (first
          | (refine step_append_new _ (by rfl) (.tmp 88) (.tmp 90) _ (by rfl) 36 i1 _ 1 24 Try.underlying23 hi1 hy0 hy1 hy2 rfl (.slice (some ⟨wr.heap.size, 0, none⟩) 0 0) (by rfl) (by exact N0.out.1) (.slice C l.length cc) l.length _ (by rfl) (by exact HU2.out.keep UD.out) O1.out L1.out.1 L1.out.2 ?_; intro A5 c5 w5 hown hupd hnew; have N5 := Lib.hid (NewR.app0 N0.out hown hupd hnew); have t0 := X0.out w5 N5.out.2.2; have t1 := X1.out w5 N5.out.2.2; clear hown hupd hnew)
          | (refine step_append_to _ (by rfl) (.tmp 91) (.tmp 93) _ (by rfl) 36 i1 _ 1 24 Try.underlying23 hi1 hy0 hy1 hy2 rfl (.slice A5 l.length c5) l.length _ (by rfl) N5.out.1 (.slice D m.length cd) m.length _ (by rfl) (HV2.out.keep (T1.out.up.trans N5.out.2.2 (fun _ _ f => f))) O2.out L2.out.1 L2.out.2 ?_; intro A6 c6 w6 hown hupd hnew; have N6 := Lib.hid (NewR.app N5.out hown hupd hnew); clear hown hupd hnew)
          | (go_simp; go_at_call 29; refine (CT.out _ _ _ N6.out).mono ?_; intro e w7 hR7; obtain ⟨v7, he7, hx7, hu7⟩ := hR7; subst he7; obtain ⟨A7, c7, rfl, -, -⟩ := hx7.rd.form; rw [HN7.out] at hx7 ⊢; have T7 := Lib.hid hx7; have U7 := Lib.hid hu7; have Y7 := Lib.hid (Y5.out w7 (N6.out.2.2.trans hu7 (fun _ _ f => f))); have q1 := Y7.out.cell 1; have q2 := Y7.out.frozen 1; clear hx7 hu7))
      all_goals
        have hRb : w.heap.size + 1 + 1 ≠ B5 := by have := HB5.out; omega
        have hbR : B5 ≠ w.heap.size + 1 + 1 := by have := HB5.out; omega
        have UW7 := Lib.hid (show Upd NoF wr w7 from N6.out.2.2.trans U7.out (fun _ _ f => f))
        have BR7 := Lib.hid (show Blk w7 (w.heap.size + 1 + 1) 25 nil2 from UW7.out.blk T1.out.b4 (fun f => f))
        have q0 : w7.cell? ⟨B5, 0, none⟩ = some (.slice A3 m3 c3) := Y7.out.cell 0
        have x0 : w7.cell? ⟨w.heap.size + 1 + 1, 0, none⟩ = some (.slice none 0 0) := BR7.out.cell 0
        have x1 : w7.cell? ⟨w.heap.size + 1 + 1, 1, none⟩ = some (.slice none 0 0) := BR7.out.cell 1
        have x2 : w7.frozen? ⟨w.heap.size + 1 + 1, 0, none⟩ = false := BR7.out.frozen 0
        have x3 : w7.frozen? ⟨w.heap.size + 1 + 1, 1, none⟩ = false := BR7.out.frozen 1
        clear t0 t1 y0 y1 z0 z1
        go_wp2
        have hzb : Upd (fun k => k = B5) w7 (w7.setCell ⟨B5, 1, none⟩ (.slice A7 n7 c7)) := (Upd.refl (fun k => k = B5) w7).setCell (p := ⟨B5, 1, none⟩) (.inl rfl) _
        have BR8 := hzb.blk BR7.out (fun f => hRb f)
        have hzR : Upd (fun k => k = w.heap.size + 1 + 1) (w7.setCell ⟨B5, 1, none⟩ (.slice A7 n7 c7)) (((w7.setCell ⟨B5, 1, none⟩ (.slice A7 n7 c7)).setCell ⟨w.heap.size + 1 + 1, 0, none⟩ (.slice A3 m3 c3)).setCell ⟨w.heap.size + 1 + 1, 1, none⟩ (.slice A7 n7 c7)) := ((Upd.refl (fun k => k = w.heap.size + 1 + 1) _).setCell (p := ⟨w.heap.size + 1 + 1, 0, none⟩) (.inl rfl) _).setCell (p := ⟨w.heap.size + 1 + 1, 1, none⟩) (.inl rfl) _
        refine bodyPost_ret (results_cell_row Try.results8 _ _ (w.heap.size + 1 + 1) 25 #[.slice A3 m3 c3, .slice A7 n7 c7] (0, 0) _ rfl ((BR8.put 0 (.slice A3 m3 c3)).put 1 (.slice A7 n7 c7)) Try.underlying25 rfl (by rw [view_size]; rfl)) rfl ?_
        have hS7 := T1.out.ac.upd UW7.out (fun _ _ f => f) (fun _ _ f => f.elim)
        have b57 := Y7.out
        have hS8 := hS7.upd hzb (fun k hk f => by have f : k = B5 := f; rw [f] at hk; exact hS7.not_view b57 hk) (fun k _ f => .inr (by have f : k = B5 := f; have := HB5.out; omega))
        have hS9 := (hS8.upd hzR (fun k hk f => by have f : k = w.heap.size + 1 + 1 := f; rw [f] at hk; exact hS8.not_view BR8 hk) (fun k _ f => .inl (by have f : k = w.heap.size + 1 + 1 := f; omega))).rd
        rw [HM.out, E.out, HALL.out] at hS9
        have hb6 : B5 < w6.heap.size := by
          have h1 := T1.out.b5.lt
          have h2 := N6.out.2.2.size
          have h3 := HB5.out
          omega
        have hT8 := T7.out.upd (hzb.mono (fun k _ f => by have f : k = B5 := f; omega))
        have hT9 := (hT8.upd (hzR.mono (fun k _ f => by have f : k = w.heap.size + 1 + 1 := f; have := HB5.out; omega))).rd
        exact ⟨_, _, rfl, ⟨hS9, hT9⟩, ((T1.out.up.trans UW7.out (fun _ _ f => f)).trans hzb (fun k hk f => by have f : k = B5 := f; have := HB5.out; omega)).trans hzR (fun k hk f => by have f : k = w.heap.size + 1 + 1 := f; omega)⟩
end Go.Proofs.Ytbgificdilpdcaa
