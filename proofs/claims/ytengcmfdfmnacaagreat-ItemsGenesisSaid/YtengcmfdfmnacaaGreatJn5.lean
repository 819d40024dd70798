/- 'ordered' of package snapshot. Conditions: sizes. Encode of package snapshot. Conditions: sizes. Package cursor: New, Uint, Fixed, Bytes, OK, Done. Conditions: sizes. Slices of signed votes and of texts that are being collected. No condition. Decode of package snapshot. Conditions: sizes. The rule of text Rg with a relation of worlds that looks at the operations that have run. No condition. What the loops of Decode of package snapshot keep. No condition. Decode of package snapshot. Conditions: sizes. slices.Grow and slices.Concat of texts and of signed votes. Conditions: sizes. Writes into blocks of given types; texts and signed votes that own their blocks. No condition. Slices of names and of numbers in memory. No condition. The state of the ledger on plain data: entries of cells, their order, the first state. No condition. New slices that own their blocks. No condition. -/
import Derived.Test.YtengcmfdfmnacaaGreatJn4
import Derived.Deep.RegionHeld3
import Derived.Lib.AppendZeros
import Derived.Test.YtengcmfdfmnacaaGreatJn1
import Derived.Test.YtengcmfdfmnacaaGreatJn2
namespace Go.Proofs.YtengcmfdfmnacaaGreat
section
open Go.RowKit

def OrdRel {α : Type} (r : α → α → Bool) (l : List α) (W : World) (i : Value) (wr : World) : Prop :=
  ∃ k : Nat, i = .int .i64 ((k : Int) + 1) ∧ (k = 0 ∨ k + 1 ≤ l.length) ∧ (∀ (j : Nat) a b, j < k → l[j]? = some a → l[j + 1]? = some b → r a b = true) ∧ Upd NoF W wr
/-- Two signed votes next to each other. -/
theorem SgR.two {w : World} {A : Option Addr} {n c : Nat} {l : List SignedS} (h : SgR w (.slice A n c) l) {k : Nat} {s t : SignedS} (hs : l[k]? = some s) (ht : l[k + 1]? = some t) :
    ∃ g o Au cu Av cv, A = some ⟨g, o, none⟩ ∧ w.rangeAt g (o + k * 23) (rowS s (.slice Au s.sig.length cu)) ∧ w.rangeAt g (o + (k + 1) * 23) (rowS t (.slice Av t.sig.length cv)) ∧ Rd w 1 (.slice Au s.sig.length cu) s.sig.length (s.sig.map byteV) ∧ Rd w 1 (.slice Av t.sig.length cv) t.sig.length (t.sig.map byteV) := by
  obtain ⟨g, o, Au, cu, rfl, h1, h2, _⟩ := h.at_ hs
  obtain ⟨g', o', Av, cv, e, h3, h4, _⟩ := h.at_ ht
  injection e with e
  injection e with e1 e2
  subst e1 e2
  exact ⟨g, o, Au, cu, Av, cv, rfl, h1, h3, h2, h4⟩
theorem TxR.two {w : World} {A : Option Addr} {n c : Nat} {l : List (List UInt8)} (h : TxR w (.slice A n c) l) {k : Nat} {s t : List UInt8} (hs : l[k]? = some s) (ht : l[k + 1]? = some t) :
    ∃ g o Au cu Av cv, A = some ⟨g, o, none⟩ ∧ w.cell? ⟨g, o + k, none⟩ = some (.slice Au s.length cu) ∧ w.cell? ⟨g, o + (k + 1), none⟩ = some (.slice Av t.length cv) ∧ Rd w 1 (.slice Au s.length cu) s.length (s.map byteV) ∧ Rd w 1 (.slice Av t.length cv) t.length (t.map byteV) := by
  obtain ⟨g, o, Au, cu, rfl, h1, h2, _⟩ := h.at_ hs
  obtain ⟨g', o', Av, cv, e, h3, h4, _⟩ := h.at_ ht
  injection e with e
  injection e with e1 e2
  subst e1 e2
  exact ⟨g, o, Au, cu, Av, cv, rfl, h1, h3, h2, h4⟩
end

section
open Go.RowKit

theorem NewO.app {W wr w5 w6 : World} {xs ys : List UInt8} {A A' : Option Addr} {c c' : Nat} (h : NewO W xs A c wr) (h5 : Upd NoF wr w5) (ho : Own w6 5 1 (.slice A' (xs.length + ys.length) c') (xs.length + ys.length) (xs.map byteV ++ ys.map byteV)) (hu : Upd (OwnB (.slice A xs.length c)) w5 w6) (hn : ∀ k, OwnB (.slice A' (xs.length + ys.length) c') k → OwnB (.slice A xs.length c) k ∨ w5.heap.size ≤ k) : NewO W (xs ++ ys) A' c' w6 := by
  obtain ⟨h1, h2, h3⟩ := h
  have e : (xs ++ ys).length = xs.length + ys.length := List.length_append
  have hs := h3.size
  have hs5 := h5.size
  refine ⟨by rw [e, List.map_append]; exact ho, fun k hk => ?_, (h3.trans h5 (fun _ _ f => f)).trans hu (fun k hk f => by have := h2 k f; omega)⟩
  rw [e] at hk
  rcases hn k hk with f | f
  · exact h2 k f
  · omega
theorem NewO.own {W wr w5 : World} {xs : List UInt8} {A : Option Addr} {c : Nat} (h : NewO W xs A c wr) (h5 : Upd NoF wr w5) : Own w5 5 1 (.slice A xs.length c) xs.length (xs.map byteV) := h.1.upd h5 (fun _ _ f => f)
theorem NewO.from_ {W0 W w : World} {xs : List UInt8} {A : Option Addr} {c : Nat} (h : NewO W xs A c w) (h0 : Upd NoF W0 W) : NewO W0 xs A c w := ⟨h.1, fun k hk => Nat.le_trans h0.size (h.2.1 k hk), h0.trans h.2.2 (fun _ _ f => f)⟩
/-- What Encode returns. -/
def EncPost (w : World) (r : List UInt8 × Int) (e : Ending) (w' : World) : Prop := ∃ A c, e = .returned (.tuple #[.slice A r.1.length c, .int .i64 r.2]) ∧ NewO w r.1 A c w'
def encVs (l : List SignedS) (k : Nat) : List UInt8 := beB l.length 4 ++ ((l.take k).map encS).flatten
def encTs (x : List UInt8) (l : List (List UInt8)) (k : Nat) : List UInt8 := x ++ beB l.length 4 ++ ((l.take k).map encT).flatten
def EvRel (l : List SignedS) (W : World) (b i : Value) (wr : World) : Prop :=
  ∃ (k : Nat) (A : Option Addr) (c : Nat), i = .int .i64 k ∧ k ≤ l.length ∧ b = .slice A (encVs l k).length c ∧ NewO W (encVs l k) A c wr ∧ ∀ (j : Nat) s, j < k → l[j]? = some s → okS s = true
def EtRel (x : List UInt8) (l : List (List UInt8)) (W : World) (b i : Value) (wr : World) : Prop :=
  ∃ (k : Nat) (A : Option Addr) (c : Nat), i = .int .i64 k ∧ k ≤ l.length ∧ b = .slice A (encTs x l k).length c ∧ NewO W (encTs x l k) A c wr ∧ ∀ (j : Nat) s, j < k → l[j]? = some s → okT s = true
end

section
open Go.RowKit
attribute [local go_sem ↓] Go.wp_at_zero Go.wp_at_succ

/-- A cursor over v at a. -/
def CurB (w : World) (g : Nat) (v : Value) (a : Nat) (bad : Bool) : Prop := Blk w g 229 #[v, .int .i64 (a : Int), .bool bad]
theorem CurB.lt {w : World} {g : Nat} {v : Value} {a : Nat} {bad : Bool} (h : CurB w g v a bad) : g < w.heap.size := Blk.lt h

theorem CurB.move {w : World} {g : Nat} {v : Value} {a : Nat} {bad : Bool} (h : CurB w g v a bad) {x : Int} {a' : Nat} (hx : x = a') : CurB (w.setCell ⟨g, 1, none⟩ (.int .i64 x)) g v a' bad := by
  subst hx
  have := Blk.put h 1 (.int .i64 (a' : Int))
  unfold CurB
  simpa using this
theorem CurB.spoil {w : World} {g : Nat} {v : Value} {a : Nat} {bad : Bool} (h : CurB w g v a bad) : CurB (w.setCell ⟨g, 2, none⟩ (.bool true)) g v a true := by
  have := Blk.put h 2 (.bool true)
  unfold CurB
  simpa using this
theorem CurB.drewN {w : World} {g : Nat} {v : Value} {a : Nat} {bad : Bool} (h : CurB w g v a bad) (n : Nat) : CurB (w.drewN n) g v a bad := h
theorem curNew_any (v : Value) (n c : Nat) (A : Option Addr) (hv : v = .slice A n c) (w : World) : Calls Tryz.prog 161 #[v] w fun e w' => e = .returned (ptrV w.heap.size) ∧ CurB w' w.heap.size v 0 false ∧ Upd NoF w w' := by
  subst hv
  go_enter Tryz.func161, Tryz.ntmps161
  go_wp2
  go_ret
  exact ⟨rfl, Blk.new w _ _, (Upd.refl NoF w).alloc _⟩

set_option maxRecDepth 100000 in
set_option maxHeartbeats 4000000 in
theorem curDone_any {w : World} {g n c : Nat} {A : Option Addr} {a : Nat} {bad : Bool} (h : CurB w g (.slice A n c) a bad) : Calls Tryz.prog 131 #[ptrV g] w fun e w' => e = .returned (.bool (!bad && decide (a = n))) ∧ Upd NoF w w' := by
  have c0 : w.cell? ⟨g, 0, none⟩ = some (.slice A n c) := Blk.cell h 0
  have c1 : w.cell? ⟨g, 1, none⟩ = some (.int .i64 (a : Int)) := Blk.cell h 1
  have c2 : w.cell? ⟨g, 2, none⟩ = some (.bool bad) := Blk.cell h 2
  clear h
  cases bad with
  | true =>
    go_enter Tryz.func131, Tryz.ntmps131
    go_wp2
    go_quiet (fail)
    go_wp2
    go_ret
    exact ⟨rfl, (Upd.refl NoF w).drewN _⟩
  | false =>
    by_cases he : a = n
    · have t1 : ((a : Int) == (n : Int)) = true := by simp [he]
      have E := Lib.hid (show true = (!false && decide (a = n)) by simp [he])
      generalize (!false && decide (a = n)) = Z at E ⊢
      clear he
      go_enter Tryz.func131, Tryz.ntmps131
      go_wp2
      go_quiet (fail)
      go_wp2
      go_ret
      exact ⟨retb E.out, (Upd.refl NoF w).drewN _⟩
    · have t1 : ((a : Int) == (n : Int)) = false := by simp; omega
      have E := Lib.hid (show false = (!false && decide (a = n)) by simp [he])
      generalize (!false && decide (a = n)) = Z at E ⊢
      clear he
      go_enter Tryz.func131, Tryz.ntmps131
      go_wp2
      go_quiet (fail)
      go_wp2
      go_ret
      exact ⟨retb E.out, (Upd.refl NoF w).drewN _⟩

def UintOk (w : World) (g : Nat) (v : Value) (a x : Nat) (e : Ending) (w' : World) : Prop := e = .returned (.int .i64 (x : Int)) ∧ CurB w' g v (a + 4) false ∧ Upd (fun k => k = g) w w'
def UintBad (w : World) (g : Nat) (v : Value) (a : Nat) (e : Ending) (w' : World) : Prop := e = .returned (.int .i64 0) ∧ CurB w' g v a true ∧ Upd (fun k => k = g) w w'


def FixOk (w : World) (g : Nat) (v : Value) (a n : Nat) (r : List UInt8) (e : Ending) (w' : World) : Prop := ∃ A c, e = .returned (.slice A r.length c) ∧ Rd w' 1 (.slice A r.length c) r.length (r.map byteV) ∧ CurB w' g v (a + n) false ∧ Upd (fun k => k = g) w w'
def FixBad (w : World) (g : Nat) (v : Value) (a : Nat) (e : Ending) (w' : World) : Prop := e = .returned (.slice none 0 0) ∧ CurB w' g v a true ∧ Upd (fun k => k = g) w w'


def FxV (w : World) (bs : List UInt8) (a : Nat) (v : Value) (w' : World) : Prop := ∃ A c, v = .slice A 393 c ∧ Own w' 5 1 (.slice A 393 c) 393 (((bs.drop a).take 393).map byteV) ∧ ∀ k, OwnB (.slice A 393 c) k → w.heap.size ≤ k
def BytOk (w : World) (g : Nat) (v : Value) (a : Nat) (r : List UInt8) (e : Ending) (w' : World) : Prop := ∃ A c, e = .returned (.slice A r.length c) ∧ RdF (fun k => k < w.heap.size) w' 1 (.slice A r.length c) r.length (r.map byteV) ∧ CurB w' g v a false ∧ Upd (fun k => k = g) w w'
end

section
open Go.RowKit

/-- Signed votes that are being collected; F: the blocks that may be written meanwhile. -/
def SgM (w : World) (F : Nat → Prop) (A : Option Addr) (c : Nat) (l : List SignedS) : Prop :=
  (∀ s ∈ l, s.vote.Fit) ∧ ∃ us : List Value, us.length = l.length ∧ Own w 308 23 (.slice A l.length c) l.length (List.zipWith rowS l us).flatten ∧ ∀ (i : Nat) s, l[i]? = some s → ∃ u, us[i]? = some u ∧ RdF F w 1 u s.sig.length (s.sig.map byteV)
/-- Texts that are being collected. -/
def TxM (w : World) (F : Nat → Prop) (A : Option Addr) (c : Nat) (l : List (List UInt8)) : Prop :=
  ∃ us : List Value, us.length = l.length ∧ Own w 52 1 (.slice A l.length c) l.length us ∧ (∀ u ∈ us, u.oneCell' = true) ∧ ∀ (i : Nat) s, l[i]? = some s → ∃ u, us[i]? = some u ∧ RdF F w 1 u s.length (s.map byteV)
section
variable {w w' w5 w6 : World} {F G : Nat → Prop} {A A' : Option Addr} {c c' : Nat}
theorem SgM.nil (w : World) (F : Nat → Prop) : SgM w F none 0 [] := ⟨by simp, [], rfl, Own.nil _ _ _, fun _ _ h => by cases h⟩
theorem TxM.nil (w : World) (F : Nat → Prop) : TxM w F none 0 [] := ⟨[], rfl, Own.nil _ _ _, by simp, fun _ _ h => by cases h⟩
theorem SgM.upd {l : List SignedS} (h : SgM w F A c l) (hu : Upd G w w') (h1 : ∀ k, OwnB (.slice A l.length c) k → ¬ G k) (h2 : ∀ i, i < w.heap.size → G i → F i) : SgM w' F A c l := by
  obtain ⟨hf, us, e1, e2, e3⟩ := h
  refine ⟨hf, us, e1, e2.upd hu h1, fun i s hs => ?_⟩
  obtain ⟨u, a, b⟩ := e3 i s hs
  exact ⟨u, a, b.upd (hu.mono h2)⟩
theorem TxM.upd {l : List (List UInt8)} (h : TxM w F A c l) (hu : Upd G w w') (h1 : ∀ k, OwnB (.slice A l.length c) k → ¬ G k) (h2 : ∀ i, i < w.heap.size → G i → F i) : TxM w' F A c l := by
  obtain ⟨us, e1, e2, e0, e3⟩ := h
  refine ⟨us, e1, e2.upd hu h1, e0, fun i s hs => ?_⟩
  obtain ⟨u, a, b⟩ := e3 i s hs
  exact ⟨u, a, b.upd (hu.mono h2)⟩
theorem SgM.to {l : List SignedS} (h : SgM w F A c l) (h2 : ∀ i, i < w.heap.size → G i → F i) : SgM w G A c l := by
  obtain ⟨hf, us, e1, e2, e3⟩ := h
  refine ⟨hf, us, e1, e2, fun i s hs => ?_⟩
  obtain ⟨u, a, b⟩ := e3 i s hs
  exact ⟨u, a, b.mono h2⟩
theorem TxM.to {l : List (List UInt8)} (h : TxM w F A c l) (h2 : ∀ i, i < w.heap.size → G i → F i) : TxM w G A c l := by
  obtain ⟨us, e1, e2, e0, e3⟩ := h
  refine ⟨us, e1, e2, e0, fun i s hs => ?_⟩
  obtain ⟨u, a, b⟩ := e3 i s hs
  exact ⟨u, a, b.mono h2⟩
theorem SgM.rd {l : List SignedS} (h : SgM w F A c l) : SgR w (.slice A l.length c) l := by
  obtain ⟨hf, us, e1, e2, e3⟩ := h
  refine ⟨hf, us, e1, e2.rd, fun i s hs => ?_⟩
  obtain ⟨u, a, b⟩ := e3 i s hs
  exact ⟨u, a, b.now⟩
theorem TxM.rd {l : List (List UInt8)} (h : TxM w F A c l) : TxR w (.slice A l.length c) l := by
  obtain ⟨us, e1, e2, e0, e3⟩ := h
  refine ⟨us, e1, e2.rd, fun i s hs => ?_⟩
  obtain ⟨u, a, b⟩ := e3 i s hs
  exact ⟨u, a, b.now⟩
theorem SgM.lt {l : List SignedS} (h : SgM w F A c l) {k : Nat} (hk : OwnB (.slice A l.length c) k) : k < w.heap.size := by
  obtain ⟨hf, us, e1, e2, e3⟩ := h
  exact e2.lt hk
theorem TxM.lt {l : List (List UInt8)} (h : TxM w F A c l) {k : Nat} (hk : OwnB (.slice A l.length c) k) : k < w.heap.size := by
  obtain ⟨us, e1, e2, e0, e3⟩ := h
  exact e2.lt hk
theorem zip_snoc {l : List SignedS} {us : List Value} (h : us.length = l.length) (s : SignedS) (u : Value) : (List.zipWith rowS (l ++ [s]) (us ++ [u])).flatten = (List.zipWith rowS l us).flatten ++ rowS s u := by
  rw [List.zipWith_append h.symm]
  simp
/-- One more signed vote; hF: what may be written from now on was so before, or is new. -/
theorem SgM.push {l : List SignedS} {s : SignedS} {u : Value} {us : List Value} (hf : ∀ s ∈ l, s.vote.Fit) (e1 : us.length = l.length) (e3 : ∀ (i : Nat) s, l[i]? = some s → ∃ u, us[i]? = some u ∧ RdF F w5 1 u s.sig.length (s.sig.map byteV)) (hs : s.vote.Fit) (hu : RdF F w5 1 u s.sig.length (s.sig.map byteV)) (hA : ∀ k, OwnB (.slice A l.length c) k → F k)
    (happ : Own w6 308 23 (.slice A' (l.length + 1) c') (l.length + 1) ((List.zipWith rowS l us).flatten ++ rowS s u)) (hup : Upd (OwnB (.slice A l.length c)) w5 w6) (hG : ∀ i, i < w5.heap.size → G i → F i) : SgM w6 G A' c' (l ++ [s]) := by
  have hupF : Upd F w5 w6 := hup.mono (fun k _ f => hA k f)
  refine ⟨?_, us ++ [u], by simp [e1], ?_, fun i x hx => ?_⟩
  · intro x hx
    rcases List.mem_append.1 hx with h | h
    · exact hf x h
    · simp at h; rw [h]; exact hs
  · rw [zip_snoc e1, List.length_append, List.length_singleton]
    exact happ
  · rcases Nat.lt_or_ge i l.length with hlt | hge
    · rw [List.getElem?_append_left hlt] at hx
      obtain ⟨v, a, b⟩ := e3 i x hx
      exact ⟨v, by rw [List.getElem?_append_left (by omega)]; exact a, b.upd' hupF hG⟩
    · rw [List.getElem?_append_right hge] at hx
      have h0 : i - l.length = 0 := by have := (List.getElem?_eq_some_iff.1 hx).1; simp at this; omega
      rw [h0] at hx
      simp at hx
      subst hx
      exact ⟨u, by rw [List.getElem?_append_right (by omega)]; simp [show i - us.length = 0 by omega], hu.upd' hupF hG⟩
theorem TxM.push {l : List (List UInt8)} {s : List UInt8} {u : Value} {us : List Value} (e0 : ∀ u ∈ us, u.oneCell' = true) (e1 : us.length = l.length) (e3 : ∀ (i : Nat) s, l[i]? = some s → ∃ u, us[i]? = some u ∧ RdF F w5 1 u s.length (s.map byteV)) (h1 : u.oneCell' = true) (hu : RdF F w5 1 u s.length (s.map byteV)) (hA : ∀ k, OwnB (.slice A l.length c) k → F k)
    (happ : Own w6 52 1 (.slice A' (l.length + 1) c') (l.length + 1) (us ++ [u])) (hup : Upd (OwnB (.slice A l.length c)) w5 w6) (hG : ∀ i, i < w5.heap.size → G i → F i) : TxM w6 G A' c' (l ++ [s]) := by
  have hupF : Upd F w5 w6 := hup.mono (fun k _ f => hA k f)
  refine ⟨us ++ [u], by simp [e1], ?_, ?_, fun i x hx => ?_⟩
  · rw [List.length_append, List.length_singleton]
    exact happ
  · intro x hx
    rcases List.mem_append.1 hx with h | h
    · exact e0 x h
    · simp at h; rw [h]; exact h1
  · rcases Nat.lt_or_ge i l.length with hlt | hge
    · rw [List.getElem?_append_left hlt] at hx
      obtain ⟨v, a, b⟩ := e3 i x hx
      exact ⟨v, by rw [List.getElem?_append_left (by omega)]; exact a, b.upd' hupF hG⟩
    · rw [List.getElem?_append_right hge] at hx
      have h0 : i - l.length = 0 := by have := (List.getElem?_eq_some_iff.1 hx).1; simp at this; omega
      rw [h0] at hx
      simp at hx
      subst hx
      exact ⟨u, by rw [List.getElem?_append_right (by omega)]; simp [show i - us.length = 0 by omega], hu.upd' hupF hG⟩
end

/-! ### decoding on plain data, step by step -/
theorem decVotes_no {r : Nat} {b : List UInt8} (h : okDec (b.take 393) = false) : decVotes (r + 1) b = none := by
  rw [decVotes]
  by_cases hl : b.length < 393
  · rw [if_pos hl]
  · rw [if_neg hl]
    unfold okDec at h
    rw [show decide ((b.take 393).length = 393) = true by simp; omega, Bool.true_and] at h
    rw [if_neg]
    intro e
    have : validB (decV ((b.take 393).take 23)) = true := e
    rw [h] at this
    cases this
theorem decVotes_yes {r : Nat} {b : List UInt8} (h : okDec (b.take 393) = true) : decVotes (r + 1) b = (decVotes r (b.drop 393)).map (fun p => (decS (b.take 393) :: p.1, p.2)) := by
  unfold okDec at h
  rw [Bool.and_eq_true, decide_eq_true_eq] at h
  have hl : 393 ≤ b.length := by have := h.1; simp at this; omega
  rw [decVotes, if_neg (by omega), if_pos (show validB (decS (b.take 393)).vote = true from h.2)]
/-- Where the votes stand. -/
def VAt (bs : List UInt8) (N : Nat) (vs : List SignedS) (r a : Nat) : Prop := vs.length + r = N ∧ a = 4 + 393 * vs.length ∧ a ≤ bs.length ∧ decVotes N (bs.drop 4) = (decVotes r (bs.drop a)).map (fun p => (vs ++ p.1, p.2))
theorem VAt.start {bs : List UInt8} (h : 4 ≤ bs.length) (N : Nat) : VAt bs N [] N 4 := by
  refine ⟨by simp, rfl, h, ?_⟩
  cases decVotes N (bs.drop 4) <;> simp
theorem VAt.fail {bs : List UInt8} {N r a : Nat} {vs : List SignedS} (h : VAt bs N vs (r + 1) a) (hk : okDec ((bs.drop a).take 393) = false) : decVotes N (bs.drop 4) = none := by
  rw [h.2.2.2, decVotes_no hk]
  rfl
theorem VAt.next {bs : List UInt8} {N r a : Nat} {vs : List SignedS} (h : VAt bs N vs (r + 1) a) (hk : okDec ((bs.drop a).take 393) = true) : VAt bs N (vs ++ [decS ((bs.drop a).take 393)]) r (a + 393) := by
  obtain ⟨h1, h2, h3, h4⟩ := h
  have hl : a + 393 ≤ bs.length := by
    unfold okDec at hk
    rw [Bool.and_eq_true, decide_eq_true_eq] at hk
    have := hk.1
    simp at this
    omega
  refine ⟨by simp; omega, by simp; omega, hl, ?_⟩
  rw [h4, decVotes_yes hk, List.drop_drop]
  cases decVotes r (bs.drop (a + 393)) <;> simp
def TAt (bs : List UInt8) (a0 N : Nat) (ts : List (List UInt8)) (r a : Nat) : Prop := ts.length + r = N ∧ a0 + 2 * ts.length ≤ a ∧ a ≤ bs.length ∧ decTexts N (bs.drop a0) = (decTexts r (bs.drop a)).map (fun p => (ts ++ p.1, p.2))
theorem TAt.start {bs : List UInt8} {a0 : Nat} (h : a0 ≤ bs.length) (N : Nat) : TAt bs a0 N [] N a0 := by
  refine ⟨by simp, by simp, h, ?_⟩
  cases decTexts N (bs.drop a0) <;> simp
theorem TAt.fail {bs : List UInt8} {a0 N r a : Nat} {ts : List (List UInt8)} (h : TAt bs a0 N ts (r + 1) a) (hb : bs.length < a + 2 ∨ a + 2 ≤ bs.length ∧ bs.length < a + 2 + be ((bs.drop a).take 2)) : decTexts N (bs.drop a0) = none := by
  obtain ⟨h1, h2, h3, h4⟩ := h
  rw [h4, decTexts]
  rcases hb with hb | ⟨hb, hc⟩
  · rw [if_pos (by simp; omega)]; rfl
  · rw [if_neg (by simp; omega), if_pos (by simp; omega)]; rfl
theorem TAt.next {bs : List UInt8} {a0 N r a n : Nat} {ts : List (List UInt8)} (h : TAt bs a0 N ts (r + 1) a) (hn : be ((bs.drop a).take 2) = n) (h2' : a + 2 ≤ bs.length) (hb : a + 2 + n ≤ bs.length) : TAt bs a0 N (ts ++ [(bs.drop (a + 2)).take n]) r (a + 2 + n) := by
  obtain ⟨h1, h2, h3, h4⟩ := h
  refine ⟨by simp; omega, by simp; omega, hb, ?_⟩
  rw [h4, decTexts, if_neg (by simp; omega), if_neg (by simp [hn]; omega), hn, List.drop_drop, List.drop_drop, show a + (2 + n) = a + 2 + n by omega]
  cases decTexts r (bs.drop (a + 2 + n)) <;> simp
theorem VAt.fin {bs : List UInt8} {N a : Nat} {vs : List SignedS} (h : VAt bs N vs 0 a) : decVotes N (bs.drop 4) = some (vs, bs.drop a) := by
  rw [h.2.2.2, decVotes]
  simp
theorem TAt.fin {bs : List UInt8} {a0 N a : Nat} {ts : List (List UInt8)} (h : TAt bs a0 N ts 0 a) : decTexts N (bs.drop a0) = some (ts, bs.drop a) := by
  rw [h.2.2.2, decTexts]
  simp
end

section
open Go.RowKit

abbrev nil2 : Array Value := #[.slice none 0 0, .slice none 0 0]
/-- What Decode returns. -/
def DecPost (w : World) : Option ViewS → Ending → World → Prop
  | none, e, w' => e = .returned (.tuple #[.agg nil2, .int .i64 4]) ∧ Upd NoF w w'
  | some V, e, w' => ∃ a b, e = .returned (.tuple #[.agg #[a, b], .int .i64 0]) ∧ (∀ w'', Upd (fun k => k < w.heap.size) w' w'' → VwR w'' a b V) ∧ Upd NoF w w'
end

section
open Go.RowKit

/-- What op number i is owed: L says which operations have run; W what the world is like then. -/
def OpStepL (P : Program) (l : List Oper) (R : Nat → Value → World → Prop) (St : (Nat → Bool) → World → World → Prop) (W : (Nat → Bool) → World → Prop) (ρ0 : Operand → Value) (i : Nat) (o : Oper) : Prop :=
  ∀ (ρ : Operand → Value) (w : World) (L : Nat → Bool), W L w → L i = false → (∀ j k, L j = true → depOn l j k = true → L k = true) → (∀ k, depOn l i k = true → L k = true) → (∀ j oj, l[j]? = some oj → depOn l i j = true → R j (slotV ρ oj) w) → (∀ t, extOk l i t = true → ρ (.tmp t) = ρ0 (.tmp t)) → (∀ v, ρ (.const v) = v) → (∀ g, ρ (.global g) = .pointer (some ⟨g, 0, none⟩)) → (∀ f, ρ (.func f) = .func (.func f) #[] #[]) →
    if wantedR l o ρ = true then OpDone P o ρ w (fun v w' => R i (leftV o v) w' ∧ St L w w' ∧ W (fun j => j == i || L j) w') else R i undef w ∧ W (fun j => j == i || L j) w

def AllOpsL (P : Program) (l : List Oper) (R : Nat → Value → World → Prop) (St : (Nat → Bool) → World → World → Prop) (W : (Nat → Bool) → World → Prop) (ρ0 : Operand → Value) : Nat → List Oper → Prop
  | _, [] => True
  | i, o :: r => OpStepL P l R St W ρ0 i o ∧ AllOpsL P l R St W ρ0 (i + 1) r

section
variable {P : Program} {l : List Oper} {R : Nat → Value → World → Prop} {St : (Nat → Bool) → World → World → Prop} {W : (Nat → Bool) → World → Prop} {a0 : Act}

theorem AllOpsL.get {ρ0 : Operand → Value} : ∀ {r : List Oper} {k : Nat}, AllOpsL P l R St W ρ0 k r → ∀ {i : Nat} {o : Oper}, r[i]? = some o → OpStepL P l R St W ρ0 (k + i) o
  | [], _, _, i, o, h => by cases h
  | x :: r, k, h, 0, o, hi => by
    simp at hi
    subst hi
    exact h.1
  | x :: r, k, h, i + 1, o, hi => by
    have := AllOpsL.get h.2 (i := i) (o := o) (by simpa using hi)
    rw [show k + (i + 1) = k + 1 + i by omega]
    exact this

theorem RgAt.stepL (st_refl : ∀ L w, St L w w) (keep : ∀ L i v w w', L i = true → R i v w → St L w w' → R i v w') (hdi : distinctB l = true) (hdst : ∀ o ∈ l, ∀ d, o.dst = some d → d < a0.tmps.size) {Q : Exit → Act → World → Prop} (hops : AllOpsL P l R St W a0.eval 0 l) {listed : Array Bool} {a : Act} {w : World} (h : RgAt l R W a0 listed a w) {i : Nat} {o : Oper} (ho : l[i]? = some o) (hun : listed[i]? = some false) (hrdy : ∀ k, depOn l i k = true → listed[k]? = some true) :
    if Region.wanted o (yielded l.toArray a.tmps) then o.wp P a w (fun a' w' => RgAt l R W a0 (listed.setIfInBounds i true) a' w') Q else RgAt l R W a0 (listed.setIfInBounds i true) (a.put o.dst undef) w := by
  have hi : i < listed.size := (Array.getElem?_eq_some_iff.1 hun).1
  have hs := (hops.get ho) a.eval w (lst listed) h.st (by simp [lst, hun]) (fun j k hj hk => by unfold lst at hj ⊢; rw [beq_iff_eq] at hj ⊢; exact h.closed j k hj hk) (fun k hk => by unfold lst; rw [beq_iff_eq]; exact hrdy k (by simpa using hk)) (fun j oj hj hd => h.done j oj hj (hrdy j (by simpa using hd))) (fun t ht => by
    have hx := h.ext t (fun j oj hj hd => by
      have hdep := extFrom_get ht hj hd
      rw [Nat.zero_add, Nat.zero_add] at hdep
      have hjl : j < listed.size := by rw [h.ls]; exact (List.getElem?_eq_some_iff.1 hj).1
      rw [Array.getElem?_eq_getElem hjl]
      cases hb : listed[j] with
      | false => rfl
      | true =>
        have := h.closed j i (by rw [Array.getElem?_eq_getElem hjl, hb]) hdep
        rw [hun] at this
        cases this)
    simp only [Act.eval, Array.getD_eq_getD_getElem?, hx]) (fun _ => rfl) (fun _ => rfl) (fun _ => rfl)
  rw [Nat.zero_add] at hs
  have hlst : lst (listed.setIfInBounds i true) = fun j => j == i || lst listed j := by
    funext j
    unfold lst
    by_cases hji : j = i
    · subst hji; simp [hi]
    · rw [Array.getElem?_setIfInBounds_ne (fun e => hji e.symm)]; simp [hji]
  have next : ∀ v w', R i (leftV o v) w' → St (lst listed) w w' → W (fun j => j == i || lst listed j) w' → RgAt l R W a0 (listed.setIfInBounds i true) (a.put o.dst v) w' := by
    intro v w' hv hst hW
    have hset : ∀ j, j ≠ i → (listed.setIfInBounds i true)[j]? = listed[j]? := fun j hj => Array.getElem?_setIfInBounds_ne (fun e => hj e.symm)
    have hseti : (listed.setIfInBounds i true)[i]? = some true := by simp [hi]
    refine ⟨by simp [h.ls], by rw [put_size, h.size], by rw [put_defers, h.defers], by rw [hlst]; exact hW, ?_, ?_, ?_⟩
    · intro j oj hj hl
      by_cases hji : j = i
      · subst hji
        have e := ho.symm.trans hj
        have e := Option.some.inj e
        subst e
        have : slotV (a.put o.dst v).eval o = leftV o v := by
          unfold slotV leftV
          cases hd : o.dst with
          | none => rfl
          | some d =>
            have hlt : d < a.tmps.size := by rw [h.size]; exact hdst o (List.mem_of_getElem? ho) d hd
            simp only [Act.eval, Array.getD_eq_getD_getElem?, put_get_same a hlt]
            rfl
        rw [this]
        exact hv
      · rw [hset j hji] at hl
        have hr := h.done j oj hj hl
        have e : slotV (a.put o.dst v).eval oj = slotV a.eval oj := by
          unfold slotV
          cases hd : oj.dst with
          | none => rfl
          | some d =>
            have : o.dst ≠ some d := fun e => hji (distinct_get hdi hj ho hd e)
            simp only [Act.eval, Array.getD_eq_getD_getElem?, put_get_ne a this]
        rw [e]
        exact keep (lst listed) _ _ _ _ (by unfold lst; rw [hl]; rfl) hr hst
    · intro t ht
      have hne : o.dst ≠ some t := fun e => by
        have := ht i o ho e
        rw [hseti] at this
        cases this
      rw [put_get_ne a hne]
      refine h.ext t (fun j oj hj hd => ?_)
      have := ht j oj hj hd
      by_cases hji : j = i
      · subst hji; rw [hseti] at this; cases this
      · rw [hset j hji] at this; exact this
    · intro j k hj hd
      by_cases hji : j = i
      · subst hji
        have := hrdy k hd
        by_cases hki : k = j
        · subst hki; exact hseti
        · rw [hset k hki]; exact this
      · rw [hset j hji] at hj
        have := h.closed j k hj hd
        by_cases hki : k = i
        · subst hki; exact hseti
        · rw [hset k hki]; exact this
  rw [wanted_eq]
  by_cases hw : wantedR l o a.eval = true
  · rw [if_pos hw] at hs ⊢
    exact hs.wp (fun v w' ⟨h1, h2, h3⟩ => next v w' h1 h2 h3)
  · rw [if_neg hw] at hs ⊢
    have e : leftV o undef = undef := by unfold leftV; cases o.dst <;> rfl
    exact next undef w (by rw [e]; exact hs.1) (st_refl _ w) hs.2


theorem RgAt.anyL (st_refl : ∀ L w, St L w w) (keep : ∀ L i v w w', L i = true → R i v w → St L w w' → R i v w') (hac : acycFrom 0 l = true) (hdi : distinctB l = true) (hdst : ∀ o ∈ l, ∀ d, o.dst = some d → d < a0.tmps.size) {Q : Exit → Act → World → Prop} (hops : AllOpsL P l R St W a0.eval 0 l) (hend : ∀ (vs : Nat → Value) (w : World) (L : Nat → Bool), (∀ i, i < l.length → L i = true) → W L w → (∀ (i : Nat) o, l[i]? = some o → R i (leftV o (vs i)) w) → Q .normal (putAll l vs 0 a0) w) :
    ∀ (fuel : Nat) (listed : Array Bool) (a : Act) (w : World), unl listed.toList ≤ fuel → RgAt l R W a0 listed a w → wpAny P .any l.toArray Q fuel listed a w := by
  have fin : ∀ (listed : Array Bool) (a : Act) (w : World), RgAt l R W a0 listed a w → Region.ready .any l.toArray listed = [] → Q .normal a w := by
    intro listed a w h hr
    have hn := not_ready hac h.ls hr
    obtain ⟨vs, rfl, hv⟩ := h.fin hdi (fun b hb => by
      obtain ⟨i, hi⟩ := List.getElem?_of_mem hb
      have hlt : i < l.length := by rw [← h.ls]; have := (List.getElem?_eq_some_iff.1 hi).1; simpa using this
      have := hn i hlt
      have hi' : listed[i]? = some b := by simpa using hi
      rw [hi'] at this
      exact Option.some.inj this)
    exact hend vs w (lst listed) (fun i hi => by unfold lst; rw [beq_iff_eq]; exact hn i hi) h.st hv
  intro fuel
  induction fuel with
  | zero =>
    intro listed a w hu h
    have hz := unl_zero _ (by omega : unl listed.toList = 0)
    have hr : Region.ready .any l.toArray listed = [] := by
      apply List.eq_nil_iff_forall_not_mem.2
      intro i hi
      obtain ⟨o, _, h2, _⟩ := ready_iff h.ls hi
      have := hz false (List.mem_of_getElem? (i := i) (by simpa using h2))
      cases this
    exact ⟨hr, fin listed a w h hr⟩
  | succ fuel ih =>
    intro listed a w hu h
    refine ⟨fun hr => fin listed a w h hr, fun i hi => ?_⟩
    obtain ⟨o, h1, h2, h3⟩ := ready_iff h.ls hi
    have hs := h.stepL st_refl keep hdi hdst (Q := Q) hops h1 h2 h3
    have hun : unl (listed.setIfInBounds i true).toList ≤ fuel := by
      have := unl_set listed.toList i (by simpa using h2)
      rw [Array.toList_setIfInBounds]
      omega
    unfold wpOp
    simp only [List.getElem?_toArray, h1]
    split
    · rename_i hw
      rw [if_pos hw] at hs
      exact .inl (Oper.wp_mono (fun a' w' h' => ih _ a' w' hun h') hs)
    · rename_i hw
      rw [if_neg hw] at hs
      exact ih _ _ _ hun hs
end


theorem wp_region_rgl {P : Program} {l : List Oper} {a0 : Act} {w0 : World} {Q : Exit → Act → World → Prop} {id : Nat} (R : Nat → Value → World → Prop) (St : (Nat → Bool) → World → World → Prop) (W : (Nat → Bool) → World → Prop) (hm : P.follows .mixedOrders = true) (hac : acycFrom 0 l = true) (hdi : distinctB l = true) (hdst : (l.all fun o => match o.dst with | some d => decide (d < a0.tmps.size) | none => true) = true)
    (st_refl : ∀ L w, St L w w) (keep : ∀ L i v w w', L i = true → R i v w → St L w w' → R i v w') (hW : W (fun _ => false) w0.drew)
    (hops : AllOpsL P l R St W a0.eval 0 l) (hend : ∀ (vs : Nat → Value) (w : World) (L : Nat → Bool), (∀ i, i < l.length → L i = true) → W L w → (∀ (i : Nat) o, l[i]? = some o → R i (leftV o (vs i)) w) → Q .normal (putAll l vs 0 a0) w) : (Code.region id l.toArray true).wp P Q a0 w0 := by
  have hdst' : ∀ o ∈ l, ∀ d, o.dst = some d → d < a0.tmps.size := fun o ho d hd => by
    have := List.all_eq_true.1 hdst o ho
    rw [hd] at this
    simpa using this
  have hl0 : lst (Array.replicate l.length false) = fun _ => false := by
    funext j
    unfold lst
    rw [Array.getElem?_replicate]
    split <;> rfl
  refine wp_region_any hm ?_
  refine RgAt.anyL (R := R) (St := St) (W := W) (a0 := a0) st_refl keep hac hdi hdst' hops hend _ _ _ _ ?_ ?_
  · simp [unl_replicate]
  · refine ⟨by simp, rfl, rfl, by simp only [List.size_toArray]; rw [hl0]; exact hW, fun j oj _ h => ?_, fun _ _ => rfl, fun j k h => ?_⟩
    · rw [Array.getElem?_replicate] at h
      split at h
      · cases h
      · cases h
    · rw [Array.getElem?_replicate] at h
      split at h
      · cases h
      · cases h

def StbL (St : (Nat → Bool) → World → World → Prop) (i : Nat) (p : Value → World → Prop) : Prop := ∀ L v w w', L i = true → p v w → St L w w' → p v w'
def AllStbL (St : (Nat → Bool) → World → World → Prop) : Nat → List (Value → World → Prop) → Prop
  | _, [] => True
  | i, p :: l => StbL St i p ∧ AllStbL St (i + 1) l
theorem AllStbL.get {St : (Nat → Bool) → World → World → Prop} : ∀ {l : List (Value → World → Prop)} {k i : Nat} {p : Value → World → Prop}, AllStbL St k l → l[i]? = some p → StbL St (k + i) p
  | [], _, _, _, _, h => by cases h
  | x :: l, k, 0, p, h, hi => by simp at hi; subst hi; exact h.1
  | x :: l, k, i + 1, p, h, hi => by
    have := AllStbL.get h.2 (i := i) (p := p) (by simpa using hi)
    rw [show k + (i + 1) = k + 1 + i by omega]
    exact this
end

section
open Go.RowKit

theorem rgR_keepL {St : (Nat → Bool) → World → World → Prop} {ps : List (Value → World → Prop)} (h : AllStbL St 0 ps) : ∀ L i v w w', L i = true → rgR ps i v w → St L w w' → rgR ps i v w' := by
  intro L i v w w' hl h1 h2
  unfold rgR at *
  rw [List.getD_eq_getElem?_getD] at *
  cases hi : ps[i]? with
  | none => trivial
  | some p =>
    rw [hi] at h1
    have := h.get hi
    rw [Nat.zero_add] at this
    exact this L v w w' hl h1 h2
theorem stbL_isV {St : (Nat → Bool) → World → World → Prop} {i : Nat} (x : Value) : StbL St i (isV x) := fun _ _ _ _ _ h _ => h
theorem stbL_any {St : (Nat → Bool) → World → World → Prop} {i : Nat} : StbL St i anyV := fun _ _ _ _ _ _ _ => trivial
/-! ### cursors over signed votes and texts -/
/-- Fixed where no signed vote can be read. -/
def FixAny (w : World) (g : Nat) (v : Value) (e : Ending) (w' : World) : Prop := ∃ (x : List UInt8) (A : Option Addr) (c a' : Nat) (bad : Bool), e = .returned (.slice A x.length c) ∧ Rd w' 1 (.slice A x.length c) x.length (x.map byteV) ∧ okDec x = false ∧ CurB w' g v a' bad ∧ Upd (fun k => k = g) w w'
/-- Bytes in both cases. -/
def BytAny (w : World) (g : Nat) (v : Value) (x : List UInt8) (a' : Nat) (bad : Bool) (e : Ending) (w' : World) : Prop := ∃ A c, e = .returned (.slice A x.length c) ∧ RdF (fun k => k < w.heap.size) w' 1 (.slice A x.length c) x.length (x.map byteV) ∧ CurB w' g v a' bad ∧ Upd (fun k => k = g) w w'
/-! ### loop 1 -/
def OwnM (w : World) (M : Nat → Prop) (v : Value) : Prop := ∀ k, OwnB v k → M k ∧ w.heap.size ≤ k
section
variable {w wr w1 w5 w6 : World} {C Vb a a' : Nat} {v : Value} {M : Nat → Prop} {Av A' : Option Addr} {cv c' : Nat} {vs : List SignedS} {us : List Value} {s : SignedS} {u : Value}
end

/-! ### loop 2 -/
section
variable {w0 w w' : World} {C Vb a a' n ct : Nat} {v vb : Value} {bad' : Bool} {At : Option Addr} {R5 : Value → World → Prop} {L : Nat → Bool}
abbrev TxF (C Vb : Nat) (At : Option Addr) (n ct : Nat) : Nat → Prop := fun k => k = C ∨ k = Vb ∨ OwnB (.slice At n ct) k
/-- The step relation. -/
abbrev TxSt (C Vb : Nat) (At : Option Addr) (n ct : Nat) (L : Nat → Bool) (w w' : World) : Prop := Upd (TxF C Vb At n ct) w w' ∧ (L 5 = true → Upd (fun k => k = Vb) w w')
def TxR3 (S0 : Nat) (x : List UInt8) (v : Value) (w : World) : Prop := ∃ A c, v = .slice A x.length c ∧ RdF (fun k => k < S0) w 1 (.slice A x.length c) x.length (x.map byteV)
def TxR4 (S0 : Nat) (x : List UInt8) (v : Value) (w : World) : Prop := ∃ g u, v = .slice (some ⟨g, 0, none⟩) 1 1 ∧ Blk w g 52 #[u] ∧ S0 ≤ g ∧ u.oneCell' = true ∧ RdF (fun k => k < S0) w 1 u x.length (x.map byteV)
def TxR5 (S0 : Nat) (At : Option Addr) (n ct : Nat) (us : List Value) (x : List UInt8) (v : Value) (w : World) : Prop := ∃ A' c' u, v = .slice A' (n + 1) c' ∧ u.oneCell' = true ∧ Own w 52 1 (.slice A' (n + 1) c') (n + 1) (us ++ [u]) ∧ RdF (fun k => k < S0 ∨ OwnB (.slice A' (n + 1) c') k) w 1 u x.length (x.map byteV) ∧ ∀ k, OwnB (.slice A' (n + 1) c') k → OwnB (.slice At n ct) k ∨ S0 ≤ k
variable {S0 : Nat} {us : List Value} {x : List UInt8}
theorem TxR5.to (h : TxR5 S0 At n ct us x v w) (hF : ∀ k, TxF C Vb At n ct k → k < S0) (nV : ¬ OwnB (.slice At n ct) Vb) (hu : Upd (fun k => k = Vb) w w') : TxR5 S0 At n ct us x v w' := by
  obtain ⟨A', c', u, e, h1, h2, h3, h4⟩ := h
  have hV : Vb < S0 := hF Vb (.inr (.inl rfl))
  refine ⟨A', c', u, e, h1, h2.upd hu (fun k hk f => ?_), h3.upd (hu.mono (fun k _ f => by rw [show k = Vb from f]; exact .inl hV)), h4⟩
  rw [show k = Vb from f] at hk
  rcases h4 Vb hk with g | g
  · exact nV g
  · omega
end
section
variable {w wr wz : World} {C Vb a a' : Nat} {v : Value} {bad' : Bool} {M : Nat → Prop} {Av At : Option Addr} {cv ct : Nat} {vs : List SignedS} {ts : List (List UInt8)} {us : List Value} {x : List UInt8} {L : Nat → Bool}
end
end

section
open Go.RowKit
theorem SgM.res {w w' : World} {F G : Nat → Prop} {A : Option Addr} {c : Nat} {l : List SignedS} (h : SgM w F A c l) (hn : ∀ k, OwnB (.slice A l.length c) k → ¬ G k) (hg : ∀ k, G k → F k) (hu : Upd G w w') : SgR w' (.slice A l.length c) l := (SgM.upd h hu hn (fun k _ f => hg k f)).rd
theorem TxM.res {w w' : World} {F G : Nat → Prop} {A : Option Addr} {c : Nat} {l : List (List UInt8)} (h : TxM w F A c l) (hn : ∀ k, OwnB (.slice A l.length c) k → ¬ G k) (hg : ∀ k, G k → F k) (hu : Upd G w w') : TxR w' (.slice A l.length c) l := (TxM.upd h hu hn (fun k _ f => hg k f)).rd
end

section
open Go.RowKit

/-- A new slice of rows. -/
def NewR (w : World) (e : TypeId) (size n : Nat) (xs : List Value) (v : Value) (w' : World) : Prop := Own w' e size v n xs ∧ (∀ k, OwnB v k → w.heap.size ≤ k) ∧ Upd NoF w w'
def GrowPost (w : World) (e : TypeId) (size : Nat) (en : Ending) (w' : World) : Prop := ∃ A c, en = .returned (.slice A 0 c) ∧ NewR w e size 0 [] (.slice A 0 c) w'
def ConcatPost (w : World) (e : TypeId) (size n : Nat) (xs : List Value) (en : Ending) (w' : World) : Prop := ∃ A c, en = .returned (.slice A n c) ∧ NewR w e size n xs (.slice A n c) w'
theorem NewR.app {W wr w6 : World} {e : TypeId} {size n m : Nat} {xs ys : List Value} {A A' : Option Addr} {c c' : Nat} (h : NewR W e size n xs (.slice A n c) wr) (ho : Own w6 e size (.slice A' (n + m) c') (n + m) (xs ++ ys)) (hu : Upd (OwnB (.slice A n c)) wr w6) (hn : ∀ k, OwnB (.slice A' (n + m) c') k → OwnB (.slice A n c) k ∨ wr.heap.size ≤ k) : NewR W e size (n + m) (xs ++ ys) (.slice A' (n + m) c') w6 := by
  obtain ⟨h1, h2, h3⟩ := h
  have hs := h3.size
  refine ⟨ho, fun k hk => ?_, h3.trans hu (fun k hk f => by have := h2 k f; omega)⟩
  rcases hn k hk with f | f
  · exact h2 k f
  · omega
end

section
open Go.RowKit

/-- A block of one of these types. -/
def TyF (ts : List TypeId) (w : World) (k : Nat) : Prop := ∃ t ∈ ts, ∃ cs, Blk w k t cs
/-- Of the blocks that were there only those of the types ts may have turned. -/
def UpdT (ts : List TypeId) (w w' : World) : Prop := Upd (TyF ts w) w w'
section
variable {ts us : List TypeId} {w w' w'' : World}
theorem UpdT.refl (ts : List TypeId) (w : World) : UpdT ts w w := Upd.refl _ _
theorem UpdT.none (h : Upd NoF w w') : UpdT ts w w' := h.mono (fun _ _ f => f.elim)
theorem UpdT.of {F : Nat → Prop} (h : Upd F w w') (hF : ∀ k, F k → TyF ts w k) : UpdT ts w w' := h.mono (fun k _ f => hF k f)
theorem UpdT.trans (h : UpdT ts w w') (k : UpdT ts w' w'') : UpdT ts w w'' := by
  refine Upd.trans h k (fun i hi hf => ?_)
  rcases Classical.em (TyF ts w i) with hc | hc
  · exact hc
  · obtain ⟨t, ht, cs, hb⟩ := hf
    exact ⟨t, ht, cs, (h.block i hi hc).symm.trans hb⟩
theorem UpdT.mono (h : UpdT ts w w') (hs : ∀ t ∈ ts, t ∈ us) : UpdT us w w' := Upd.mono h (fun _ _ ⟨t, ht, hb⟩ => ⟨t, hs t ht, hb⟩)
theorem Blk.tyf {k : Nat} {t : TypeId} {cs : Array Value} (h : Blk w k t cs) (ht : t ∈ ts) : TyF ts w k := ⟨t, ht, cs, h⟩
theorem Blk.not_tyf {k : Nat} {t : TypeId} {cs : Array Value} (h : Blk w k t cs) (ht : t ∉ ts) : ¬ TyF ts w k := fun ⟨t', ht', cs', hb'⟩ => by
  unfold Blk at h hb'
  rw [h] at hb'
  injection hb' with hb'
  injection hb' with _ he
  exact ht (he ▸ ht')
theorem UpdT.blk {k : Nat} {t : TypeId} {cs : Array Value} (h : UpdT ts w w') (hb : Blk w k t cs) (ht : t ∉ ts) : Blk w' k t cs := Upd.blk h hb (hb.not_tyf ht)
theorem Own.tyf {e : TypeId} {size n : Nat} {v : Value} {xs : List Value} (h : Own w e size v n xs) (ht : e ∈ ts) {k : Nat} (hk : OwnB v k) : TyF ts w k := by
  rcases h.2 with ⟨rfl, _⟩ | ⟨g, cap, cur, rfl, hb, _⟩
  · simp [OwnB, Value.ownBlock] at hk
  · simp [OwnB, Value.ownBlock] at hk
    subst hk
    exact hb.tyf ht
theorem Own.not_tyf {e : TypeId} {size n : Nat} {v : Value} {xs : List Value} (h : Own w e size v n xs) (ht : e ∉ ts) {k : Nat} (hk : OwnB v k) : ¬ TyF ts w k := by
  rcases h.2 with ⟨rfl, _⟩ | ⟨g, cap, cur, rfl, hb, _⟩
  · simp [OwnB, Value.ownBlock] at hk
  · simp [OwnB, Value.ownBlock] at hk
    subst hk
    exact hb.not_tyf ht
theorem Own.updT {e : TypeId} {size n : Nat} {v : Value} {xs : List Value} (h : Own w e size v n xs) (hu : UpdT ts w w') (ht : e ∉ ts) : Own w' e size v n xs := h.upd hu (fun _ hk => h.not_tyf ht hk)
end
/-- A slice of bytes in a block of its own. -/
def OwnU (w : World) (v : Value) (x : List UInt8) : Prop := Own w 5 1 v x.length (x.map byteV)
def TxO (w : World) (A : Option Addr) (c : Nat) (l : List (List UInt8)) : Prop :=
  ∃ us : List Value, us.length = l.length ∧ Own w 52 1 (.slice A l.length c) l.length us ∧ (∀ u ∈ us, u.oneCell' = true) ∧ ∀ (i : Nat) s, l[i]? = some s → ∃ u, us[i]? = some u ∧ OwnU w u s
def SgO (w : World) (A : Option Addr) (c : Nat) (l : List SignedS) : Prop :=
  (∀ s ∈ l, s.vote.Fit) ∧ ∃ us : List Value, us.length = l.length ∧ Own w 308 23 (.slice A l.length c) l.length (List.zipWith rowS l us).flatten ∧ ∀ (i : Nat) s, l[i]? = some s → ∃ u, us[i]? = some u ∧ OwnU w u s.sig
/-- The block of a slice is new. -/
def OwnN (w : World) (v : Value) : Prop := ∀ k, OwnB v k → w.heap.size ≤ k
section
variable {ts : List TypeId} {w w' : World} {A : Option Addr} {c : Nat}
theorem TxO.nil (w : World) : TxO w none 0 [] := ⟨[], rfl, Own.nil _ _ _, by simp, fun _ _ h => by cases h⟩
theorem SgO.nil (w : World) : SgO w none 0 [] := ⟨by simp, [], rfl, Own.nil _ _ _, fun _ _ h => by cases h⟩
theorem OwnN.nil (w : World) : OwnN w (.slice none 0 0) := fun k hk => by simp [OwnB, Value.ownBlock] at hk
theorem TxO.updT {l : List (List UInt8)} (h : TxO w A c l) (hu : UpdT ts w w') (h1 : 52 ∉ ts) (h2 : 5 ∉ ts) : TxO w' A c l := by
  obtain ⟨us, e1, e2, e0, e3⟩ := h
  refine ⟨us, e1, e2.updT hu h1, e0, fun i s hs => ?_⟩
  obtain ⟨u, a, b⟩ := e3 i s hs
  exact ⟨u, a, b.updT hu h2⟩
theorem SgO.updT {l : List SignedS} (h : SgO w A c l) (hu : UpdT ts w w') (h1 : 308 ∉ ts) (h2 : 5 ∉ ts) : SgO w' A c l := by
  obtain ⟨hf, us, e1, e2, e3⟩ := h
  refine ⟨hf, us, e1, e2.updT hu h1, fun i s hs => ?_⟩
  obtain ⟨u, a, b⟩ := e3 i s hs
  exact ⟨u, a, b.updT hu h2⟩
theorem TxO.to {l : List (List UInt8)} (h : TxO w A c l) {M : Nat → Prop} (hM : ∀ k, M k → ∀ cs, ¬ Blk w k 5 cs) : TxM w M A c l := by
  obtain ⟨us, e1, e2, e0, e3⟩ := h
  refine ⟨us, e1, e2, e0, fun i s hs => ?_⟩
  obtain ⟨u, a, b⟩ := e3 i s hs
  refine ⟨u, a, b.rdF (fun k hk hm => ?_)⟩
  rcases b.2 with ⟨rfl, _⟩ | ⟨g, cap, cur, rfl, hb, _⟩
  · simp [OwnB, Value.ownBlock] at hk
  · simp [OwnB, Value.ownBlock] at hk
    subst hk
    exact hM _ hm _ hb
theorem SgO.to {l : List SignedS} (h : SgO w A c l) {M : Nat → Prop} (hM : ∀ k, M k → ∀ cs, ¬ Blk w k 5 cs) : SgM w M A c l := by
  obtain ⟨hf, us, e1, e2, e3⟩ := h
  refine ⟨hf, us, e1, e2, fun i s hs => ?_⟩
  obtain ⟨u, a, b⟩ := e3 i s hs
  refine ⟨u, a, b.rdF (fun k hk hm => ?_)⟩
  rcases b.2 with ⟨rfl, _⟩ | ⟨g, cap, cur, rfl, hb, _⟩
  · simp [OwnB, Value.ownBlock] at hk
  · simp [OwnB, Value.ownBlock] at hk
    subst hk
    exact hM _ hm _ hb
end
end

section
open Go.RowKit

/-- A slice of names, as it reads now. -/
def NmR (w : World) (v : Value) (l : List (List UInt8)) : Prop := (∀ n ∈ l, n.length = 8) ∧ Rd w 8 v l.length ((l.map (·.map byteV)).flatten)
/-- A slice of numbers. -/
def InR (w : World) (v : Value) (l : List Int) : Prop := (∀ z ∈ l, -9223372036854775808 ≤ z ∧ z ≤ 9223372036854775807) ∧ Rd w 1 v l.length (l.map (Value.int .i64))
section
variable {w w' : World}
theorem NmR.keep {v : Value} {l : List (List UInt8)} (h : NmR w v l) (hu : Upd NoF w w') : NmR w' v l := ⟨h.1, h.2.keep hu⟩
theorem InR.keep {v : Value} {l : List Int} (h : InR w v l) (hu : Upd NoF w w') : InR w' v l := ⟨h.1, h.2.keep hu⟩
theorem NmR.nil (w : World) : NmR w (.slice none 0 0) [] := ⟨by simp, Rd.nil w 8⟩
theorem InR.nil (w : World) : InR w (.slice none 0 0) [] := ⟨by simp, Rd.nil w 1⟩
theorem NmR.form {v : Value} {l : List (List UInt8)} (h : NmR w v l) : ∃ A c, v = .slice A l.length c ∧ l.length ≤ c ∧ c ≤ maxLen := by obtain ⟨A, c, e, h1, h2, -⟩ := h.2; exact ⟨A, c, e, h1, h2⟩
theorem InR.form {v : Value} {l : List Int} (h : InR w v l) : ∃ A c, v = .slice A l.length c ∧ l.length ≤ c ∧ c ≤ maxLen := by obtain ⟨A, c, e, h1, h2, -⟩ := h.2; exact ⟨A, c, e, h1, h2⟩
theorem NmR.at_ {A : Option Addr} {n c : Nat} {l : List (List UInt8)} (h : NmR w (.slice A n c) l) {i : Nat} {x : List UInt8} (hx : l[i]? = some x) : ∃ g o, A = some ⟨g, o, none⟩ ∧ w.rangeAt g (o + i * 8) (x.map byteV) := by
  obtain ⟨hl, A', c', e, h1, h2, h3, h4⟩ := h
  injection e with e1 e2 e3
  subst e1
  have hlt : i < l.length := (List.getElem?_eq_some_iff.1 hx).1
  obtain ⟨g, o, rfl, hc⟩ := h4 (by omega)
  refine ⟨g, o, rfl, fun j v hj => ?_⟩
  have hr : (l.map (·.map byteV))[i]? = some (x.map byteV) := by rw [List.getElem?_map, hx]; rfl
  have hj8 : j < 8 := by have := (List.getElem?_eq_some_iff.1 hj).1; rw [List.length_map, hl x (List.mem_of_getElem? hx)] at this; exact this
  have := flatten_at (k := 8) (fun r hr => by obtain ⟨y, hy, rfl⟩ := List.mem_map.1 hr; rw [List.length_map]; exact hl y hy) hr hj8
  rw [Nat.add_assoc]
  exact hc _ v (by rw [this]; exact hj)
theorem InR.at_ {A : Option Addr} {n c : Nat} {l : List Int} (h : InR w (.slice A n c) l) {i : Nat} {x : Int} (hx : l[i]? = some x) : ∃ g o, A = some ⟨g, o, none⟩ ∧ w.cell? ⟨g, o + i, none⟩ = some (.int .i64 x) := by
  obtain ⟨hl, A', c', e, h1, h2, h3, h4⟩ := h
  injection e with e1 e2 e3
  subst e1
  have hlt : i < l.length := (List.getElem?_eq_some_iff.1 hx).1
  obtain ⟨g, o, rfl, hc⟩ := h4 (by omega)
  exact ⟨g, o, rfl, hc i _ (by rw [List.getElem?_map, hx]; rfl)⟩
end
end

section
open Go.RowKit

/-- An entry: kind and id of its cell, the cell's lock, the amount. -/
structure DelS where
  kind : Int
  id : Int
  lock : List UInt8
  amt : Int
def cellC (d : DelS) : List Value := .int .i64 d.kind :: .int .i64 d.id :: d.lock.map byteV
def rowD (d : DelS) : List Value := cellC d ++ [.int .i64 d.amt]
def cmp3 (a b : Int) : Int := if a < b then -1 else if b < a then 1 else 0
def or3 (a b c : Int) : Int := if a = 0 then (if b = 0 then c else b) else a
/-- The order of cells. -/
def cmpC (a b : DelS) : Int := or3 (cmp3 a.kind b.kind) (cmp3 a.id b.id) (cmp3 (be a.lock) (be b.lock))
def In64 (z : Int) : Prop := -9223372036854775808 ≤ z ∧ z ≤ 9223372036854775807
structure DelS.Fit (d : DelS) : Prop where
  kind : In64 d.kind
  id : In64 d.id
  lock : d.lock.length = 8
  amt : In64 d.amt
theorem cellC_len {d : DelS} (h : d.Fit) : (cellC d).length = 10 := by simp [cellC, h.lock]
theorem rowD_len {d : DelS} (h : d.Fit) : (rowD d).length = 11 := by simp [rowD, cellC_len h]
theorem cellC_one (d : DelS) : ∀ u ∈ cellC d, u.oneCell' = true := by
  intro u hu
  simp only [cellC, List.mem_cons, List.mem_map] at hu
  rcases hu with rfl | rfl | ⟨b, -, rfl⟩ <;> rfl
theorem rowD_one (d : DelS) : ∀ u ∈ rowD d, u.oneCell' = true := by
  intro u hu
  rcases List.mem_append.1 hu with h | h
  · exact cellC_one d u h
  · simp only [List.mem_cons, List.not_mem_nil, or_false] at h
    subst h; rfl
def nm0 : List UInt8 := List.replicate 8 0
/-- The changes that make the first state. -/
def balD (l : List Int) : List DelS := (List.range l.length).map fun (i : Nat) => ⟨1, (i : Int), nm0, l.getD i 0⟩
def stkD (n : Nat) (s : Int) : List DelS := (List.range n).map fun (i : Nat) => ⟨3, (i : Int), nm0, s⟩
def genD (g : GenS) : List DelS := balD g.bals ++ stkD g.vals.length g.stake
def genCells (g : GenS) : List DelS := (genD g).filter fun d => decide (d.amt ≠ 0)
/-- Each entry's cell lies behind the cells of those before it. -/
def Asc (l : List DelS) : Prop := l.Pairwise fun a b => cmpC a b < 0
theorem cmp3_lt {a b : Int} (h : a < b) : cmp3 a b = -1 := by unfold cmp3; rw [if_pos h]
theorem cmp3_self (a : Int) : cmp3 a a = 0 := by unfold cmp3; rw [if_neg (by omega), if_neg (by omega)]
theorem asc_bal (l : List Int) : Asc (balD l) := by
  unfold Asc balD
  rw [List.pairwise_map]
  refine List.Pairwise.imp ?_ List.pairwise_lt_range
  intro a b h
  unfold cmpC or3
  rw [cmp3_self, if_pos rfl, cmp3_lt (show (a : Int) < (b : Int) by omega)]
  simp
theorem asc_stk (n : Nat) (s : Int) : Asc (stkD n s) := by
  unfold Asc stkD
  rw [List.pairwise_map]
  refine List.Pairwise.imp ?_ List.pairwise_lt_range
  intro a b h
  unfold cmpC or3
  rw [cmp3_self, if_pos rfl, cmp3_lt (show (a : Int) < (b : Int) by omega)]
  simp
theorem asc_gen (g : GenS) : Asc (genD g) := by
  unfold Asc genD
  rw [List.pairwise_append]
  refine ⟨asc_bal _, asc_stk _ _, ?_⟩
  intro a ha b hb
  unfold balD at ha
  unfold stkD at hb
  obtain ⟨i, -, rfl⟩ := List.mem_map.1 ha
  obtain ⟨j, -, rfl⟩ := List.mem_map.1 hb
  unfold cmpC or3
  rw [cmp3_lt (show (1 : Int) < 3 by decide)]
  simp
end

section
open Go.RowKit

theorem NewR.fresh (w : World) (e : TypeId) (size : Nat) : NewR w e size 0 [] (.slice (some ⟨w.heap.size, 0, none⟩) 0 0) (w.alloc (.cells #[] e)) :=
  ⟨Own.fresh w e size, fun k hk => by simp [OwnB, Value.ownBlock] at hk; omega, (Upd.refl NoF w).alloc _⟩
theorem NewR.keep {W w w' : World} {e : TypeId} {size n : Nat} {xs : List Value} {v : Value} (h : NewR W e size n xs v w) (hu : Upd NoF w w') : NewR W e size n xs v w' := ⟨h.1.upd hu (fun _ _ f => f), h.2.1, h.2.2.trans hu (fun _ _ f => f)⟩
theorem NewR.from_ {W0 W w : World} {e : TypeId} {size n : Nat} {xs : List Value} {v : Value} (h : NewR W e size n xs v w) (hu : Upd NoF W0 W) : NewR W0 e size n xs v w := ⟨h.1, fun k hk => by have := h.2.1 k hk; have := hu.size; omega, hu.trans h.2.2 (fun _ _ f => f)⟩
theorem NewR.app0 {W wr w6 : World} {e : TypeId} {size m : Nat} {ys : List Value} {A A' : Option Addr} {c c' : Nat} (h : NewR W e size 0 [] (.slice A 0 c) wr) (ho : Own w6 e size (.slice A' m c') m ys) (hu : Upd (OwnB (.slice A 0 c)) wr w6) (hn : ∀ k, OwnB (.slice A' m c') k → OwnB (.slice A 0 c) k ∨ wr.heap.size ≤ k) : NewR W e size m ys (.slice A' m c') w6 := by
  have := NewR.app (n := 0) (m := m) (xs := []) (ys := ys) (A' := A') (c' := c') h (by simpa using ho) hu (by simpa using hn)
  simpa using this
theorem rd_lit (w : World) (e : TypeId) (u : Value) : Rd (w.alloc (.cells #[u] e)) 1 (.slice (some ⟨w.heap.size, 0, none⟩) 1 1) 1 [u] :=
  Rd.of_blk (Blk.new w e #[u]) (Nat.le_refl _) (by unfold maxLen; omega) rfl (fun j v hj => by simpa using hj)
theorem one_bytes (bs : List UInt8) : ∀ u ∈ bs.map byteV, u.oneCell' = true := fun u hu => by
  obtain ⟨x, _, rfl⟩ := List.mem_map.1 hu
  rfl
end
end Go.Proofs.YtengcmfdfmnacaaGreat
