/- Comparing bytes; AppendBytes and Bytes of package codec and of the reference; the length of a signature. Conditions: sizes. Checksums and frames of the journal, of the program and of the reference. Conditions: sizes. Parsing on plain data; lists of records in memory; bytes.Equal. Conditions: sizes. Parse of package journal. Conditions: sizes. Bytes of package codec and of the reference. Conditions: sizes. Encode of package vote and of the reference. No condition. The orders of names: Less of package hash; Number and Less of the reference. No condition. The order of votes: Less of package vote and of the reference. No condition. From a contract 'it returns true and turns nothing that was there' to the row of a statement. No condition. Arguments of the statements, opened: slices of bytes and of integers, strings, slices of slices of bytes. No condition. Arguments of the statements, opened: a slice of structs whose fields take one cell each; the acts of DiskActs. No condition. Votes with their signatures, texts and views in memory, and arguments of these types opened. No condition. Encode and Less of signed votes, of package signed and of the reference. No condition but sizes. -/
import Derived.Test.YtengcmfdfmnacaaGreatJn3
import Derived.Test.YtengcmfdfmnacaaGreatJn2
import Derived.Lib.Bytealg
import Derived.Lib.BytesEntry
import Derived.Deep.RegionHeld3
import Derived.Deep.QuietTactic
import Derived.BigQuiet
import Derived.IntWalk
import Derived.Deep.MidRow
import Derived.Deep.DrawnRows
import Derived.Outline
import Derived.Test.YtengcmfdfmnacaaGreatRows
import Derived.Test.YtengcmfdfmnacaaGreatJn1
import Derived.ProofKit
import Derived.OpenShut
import Derived.Carry
import Derived.Deep.Slices
import Derived.Deep.Fields
import Derived.Lib.SmallJoins
namespace Go.Proofs.YtengcmfdfmnacaaGreat
section
open Go.RowKit

def cmpB (a b : List UInt8) : Int := Lib.compareBytes a b
theorem cmpB_lt : ∀ (a b : List UInt8), decide (cmpB a b < 0) = lessT a b
  | [], [] => rfl
  | [], _ :: _ => rfl
  | _ :: _, [] => rfl
  | a :: l, b :: r => by
    have ih := cmpB_lt l r
    unfold cmpB lessT at ih ⊢
    unfold Lib.compareBytes Op.bytesLess
    by_cases h1 : a < b
    · simp [h1]
    · by_cases h2 : b < a
      · have h3 : ¬ a = b := fun e => by subst e; exact h1 h2
        simp [h1, h2, h3]
      · have h3 : a = b := by
          apply UInt8.toNat.inj
          rw [UInt8.lt_iff_toNat_lt] at h1 h2
          omega
        subst h3
        simp [h1, ih]

theorem run_bytesOf {w : World} {v : Value} {bs : List UInt8} (h : Rd w 1 v bs.length (bs.map byteV)) : (Extern.Bytes.bytesOf v).run Tryz.prog w = .ok ⟨bs.toArray⟩ w := by
  obtain ⟨A, c, rfl, hn, hc, hl, hA⟩ := h
  have hb : ∀ l : List UInt8, Lib.bytesOf (l.map fun b => (b.toNat : Int)) = l := fun l => by
    simp [Lib.bytesOf, List.map_map, Function.comp_def]
  cases A with
  | none =>
    have h0 : bs.length = 0 := by
      rcases Nat.eq_zero_or_pos bs.length with h | h
      · exact h
      · obtain ⟨g, o, e, _⟩ := hA h; cases e
    obtain rfl : bs = [] := List.eq_nil_of_length_eq_zero h0
    simp [Extern.Bytes.bytesOf]
    rfl
  | some a =>
    have := Lib.run_loadBytesX (P := Tryz.prog) w (bs.map fun b => (b.toNat : Int)) a .empty (fun j x hj => by
      rw [List.getElem?_map] at hj
      obtain ⟨b, hb1, rfl⟩ := Option.map_eq_some_iff.1 hj
      have hlt : j < bs.length := (List.getElem?_eq_some_iff.1 hb1).1
      obtain ⟨g, o, e, hx⟩ := hA (by omega)
      injection e with e
      subst e
      have hadd : (⟨g, o, none⟩ : Addr).add j = ⟨g, o + j, none⟩ := by unfold Addr.add; split <;> simp_all
      rw [hadd]
      exact hx j _ (by rw [List.getElem?_map, hb1]; rfl))
    rw [List.length_map, hb] at this
    simp only [Extern.Bytes.bytesOf, this]
    simp
theorem run_acompare {w : World} {u v : Value} {a b : List UInt8} (ha : Rd w 1 u a.length (a.map byteV)) (hb : Rd w 1 v b.length (b.map byteV)) : (Extern.BytealgCompare.compare #[u, v]).run Tryz.prog w = .ok (.int .i64 (cmpB a b)) w := by
  change Sem.run Tryz.prog (do pure (goInt (Extern.BytealgCompare.cmp (← Extern.Bytes.bytesOf u) (← Extern.Bytes.bytesOf v)))) w = _
  simp only [Sem.run_bind, run_bytesOf ha, run_bytesOf hb, Sem.run_pure, Result.andThen, Lib.cmp_eq]
  rfl
set_option maxRecDepth 100000 in
theorem bCompare_any {w : World} {u v : Value} {a b : List UInt8} (ha : Rd w 1 u a.length (a.map byteV)) (hb : Rd w 1 v b.length (b.map byteV)) : Calls Tryz.prog 51 #[u, v] w fun e w' => e = .returned (.int .i64 (cmpB a b)) ∧ w = w' := by
  have CA := Lib.hid (run_acompare ha hb)
  clear ha hb
  generalize cmpB a b = z at CA ⊢
  go_enter Tryz.func51, Tryz.ntmps51
  go_wp2
  rw [run_callFunc_extern Tryz.func86 (by kernel_rfl) (by kernel_rfl) (by kernel_rfl) (e := Extern.BytealgCompare.compare) (by kernel_rfl), CA.out]
  simp only [Result.andThen]
  rw [Oper.upon_value]
  go_wp2
  go_ret
  exact ⟨rfl, rfl⟩

def PairPost (w : World) (bs : List UInt8) (e : Ending) (w' : World) : Prop := ∃ A c, e = .returned (.tuple #[.slice A bs.length c, .bool true]) ∧ NewO w bs A c w'
def NilFalse (w : World) (e : Ending) (w' : World) : Prop := e = .returned (.tuple #[.slice none 0 0, .bool false]) ∧ Upd NoF w w'
end

section
open Go.RowKit

def jsumS (i : Nat) (bs : List UInt8) : List UInt8 := tagged 88 (beB i 4 ++ bs)
def frameS (i : Nat) (bs : List UInt8) : List UInt8 := beB bs.length 4 ++ jsumS i bs ++ bs
def Bytes4 (W : World) (i : Nat) (e : Ending) (w' : World) : Prop := ∃ A c, e = .returned (.slice A 4 c) ∧ Own w' 5 1 (.slice A 4 c) 4 ((beB i 4).map byteV) ∧ (∀ k, OwnB (.slice A 4 c) k → W.heap.size ≤ k) ∧ Upd NoF W w'
end

section
open Go.RowKit

def parseStep (bs : List UInt8) (a idx : Nat) : Option (List UInt8 × Nat) :=
  if a + 12 ≤ bs.length then
    if be ((bs.drop a).take 4) ≤ 65536 ∧ a + 12 + be ((bs.drop a).take 4) ≤ bs.length then
      if (bs.drop (a + 4)).take 8 = jsumS idx ((bs.drop (a + 12)).take (be ((bs.drop a).take 4))) then some ((bs.drop (a + 12)).take (be ((bs.drop a).take 4)), a + 12 + be ((bs.drop a).take 4)) else none
    else none
  else none
def parseF (bs : List UInt8) : Nat → List (List UInt8) → Nat → List (List UInt8) × Nat
  | 0, l, a => (l, a)
  | f + 1, l, a => match parseStep bs a l.length with
    | none => (l, a)
    | some (r, a') => parseF bs f (l ++ [r]) a'
def parseS (bs : List UInt8) : List (List UInt8) × Nat := parseF bs (bs.length + 1) [] 0

theorem parseStep_le {bs : List UInt8} {a idx : Nat} {r : List UInt8} {a' : Nat} (h : parseStep bs a idx = some (r, a')) : a + 12 ≤ a' ∧ a' ≤ bs.length ∧ r.length ≤ 65536 ∧ a' = a + 12 + r.length := by
  unfold parseStep at h
  split at h
  · split at h
    · split at h
      · injection h with h
        injection h with h1 h2
        subst h1 h2
        simp
        omega
      · cases h
    · cases h
  · cases h

/-- Where the parse stands. -/
def PAt (bs : List UInt8) (l : List (List UInt8)) (a : Nat) : Prop := ∃ f, parseF bs f l a = parseS bs ∧ bs.length < f + a ∧ a ≤ bs.length ∧ l.length * 12 ≤ a
theorem PAt.start (bs : List UInt8) : PAt bs [] 0 := ⟨bs.length + 1, rfl, by omega, by omega, by simp⟩
theorem PAt.stop {bs : List UInt8} {l : List (List UInt8)} {a : Nat} (h : PAt bs l a) (hs : parseStep bs a l.length = none) : parseS bs = (l, a) := by
  obtain ⟨f, h1, h2, h3, _⟩ := h
  obtain ⟨f, rfl⟩ : ∃ k, f = k + 1 := ⟨f - 1, by omega⟩
  rw [← h1, parseF, hs]
theorem PAt.next {bs : List UInt8} {l : List (List UInt8)} {a a' : Nat} {r : List UInt8} (h : PAt bs l a) (hs : parseStep bs a l.length = some (r, a')) : PAt bs (l ++ [r]) a' := by
  obtain ⟨f, h1, h2, h3, h4⟩ := h
  obtain ⟨f, rfl⟩ : ∃ k, f = k + 1 := ⟨f - 1, by omega⟩
  rw [parseF, hs] at h1
  obtain ⟨e1, e2, _⟩ := parseStep_le hs
  exact ⟨f, h1, by omega, e2, by simp; omega⟩

/-! ### lists of records in memory -/
def RecsV (w : World) (v : Value) (l : List (List UInt8)) (vs : List Value) : Prop :=
  Own w 52 1 v l.length vs ∧ ∀ (i : Nat) b, l[i]? = some b → ∃ u, vs[i]? = some u ∧ Own w 5 1 u b.length (b.map byteV)
def RecsF (v : Value) (vs : List Value) : Nat → Prop := fun k => OwnB v k ∨ ∃ u ∈ vs, OwnB u k
def RecsAt (w : World) (v : Value) (l : List (List UInt8)) (F : Nat → Prop) : Prop := ∃ vs : List Value, RecsV w v l vs ∧ F = RecsF v vs

section
variable {w w' : World} {v : Value} {l : List (List UInt8)} {F G : Nat → Prop}
theorem RecsAt.nil (w : World) : RecsAt w (.slice none 0 0) [] NoF := by
  refine ⟨[], ⟨Own.nil _ _ _, fun i b h => (by cases h)⟩, ?_⟩
  funext k
  simp [NoF, RecsF, OwnB, Value.ownBlock]
theorem RecsAt.upd (h : RecsAt w v l F) (hu : Upd G w w') (hG : ∀ k, F k → ¬ G k) : RecsAt w' v l F := by
  obtain ⟨vs, ⟨h1, h2⟩, rfl⟩ := h
  refine ⟨vs, ⟨h1.upd hu (fun k hk => hG k (.inl hk)), fun i b hb => ?_⟩, rfl⟩
  obtain ⟨u, e1, e2⟩ := h2 i b hb
  exact ⟨u, e1, e2.upd hu (fun k hk => hG k (.inr ⟨u, List.mem_of_getElem? e1, hk⟩))⟩
theorem RecsAt.lt (h : RecsAt w v l F) {k : Nat} (hk : F k) : k < w.heap.size := by
  obtain ⟨vs, ⟨h1, h2⟩, rfl⟩ := h
  rcases hk with hk | ⟨u, hu, hk⟩
  · exact h1.lt hk
  · obtain ⟨i, hi, rfl⟩ := List.mem_iff_getElem.1 hu
    have hl := h1.1
    obtain ⟨u', e1, e2⟩ := h2 i _ (List.getElem?_eq_getElem (by omega))
    rw [List.getElem?_eq_getElem hi] at e1
    injection e1 with e1
    rw [e1] at hk
    exact e2.lt hk
theorem RecsAt.form (h : RecsAt w v l F) : ∃ A c, v = .slice A l.length c ∧ l.length ≤ c ∧ c ≤ maxLen := by
  obtain ⟨vs, ⟨h1, h2⟩, rfl⟩ := h
  obtain ⟨A, c, e, h3, h4, _⟩ := h1.rd
  exact ⟨A, c, e, h3, h4⟩
theorem RecsAt.own (h : RecsAt w v l F) : ∃ vs, Own w 52 1 v l.length vs := by
  obtain ⟨vs, ⟨h1, _⟩, _⟩ := h
  exact ⟨vs, h1⟩
/-- One record. -/
theorem RecsAt.get {A : Option Addr} {n c : Nat} (h : RecsAt w (.slice A n c) l F) {i : Nat} {b : List UInt8} (hb : l[i]? = some b) : ∃ g Au cu, A = some ⟨g, 0, none⟩ ∧ w.cell? ⟨g, i, none⟩ = some (.slice Au b.length cu) ∧ Own w 5 1 (.slice Au b.length cu) b.length (b.map byteV) := by
  obtain ⟨vs, ⟨h1, h2⟩, rfl⟩ := h
  have hlt : i < l.length := (List.getElem?_eq_some_iff.1 hb).1
  obtain ⟨u, e1, e2⟩ := h2 i b hb
  obtain ⟨Au, cu, rfl⟩ := e2.form
  rcases h1.2 with ⟨_, e⟩ | ⟨g, cap, cur, e, _⟩
  · omega
  · injection e with e
    subst e
    obtain ⟨A', c', e, _, _, _, hx⟩ := h1.rd
    obtain ⟨g', o, e', hx⟩ := hx (by omega)
    injection e with e
    rw [← e] at e'
    injection e' with e'
    injection e' with e1' e2'
    subst e1' e2'
    exact ⟨g, Au, cu, rfl, by have := hx i _ e1; simpa using this, e2⟩
end

/-- One more record. -/
theorem RecsV.push {w w0 w1 : World} {A A' Au : Option Addr} {c c' cu : Nat} {l : List (List UInt8)} {vs : List Value} {b : List UInt8} (h : RecsV w (.slice A l.length c) l vs) (h0 : Upd NoF w w0) (hu : Own w0 5 1 (.slice Au b.length cu) b.length (b.map byteV))
    (ho : Own w1 52 1 (.slice A' (l.length + 1) c') (l.length + 1) (vs ++ [.slice Au b.length cu])) (hup : Upd (OwnB (.slice A l.length c)) w0 w1) (hn : ∀ k, OwnB (.slice A' (l.length + 1) c') k → OwnB (.slice A l.length c) k ∨ w0.heap.size ≤ k) :
    RecsV w1 (.slice A' (l.length + 1) c') (l ++ [b]) (vs ++ [.slice Au b.length cu]) ∧ ∀ k, RecsF (.slice A' (l.length + 1) c') (vs ++ [.slice Au b.length cu]) k → RecsF (.slice A l.length c) vs k ∨ OwnB (.slice Au b.length cu) k ∨ w0.heap.size ≤ k := by
  obtain ⟨h1, h2⟩ := h
  have hO := h1.upd h0 (fun _ _ h => h)
  have keep : ∀ {u : Value} {n : Nat} {xs : List Value}, Own w0 5 1 u n xs → Own w1 5 1 u n xs := fun {u n xs} hx => hx.upd hup (fun k hk e => by
    rcases hO.2 with ⟨e1, _⟩ | ⟨g', cap, cur, e1, hb, _⟩
    · rw [e1] at e; simp [OwnB, Value.ownBlock] at e
    · rw [e1] at e
      simp [OwnB, Value.ownBlock] at e
      subst e
      exact hx.blk_ne hb (by decide) hk)
  refine ⟨⟨by rw [List.length_append, List.length_singleton]; exact ho, fun i x hx => ?_⟩, fun k hk => ?_⟩
  · have hl := h1.1
    rcases Nat.lt_or_ge i l.length with hlt | hge
    · rw [List.getElem?_append_left hlt] at hx
      obtain ⟨u, e1, e2⟩ := h2 i x hx
      exact ⟨u, by rw [List.getElem?_append_left (by omega)]; exact e1, keep (e2.upd h0 (fun _ _ h => h))⟩
    · rw [List.getElem?_append_right hge] at hx
      have hi0 : i - l.length = 0 := by
        have := (List.getElem?_eq_some_iff.1 hx).1
        simp at this
        omega
      rw [hi0] at hx
      simp at hx
      subst hx
      exact ⟨_, by rw [List.getElem?_append_right (by omega)]; simp [show i - vs.length = 0 by omega], keep hu⟩
  · rcases hk with hk | ⟨u, hu', hk⟩
    · rcases hn k hk with e | e
      · exact .inl (.inl e)
      · exact .inr (.inr e)
    · rcases List.mem_append.1 hu' with e | e
      · exact .inl (.inr ⟨u, e, hk⟩)
      · simp at e
        subst e
        exact .inr (.inl hk)
end

section
open Go.RowKit

def ParsePost (w : World) (bs : List UInt8) (e : Ending) (w' : World) : Prop :=
  ∃ v F, e = .returned (.tuple #[v, .int .i64 ((parseS bs).2 : Int)]) ∧ RecsAt w' v (parseS bs).1 F ∧ (∀ k, F k → w.heap.size ≤ k) ∧ Upd NoF w w'
def PRel (w : World) (bs : List UInt8) (out at_ : Value) (wr : World) : Prop :=
  ∃ (l : List (List UInt8)) (a : Nat) (A : Option Addr) (c : Nat) (vs : List Value), out = .slice A l.length c ∧ at_ = .int .i64 a ∧ PAt bs l a ∧ RecsV wr (.slice A l.length c) l vs ∧ (∀ k, RecsF (.slice A l.length c) vs k → w.heap.size ≤ k) ∧ Upd NoF w wr
theorem ParsePost.mk {w wr w' : World} {bs : List UInt8} {l : List (List UInt8)} {a : Nat} {A : Option Addr} {c : Nat} {vs : List Value} (hP : PAt bs l a) (hs : parseStep bs a l.length = none) (hV : RecsV wr (.slice A l.length c) l vs) (hF : ∀ k, RecsF (.slice A l.length c) vs k → w.heap.size ≤ k) (hU : Upd NoF w wr) (hu : Upd NoF wr w') :
    ParsePost w bs (.returned (.tuple #[.slice A l.length c, .int .i64 (a : Int)])) w' := by
  unfold ParsePost
  rw [hP.stop hs]
  exact ⟨_, _, rfl, RecsAt.upd ⟨vs, hV, rfl⟩ hu (fun _ _ h => h), hF, hU.trans hu (fun _ _ h => h)⟩
end

section
open Go.RowKit

def BytesAt (w : World) (r : List UInt8) (k : Nat) (e : Ending) (w' : World) : Prop := ∃ A c, e = .returned (.tuple #[.slice A r.length c, .int .i64 (k : Int), .bool true]) ∧ NewO w r A c w'
def NoBytes (w : World) (e : Ending) (w' : World) : Prop := e = .returned (.tuple #[.slice none 0 0, .int .i64 0, .bool false]) ∧ w = w'
end

section
open Go.RowKit

/-- Bytes that are being collected, beside a block that is kept. -/
def Acc (w0 w : World) (g : Nat) (t : TypeId) (cs : Array Value) (bs : List UInt8) (n : Nat) (A : Option Addr) (c : Nat) : Prop :=
  n = bs.length ∧ Own w 5 1 (.slice A n c) n (bs.map byteV) ∧ (∀ k, OwnB (.slice A n c) k → w0.heap.size ≤ k ∧ k ≠ g) ∧ Upd NoF w0 w ∧ Blk w g t cs
theorem Acc.push {w0 w wa w' : World} {g : Nat} {t : TypeId} {cs : Array Value} {bs ys : List UInt8} {n m : Nat} {A A' : Option Addr} {c c' : Nat} (h : Acc w0 w g t cs bs n A c) (ha : Upd NoF w wa) (hm : m = ys.length)
    (ho : Own w' 5 1 (.slice A' (n + m) c') (n + m) (bs.map byteV ++ ys.map byteV)) (hu : Upd (OwnB (.slice A n c)) wa w') (hn : ∀ k, OwnB (.slice A' (n + m) c') k → OwnB (.slice A n c) k ∨ wa.heap.size ≤ k) : Acc w0 w' g t cs (bs ++ ys) (n + m) A' c' := by
  obtain ⟨h1, h2, h3, h4, h5⟩ := h
  have hs := ha.size
  have hs0 := h4.size
  have hl := h5.lt
  refine ⟨by rw [List.length_append, h1, hm], by rw [List.map_append]; exact ho, fun k hk => ?_, (h4.trans ha (fun _ _ h => h)).trans hu (fun k hk e => by have := (h3 k e).1; omega), hu.blk (ha.blk h5 (fun h => h)) (fun e => (h3 _ e).2 rfl)⟩
  rcases hn k hk with e | e
  · exact h3 k e
  · omega
theorem Acc.call {w0 w w' : World} {g : Nat} {t : TypeId} {cs : Array Value} {bs : List UInt8} {n n' : Nat} {A A' : Option Addr} {c c' : Nat} {bs' : List UInt8} (h : Acc w0 w g t cs bs n A c) (hn : NewO w bs' A' c' w') (hl : n' = bs'.length) : Acc w0 w' g t cs bs' n' A' c' := by
  obtain ⟨h1, h2, h3, h4, h5⟩ := h
  obtain ⟨k1, k2, k3⟩ := hn
  subst hl
  have hs := h4.size
  have hl := h5.lt
  exact ⟨rfl, k1, fun k hk => by have := k2 k hk; omega, h4.trans k3 (fun _ _ h => h), k3.blk h5 (fun h => h)⟩
theorem Acc.rd {w0 w : World} {g : Nat} {t : TypeId} {cs : Array Value} {bs : List UInt8} {n : Nat} {A : Option Addr} {c : Nat} (h : Acc w0 w g t cs bs n A c) : Rd w 1 (.slice A n c) bs.length (bs.map byteV) := by
  have := h.2.1.rd
  rw [← h.1]
  exact this
theorem Acc.new {w0 w : World} {g : Nat} {t : TypeId} {cs : Array Value} {bs : List UInt8} {n : Nat} {A : Option Addr} {c : Nat} (h : Acc w0 w g t cs bs n A c) : NewO w0 bs A c w := by
  obtain ⟨h1, h2, h3, h4, h5⟩ := h
  subst h1
  exact ⟨h2, fun k hk => (h3 k hk).1, h4⟩
theorem range_blk {w : World} {g : Nat} {t : TypeId} {cs : List Value} (h : Blk w g t cs.toArray) : w.rangeAt g 0 cs := fun j v hv => by
  rw [h.cell]
  simpa using hv
end

section
open Go.RowKit
attribute [local go_sem ↓] Go.wp_at_zero Go.wp_at_succ

theorem name_spell {l : List UInt8} (h : l.length = 8) : ∃ b0 b1 b2 b3 b4 b5 b6 b7, l = [b0, b1, b2, b3, b4, b5, b6, b7] := by
  obtain ⟨b0, b1, b2, b3, b4, b5, b6, b7, r, rfl⟩ := eight l (by omega)
  obtain rfl : r = [] := by simpa using h
  exact ⟨b0, b1, b2, b3, b4, b5, b6, b7, rfl⟩
theorem retb {a b : Bool} (h : a = b) : Ending.returned (.bool a) = .returned (.bool b) := by rw [h]
end

section
open Go.RowKit

def five (v : VoteS) : List Int := [v.slot, v.round, v.kind, v.signer, v.choice]
def LsRel (a b : VoteS) (W : World) (i : Value) (wr : World) : Prop := ∃ k q : Nat, k ≤ 5 ∧ i = .int .i64 k ∧ (∀ j, j < k → (five a)[j]? = (five b)[j]?) ∧ wr = W.drewN q
end

section
open Go.ChangeShapes Go.WideShapes Go.ChangeAt Go.RowKit

theorem own : ownKnob Tryz.prog.godebug = none := by kernel_rfl
theorem laid : laidOutB Tryz.prog = true := by kernel_rfl

theorem trodAll_below {H : Type} {enc : TypeId × Value → H} {W W' : World} (hb : Below W.heap.size W W') : ∀ {ts : List TypeId} {vs : List Value} {ds : List (DataW H)} {ps : List MemPlace},
    DataW.TrodAll enc Tryz.prog W 0 (fun _ => true) true ts vs ds ps → (∀ x ∈ ps, x.block < W.heap.size) → (∀ t ∈ ts, Tryz.prog.readableRec t = true ∧ t < Tryz.prog.types.size) →
    DataW.TrodAll enc Tryz.prog W' 0 (fun b => decide (b < W.heap.size)) true ts vs ds ps
  | [], vs, ds, ps, h, _, _ => by
    obtain ⟨rfl, rfl, rfl⟩ := trodAll_nil h
    exact trodAll_mk0
  | t :: ts, vs, ds, ps, h, hlt, hr => by
    obtain ⟨v, vs0, d, ds0, p, ps0, rfl, rfl, rfl, h0, r0⟩ := trodAll_cons h
    obtain ⟨hr1, hr2⟩ := hr t (by simp)
    exact trodAll_cons_mk (Below.trod laid hr1 hr2 h0 hb (fun x hx => hlt x (by simp [hx]))) (trodAll_below hb r0 (fun x hx => hlt x (by simp [hx])) (fun t ht => hr t (by simp [ht])))

/-- The row's post of a statement that returned true and turned nothing that was there. -/
theorem law_post {H : Type} {enc : TypeId × Value → H} {f : Func} {s : ChangeSpec} {W W' : World} {args : Array Value} {ds gs : List (DataW H)} {before : List MemPlace} (hv : s.vars = []) (hres : f.resultTypes = #[4])
    (hr : ∀ t ∈ f.params.toList, Tryz.prog.readableRec t = true ∧ t < Tryz.prog.types.size) (hfn : (s.fn H (ds ++ gs)).results = [.lit (.bool true)] ∧ (s.fn H (ds ++ gs)).args = ds ∧ (s.fn H (ds ++ gs)).vars = [])
    (hW : DataW.Whole enc Tryz.prog f.params.toList s.vars false W args.toList ds gs before) (hb : Below W.heap.size W W') : s.post enc Tryz.prog f false true false false W args (.bool true) W' := by
  have hW0 := hW
  have hlt : ∀ p ∈ before, p.block < W.heap.size := fun p hp => hW.lt p hp
  obtain ⟨p, q, hA, hV, rfl, _, _⟩ := hW
  rw [hv] at hV
  obtain ⟨rfl, rfl⟩ := trodVars_none hV
  refine ⟨ds, [], p ++ [], [], p, [], hW0, ?_, ?_, ?_, World.keptBut_mono (fun x hx => ⟨hx, .inr (.inl (by simpa using hx))⟩) (hb.frame (· ∈ p ++ [])), fun h => by cases h⟩
  · rw [hfn.1, hres]
    exact trodAll_cons_mk (shut_bool Tryz.underlying4 true) trodAll_mk0
  · rw [hfn.2.1]
    exact trodAll_below hb hA (fun x hx => hlt x (by simp [hx])) hr
  · rw [hv, hfn.2.2]
    exact rfl
end

section
open Go.ChangeShapes Go.WideShapes Go.ChangeAt Go.RowKit

/-- The blocks that were made since w. -/
def Ab (w : World) : Nat → Prop := fun k => w.heap.size ≤ k
theorem Upd.ab {w wi wj : World} {F : Nat → Prop} (h : Upd (Ab w) w wi) (h2 : Upd F wi wj) (hF : ∀ k, F k → w.heap.size ≤ k) : Upd (Ab w) w wj := h.trans h2 (fun k _ f => hF k f)

theorem spot_of_cell {w : World} {a : Addr} {v : Value} (h : w.cell? a = some v) : a.spot = none := by
  unfold World.cell? at h
  split at h
  · split at h
    · cases h
    · rename_i hs; simpa using hs
  · cases h
theorem add_form {a : Addr} (hs : a.spot = none) (i : Nat) : a.add i = ⟨a.block, a.off + i, none⟩ := by
  obtain ⟨b, o, s⟩ := a
  simp only at hs
  subst hs
  unfold Addr.add
  split <;> simp_all

/-- Cells that were there stay, while only new blocks are written. -/
theorem Rd.ab {w : World} {size : Nat} {v : Value} {n : Nat} {xs : List Value} (h : Rd w size v n xs) : RdF (Ab w) w size v n xs := by
  intro w' hu
  obtain ⟨A, c, rfl, hn, hc, hl, hA⟩ := h
  refine ⟨A, c, rfl, hn, hc, hl, fun h0 => ?_⟩
  obtain ⟨g, o, rfl, hx⟩ := hA h0
  refine ⟨g, o, rfl, fun j u hj => hu.cell (hx j u hj) ?_⟩
  have := block_lt_of_cell (hx j u hj)
  simp only [Ab]
  simp only at this
  omega

section
variable {H : Type} {enc : TypeId × Value → H} {W : World} {v : Value} {d : DataW H} {p : List MemPlace}

theorem cells_u8 : Tryz.prog.cellsOf 5 = 1 := by kernel_rfl
theorem cells_bytes : Tryz.prog.cellsOf 52 = 1 := by kernel_rfl

theorem open_nums {t e : TypeId} {k : IntKind} (ht : Tryz.prog.underlying t = some (.slice e)) (he : Tryz.prog.underlying e = some (.int k)) (hc : Tryz.prog.cellsOf e = 1) {fuel : Nat} {base : Nat} {spare : Nat → Bool} {held : Bool} {x : DataW H × List MemPlace}
    (h : DataW.trod enc Tryz.prog W base spare held fuel t [v] = some x) : ∃ zs : List Int, Rd W 1 v zs.length (zs.map (Value.int k)) ∧ ∀ z ∈ zs, (Lit.int k z).wf = true := by
  rcases open_ints ht he hc h with ⟨hcs, hx⟩ | ⟨a, len, cap, zs, hcs, _, hl, hm, hz, hx, hcell, hwz⟩
  · injection hcs with hcs
    subst hcs
    exact ⟨[], Rd.nil W 1, by simp⟩
  · injection hcs with hcs
    subst hcs
    have hlen : (zs.take len).length = len := by
      rw [List.length_take]
      split at hz <;> omega
    refine ⟨zs.take len, ⟨some a, cap, by rw [hlen], by omega, hm, by simp, fun h0 => ?_⟩, fun z hz' => hwz z (List.mem_of_mem_take hz')⟩
    have hlz : len ≤ zs.length := by split at hz <;> omega
    have h00 : W.cell? (a.add 0) = some (.int k (zs.getD 0 0)) := hcell 0 (by omega)
    have hs : a.spot = none := by
      have := spot_of_cell h00
      revert this
      unfold Addr.add
      simp
    refine ⟨a.block, a.off, by cases a; simp_all, fun j u hj => ?_⟩
    rw [List.getElem?_map] at hj
    have hjl : j < len := by
      rcases Nat.lt_or_ge j len with h | h
      · exact h
      · rw [List.getElem?_eq_none (by omega)] at hj; cases hj
    have := hcell j (by omega)
    rw [add_form hs] at this
    rw [this]
    rw [List.getElem?_take, if_pos hjl, List.getElem?_eq_getElem (by omega)] at hj
    simp only [Option.map_some, Option.some.injEq] at hj
    rw [← hj]
    simp [List.getElem?_eq_getElem (show j < zs.length by omega)]

set_option maxRecDepth 100000 in
theorem wf_u8 {z : Int} (h : (Lit.int .u8 z).wf = true) : 0 ≤ z ∧ z < 256 := by
  have := bounds_u8 h
  omega
theorem bytes_of_u8 {zs : List Int} (h : ∀ z ∈ zs, (Lit.int .u8 z).wf = true) : zs.map (Value.int .u8) = (zs.map (fun z => UInt8.ofNat z.toNat)).map byteV := by
  rw [List.map_map]
  refine List.map_congr_left (fun z hz => ?_)
  obtain ⟨h1, h2⟩ := wf_u8 (h z hz)
  have : (UInt8.ofNat z.toNat).toNat = z.toNat := by simp; omega
  simp only [Function.comp, byteV, this]
  rw [Int.toNat_of_nonneg h1]

theorem open_bytes_of {fuel base : Nat} {spare : Nat → Bool} {held : Bool} {x : DataW H × List MemPlace} (h : DataW.trod enc Tryz.prog W base spare held fuel 52 [v] = some x) : ∃ bs : List UInt8, Rd W 1 v bs.length (bs.map byteV) := by
  obtain ⟨zs, h1, h2⟩ := open_nums (v := v) Tryz.underlying52 Tryz.underlying5 cells_u8 h
  refine ⟨zs.map (fun z => UInt8.ofNat z.toNat), ?_⟩
  rw [← bytes_of_u8 h2, List.length_map]
  exact h1

set_option maxRecDepth 100000 in
theorem slice_cells {t e : TypeId} (ht : Tryz.prog.underlying t = some (.slice e)) {base0 base : Nat} {r : Reach} {spare : Nat → Bool} {held : Bool} (hok : Value.okWide Tryz.prog W r base0 t v) (h : DataW.Trod enc Tryz.prog W base spare held t v d p) :
    ∃ fuel, DataW.trod enc Tryz.prog W base spare held fuel t [v] = some (d, p) := by
  obtain ⟨a, len, cap, rfl⟩ := okWide_slice ht hok
  exact h

/-- The cells of a slice of whatever element type of one cell. -/
theorem open_cells {t e : TypeId} (ht : Tryz.prog.underlying t = some (.slice e)) (hc : Tryz.prog.cellsOf e = 1) {fuel base : Nat} {spare : Nat → Bool} {held : Bool} {x : DataW H × List MemPlace} (h : DataW.trod enc Tryz.prog W base spare held fuel t [v] = some x) :
    ∃ vs : List Value, Rd W 1 v vs.length vs ∧ ∀ u ∈ vs, ∃ n y, DataW.trod enc Tryz.prog W base spare held n e [u] = some y := by
  rcases Go.Deep.open_slice ht h with ⟨hcs, hx⟩ | ⟨a, len, cap, m, n, D, Pl, hcs, _, hl, hm, hz, hx, hi⟩
  · injection hcs with hcs
    subst hcs
    exact ⟨[], Rd.nil W 1, by simp⟩
  · injection hcs with hcs
    subst hcs
    have hlm : len ≤ m := by split at hz <;> omega
    have hex : ∀ i, i < len → ∃ u, W.cell? (a.add i) = some u ∧ DataW.trod enc Tryz.prog W base spare held n e [u] = some (D i, Pl i) := by
      intro i hilt
      obtain ⟨cs', h1, h2⟩ := hi i (by omega)
      rw [hc] at h1
      obtain ⟨_, hcl, hat⟩ := World.cells?_some h1
      have h00 := hat 0 (by omega)
      obtain ⟨u, rfl⟩ : ∃ u, cs' = [u] := by
        match cs', hcl with
        | [u], _ => exact ⟨u, rfl⟩
      rw [Go.Deep.add_add] at h00
      exact ⟨u, by simpa using h00, h2⟩
    have hspot : 0 < len → a.spot = none := by
      intro h0
      obtain ⟨u, h1, _⟩ := hex 0 h0
      have := spot_of_cell h1
      revert this
      unfold Addr.add
      simp
    refine ⟨(List.range len).map (fun i => (W.cell? (a.add i)).getD undef), ⟨some a, cap, by simp, by simpa using hl, hm, by simp, fun h0 => ?_⟩, ?_⟩
    · have hs := hspot (by simpa using h0)
      refine ⟨a.block, a.off, by cases a; simp_all, fun j u hj => ?_⟩
      rw [List.getElem?_map] at hj
      have hjl : j < len := by
        rcases Nat.lt_or_ge j len with h | h
        · exact h
        · rw [List.getElem?_eq_none (by simpa using h)] at hj; cases hj
      obtain ⟨u', h1, _⟩ := hex j hjl
      rw [List.getElem?_range hjl] at hj
      simp only [Option.map_some, Option.some.injEq, h1, Option.getD_some] at hj
      subst hj
      rw [add_form hs] at h1
      exact h1
    · intro u hu
      obtain ⟨i, hi', rfl⟩ := List.mem_map.1 hu
      obtain ⟨u', h1, h2⟩ := hex i (by simpa using hi')
      rw [h1]
      exact ⟨n, _, h2⟩

/-- A slice of slices of bytes. -/
def RdBB (F : Nat → Prop) (w : World) (v : Value) (l : List (List UInt8)) : Prop :=
  ∃ vs : List Value, vs.length = l.length ∧ RdF F w 1 v l.length vs ∧ ∀ (i : Nat) b, l[i]? = some b → ∃ u, vs[i]? = some u ∧ RdB F w u b

end
end

section
open Go.ChangeShapes Go.WideShapes Go.ChangeAt Go.RowKit

section
variable {H : Type} {enc : TypeId × Value → H} {W : World} {v : Value} {d : DataW H} {p : List MemPlace}

theorem flatten_at {rows : List (List Value)} {k : Nat} (hk : ∀ r ∈ rows, r.length = k) {i j : Nat} {r : List Value} (hr : rows[i]? = some r) (hj : j < k) : rows.flatten[i * k + j]? = r[j]? := by
  induction rows generalizing i with
  | nil => cases hr
  | cons y l ih =>
    have hy := hk y (by simp)
    rw [List.flatten_cons]
    cases i with
    | zero =>
      simp at hr
      subst hr
      rw [List.getElem?_append_left (by omega)]
      simp
    | succ i =>
      rw [List.getElem?_append_right (by rw [hy, Nat.succ_mul]; omega), hy, show (i + 1) * k + j - k = i * k + j by rw [Nat.succ_mul]; omega]
      exact ih (fun r hr => hk r (by simp [hr])) (by simpa using hr)
end
end

section
open Go.ChangeShapes Go.WideShapes Go.ChangeAt Go.RowKit

/-! ### words -/
/-- A slice of slices of bytes, as it reads now. -/
def TxR (w : World) (v : Value) (l : List (List UInt8)) : Prop :=
  ∃ vs : List Value, vs.length = l.length ∧ Rd w 1 v l.length vs ∧ ∀ (i : Nat) b, l[i]? = some b → ∃ u, vs[i]? = some u ∧ Rd w 1 u b.length (b.map byteV)
def rowS (s : SignedS) (u : Value) : List Value := voteCells s.vote ++ [u]
/-- A slice of signed votes, as it reads now. -/
def SgR (w : World) (v : Value) (l : List SignedS) : Prop :=
  (∀ s ∈ l, s.vote.Fit) ∧ ∃ us : List Value, us.length = l.length ∧ Rd w 23 v l.length (List.zipWith rowS l us).flatten ∧ ∀ (i : Nat) s, l[i]? = some s → ∃ u, us[i]? = some u ∧ Rd w 1 u s.sig.length (s.sig.map byteV)
/-- A view. -/
def VwR (w : World) (a b : Value) (V : ViewS) : Prop := SgR w a V.votes ∧ TxR w b V.texts

section
variable {w w' : World} {v : Value}
theorem Rd.abK {size n : Nat} {xs : List Value} (h : Rd w size v n xs) (hu : Upd (Ab w) w w') : Rd w' size v n xs := h.ab w' hu
theorem Upd.toAb (h : Upd NoF w w') : Upd (Ab w) w w' := h.mono (fun _ _ f => f.elim)
theorem TxR.ab {l : List (List UInt8)} (h : TxR w v l) (hu : Upd (Ab w) w w') : TxR w' v l := by
  obtain ⟨vs, h1, h2, h3⟩ := h
  refine ⟨vs, h1, h2.abK hu, fun i b hb => ?_⟩
  obtain ⟨u, e1, e2⟩ := h3 i b hb
  exact ⟨u, e1, e2.abK hu⟩
theorem TxR.keep {l : List (List UInt8)} (h : TxR w v l) (hu : Upd NoF w w') : TxR w' v l := h.ab hu.toAb
theorem SgR.ab {l : List SignedS} (h : SgR w v l) (hu : Upd (Ab w) w w') : SgR w' v l := by
  obtain ⟨hf, us, h1, h2, h3⟩ := h
  refine ⟨hf, us, h1, h2.abK hu, fun i b hb => ?_⟩
  obtain ⟨u, e1, e2⟩ := h3 i b hb
  exact ⟨u, e1, e2.abK hu⟩
theorem SgR.keep {l : List SignedS} (h : SgR w v l) (hu : Upd NoF w w') : SgR w' v l := h.ab hu.toAb
theorem VwR.ab {a b : Value} {V : ViewS} (h : VwR w a b V) (hu : Upd (Ab w) w w') : VwR w' a b V := ⟨h.1.ab hu, h.2.ab hu⟩
theorem VwR.keep {a b : Value} {V : ViewS} (h : VwR w a b V) (hu : Upd NoF w w') : VwR w' a b V := h.ab hu.toAb
theorem TxR.nil (w : World) : TxR w (.slice none 0 0) [] := ⟨[], rfl, Rd.nil w 1, fun _ _ h => by cases h⟩
theorem SgR.nil (w : World) : SgR w (.slice none 0 0) [] := ⟨by simp, [], rfl, Rd.nil w 23, fun _ _ h => by cases h⟩
theorem TxR.form {l : List (List UInt8)} (h : TxR w v l) : ∃ A c, v = .slice A l.length c ∧ l.length ≤ c ∧ c ≤ maxLen := by
  obtain ⟨vs, _, ⟨A, c, e, h3, h4, _⟩, _⟩ := h
  exact ⟨A, c, e, h3, h4⟩
theorem SgR.form {l : List SignedS} (h : SgR w v l) : ∃ A c, v = .slice A l.length c ∧ l.length ≤ c ∧ c ≤ maxLen := by
  obtain ⟨_, vs, _, ⟨A, c, e, h3, h4, _⟩, _⟩ := h
  exact ⟨A, c, e, h3, h4⟩
theorem SgR.fit {l : List SignedS} (h : SgR w v l) {i : Nat} {s : SignedS} (hs : l[i]? = some s) : s.vote.Fit := h.1 s (List.mem_of_getElem? hs)
theorem Rd.slice {n : Nat} {xs : List Value} (h : Rd w 1 v n xs) : ∃ A c, v = .slice A n c ∧ n ≤ c ∧ c ≤ maxLen := by
  obtain ⟨A, c, e, h3, h4, _⟩ := h
  exact ⟨A, c, e, h3, h4⟩
/-- One text. -/
theorem TxR.at_ {A : Option Addr} {n c : Nat} {l : List (List UInt8)} (h : TxR w (.slice A n c) l) {i : Nat} {b : List UInt8} (hb : l[i]? = some b) :
    ∃ g o Au cu, A = some ⟨g, o, none⟩ ∧ w.cell? ⟨g, o + i, none⟩ = some (.slice Au b.length cu) ∧ Rd w 1 (.slice Au b.length cu) b.length (b.map byteV) ∧ b.length ≤ cu ∧ cu ≤ 9223372036854775807 := by
  obtain ⟨vs, h1, ⟨A', c', e, h3, h4, h5, h6⟩, h7⟩ := h
  injection e with e1 e2 e3
  subst e1
  have hlt : i < l.length := (List.getElem?_eq_some_iff.1 hb).1
  obtain ⟨g, o, rfl, hx⟩ := h6 (by omega)
  obtain ⟨u, e4, e5⟩ := h7 i b hb
  obtain ⟨Au, cu, rfl, k1, k2⟩ := e5.slice
  unfold maxLen at k2
  exact ⟨g, o, Au, cu, rfl, hx i _ e4, e5, k1, k2⟩
theorem rowS_len {s : SignedS} (hf : s.vote.Fit) (u : Value) : (rowS s u).length = 23 := by simp [rowS, voteCells, hf.parent, hf.value]
theorem zip_rows {l : List SignedS} {us : List Value} (hf : ∀ s ∈ l, s.vote.Fit) : ∀ r ∈ List.zipWith rowS l us, r.length = 23 := by
  intro r hr
  obtain ⟨i, hi, rfl⟩ := List.mem_iff_getElem.1 hr
  rw [List.getElem_zipWith]
  exact rowS_len (hf _ (List.getElem_mem _)) _
/-- One signed vote. -/
theorem SgR.at_ {A : Option Addr} {n c : Nat} {l : List SignedS} (h : SgR w (.slice A n c) l) {i : Nat} {s : SignedS} (hs : l[i]? = some s) :
    ∃ g o Au cu, A = some ⟨g, o, none⟩ ∧ w.rangeAt g (o + i * 23) (rowS s (.slice Au s.sig.length cu)) ∧ Rd w 1 (.slice Au s.sig.length cu) s.sig.length (s.sig.map byteV) ∧ s.sig.length ≤ cu ∧ cu ≤ 9223372036854775807 := by
  obtain ⟨hf, us, h1, ⟨A', c', e, h3, h4, h5, h6⟩, h7⟩ := h
  injection e with e1 e2 e3
  subst e1
  have hlt : i < l.length := (List.getElem?_eq_some_iff.1 hs).1
  obtain ⟨g, o, rfl, hx⟩ := h6 (by omega)
  obtain ⟨u, e4, e5⟩ := h7 i s hs
  obtain ⟨Au, cu, rfl, k1, k2⟩ := e5.slice
  unfold maxLen at k2
  refine ⟨g, o, Au, cu, rfl, fun j x hj => ?_, e5, k1, k2⟩
  have hrow : (List.zipWith rowS l us)[i]? = some (rowS s (.slice Au s.sig.length cu)) := by rw [List.getElem?_zipWith, hs, e4]
  have hj23 : j < 23 := by have := (List.getElem?_eq_some_iff.1 hj).1; rw [rowS_len (hf s (List.mem_of_getElem? hs))] at this; exact this
  have := flatten_at (zip_rows (us := us) hf) hrow hj23
  rw [Nat.add_assoc]
  exact hx _ x (by rw [this]; exact hj)
end

/-! ### opening -/
section
variable {H : Type} {enc : TypeId × Value → H} {W : World} {v : Value} {d : DataW H} {p : List MemPlace} {base : Nat} {spare : Nat → Bool} {held : Bool} {fuel : Nat}

theorem cells_name : Tryz.prog.cellsOf 28 = 8 := by kernel_rfl
theorem open_byte {c : Value} {x : DataW H × List MemPlace} (h : DataW.trod enc Tryz.prog W base spare held fuel 5 [c] = some x) : ∃ b : UInt8, c = byteV b := by
  obtain ⟨z, e, _, hw⟩ := DataW.trod_int Tryz.underlying5 h
  injection e with e
  obtain ⟨h1, h2⟩ := wf_u8 hw
  refine ⟨UInt8.ofNat z.toNat, ?_⟩
  rw [e]
  show Value.int .u8 z = .int .u8 _
  congr 1
  simp
  omega
theorem open_name_cells {c0 c1 c2 c3 c4 c5 c6 c7 : Value} {x : DataW H × List MemPlace} (h : DataW.trod enc Tryz.prog W base spare held fuel 28 [c0, c1, c2, c3, c4, c5, c6, c7] = some x) : ∃ l : List UInt8, l.length = 8 ∧ [c0, c1, c2, c3, c4, c5, c6, c7] = l.map byteV := by
  obtain ⟨xs, m, _, _, _, hl, hi⟩ := DataW.trod_array Tryz.underlying28 h
  rw [cells_u8] at hi
  have get : ∀ i, i < 8 → ∃ y, xs[i]? = some y := fun i h => ⟨_, List.getElem?_eq_getElem (by omega)⟩
  have one : ∀ (i : Nat) (c : Value), i < 8 → (([c0, c1, c2, c3, c4, c5, c6, c7] : List Value).drop (i * 1)).take 1 = [c] → ∃ b : UInt8, c = byteV b := fun i c h1 h2 => by
    obtain ⟨y, hy⟩ := get i h1
    have := hi i h1
    rw [h2, hy] at this
    exact open_byte this
  obtain ⟨b0, rfl⟩ := one 0 c0 (by omega) rfl
  obtain ⟨b1, rfl⟩ := one 1 c1 (by omega) rfl
  obtain ⟨b2, rfl⟩ := one 2 c2 (by omega) rfl
  obtain ⟨b3, rfl⟩ := one 3 c3 (by omega) rfl
  obtain ⟨b4, rfl⟩ := one 4 c4 (by omega) rfl
  obtain ⟨b5, rfl⟩ := one 5 c5 (by omega) rfl
  obtain ⟨b6, rfl⟩ := one 6 c6 (by omega) rfl
  obtain ⟨b7, rfl⟩ := one 7 c7 (by omega) rfl
  exact ⟨[b0, b1, b2, b3, b4, b5, b6, b7], rfl, rfl⟩
theorem list_choose {α β : Type} {R : α → β → Prop} : ∀ (l : List α), (∀ x ∈ l, ∃ y, R x y) → ∃ r : List β, r.length = l.length ∧ ∀ (i : Nat) x, l[i]? = some x → ∃ y, r[i]? = some y ∧ R x y
  | [], _ => ⟨[], rfl, fun _ _ h => by cases h⟩
  | a :: l, h => by
    obtain ⟨r, h1, h2⟩ := list_choose l (fun x hx => h x (by simp [hx]))
    obtain ⟨y, hy⟩ := h a (by simp)
    refine ⟨y :: r, by simp [h1], fun i x hx => ?_⟩
    cases i with
    | zero => simp at hx; subst hx; exact ⟨y, rfl, hy⟩
    | succ i => simpa using h2 i x (by simpa using hx)

theorem open_texts {x : DataW H × List MemPlace} (h : DataW.trod enc Tryz.prog W base spare held fuel 51 [v] = some x) : ∃ l : List (List UInt8), TxR W v l := by
  obtain ⟨vs, h1, h2⟩ := open_cells Tryz.underlying51 cells_bytes h
  obtain ⟨r, hr, hx⟩ := list_choose (R := fun (u : Value) (bs : List UInt8) => Rd W 1 u bs.length (bs.map byteV)) vs (fun u hu => by
    obtain ⟨n, y, hy⟩ := h2 u hu
    exact open_bytes_of hy)
  refine ⟨r, vs, hr.symm, by rw [hr]; exact h1, fun i b hb => ?_⟩
  have hlt : i < vs.length := by rw [← hr]; exact (List.getElem?_eq_some_iff.1 hb).1
  obtain ⟨y, e1, e2⟩ := hx i _ (List.getElem?_eq_getElem hlt)
  rw [hb] at e1
  have e1 := Option.some.inj e1
  subst e1
  exact ⟨_, List.getElem?_eq_getElem hlt, e2⟩

end
end

section
open Go.RowKit
end
end Go.Proofs.YtengcmfdfmnacaaGreat
