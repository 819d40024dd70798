/- Checksums and frames of the journal, of the program and of the reference. Conditions: sizes. Parsing on plain data; lists of records in memory; bytes.Equal. Conditions: sizes. Parse of package journal. Conditions: sizes. -/
import Derived.Test.YtbgificdilpdcaaGreatJn8
import Derived.Deep.RegionHeld3
import Derived.Test.YtbgificdilpdcaaGreatJn7
import Derived.Deep.QuietTactic
import Derived.BigQuiet
import Derived.IntWalk
namespace Go.Proofs.YtbgificdilpdcaaGreat
section
open Go.RowKit

def jsumS (i : Nat) (bs : List UInt8) : List UInt8 := tagged 88 (beB i 4 ++ bs)
def frameS (i : Nat) (bs : List UInt8) : List UInt8 := beB bs.length 4 ++ jsumS i bs ++ bs
theorem jsumS_len (i : Nat) (bs : List UInt8) : (jsumS i bs).length = 8 := rfl

def Bytes4 (W : World) (i : Nat) (e : Ending) (w' : World) : Prop := ∃ A c, e = .returned (.slice A 4 c) ∧ Own w' 5 1 (.slice A 4 c) 4 ((beB i 4).map byteV) ∧ (∀ k, OwnB (.slice A 4 c) k → W.heap.size ≤ k) ∧ Upd NoF W w'
theorem cAU4 (W : World) (i : Nat) : Calls Tryz.prog 26 #[.slice none 0 0, u64V (i : Int), .int .i64 4] W (Bytes4 W i) := by
  refine (cAppendUint_any (bs := []) (Rd.nil W 1) (i : Int) (by omega) 4 (by omega) (by simp)).mono ?_
  rintro e w' ⟨A, c, rfl, h1, h2, h3⟩
  exact ⟨A, c, rfl, h1, h2, h3⟩
theorem r1AU4 (W : World) (i : Nat) : Calls Tryz.prog 30 #[.slice none 0 0, u64V (i : Int), .int .i64 4] W (Bytes4 W i) := by
  refine (r1AppendUint_any (bs := []) (Rd.nil W 1) (i : Int) (by omega) 4 (by omega) (by simp)).mono ?_
  rintro e w' ⟨A, c, rfl, h1, h2, h3⟩
  exact ⟨A, c, rfl, h1, h2, h3⟩

theorem Own.rd4 {w : World} {A : Option Addr} {c i : Nat} {bs : List UInt8} (h : Own w 5 1 (.slice A (4 + bs.length) c) (4 + bs.length) ((beB i 4).map byteV ++ bs.map byteV)) : Rd w 1 (.slice A (4 + bs.length) c) (beB i 4 ++ bs).length ((beB i 4 ++ bs).map byteV) := by
  have := h.rd
  rw [show (beB i 4 ++ bs).length = 4 + bs.length by simp [beB_len], List.map_append]
  exact this

end

section
open Go.RowKit

def parseStep (bs : List UInt8) (a idx : Nat) : Option (List UInt8 × Nat) :=
  if a + 12 ≤ bs.length then
    if be ((bs.drop a).take 4) ≤ 65536 ∧ a + 12 + be ((bs.drop a).take 4) ≤ bs.length then
      if (bs.drop (a + 4)).take 8 = jsumS idx ((bs.drop (a + 12)).take (be ((bs.drop a).take 4))) then some ((bs.drop (a + 12)).take (be ((bs.drop a).take 4)), a + 12 + be ((bs.drop a).take 4)) else none
    else none
  else none
def parseF (bs : List UInt8) : Nat → List (List UInt8) → Nat → List (List UInt8) × Nat
  | 0, l, a => (l, a)
  | f + 1, l, a => match parseStep bs a l.length with
    | none => (l, a)
    | some (r, a') => parseF bs f (l ++ [r]) a'
def parseS (bs : List UInt8) : List (List UInt8) × Nat := parseF bs (bs.length + 1) [] 0

theorem parseStep_le {bs : List UInt8} {a idx : Nat} {r : List UInt8} {a' : Nat} (h : parseStep bs a idx = some (r, a')) : a + 12 ≤ a' ∧ a' ≤ bs.length ∧ r.length ≤ 65536 ∧ a' = a + 12 + r.length := by
  unfold parseStep at h
  split at h
  · split at h
    · split at h
      · injection h with h
        injection h with h1 h2
        subst h1 h2
        simp
        omega
      · cases h
    · cases h
  · cases h

/-- Where the parse stands. -/
def PAt (bs : List UInt8) (l : List (List UInt8)) (a : Nat) : Prop := ∃ f, parseF bs f l a = parseS bs ∧ bs.length < f + a ∧ a ≤ bs.length ∧ l.length * 12 ≤ a
theorem PAt.start (bs : List UInt8) : PAt bs [] 0 := ⟨bs.length + 1, rfl, by omega, by omega, by simp⟩
theorem PAt.stop {bs : List UInt8} {l : List (List UInt8)} {a : Nat} (h : PAt bs l a) (hs : parseStep bs a l.length = none) : parseS bs = (l, a) := by
  obtain ⟨f, h1, h2, h3, _⟩ := h
  obtain ⟨f, rfl⟩ : ∃ k, f = k + 1 := ⟨f - 1, by omega⟩
  rw [← h1, parseF, hs]
theorem PAt.next {bs : List UInt8} {l : List (List UInt8)} {a a' : Nat} {r : List UInt8} (h : PAt bs l a) (hs : parseStep bs a l.length = some (r, a')) : PAt bs (l ++ [r]) a' := by
  obtain ⟨f, h1, h2, h3, h4⟩ := h
  obtain ⟨f, rfl⟩ : ∃ k, f = k + 1 := ⟨f - 1, by omega⟩
  rw [parseF, hs] at h1
  obtain ⟨e1, e2, _⟩ := parseStep_le hs
  exact ⟨f, h1, by omega, e2, by simp; omega⟩

/-! ### lists of records in memory -/
def RecsV (w : World) (v : Value) (l : List (List UInt8)) (vs : List Value) : Prop :=
  Own w 28 1 v l.length vs ∧ ∀ (i : Nat) b, l[i]? = some b → ∃ u, vs[i]? = some u ∧ Own w 5 1 u b.length (b.map byteV)
def RecsF (v : Value) (vs : List Value) : Nat → Prop := fun k => OwnB v k ∨ ∃ u ∈ vs, OwnB u k
def RecsAt (w : World) (v : Value) (l : List (List UInt8)) (F : Nat → Prop) : Prop := ∃ vs : List Value, RecsV w v l vs ∧ F = RecsF v vs

section
variable {w w' : World} {v : Value} {l : List (List UInt8)} {F G : Nat → Prop}
theorem RecsAt.nil (w : World) : RecsAt w (.slice none 0 0) [] NoF := by
  refine ⟨[], ⟨Own.nil _ _ _, fun i b h => (by cases h)⟩, ?_⟩
  funext k
  simp [NoF, RecsF, OwnB, Value.ownBlock]
theorem RecsAt.upd (h : RecsAt w v l F) (hu : Upd G w w') (hG : ∀ k, F k → ¬ G k) : RecsAt w' v l F := by
  obtain ⟨vs, ⟨h1, h2⟩, rfl⟩ := h
  refine ⟨vs, ⟨h1.upd hu (fun k hk => hG k (.inl hk)), fun i b hb => ?_⟩, rfl⟩
  obtain ⟨u, e1, e2⟩ := h2 i b hb
  exact ⟨u, e1, e2.upd hu (fun k hk => hG k (.inr ⟨u, List.mem_of_getElem? e1, hk⟩))⟩
theorem RecsAt.lt (h : RecsAt w v l F) {k : Nat} (hk : F k) : k < w.heap.size := by
  obtain ⟨vs, ⟨h1, h2⟩, rfl⟩ := h
  rcases hk with hk | ⟨u, hu, hk⟩
  · exact h1.lt hk
  · obtain ⟨i, hi, rfl⟩ := List.mem_iff_getElem.1 hu
    have hl := h1.1
    obtain ⟨u', e1, e2⟩ := h2 i _ (List.getElem?_eq_getElem (by omega))
    rw [List.getElem?_eq_getElem hi] at e1
    injection e1 with e1
    rw [e1] at hk
    exact e2.lt hk
theorem RecsAt.form (h : RecsAt w v l F) : ∃ A c, v = .slice A l.length c ∧ l.length ≤ c ∧ c ≤ maxLen := by
  obtain ⟨vs, ⟨h1, h2⟩, rfl⟩ := h
  obtain ⟨A, c, e, h3, h4, _⟩ := h1.rd
  exact ⟨A, c, e, h3, h4⟩
theorem RecsAt.own (h : RecsAt w v l F) : ∃ vs, Own w 28 1 v l.length vs := by
  obtain ⟨vs, ⟨h1, _⟩, _⟩ := h
  exact ⟨vs, h1⟩
/-- One record. -/
theorem RecsAt.get {A : Option Addr} {n c : Nat} (h : RecsAt w (.slice A n c) l F) {i : Nat} {b : List UInt8} (hb : l[i]? = some b) : ∃ g Au cu, A = some ⟨g, 0, none⟩ ∧ w.cell? ⟨g, i, none⟩ = some (.slice Au b.length cu) ∧ Own w 5 1 (.slice Au b.length cu) b.length (b.map byteV) := by
  obtain ⟨vs, ⟨h1, h2⟩, rfl⟩ := h
  have hlt : i < l.length := (List.getElem?_eq_some_iff.1 hb).1
  obtain ⟨u, e1, e2⟩ := h2 i b hb
  obtain ⟨Au, cu, rfl⟩ := e2.form
  rcases h1.2 with ⟨_, e⟩ | ⟨g, cap, cur, e, _⟩
  · omega
  · injection e with e
    subst e
    obtain ⟨A', c', e, _, _, _, hx⟩ := h1.rd
    obtain ⟨g', o, e', hx⟩ := hx (by omega)
    injection e with e
    rw [← e] at e'
    injection e' with e'
    injection e' with e1' e2'
    subst e1' e2'
    exact ⟨g, Au, cu, rfl, by have := hx i _ e1; simpa using this, e2⟩
end

theorem bytes_info : (Tryz.prog.info? 28).map (fun i => (i.zero, i.size, i.bytes)) = some (some (.slice none 0 0), 1, 24) := by kernel_rfl

/-- One more record. -/
theorem RecsV.push {w w0 w1 : World} {A A' Au : Option Addr} {c c' cu : Nat} {l : List (List UInt8)} {vs : List Value} {b : List UInt8} (h : RecsV w (.slice A l.length c) l vs) (h0 : Upd NoF w w0) (hu : Own w0 5 1 (.slice Au b.length cu) b.length (b.map byteV))
    (ho : Own w1 28 1 (.slice A' (l.length + 1) c') (l.length + 1) (vs ++ [.slice Au b.length cu])) (hup : Upd (OwnB (.slice A l.length c)) w0 w1) (hn : ∀ k, OwnB (.slice A' (l.length + 1) c') k → OwnB (.slice A l.length c) k ∨ w0.heap.size ≤ k) :
    RecsV w1 (.slice A' (l.length + 1) c') (l ++ [b]) (vs ++ [.slice Au b.length cu]) ∧ ∀ k, RecsF (.slice A' (l.length + 1) c') (vs ++ [.slice Au b.length cu]) k → RecsF (.slice A l.length c) vs k ∨ OwnB (.slice Au b.length cu) k ∨ w0.heap.size ≤ k := by
  obtain ⟨h1, h2⟩ := h
  have hO := h1.upd h0 (fun _ _ h => h)
  have keep : ∀ {u : Value} {n : Nat} {xs : List Value}, Own w0 5 1 u n xs → Own w1 5 1 u n xs := fun {u n xs} hx => hx.upd hup (fun k hk e => by
    rcases hO.2 with ⟨e1, _⟩ | ⟨g', cap, cur, e1, hb, _⟩
    · rw [e1] at e; simp [OwnB, Value.ownBlock] at e
    · rw [e1] at e
      simp [OwnB, Value.ownBlock] at e
      subst e
      exact hx.blk_ne hb (by decide) hk)
  refine ⟨⟨by rw [List.length_append, List.length_singleton]; exact ho, fun i x hx => ?_⟩, fun k hk => ?_⟩
  · have hl := h1.1
    rcases Nat.lt_or_ge i l.length with hlt | hge
    · rw [List.getElem?_append_left hlt] at hx
      obtain ⟨u, e1, e2⟩ := h2 i x hx
      exact ⟨u, by rw [List.getElem?_append_left (by omega)]; exact e1, keep (e2.upd h0 (fun _ _ h => h))⟩
    · rw [List.getElem?_append_right hge] at hx
      have hi0 : i - l.length = 0 := by
        have := (List.getElem?_eq_some_iff.1 hx).1
        simp at this
        omega
      rw [hi0] at hx
      simp at hx
      subst hx
      exact ⟨_, by rw [List.getElem?_append_right (by omega)]; simp [show i - vs.length = 0 by omega], keep hu⟩
  · rcases hk with hk | ⟨u, hu', hk⟩
    · rcases hn k hk with e | e
      · exact .inl (.inl e)
      · exact .inr (.inr e)
    · rcases List.mem_append.1 hu' with e | e
      · exact .inl (.inr ⟨u, e, hk⟩)
      · simp at e
        subst e
        exact .inr (.inl hk)

theorem RecsV.oneCell {w : World} {v : Value} {l : List (List UInt8)} {vs : List Value} (h : RecsV w v l vs) : ∀ u ∈ vs, u.oneCell' = true := by
  intro u hu
  obtain ⟨i, hi, rfl⟩ := List.mem_iff_getElem.1 hu
  have hl := h.1.1
  obtain ⟨u', e1, e2⟩ := h.2 i _ (List.getElem?_eq_getElem (by omega))
  rw [List.getElem?_eq_getElem hi] at e1
  injection e1 with e1
  obtain ⟨Au, cu, e3⟩ := e2.form
  rw [e1, e3]
  rfl

/-- bytes.Equal. -/
theorem bEqual_any {w : World} {v1 v2 : Value} {a b : List UInt8} (h1 : Rd w 1 v1 a.length (a.map byteV)) (h2 : Rd w 1 v2 b.length (b.map byteV)) : Calls Tryz.prog 65 #[v1, v2] w fun e w' => e = .returned (.bool (a == b)) ∧ w' = w := by
  have hs : ∀ l : List UInt8, strV l = .string (strOfNums (l.map fun x => (x.toNat : Int))) := fun l => by
    congr 1
    simp [Function.comp_def]
  have hb : ∀ l : List UInt8, Lib.bytesOf (l.map fun x => (x.toNat : Int)) = l := fun l => by
    simp [Lib.bytesOf, Function.comp_def]
  have := Tryz.bytes_Equal v1 v2 (a.map fun x => (x.toNat : Int)) (b.map fun x => (x.toNat : Int)) w (by rw [← hs]; exact run_str h1) (by rw [← hs]; exact run_str h2)
  rw [hb, hb] at this
  exact this
end

section
open Go.RowKit

def ParsePost (w : World) (bs : List UInt8) (e : Ending) (w' : World) : Prop :=
  ∃ v F, e = .returned (.tuple #[v, .int .i64 ((parseS bs).2 : Int)]) ∧ RecsAt w' v (parseS bs).1 F ∧ (∀ k, F k → w.heap.size ≤ k) ∧ Upd NoF w w'
def PRel (w : World) (bs : List UInt8) (out at_ : Value) (wr : World) : Prop :=
  ∃ (l : List (List UInt8)) (a : Nat) (A : Option Addr) (c : Nat) (vs : List Value), out = .slice A l.length c ∧ at_ = .int .i64 a ∧ PAt bs l a ∧ RecsV wr (.slice A l.length c) l vs ∧ (∀ k, RecsF (.slice A l.length c) vs k → w.heap.size ≤ k) ∧ Upd NoF w wr
theorem ParsePost.mk {w wr w' : World} {bs : List UInt8} {l : List (List UInt8)} {a : Nat} {A : Option Addr} {c : Nat} {vs : List Value} (hP : PAt bs l a) (hs : parseStep bs a l.length = none) (hV : RecsV wr (.slice A l.length c) l vs) (hF : ∀ k, RecsF (.slice A l.length c) vs k → w.heap.size ≤ k) (hU : Upd NoF w wr) (hu : Upd NoF wr w') :
    ParsePost w bs (.returned (.tuple #[.slice A l.length c, .int .i64 (a : Int)])) w' := by
  unfold ParsePost
  rw [hP.stop hs]
  exact ⟨_, _, rfl, RecsAt.upd ⟨vs, hV, rfl⟩ hu (fun _ _ h => h), hF, hU.trans hu (fun _ _ h => h)⟩

theorem ps_short {bs : List UInt8} {a idx : Nat} (h : bs.length < a + 12) : parseStep bs a idx = none := by unfold parseStep; rw [if_neg (by omega)]
theorem ps_big {bs : List UInt8} {a idx : Nat} (h : ¬ (be ((bs.drop a).take 4) ≤ 65536 ∧ a + 12 + be ((bs.drop a).take 4) ≤ bs.length)) : parseStep bs a idx = none := by
  unfold parseStep
  split
  · first | rfl | rw [if_neg h]
  · rfl
theorem ps_sum {bs : List UInt8} {a idx : Nat} (h : ¬ (bs.drop (a + 4)).take 8 = jsumS idx ((bs.drop (a + 12)).take (be ((bs.drop a).take 4)))) : parseStep bs a idx = none := by
  unfold parseStep
  split
  · split
    · first | rfl | rw [if_neg h]
    · rfl
  · rfl
theorem ps_yes {bs : List UInt8} {a idx : Nat} (h1 : a + 12 ≤ bs.length) (h2 : be ((bs.drop a).take 4) ≤ 65536 ∧ a + 12 + be ((bs.drop a).take 4) ≤ bs.length) (h : (bs.drop (a + 4)).take 8 = jsumS idx ((bs.drop (a + 12)).take (be ((bs.drop a).take 4)))) :
    parseStep bs a idx = some ((bs.drop (a + 12)).take (be ((bs.drop a).take 4)), a + 12 + be ((bs.drop a).take 4)) := by
  unfold parseStep
  rw [if_pos h1, if_pos h2, if_pos h]

/-- A part of a slice of bytes. -/
theorem rd_part {w : World} {g o n c lo k m : Nat} {bs : List UInt8} (h : Rd w 1 (.slice (some ⟨g, o, none⟩) n c) n (bs.map byteV)) (hl : bs.length = n) (hk : lo + k ≤ n) (hm : k ≤ m) (hm2 : m ≤ maxLen) (A' : Option Addr) (hA : 0 < k → A' = some ⟨g, o + lo, none⟩) : Rd w 1 (.slice A' k m) ((bs.drop lo).take k).length (((bs.drop lo).take k).map byteV) := by
  have hlen : ((bs.drop lo).take k).length = k := by simp; omega
  obtain ⟨A, c', e, h1, h2, h3, hx⟩ := h
  rw [hlen]
  refine ⟨A', m, rfl, hm, hm2, by simp; omega, fun h0 => ?_⟩
  obtain ⟨g', o', e', hc⟩ := hx (by omega)
  injection e with e1
  rw [← e1] at e'
  injection e' with e'
  injection e' with e2 e3
  subst e2 e3
  refine ⟨g, o + lo, hA h0, fun j u hu => ?_⟩
  rw [Nat.add_assoc]
  refine hc (lo + j) u ?_
  rw [List.getElem?_map, List.getElem?_take] at hu
  split at hu
  · rw [List.getElem?_drop] at hu
    rw [List.getElem?_map]
    exact hu
  · cases hu

end
end Go.Proofs.YtbgificdilpdcaaGreat
