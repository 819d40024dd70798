/- The disk of the program in memory, and what the map of its files does. No condition. -/
import Derived.Test.YtmapijpphnlcmaaBase
import Derived.Test.YtmapijpphnlcmaaLay
import Derived.Maps.OwnSet
import Derived.Maps.Ext
import Derived.Sort.KeysCollected
import Derived.WalkSpells
import Derived.Lib.Hide
namespace Go.Proofs.Ytmapijpphnlcmaa
open Go.RowKit Go.Maps

/-- A file: its name, its block, the value of its content, the content, the durable part. -/
structure FRec where
  nm : List UInt8
  fb : Nat
  cv : Value
  c : List UInt8
  dur : Nat

def fileR : Value → Option (DataW Unit × List MemPlace)
  | .pointer none => some (.nil, [])
  | .pointer (some ⟨b, 0, none⟩) => some (.lit (.int .i64 b), [])
  | _ => none

def entD (r : FRec) : Lit × DataW Unit := (.string r.nm, .lit (.int .i64 r.fb))
def mapD (L : List FRec) : DataW Unit := .map (L.map entD)

abbrev ptrV (b : Nat) : Value := .pointer (some ⟨b, 0, none⟩)

theorem fileR_nil {v : Value} {ps : List MemPlace} (h : fileR v = some (.nil, ps)) : v = .pointer none := by
  unfold fileR at h
  split at h <;> simp_all
theorem fileR_ptr {v : Value} {b : Nat} {ps : List MemPlace} (h : fileR v = some (.lit (.int .i64 b), ps)) : v = ptrV b := by
  unfold fileR at h
  split at h
  · simp_all
  · simp at h
    obtain ⟨h, _⟩ := h
    simp [ptrV, Int.ofNat_inj.1 h]
  · cases h

/-- The disk at block d, its map at block mb. -/
structure DiskL (w : World) (d mb : Nat) (off armed : Bool) (left : Nat) (L : List FRec) : Prop where
  head : Blk w d 73 #[.map (some mb), .bool off, .bool armed, .int .i64 left]
  files : w.ownsMap Try.prog 9 fileR mb L.length (mapD L)
  file : ∀ r ∈ L, Blk w r.fb 77 #[r.cv, .int .i64 r.dur]
  own : ∀ r ∈ L, Own w 5 1 r.cv r.c.length (r.c.map byteV)
  dur : ∀ r ∈ L, r.dur ≤ r.c.length
  nm : ∀ r ∈ L, r.nm.length ≤ maxLen
  fbs : L.Pairwise (fun a b => a.fb ≠ b.fb)
  gs : L.Pairwise (fun a b => ∀ k, OwnB a.cv k → ¬ OwnB b.cv k)
  lft : left ≤ 9223372036854775807
  len : ∀ r ∈ L, r.c.length ≤ 1099511627776

/-- The blocks of a disk. -/
def foot (d mb : Nat) (L : List FRec) : Nat → Prop := fun k => k = d ∨ k = mb ∨ ∃ r ∈ L, k = r.fb ∨ OwnB r.cv k

theorem keyed : Keyed Try.prog 9 := string_keyed Try.underlying9
theorem keyOf_strV {l : List UInt8} (h : l.length ≤ maxLen) : keyOf Try.prog 9 (strV l) = some (.string l) := by
  have := Go.WideMaps.keyOf_string_mk (P := Try.prog) Try.underlying9 (s := ⟨l.toArray⟩) (by simpa [ByteArray.size] using h)
  simpa [strV] using this
theorem zero_filep (w : World) : (zeroValue 75).run Try.prog w = .ok (.pointer none) w := by kernel_rfl

section
variable {w : World} {d mb : Nat} {off armed : Bool} {left : Nat} {L : List FRec}

/-- The names ascend. -/
theorem DiskL.sorted (h : DiskL w d mb off armed left L) : L.Pairwise (fun a b => bytesBefore a.nm b.nm = true) := by
  obtain ⟨es, he, hp, _⟩ := h.files.canon keyed
  simp only [mapD] at he
  injection he with he
  subst he
  rw [List.pairwise_map] at hp
  exact hp

theorem find_entD (L : List FRec) (nm : List UInt8) : (L.map entD).find? (fun p => p.1.sameKey (.string nm)) = (L.find? (fun r => r.nm == nm)).map entD := by
  induction L with
  | nil => rfl
  | cons r L ih =>
    simp only [List.map_cons, List.find?_cons]
    have : (entD r).1.sameKey (.string nm) = (r.nm == nm) := rfl
    rw [this]
    cases r.nm == nm <;> simp [ih]

theorem DiskL.look (h : DiskL w d mb off armed left L) {nm : List UInt8} (hn : nm.length ≤ maxLen) :
    (Instr.lookup 71 (.map (some mb)) (strV nm) false).run Try.prog w = .ok (match L.find? (fun r => r.nm == nm) with | some r => ptrV r.fb | none => .pointer none) w := by
  obtain ⟨v, ps, hrun, hv⟩ := h.files.lookup keyed Try.underlying71 (zero_filep w) (zd := .nil) (zp := []) rfl (keyOf_strV hn)
  rw [hrun]
  have ha : (mapD L).atKey (.string nm) .nil = match L.find? (fun r => r.nm == nm) with | some r => .lit (.int .i64 r.fb) | none => .nil := by
    simp only [mapD, DataW.atKey, find_entD]
    cases L.find? (fun r => r.nm == nm) <;> rfl
  rw [ha] at hv
  cases hf : L.find? (fun r => r.nm == nm) with
  | none => rw [hf] at hv; rw [fileR_nil hv]
  | some r => rw [hf] at hv; simp only at hv; rw [fileR_ptr hv]
end

/-! ### lists of files -/
def insR (r : FRec) : List FRec → List FRec
  | [] => [r]
  | y :: l => if bytesBefore r.nm y.nm then r :: y :: l else y :: insR r l

def delR (nm : List UInt8) (L : List FRec) : List FRec := L.filter (fun r => !(r.nm == nm))

theorem insR_entD (r : FRec) (L : List FRec) : DataW.insert (entD r) (L.map entD) = (insR r L).map entD := by
  induction L with
  | nil => rfl
  | cons y l ih =>
    simp only [List.map_cons, DataW.insert, insR]
    have : (entD r).1.before (entD y).1 = bytesBefore r.nm y.nm := rfl
    rw [this]
    cases bytesBefore r.nm y.nm <;> simp [ih]

theorem mem_insR {r x : FRec} {L : List FRec} : x ∈ insR r L ↔ x = r ∨ x ∈ L := by
  induction L with
  | nil => simp [insR]
  | cons y l ih =>
    simp only [insR]
    split
    · simp
    · simp only [List.mem_cons, ih]
      constructor
      · rintro (h | h | h) <;> simp [h]
      · rintro (h | h | h) <;> simp [h]

theorem length_insR (r : FRec) (L : List FRec) : (insR r L).length = L.length + 1 := by
  induction L with
  | nil => rfl
  | cons y l ih => simp only [insR]; split <;> simp [ih]

theorem pairwise_insR {R : FRec → FRec → Prop} {r : FRec} {L : List FRec} (hs : ∀ a b, R a b → R b a) (h : L.Pairwise R) (hr : ∀ x ∈ L, R r x) : (insR r L).Pairwise R := by
  induction L with
  | nil => simp [insR]
  | cons y l ih =>
    rw [List.pairwise_cons] at h
    simp only [insR]
    split
    · exact List.pairwise_cons.2 ⟨hr, List.pairwise_cons.2 h⟩
    · refine List.pairwise_cons.2 ⟨fun x hx => ?_, ih h.2 (fun x hx => hr x (by simp [hx]))⟩
      rcases mem_insR.1 hx with rfl | hx
      · exact hs _ _ (hr y (by simp))
      · exact h.1 x hx

theorem filter_entD (L : List FRec) (nm : List UInt8) : (L.map entD).filter (fun p => !p.1.sameKey (.string nm)) = (delR nm L).map entD := by
  induction L with
  | nil => rfl
  | cons r L ih =>
    simp only [List.map_cons, List.filter_cons, delR]
    have : (entD r).1.sameKey (.string nm) = (r.nm == nm) := rfl
    rw [this]
    cases r.nm == nm <;> simp [ih, delR]

theorem put_mapD (L : List FRec) (r : FRec) : (mapD L).put (.string r.nm) (.lit (.int .i64 r.fb)) = mapD (insR r (delR r.nm L)) := by
  simp only [mapD, DataW.put, filter_entD]
  rw [show ((Lit.string r.nm, DataW.lit (Lit.int .i64 r.fb)) : Lit × DataW Unit) = entD r from rfl, insR_entD]
theorem del_mapD (L : List FRec) (nm : List UInt8) : (mapD L).del (.string nm) = mapD (delR nm L) := by
  simp only [mapD, DataW.del, filter_entD]

theorem delR_of_none {L : List FRec} {nm : List UInt8} (h : L.find? (fun r => r.nm == nm) = none) : delR nm L = L := by
  unfold delR
  rw [List.filter_eq_self]
  intro a ha
  have := List.find?_eq_none.1 h a ha
  simpa using this

/-- How many entries a map has is how many its datum has. -/
theorem ownsMap_exact {w : World} {b n : Nat} {L : List FRec} (h : w.ownsMap Try.prog 9 fileR b n (mapD L)) : w.ownsMap Try.prog 9 fileR b L.length (mapD L) := by
  obtain ⟨es, clock, hb, F, hs, hD⟩ := h
  refine ⟨es, clock, hb, F, ?_, hD⟩
  have e1 : es.size = ((es.toList.map (Go.WideElems.rg Try.prog 9 fileR)).foldr DataW.insert []).length := by rw [length_sorted]; simp
  have e2 : (L.map entD) = ((es.toList.map (Go.WideElems.rg Try.prog 9 fileR)).foldr DataW.insert []) := by
    simp only [mapD] at hD
    injection hD
  rw [e1, ← e2]
  simp

theorem ownsMap_upd {F : Nat → Prop} {w w' : World} {b n : Nat} {D : DataW Unit} (h : w.ownsMap Try.prog 9 fileR b n D) (hu : Upd F w w') (hF : ¬ F b) : w'.ownsMap Try.prog 9 fileR b n D := by
  have hlt := h.lt
  obtain ⟨es, clock, hb, r⟩ := h
  exact ⟨es, clock, (hu.block b hlt hF).trans hb, r⟩

theorem ownsMap_ne_blk {w : World} {b n g : Nat} {t : TypeId} {cs : Array Value} {D : DataW Unit} (h : w.ownsMap Try.prog 9 fileR b n D) (hb : Blk w g t cs) : b ≠ g := by
  rintro rfl
  obtain ⟨es, clock, he, _⟩ := h
  unfold Blk at hb
  rw [he] at hb
  cases hb

theorem ownsMap_ne_own {w : World} {b n k : Nat} {e : TypeId} {size m : Nat} {v : Value} {xs : List Value} {D : DataW Unit} (h : w.ownsMap Try.prog 9 fileR b n D) (ho : Own w e size v m xs) (hk : OwnB v k) : b ≠ k := by
  rcases ho.2 with ⟨rfl, _⟩ | ⟨g, cap, cur, rfl, hb, _⟩
  · simp [OwnB, Value.ownBlock] at hk
  · simp [OwnB, Value.ownBlock] at hk
    exact hk ▸ ownsMap_ne_blk h hb

theorem Own.ne_of {w : World} {k g : Nat} {e t : TypeId} {size m : Nat} {v : Value} {xs : List Value} {cs : Array Value} (ho : Own w e size v m xs) (hb : Blk w g t cs) (hne : e ≠ t) (hk : OwnB v k) : k ≠ g := by
  rintro rfl
  exact ho.blk_ne hb hne hk

/-- A disk stays what it is while other blocks are written. -/
theorem DiskL.upd {w w' : World} {d mb : Nat} {off armed : Bool} {left : Nat} {L : List FRec} (h : DiskL w d mb off armed left L) {F : Nat → Prop} (hu : Upd F w w') (hF : ∀ k, foot d mb L k → ¬ F k) : DiskL w' d mb off armed left L :=
  { head := hu.blk h.head (hF _ (.inl rfl)), files := ownsMap_upd h.files hu (hF _ (.inr (.inl rfl))),
    file := fun r hr => hu.blk (h.file r hr) (hF _ (.inr (.inr ⟨r, hr, .inl rfl⟩))), own := fun r hr => (h.own r hr).upd hu (fun _ hk => hF _ (.inr (.inr ⟨r, hr, .inr hk⟩))),
    dur := h.dur, nm := h.nm, fbs := h.fbs, gs := h.gs, lft := h.lft, len := h.len }

theorem DiskL.foot_lt {w : World} {d mb : Nat} {off armed : Bool} {left : Nat} {L : List FRec} (h : DiskL w d mb off armed left L) {k : Nat} (hk : foot d mb L k) : k < w.heap.size := by
  rcases hk with rfl | rfl | ⟨r, hr, rfl | hk⟩
  · exact h.head.lt
  · exact h.files.lt
  · exact (h.file r hr).lt
  · exact (h.own r hr).lt hk

end Go.Proofs.Ytmapijpphnlcmaa
