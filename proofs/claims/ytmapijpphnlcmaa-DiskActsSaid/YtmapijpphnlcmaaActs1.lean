/- The acts of DiskActs: opened; what one act does to a disk. Conditions: sizes. -/
import Derived.Test.YtmapijpphnlcmaaOpen2
namespace Go.Proofs.Ytmapijpphnlcmaa
open Go.ChangeShapes Go.WideShapes Go.ChangeAt Go.RowKit

structure ActR where
  kind : Int
  nm : List UInt8
  to : List UInt8
  dv : Value
  data : List UInt8
  n : Int
  pv : Value
  picks : List Int

def rowA (a : ActR) : List Value := [.int .i64 a.kind, strV a.nm, strV a.to, a.dv, .int .i64 a.n, a.pv]

structure ActOk (F : Nat → Prop) (w : World) (a : ActR) : Prop where
  data : RdB F w a.dv a.data
  picks : RdI F w a.pv a.picks
  pb : ∀ z ∈ a.picks, -9223372036854775808 ≤ z ∧ z ≤ 9223372036854775807
  nb : -9223372036854775808 ≤ a.n ∧ a.n ≤ 9223372036854775807
  nl : a.nm.length ≤ maxLen
  tl : a.to.length ≤ maxLen

theorem ActOk.upd {F : Nat → Prop} {w w' : World} {a : ActR} (h : ActOk F w a) (hu : Upd F w w') : ActOk F w' a := { h with data := h.data.upd hu, picks := h.picks.upd hu }
theorem ActOk.upd' {F G : Nat → Prop} {w w' : World} {a : ActR} (h : ActOk F w a) (hu : Upd F w w') (hG : ∀ i, i < w.heap.size → G i → F i) : ActOk G w' a := { h with data := h.data.upd' hu hG, picks := h.picks.upd' hu hG }

def RdActs (F : Nat → Prop) (w : World) (v : Value) (l : List ActR) : Prop := RdF F w 6 v l.length (l.map rowA).flatten ∧ ∀ a ∈ l, ActOk F w a

section
variable {H : Type} {enc : TypeId × Value → H} {W : World} {v : Value} {d : DataW H} {p : List MemPlace}

theorem open_picks_of {fuel base : Nat} {spare : Nat → Bool} {held : Bool} {x : DataW H × List MemPlace} (h : DataW.trod enc Try.prog W base spare held fuel 23 [v] = some x) : ∃ zs : List Int, RdI (Ab W) W v zs ∧ ∀ z ∈ zs, -9223372036854775808 ≤ z ∧ z ≤ 9223372036854775807 := by
  obtain ⟨zs, h1, h2⟩ := open_nums (v := v) Try.underlying23 Try.underlying3 cells_int h
  exact ⟨zs, h1.ab, fun z hz => wf_i64 (h2 z hz)⟩

set_option maxRecDepth 100000 in
theorem act_row {base : Nat} {spare : Nat → Bool} {held : Bool} {row : List Value} (hl : row.length = 6)
    (hf : ∀ (j : Nat) (t : TypeId), [3, 9, 9, 27, 3, 23][j]? = some t → ∃ u n y, row[j]? = some u ∧ DataW.trod enc Try.prog W base spare held n t [u] = some y) : ∃ a : ActR, row = rowA a ∧ ActOk (Ab W) W a := by
  match row, hl with
  | [r0, r1, r2, r3, r4, r5], _ =>
    obtain ⟨u, n, y, e0, t0⟩ := hf 0 3 rfl
    obtain rfl : r0 = u := by simpa using e0
    obtain ⟨z0, e, _, w0⟩ := DataW.trod_int Try.underlying3 t0
    obtain rfl : r0 = .int .i64 z0 := by simpa using e
    obtain ⟨u, n, y, e1, t1⟩ := hf 1 9 rfl
    obtain rfl : r1 = u := by simpa using e1
    obtain ⟨s1, e, _, w1⟩ := DataW.trod_string Try.underlying9 t1
    obtain rfl : r1 = .string s1 := by simpa using e
    obtain ⟨u, n, y, e2, t2⟩ := hf 2 9 rfl
    obtain rfl : r2 = u := by simpa using e2
    obtain ⟨s2, e, _, w2⟩ := DataW.trod_string Try.underlying9 t2
    obtain rfl : r2 = .string s2 := by simpa using e
    obtain ⟨u, n, y, e3, t3⟩ := hf 3 27 rfl
    obtain rfl : r3 = u := by simpa using e3
    obtain ⟨bs, hbs⟩ := open_bytes_of t3
    obtain ⟨u, n, y, e4, t4⟩ := hf 4 3 rfl
    obtain rfl : r4 = u := by simpa using e4
    obtain ⟨z4, e, _, w4⟩ := DataW.trod_int Try.underlying3 t4
    obtain rfl : r4 = .int .i64 z4 := by simpa using e
    obtain ⟨u, n, y, e5, t5⟩ := hf 5 23 rfl
    obtain rfl : r5 = u := by simpa using e5
    obtain ⟨zs, hz1, hz2⟩ := open_picks_of t5
    exact ⟨⟨z0, s1.data.toList, s2.data.toList, r3, bs, z4, r5, zs⟩, by simp [rowA, strV_of], ⟨hbs.ab, hz1, hz2, wf_i64 w4, by simpa using w1, by simpa using w2⟩⟩

set_option maxRecDepth 100000 in
theorem open_acts {base0 : Nat} (hok : Value.okWide Try.prog W .any base0 38 v) (h : DataW.Trod enc Try.prog W 0 (fun _ => true) true 38 v d p) : ∃ l : List ActR, RdActs (Ab W) W v l := by
  obtain ⟨fuel, hf⟩ := slice_cells (t := 38) (e := 46) Try.underlying38 hok h
  obtain ⟨rows, h1, h2⟩ := open_rows Try.underlying38 Try.underlying46 (by kernel_rfl) (by kernel_rfl) (by decide) hf
  have h3 : ∀ row ∈ rows, ∃ a : ActR, row = rowA a ∧ ActOk (Ab W) W a := fun row hrow => by
    obtain ⟨hl, hj⟩ := h2 row hrow
    refine act_row (enc := enc) (base := 0) (spare := fun _ => true) (held := true) hl (fun j t ht => ?_)
    match j, ht with
    | 0, rfl => exact hj 0 _ rfl
    | 1, rfl => exact hj 1 _ rfl
    | 2, rfl => exact hj 2 _ rfl
    | 3, rfl => exact hj 3 _ rfl
    | 4, rfl => exact hj 4 _ rfl
    | 5, rfl => exact hj 5 _ rfl
  have h4 : ∃ l : List ActR, rows = l.map rowA ∧ ∀ a ∈ l, ActOk (Ab W) W a := by
    clear h1 h2
    induction rows with
    | nil => exact ⟨[], rfl, by simp⟩
    | cons r rows ih =>
      obtain ⟨l, rfl, hl⟩ := ih (fun x hx => h3 x (by simp [hx]))
      obtain ⟨a, rfl, ha⟩ := h3 r (by simp)
      exact ⟨a :: l, rfl, by simpa using ⟨ha, hl⟩⟩
  obtain ⟨l, rfl, hl⟩ := h4
  refine ⟨l, ?_, hl⟩
  have := h1.ab
  rw [List.length_map] at this
  exact this
end

theorem acts_at {l : List ActR} {i : Nat} {a : ActR} (h : l[i]? = some a) {j : Nat} {u : Value} (hj : (rowA a)[j]? = some u) : (l.map rowA).flatten[i * 6 + j]? = some u := by
  have hjl : j < 6 := (List.getElem?_eq_some_iff.1 hj).1
  rw [flatten_at (rows := l.map rowA) (k := 6) (r := rowA a) (by intro r hr; obtain ⟨x, _, rfl⟩ := List.mem_map.1 hr; rfl) (by rw [List.getElem?_map, h]; rfl) hjl]
  exact hj

/-- The cells of one act. -/
theorem RdActs.form {F : Nat → Prop} {w : World} {v : Value} {l : List ActR} (h : RdActs F w v l) : ∃ A c, v = .slice A l.length c ∧ l.length ≤ c ∧ c ≤ maxLen ∧ (0 < l.length → ∃ g o, A = some ⟨g, o, none⟩ ∧
    ∀ w', Upd F w w' → ∀ i a, l[i]? = some a → w'.cell? ⟨g, o + i * 6, none⟩ = some (.int .i64 a.kind) ∧ w'.cell? ⟨g, o + i * 6 + 1, none⟩ = some (strV a.nm) ∧ w'.cell? ⟨g, o + i * 6 + 2, none⟩ = some (strV a.to) ∧ w'.cell? ⟨g, o + i * 6 + 3, none⟩ = some a.dv ∧
      w'.cell? ⟨g, o + i * 6 + 4, none⟩ = some (.int .i64 a.n) ∧ w'.cell? ⟨g, o + i * 6 + 5, none⟩ = some a.pv) := by
  obtain ⟨A, c, rfl, hn, hc, hl, hA⟩ := h.1.now
  refine ⟨A, c, rfl, hn, hc, fun h0 => ?_⟩
  obtain ⟨g, o, rfl, -⟩ := hA h0
  refine ⟨g, o, rfl, fun w' hu i a ha => ?_⟩
  obtain ⟨A', c', e, _, _, _, hA'⟩ := h.1 w' hu
  obtain ⟨g', o', e', hcell⟩ := hA' h0
  injection e with e
  rw [← e] at e'
  injection e' with e'
  injection e' with e1 e2
  subst e1 e2
  have hx : ∀ j u, (rowA a)[j]? = some u → w'.cell? ⟨g, o + i * 6 + j, none⟩ = some u := fun j u hj => by
    rw [Nat.add_assoc]
    exact hcell _ u (acts_at ha hj)
  exact ⟨hx 0 _ rfl, hx 1 _ rfl, hx 2 _ rfl, hx 3 _ rfl, hx 4 _ rfl, hx 5 _ rfl⟩

/-- What an act does. -/
def sDo (s : DSt) (a : ActR) : Int × DSt :=
  if a.kind = 0 then sAppend s a.nm a.data else if a.kind = 1 then sTruncate s a.nm a.n else if a.kind = 2 then sSync s a.nm else if a.kind = 3 then sRename s a.nm a.to else if a.kind = 4 then sRemove s a.nm
  else if a.kind = 5 then (0, sArm s a.n) else if a.kind = 6 then (0, sCrash s a.picks) else (0, s)

theorem DiskStep.pre {w w1 w' : World} {d : Nat} {s : DSt} {F : Nat → Prop} (hu : Upd NoF w w1) (h : DiskStep w1 d s F w') : DiskStep w d s F w' := by
  obtain ⟨F', a, b, c⟩ := h
  refine ⟨F', a, (hu.mono (G := F) (fun _ _ h => h.elim)).trans b (fun _ _ h => h), fun k hk => ?_⟩
  rcases c k hk with h | h
  · exact .inl h
  · exact .inr (Nat.le_trans hu.size h)
theorem ErrPost.pre {w w1 w' : World} {d : Nat} {r : Int × DSt} {F : Nat → Prop} {e : Ending} (hu : Upd NoF w w1) (h : ErrPost w1 d F r e w') : ErrPost w d F r e w' := ⟨h.1, h.2.pre hu⟩

abbrev aggA (a : ActR) : Value := .agg #[.int .i64 a.kind, strV a.nm, strV a.to, a.dv, .int .i64 a.n, a.pv]

end Go.Proofs.Ytmapijpphnlcmaa
