/- Arguments of the statements, opened: slices of bytes and of integers, strings, slices of slices of bytes. No condition. -/
import Derived.Test.YtmapijpphnlcmaaFrame
import Derived.Test.YtmapijpphnlcmaaLaw30a
import Derived.Deep.Slices
namespace Go.Proofs.Ytmapijpphnlcmaa
open Go.ChangeShapes Go.WideShapes Go.ChangeAt Go.RowKit

/-- The blocks that were made since w. -/
def Ab (w : World) : Nat → Prop := fun k => w.heap.size ≤ k
theorem Upd.ab {w wi wj : World} {F : Nat → Prop} (h : Upd (Ab w) w wi) (h2 : Upd F wi wj) (hF : ∀ k, F k → w.heap.size ≤ k) : Upd (Ab w) w wj := h.trans h2 (fun k _ f => hF k f)

theorem spot_of_cell {w : World} {a : Addr} {v : Value} (h : w.cell? a = some v) : a.spot = none := by
  unfold World.cell? at h
  split at h
  · split at h
    · cases h
    · rename_i hs; simpa using hs
  · cases h
theorem add_form {a : Addr} (hs : a.spot = none) (i : Nat) : a.add i = ⟨a.block, a.off + i, none⟩ := by
  obtain ⟨b, o, s⟩ := a
  simp only at hs
  subst hs
  unfold Addr.add
  split <;> simp_all

/-- Cells that were there stay, while only new blocks are written. -/
theorem Rd.ab {w : World} {size : Nat} {v : Value} {n : Nat} {xs : List Value} (h : Rd w size v n xs) : RdF (Ab w) w size v n xs := by
  intro w' hu
  obtain ⟨A, c, rfl, hn, hc, hl, hA⟩ := h
  refine ⟨A, c, rfl, hn, hc, hl, fun h0 => ?_⟩
  obtain ⟨g, o, rfl, hx⟩ := hA h0
  refine ⟨g, o, rfl, fun j u hj => hu.cell (hx j u hj) ?_⟩
  have := block_lt_of_cell (hx j u hj)
  simp only [Ab]
  simp only at this
  omega

section
variable {H : Type} {enc : TypeId × Value → H} {W : World} {v : Value} {d : DataW H} {p : List MemPlace}

theorem cells_u8 : Try.prog.cellsOf 5 = 1 := by kernel_rfl
theorem cells_int : Try.prog.cellsOf 3 = 1 := by kernel_rfl
theorem cells_bytes : Try.prog.cellsOf 27 = 1 := by kernel_rfl

theorem open_nums {t e : TypeId} {k : IntKind} (ht : Try.prog.underlying t = some (.slice e)) (he : Try.prog.underlying e = some (.int k)) (hc : Try.prog.cellsOf e = 1) {fuel : Nat} {base : Nat} {spare : Nat → Bool} {held : Bool} {x : DataW H × List MemPlace}
    (h : DataW.trod enc Try.prog W base spare held fuel t [v] = some x) : ∃ zs : List Int, Rd W 1 v zs.length (zs.map (Value.int k)) ∧ ∀ z ∈ zs, (Lit.int k z).wf = true := by
  rcases open_ints ht he hc h with ⟨hcs, hx⟩ | ⟨a, len, cap, zs, hcs, _, hl, hm, hz, hx, hcell, hwz⟩
  · injection hcs with hcs
    subst hcs
    exact ⟨[], Rd.nil W 1, by simp⟩
  · injection hcs with hcs
    subst hcs
    have hlen : (zs.take len).length = len := by
      rw [List.length_take]
      split at hz <;> omega
    refine ⟨zs.take len, ⟨some a, cap, by rw [hlen], by omega, hm, by simp, fun h0 => ?_⟩, fun z hz' => hwz z (List.mem_of_mem_take hz')⟩
    have hlz : len ≤ zs.length := by split at hz <;> omega
    have h00 : W.cell? (a.add 0) = some (.int k (zs.getD 0 0)) := hcell 0 (by omega)
    have hs : a.spot = none := by
      have := spot_of_cell h00
      revert this
      unfold Addr.add
      simp
    refine ⟨a.block, a.off, by cases a; simp_all, fun j u hj => ?_⟩
    rw [List.getElem?_map] at hj
    have hjl : j < len := by
      rcases Nat.lt_or_ge j len with h | h
      · exact h
      · rw [List.getElem?_eq_none (by omega)] at hj; cases hj
    have := hcell j (by omega)
    rw [add_form hs] at this
    rw [this]
    rw [List.getElem?_take, if_pos hjl, List.getElem?_eq_getElem (by omega)] at hj
    simp only [Option.map_some, Option.some.injEq] at hj
    rw [← hj]
    simp [List.getElem?_eq_getElem (show j < zs.length by omega)]

set_option maxRecDepth 100000 in
theorem wf_u8 {z : Int} (h : (Lit.int .u8 z).wf = true) : 0 ≤ z ∧ z < 256 := by
  have := bounds_u8 h
  omega
theorem bytes_of_u8 {zs : List Int} (h : ∀ z ∈ zs, (Lit.int .u8 z).wf = true) : zs.map (Value.int .u8) = (zs.map (fun z => UInt8.ofNat z.toNat)).map byteV := by
  rw [List.map_map]
  refine List.map_congr_left (fun z hz => ?_)
  obtain ⟨h1, h2⟩ := wf_u8 (h z hz)
  have : (UInt8.ofNat z.toNat).toNat = z.toNat := by simp; omega
  simp only [Function.comp, byteV, this]
  rw [Int.toNat_of_nonneg h1]

theorem open_bytes_of {fuel base : Nat} {spare : Nat → Bool} {held : Bool} {x : DataW H × List MemPlace} (h : DataW.trod enc Try.prog W base spare held fuel 27 [v] = some x) : ∃ bs : List UInt8, Rd W 1 v bs.length (bs.map byteV) := by
  obtain ⟨zs, h1, h2⟩ := open_nums (v := v) Try.underlying27 Try.underlying5 cells_u8 h
  refine ⟨zs.map (fun z => UInt8.ofNat z.toNat), ?_⟩
  rw [← bytes_of_u8 h2, List.length_map]
  exact h1

set_option maxRecDepth 100000 in
theorem slice_cells {t e : TypeId} (ht : Try.prog.underlying t = some (.slice e)) {base0 base : Nat} {r : Reach} {spare : Nat → Bool} {held : Bool} (hok : Value.okWide Try.prog W r base0 t v) (h : DataW.Trod enc Try.prog W base spare held t v d p) :
    ∃ fuel, DataW.trod enc Try.prog W base spare held fuel t [v] = some (d, p) := by
  obtain ⟨a, len, cap, rfl⟩ := okWide_slice ht hok
  exact h

set_option maxRecDepth 100000 in
theorem open_bytes {base0 : Nat} (hok : Value.okWide Try.prog W .any base0 27 v) (h : DataW.Trod enc Try.prog W 0 (fun _ => true) true 27 v d p) : ∃ bs : List UInt8, RdB (Ab W) W v bs := by
  obtain ⟨fuel, hf⟩ := slice_cells (t := 27) (e := 5) Try.underlying27 hok h
  obtain ⟨bs, hb⟩ := open_bytes_of hf
  exact ⟨bs, hb.ab⟩

set_option maxRecDepth 100000 in
theorem wf_i64 {z : Int} (h : (Lit.int .i64 z).wf = true) : -9223372036854775808 ≤ z ∧ z ≤ 9223372036854775807 := by
  have := bounds_i64 h
  omega

set_option maxRecDepth 100000 in
theorem open_picks {base0 : Nat} (hok : Value.okWide Try.prog W .any base0 23 v) (h : DataW.Trod enc Try.prog W 0 (fun _ => true) true 23 v d p) : ∃ zs : List Int, RdI (Ab W) W v zs ∧ ∀ z ∈ zs, -9223372036854775808 ≤ z ∧ z ≤ 9223372036854775807 := by
  obtain ⟨fuel, hf⟩ := slice_cells (t := 23) (e := 3) Try.underlying23 hok h
  obtain ⟨zs, h1, h2⟩ := open_nums (v := v) Try.underlying23 Try.underlying3 cells_int hf
  exact ⟨zs, h1.ab, fun z hz => wf_i64 (h2 z hz)⟩

/-- The cells of a slice of whatever element type of one cell. -/
theorem open_cells {t e : TypeId} (ht : Try.prog.underlying t = some (.slice e)) (hc : Try.prog.cellsOf e = 1) {fuel base : Nat} {spare : Nat → Bool} {held : Bool} {x : DataW H × List MemPlace} (h : DataW.trod enc Try.prog W base spare held fuel t [v] = some x) :
    ∃ vs : List Value, Rd W 1 v vs.length vs ∧ ∀ u ∈ vs, ∃ n y, DataW.trod enc Try.prog W base spare held n e [u] = some y := by
  rcases Go.Deep.open_slice ht h with ⟨hcs, hx⟩ | ⟨a, len, cap, m, n, D, Pl, hcs, _, hl, hm, hz, hx, hi⟩
  · injection hcs with hcs
    subst hcs
    exact ⟨[], Rd.nil W 1, by simp⟩
  · injection hcs with hcs
    subst hcs
    have hlm : len ≤ m := by split at hz <;> omega
    have hex : ∀ i, i < len → ∃ u, W.cell? (a.add i) = some u ∧ DataW.trod enc Try.prog W base spare held n e [u] = some (D i, Pl i) := by
      intro i hilt
      obtain ⟨cs', h1, h2⟩ := hi i (by omega)
      rw [hc] at h1
      obtain ⟨_, hcl, hat⟩ := World.cells?_some h1
      have h00 := hat 0 (by omega)
      obtain ⟨u, rfl⟩ : ∃ u, cs' = [u] := by
        match cs', hcl with
        | [u], _ => exact ⟨u, rfl⟩
      rw [Go.Deep.add_add] at h00
      exact ⟨u, by simpa using h00, h2⟩
    have hspot : 0 < len → a.spot = none := by
      intro h0
      obtain ⟨u, h1, _⟩ := hex 0 h0
      have := spot_of_cell h1
      revert this
      unfold Addr.add
      simp
    refine ⟨(List.range len).map (fun i => (W.cell? (a.add i)).getD undef), ⟨some a, cap, by simp, by simpa using hl, hm, by simp, fun h0 => ?_⟩, ?_⟩
    · have hs := hspot (by simpa using h0)
      refine ⟨a.block, a.off, by cases a; simp_all, fun j u hj => ?_⟩
      rw [List.getElem?_map] at hj
      have hjl : j < len := by
        rcases Nat.lt_or_ge j len with h | h
        · exact h
        · rw [List.getElem?_eq_none (by simpa using h)] at hj; cases hj
      obtain ⟨u', h1, _⟩ := hex j hjl
      rw [List.getElem?_range hjl] at hj
      simp only [Option.map_some, Option.some.injEq, h1, Option.getD_some] at hj
      subst hj
      rw [add_form hs] at h1
      exact h1
    · intro u hu
      obtain ⟨i, hi', rfl⟩ := List.mem_map.1 hu
      obtain ⟨u', h1, h2⟩ := hex i (by simpa using hi')
      rw [h1]
      exact ⟨n, _, h2⟩

/-- A slice of slices of bytes. -/
def RdBB (F : Nat → Prop) (w : World) (v : Value) (l : List (List UInt8)) : Prop :=
  ∃ vs : List Value, vs.length = l.length ∧ RdF F w 1 v l.length vs ∧ ∀ (i : Nat) b, l[i]? = some b → ∃ u, vs[i]? = some u ∧ RdB F w u b

set_option maxRecDepth 100000 in
theorem open_bytess {base0 : Nat} (hok : Value.okWide Try.prog W .any base0 22 v) (h : DataW.Trod enc Try.prog W 0 (fun _ => true) true 22 v d p) : ∃ l : List (List UInt8), RdBB (Ab W) W v l := by
  obtain ⟨fuel, hf⟩ := slice_cells (t := 22) (e := 27) Try.underlying22 hok h
  obtain ⟨vs, h1, h2⟩ := open_cells Try.underlying22 cells_bytes hf
  have h3 : ∀ u ∈ vs, ∃ bs : List UInt8, RdB (Ab W) W u bs := by
    intro u hu
    obtain ⟨n, y, hy⟩ := h2 u hu
    obtain ⟨bs, hb⟩ := open_bytes_of hy
    exact ⟨bs, hb.ab⟩
  have h4 : ∃ l : List (List UInt8), vs.length = l.length ∧ ∀ (i : Nat) b, l[i]? = some b → ∃ u, vs[i]? = some u ∧ RdB (Ab W) W u b := by
    clear h1 h2
    induction vs with
    | nil => exact ⟨[], rfl, by simp⟩
    | cons u vs ih =>
      obtain ⟨l, hl, hi⟩ := ih (fun x hx => h3 x (by simp [hx]))
      obtain ⟨bs, hb⟩ := h3 u (by simp)
      refine ⟨bs :: l, by simp [hl], fun i b hib => ?_⟩
      cases i with
      | zero => simp at hib; subst hib; exact ⟨u, rfl, hb⟩
      | succ i => simpa using hi i b (by simpa using hib)
  obtain ⟨l, hl, hi⟩ := h4
  exact ⟨l, vs, hl, by rw [← hl]; exact h1.ab, hi⟩
end
end Go.Proofs.Ytmapijpphnlcmaa
