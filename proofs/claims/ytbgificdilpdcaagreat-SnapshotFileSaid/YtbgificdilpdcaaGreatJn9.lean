/- From a contract 'it returns true and turns nothing that was there' to the row of a statement. No condition. Arguments of the statements, opened: slices of bytes and of integers, strings, slices of slices of bytes. No condition. Arguments of the statements, opened: a slice of structs whose fields take one cell each; the acts of DiskActs. No condition. Votes with their signatures, texts and views in memory, and arguments of these types opened. No condition. -/
import Derived.Test.YtbgificdilpdcaaGreatRows
import Derived.Test.YtbgificdilpdcaaGreatJn1
import Derived.ProofKit
import Derived.OpenShut
import Derived.Carry
import Derived.Test.YtbgificdilpdcaaGreatJn6
import Derived.Deep.Slices
import Derived.Deep.Fields
import Derived.Test.YtbgificdilpdcaaGreatJn2
import Derived.Deep.MidRow
import Derived.Lib.SmallJoins
namespace Go.Proofs.YtbgificdilpdcaaGreat
section
open Go.ChangeShapes Go.WideShapes Go.ChangeAt Go.RowKit

theorem own : ownKnob Tryz.prog.godebug = none := by kernel_rfl
theorem laid : laidOutB Tryz.prog = true := by kernel_rfl

theorem trodAll_below {H : Type} {enc : TypeId × Value → H} {W W' : World} (hb : Below W.heap.size W W') : ∀ {ts : List TypeId} {vs : List Value} {ds : List (DataW H)} {ps : List MemPlace},
    DataW.TrodAll enc Tryz.prog W 0 (fun _ => true) true ts vs ds ps → (∀ x ∈ ps, x.block < W.heap.size) → (∀ t ∈ ts, Tryz.prog.readableRec t = true ∧ t < Tryz.prog.types.size) →
    DataW.TrodAll enc Tryz.prog W' 0 (fun b => decide (b < W.heap.size)) true ts vs ds ps
  | [], vs, ds, ps, h, _, _ => by
    obtain ⟨rfl, rfl, rfl⟩ := trodAll_nil h
    exact trodAll_mk0
  | t :: ts, vs, ds, ps, h, hlt, hr => by
    obtain ⟨v, vs0, d, ds0, p, ps0, rfl, rfl, rfl, h0, r0⟩ := trodAll_cons h
    obtain ⟨hr1, hr2⟩ := hr t (by simp)
    exact trodAll_cons_mk (Below.trod laid hr1 hr2 h0 hb (fun x hx => hlt x (by simp [hx]))) (trodAll_below hb r0 (fun x hx => hlt x (by simp [hx])) (fun t ht => hr t (by simp [ht])))

/-- The row's post of a statement that returned true and turned nothing that was there. -/
theorem law_post {H : Type} {enc : TypeId × Value → H} {f : Func} {s : ChangeSpec} {W W' : World} {args : Array Value} {ds gs : List (DataW H)} {before : List MemPlace} (hv : s.vars = []) (hres : f.resultTypes = #[4])
    (hr : ∀ t ∈ f.params.toList, Tryz.prog.readableRec t = true ∧ t < Tryz.prog.types.size) (hfn : (s.fn H (ds ++ gs)).results = [.lit (.bool true)] ∧ (s.fn H (ds ++ gs)).args = ds ∧ (s.fn H (ds ++ gs)).vars = [])
    (hW : DataW.Whole enc Tryz.prog f.params.toList s.vars false W args.toList ds gs before) (hb : Below W.heap.size W W') : s.post enc Tryz.prog f false true false false W args (.bool true) W' := by
  have hW0 := hW
  have hlt : ∀ p ∈ before, p.block < W.heap.size := fun p hp => hW.lt p hp
  obtain ⟨p, q, hA, hV, rfl, _, _⟩ := hW
  rw [hv] at hV
  obtain ⟨rfl, rfl⟩ := trodVars_none hV
  refine ⟨ds, [], p ++ [], [], p, [], hW0, ?_, ?_, ?_, World.keptBut_mono (fun x hx => ⟨hx, .inr (.inl (by simpa using hx))⟩) (hb.frame (· ∈ p ++ [])), fun h => by cases h⟩
  · rw [hfn.1, hres]
    exact trodAll_cons_mk (shut_bool Tryz.underlying4 true) trodAll_mk0
  · rw [hfn.2.1]
    exact trodAll_below hb hA (fun x hx => hlt x (by simp [hx])) hr
  · rw [hv, hfn.2.2]
    exact rfl
end

section
open Go.ChangeShapes Go.WideShapes Go.ChangeAt Go.RowKit

/-- The blocks that were made since w. -/
def Ab (w : World) : Nat → Prop := fun k => w.heap.size ≤ k
theorem Upd.ab {w wi wj : World} {F : Nat → Prop} (h : Upd (Ab w) w wi) (h2 : Upd F wi wj) (hF : ∀ k, F k → w.heap.size ≤ k) : Upd (Ab w) w wj := h.trans h2 (fun k _ f => hF k f)

theorem spot_of_cell {w : World} {a : Addr} {v : Value} (h : w.cell? a = some v) : a.spot = none := by
  unfold World.cell? at h
  split at h
  · split at h
    · cases h
    · rename_i hs; simpa using hs
  · cases h
theorem add_form {a : Addr} (hs : a.spot = none) (i : Nat) : a.add i = ⟨a.block, a.off + i, none⟩ := by
  obtain ⟨b, o, s⟩ := a
  simp only at hs
  subst hs
  unfold Addr.add
  split <;> simp_all

/-- Cells that were there stay, while only new blocks are written. -/
theorem Rd.ab {w : World} {size : Nat} {v : Value} {n : Nat} {xs : List Value} (h : Rd w size v n xs) : RdF (Ab w) w size v n xs := by
  intro w' hu
  obtain ⟨A, c, rfl, hn, hc, hl, hA⟩ := h
  refine ⟨A, c, rfl, hn, hc, hl, fun h0 => ?_⟩
  obtain ⟨g, o, rfl, hx⟩ := hA h0
  refine ⟨g, o, rfl, fun j u hj => hu.cell (hx j u hj) ?_⟩
  have := block_lt_of_cell (hx j u hj)
  simp only [Ab]
  simp only at this
  omega

section
variable {H : Type} {enc : TypeId × Value → H} {W : World} {v : Value} {d : DataW H} {p : List MemPlace}

theorem cells_u8 : Tryz.prog.cellsOf 5 = 1 := by kernel_rfl
theorem cells_int : Tryz.prog.cellsOf 3 = 1 := by kernel_rfl
theorem cells_bytes : Tryz.prog.cellsOf 28 = 1 := by kernel_rfl

theorem open_nums {t e : TypeId} {k : IntKind} (ht : Tryz.prog.underlying t = some (.slice e)) (he : Tryz.prog.underlying e = some (.int k)) (hc : Tryz.prog.cellsOf e = 1) {fuel : Nat} {base : Nat} {spare : Nat → Bool} {held : Bool} {x : DataW H × List MemPlace}
    (h : DataW.trod enc Tryz.prog W base spare held fuel t [v] = some x) : ∃ zs : List Int, Rd W 1 v zs.length (zs.map (Value.int k)) ∧ ∀ z ∈ zs, (Lit.int k z).wf = true := by
  rcases open_ints ht he hc h with ⟨hcs, hx⟩ | ⟨a, len, cap, zs, hcs, _, hl, hm, hz, hx, hcell, hwz⟩
  · injection hcs with hcs
    subst hcs
    exact ⟨[], Rd.nil W 1, by simp⟩
  · injection hcs with hcs
    subst hcs
    have hlen : (zs.take len).length = len := by
      rw [List.length_take]
      split at hz <;> omega
    refine ⟨zs.take len, ⟨some a, cap, by rw [hlen], by omega, hm, by simp, fun h0 => ?_⟩, fun z hz' => hwz z (List.mem_of_mem_take hz')⟩
    have hlz : len ≤ zs.length := by split at hz <;> omega
    have h00 : W.cell? (a.add 0) = some (.int k (zs.getD 0 0)) := hcell 0 (by omega)
    have hs : a.spot = none := by
      have := spot_of_cell h00
      revert this
      unfold Addr.add
      simp
    refine ⟨a.block, a.off, by cases a; simp_all, fun j u hj => ?_⟩
    rw [List.getElem?_map] at hj
    have hjl : j < len := by
      rcases Nat.lt_or_ge j len with h | h
      · exact h
      · rw [List.getElem?_eq_none (by omega)] at hj; cases hj
    have := hcell j (by omega)
    rw [add_form hs] at this
    rw [this]
    rw [List.getElem?_take, if_pos hjl, List.getElem?_eq_getElem (by omega)] at hj
    simp only [Option.map_some, Option.some.injEq] at hj
    rw [← hj]
    simp [List.getElem?_eq_getElem (show j < zs.length by omega)]

set_option maxRecDepth 100000 in
theorem wf_u8 {z : Int} (h : (Lit.int .u8 z).wf = true) : 0 ≤ z ∧ z < 256 := by
  have := bounds_u8 h
  omega
theorem bytes_of_u8 {zs : List Int} (h : ∀ z ∈ zs, (Lit.int .u8 z).wf = true) : zs.map (Value.int .u8) = (zs.map (fun z => UInt8.ofNat z.toNat)).map byteV := by
  rw [List.map_map]
  refine List.map_congr_left (fun z hz => ?_)
  obtain ⟨h1, h2⟩ := wf_u8 (h z hz)
  have : (UInt8.ofNat z.toNat).toNat = z.toNat := by simp; omega
  simp only [Function.comp, byteV, this]
  rw [Int.toNat_of_nonneg h1]

theorem open_bytes_of {fuel base : Nat} {spare : Nat → Bool} {held : Bool} {x : DataW H × List MemPlace} (h : DataW.trod enc Tryz.prog W base spare held fuel 28 [v] = some x) : ∃ bs : List UInt8, Rd W 1 v bs.length (bs.map byteV) := by
  obtain ⟨zs, h1, h2⟩ := open_nums (v := v) Tryz.underlying28 Tryz.underlying5 cells_u8 h
  refine ⟨zs.map (fun z => UInt8.ofNat z.toNat), ?_⟩
  rw [← bytes_of_u8 h2, List.length_map]
  exact h1

set_option maxRecDepth 100000 in
theorem slice_cells {t e : TypeId} (ht : Tryz.prog.underlying t = some (.slice e)) {base0 base : Nat} {r : Reach} {spare : Nat → Bool} {held : Bool} (hok : Value.okWide Tryz.prog W r base0 t v) (h : DataW.Trod enc Tryz.prog W base spare held t v d p) :
    ∃ fuel, DataW.trod enc Tryz.prog W base spare held fuel t [v] = some (d, p) := by
  obtain ⟨a, len, cap, rfl⟩ := okWide_slice ht hok
  exact h

set_option maxRecDepth 100000 in
theorem wf_i64 {z : Int} (h : (Lit.int .i64 z).wf = true) : -9223372036854775808 ≤ z ∧ z ≤ 9223372036854775807 := by
  have := bounds_i64 h
  omega

set_option maxRecDepth 100000 in
theorem open_picks {base0 : Nat} (hok : Value.okWide Tryz.prog W .any base0 40 v) (h : DataW.Trod enc Tryz.prog W 0 (fun _ => true) true 40 v d p) : ∃ zs : List Int, RdI (Ab W) W v zs ∧ ∀ z ∈ zs, -9223372036854775808 ≤ z ∧ z ≤ 9223372036854775807 := by
  obtain ⟨fuel, hf⟩ := slice_cells (t := 40) (e := 3) Tryz.underlying40 hok h
  obtain ⟨zs, h1, h2⟩ := open_nums (v := v) Tryz.underlying40 Tryz.underlying3 cells_int hf
  exact ⟨zs, h1.ab, fun z hz => wf_i64 (h2 z hz)⟩

/-- The cells of a slice of whatever element type of one cell. -/
theorem open_cells {t e : TypeId} (ht : Tryz.prog.underlying t = some (.slice e)) (hc : Tryz.prog.cellsOf e = 1) {fuel base : Nat} {spare : Nat → Bool} {held : Bool} {x : DataW H × List MemPlace} (h : DataW.trod enc Tryz.prog W base spare held fuel t [v] = some x) :
    ∃ vs : List Value, Rd W 1 v vs.length vs ∧ ∀ u ∈ vs, ∃ n y, DataW.trod enc Tryz.prog W base spare held n e [u] = some y := by
  rcases Go.Deep.open_slice ht h with ⟨hcs, hx⟩ | ⟨a, len, cap, m, n, D, Pl, hcs, _, hl, hm, hz, hx, hi⟩
  · injection hcs with hcs
    subst hcs
    exact ⟨[], Rd.nil W 1, by simp⟩
  · injection hcs with hcs
    subst hcs
    have hlm : len ≤ m := by split at hz <;> omega
    have hex : ∀ i, i < len → ∃ u, W.cell? (a.add i) = some u ∧ DataW.trod enc Tryz.prog W base spare held n e [u] = some (D i, Pl i) := by
      intro i hilt
      obtain ⟨cs', h1, h2⟩ := hi i (by omega)
      rw [hc] at h1
      obtain ⟨_, hcl, hat⟩ := World.cells?_some h1
      have h00 := hat 0 (by omega)
      obtain ⟨u, rfl⟩ : ∃ u, cs' = [u] := by
        match cs', hcl with
        | [u], _ => exact ⟨u, rfl⟩
      rw [Go.Deep.add_add] at h00
      exact ⟨u, by simpa using h00, h2⟩
    have hspot : 0 < len → a.spot = none := by
      intro h0
      obtain ⟨u, h1, _⟩ := hex 0 h0
      have := spot_of_cell h1
      revert this
      unfold Addr.add
      simp
    refine ⟨(List.range len).map (fun i => (W.cell? (a.add i)).getD undef), ⟨some a, cap, by simp, by simpa using hl, hm, by simp, fun h0 => ?_⟩, ?_⟩
    · have hs := hspot (by simpa using h0)
      refine ⟨a.block, a.off, by cases a; simp_all, fun j u hj => ?_⟩
      rw [List.getElem?_map] at hj
      have hjl : j < len := by
        rcases Nat.lt_or_ge j len with h | h
        · exact h
        · rw [List.getElem?_eq_none (by simpa using h)] at hj; cases hj
      obtain ⟨u', h1, _⟩ := hex j hjl
      rw [List.getElem?_range hjl] at hj
      simp only [Option.map_some, Option.some.injEq, h1, Option.getD_some] at hj
      subst hj
      rw [add_form hs] at h1
      exact h1
    · intro u hu
      obtain ⟨i, hi', rfl⟩ := List.mem_map.1 hu
      obtain ⟨u', h1, h2⟩ := hex i (by simpa using hi')
      rw [h1]
      exact ⟨n, _, h2⟩

/-- A slice of slices of bytes. -/
def RdBB (F : Nat → Prop) (w : World) (v : Value) (l : List (List UInt8)) : Prop :=
  ∃ vs : List Value, vs.length = l.length ∧ RdF F w 1 v l.length vs ∧ ∀ (i : Nat) b, l[i]? = some b → ∃ u, vs[i]? = some u ∧ RdB F w u b

end
end

section
open Go.ChangeShapes Go.WideShapes Go.ChangeAt Go.RowKit

section
variable {H : Type} {enc : TypeId × Value → H} {W : World} {v : Value} {d : DataW H} {p : List MemPlace}

theorem flatten_at {rows : List (List Value)} {k : Nat} (hk : ∀ r ∈ rows, r.length = k) {i j : Nat} {r : List Value} (hr : rows[i]? = some r) (hj : j < k) : rows.flatten[i * k + j]? = r[j]? := by
  induction rows generalizing i with
  | nil => cases hr
  | cons y l ih =>
    have hy := hk y (by simp)
    rw [List.flatten_cons]
    cases i with
    | zero =>
      simp at hr
      subst hr
      rw [List.getElem?_append_left (by omega)]
      simp
    | succ i =>
      rw [List.getElem?_append_right (by rw [hy, Nat.succ_mul]; omega), hy, show (i + 1) * k + j - k = i * k + j by rw [Nat.succ_mul]; omega]
      exact ih (fun r hr => hk r (by simp [hr])) (by simpa using hr)
theorem flatten_len {rows : List (List Value)} {k : Nat} (hk : ∀ r ∈ rows, r.length = k) : rows.flatten.length = rows.length * k := by
  induction rows with
  | nil => simp
  | cons y l ih =>
    rw [List.flatten_cons, List.length_append, ih (fun r hr => hk r (by simp [hr])), hk y (by simp), List.length_cons, Nat.succ_mul]
    omega

end
end

section
open Go.ChangeShapes Go.WideShapes Go.ChangeAt Go.RowKit

/-! ### words -/
/-- A slice of slices of bytes, as it reads now. -/
def TxR (w : World) (v : Value) (l : List (List UInt8)) : Prop :=
  ∃ vs : List Value, vs.length = l.length ∧ Rd w 1 v l.length vs ∧ ∀ (i : Nat) b, l[i]? = some b → ∃ u, vs[i]? = some u ∧ Rd w 1 u b.length (b.map byteV)
def rowS (s : SignedS) (u : Value) : List Value := voteCells s.vote ++ [u]
/-- A slice of signed votes, as it reads now. -/
def SgR (w : World) (v : Value) (l : List SignedS) : Prop :=
  (∀ s ∈ l, s.vote.Fit) ∧ ∃ us : List Value, us.length = l.length ∧ Rd w 23 v l.length (List.zipWith rowS l us).flatten ∧ ∀ (i : Nat) s, l[i]? = some s → ∃ u, us[i]? = some u ∧ Rd w 1 u s.sig.length (s.sig.map byteV)
/-- A view. -/
def VwR (w : World) (a b : Value) (V : ViewS) : Prop := SgR w a V.votes ∧ TxR w b V.texts

section
variable {w w' : World} {v : Value}
theorem Rd.abK {size n : Nat} {xs : List Value} (h : Rd w size v n xs) (hu : Upd (Ab w) w w') : Rd w' size v n xs := h.ab w' hu
theorem Upd.toAb (h : Upd NoF w w') : Upd (Ab w) w w' := h.mono (fun _ _ f => f.elim)
theorem TxR.ab {l : List (List UInt8)} (h : TxR w v l) (hu : Upd (Ab w) w w') : TxR w' v l := by
  obtain ⟨vs, h1, h2, h3⟩ := h
  refine ⟨vs, h1, h2.abK hu, fun i b hb => ?_⟩
  obtain ⟨u, e1, e2⟩ := h3 i b hb
  exact ⟨u, e1, e2.abK hu⟩
theorem TxR.keep {l : List (List UInt8)} (h : TxR w v l) (hu : Upd NoF w w') : TxR w' v l := h.ab hu.toAb
theorem SgR.ab {l : List SignedS} (h : SgR w v l) (hu : Upd (Ab w) w w') : SgR w' v l := by
  obtain ⟨hf, us, h1, h2, h3⟩ := h
  refine ⟨hf, us, h1, h2.abK hu, fun i b hb => ?_⟩
  obtain ⟨u, e1, e2⟩ := h3 i b hb
  exact ⟨u, e1, e2.abK hu⟩
theorem SgR.keep {l : List SignedS} (h : SgR w v l) (hu : Upd NoF w w') : SgR w' v l := h.ab hu.toAb
theorem VwR.ab {a b : Value} {V : ViewS} (h : VwR w a b V) (hu : Upd (Ab w) w w') : VwR w' a b V := ⟨h.1.ab hu, h.2.ab hu⟩
theorem VwR.keep {a b : Value} {V : ViewS} (h : VwR w a b V) (hu : Upd NoF w w') : VwR w' a b V := h.ab hu.toAb
theorem TxR.nil (w : World) : TxR w (.slice none 0 0) [] := ⟨[], rfl, Rd.nil w 1, fun _ _ h => by cases h⟩
theorem SgR.nil (w : World) : SgR w (.slice none 0 0) [] := ⟨by simp, [], rfl, Rd.nil w 23, fun _ _ h => by cases h⟩
theorem TxR.form {l : List (List UInt8)} (h : TxR w v l) : ∃ A c, v = .slice A l.length c ∧ l.length ≤ c ∧ c ≤ maxLen := by
  obtain ⟨vs, _, ⟨A, c, e, h3, h4, _⟩, _⟩ := h
  exact ⟨A, c, e, h3, h4⟩
theorem SgR.form {l : List SignedS} (h : SgR w v l) : ∃ A c, v = .slice A l.length c ∧ l.length ≤ c ∧ c ≤ maxLen := by
  obtain ⟨_, vs, _, ⟨A, c, e, h3, h4, _⟩, _⟩ := h
  exact ⟨A, c, e, h3, h4⟩
theorem SgR.fit {l : List SignedS} (h : SgR w v l) {i : Nat} {s : SignedS} (hs : l[i]? = some s) : s.vote.Fit := h.1 s (List.mem_of_getElem? hs)
theorem Rd.slice {n : Nat} {xs : List Value} (h : Rd w 1 v n xs) : ∃ A c, v = .slice A n c ∧ n ≤ c ∧ c ≤ maxLen := by
  obtain ⟨A, c, e, h3, h4, _⟩ := h
  exact ⟨A, c, e, h3, h4⟩
/-- One text. -/
theorem TxR.at_ {A : Option Addr} {n c : Nat} {l : List (List UInt8)} (h : TxR w (.slice A n c) l) {i : Nat} {b : List UInt8} (hb : l[i]? = some b) :
    ∃ g o Au cu, A = some ⟨g, o, none⟩ ∧ w.cell? ⟨g, o + i, none⟩ = some (.slice Au b.length cu) ∧ Rd w 1 (.slice Au b.length cu) b.length (b.map byteV) ∧ b.length ≤ cu ∧ cu ≤ 9223372036854775807 := by
  obtain ⟨vs, h1, ⟨A', c', e, h3, h4, h5, h6⟩, h7⟩ := h
  injection e with e1 e2 e3
  subst e1
  have hlt : i < l.length := (List.getElem?_eq_some_iff.1 hb).1
  obtain ⟨g, o, rfl, hx⟩ := h6 (by omega)
  obtain ⟨u, e4, e5⟩ := h7 i b hb
  obtain ⟨Au, cu, rfl, k1, k2⟩ := e5.slice
  unfold maxLen at k2
  exact ⟨g, o, Au, cu, rfl, hx i _ e4, e5, k1, k2⟩
theorem rowS_len {s : SignedS} (hf : s.vote.Fit) (u : Value) : (rowS s u).length = 23 := by simp [rowS, voteCells, hf.parent, hf.value]
theorem zip_rows {l : List SignedS} {us : List Value} (hf : ∀ s ∈ l, s.vote.Fit) : ∀ r ∈ List.zipWith rowS l us, r.length = 23 := by
  intro r hr
  obtain ⟨i, hi, rfl⟩ := List.mem_iff_getElem.1 hr
  rw [List.getElem_zipWith]
  exact rowS_len (hf _ (List.getElem_mem _)) _
/-- One signed vote. -/
theorem SgR.at_ {A : Option Addr} {n c : Nat} {l : List SignedS} (h : SgR w (.slice A n c) l) {i : Nat} {s : SignedS} (hs : l[i]? = some s) :
    ∃ g o Au cu, A = some ⟨g, o, none⟩ ∧ w.rangeAt g (o + i * 23) (rowS s (.slice Au s.sig.length cu)) ∧ Rd w 1 (.slice Au s.sig.length cu) s.sig.length (s.sig.map byteV) ∧ s.sig.length ≤ cu ∧ cu ≤ 9223372036854775807 := by
  obtain ⟨hf, us, h1, ⟨A', c', e, h3, h4, h5, h6⟩, h7⟩ := h
  injection e with e1 e2 e3
  subst e1
  have hlt : i < l.length := (List.getElem?_eq_some_iff.1 hs).1
  obtain ⟨g, o, rfl, hx⟩ := h6 (by omega)
  obtain ⟨u, e4, e5⟩ := h7 i s hs
  obtain ⟨Au, cu, rfl, k1, k2⟩ := e5.slice
  unfold maxLen at k2
  refine ⟨g, o, Au, cu, rfl, fun j x hj => ?_, e5, k1, k2⟩
  have hrow : (List.zipWith rowS l us)[i]? = some (rowS s (.slice Au s.sig.length cu)) := by rw [List.getElem?_zipWith, hs, e4]
  have hj23 : j < 23 := by have := (List.getElem?_eq_some_iff.1 hj).1; rw [rowS_len (hf s (List.mem_of_getElem? hs))] at this; exact this
  have := flatten_at (zip_rows (us := us) hf) hrow hj23
  rw [Nat.add_assoc]
  exact hx _ x (by rw [this]; exact hj)
end

/-! ### opening -/
section
variable {H : Type} {enc : TypeId × Value → H} {W : World} {v : Value} {d : DataW H} {p : List MemPlace} {base : Nat} {spare : Nat → Bool} {held : Bool} {fuel : Nat}

theorem cells_name : Tryz.prog.cellsOf 53 = 8 := by kernel_rfl
theorem cells_vote : Tryz.prog.cellsOf 55 = 22 := by kernel_rfl
theorem cells_signed : Tryz.prog.cellsOf 57 = 23 := by kernel_rfl
theorem cells_mask : Tryz.prog.cellsOf 51 = 1 := by kernel_rfl
theorem cells_view : Tryz.prog.cellsOf 25 = 2 := by kernel_rfl

theorem open_byte {c : Value} {x : DataW H × List MemPlace} (h : DataW.trod enc Tryz.prog W base spare held fuel 5 [c] = some x) : ∃ b : UInt8, c = byteV b := by
  obtain ⟨z, e, _, hw⟩ := DataW.trod_int Tryz.underlying5 h
  injection e with e
  obtain ⟨h1, h2⟩ := wf_u8 hw
  refine ⟨UInt8.ofNat z.toNat, ?_⟩
  rw [e]
  show Value.int .u8 z = .int .u8 _
  congr 1
  simp
  omega
theorem open_int1 {t : TypeId} (ht : Tryz.prog.underlying t = some (.int .i64)) {c : Value} {x : DataW H × List MemPlace} (h : DataW.trod enc Tryz.prog W base spare held fuel t [c] = some x) : ∃ z : Int, c = .int .i64 z ∧ in64 z := by
  obtain ⟨z, e, _, hw⟩ := DataW.trod_int ht h
  injection e with e
  exact ⟨z, e, wf_i64 hw⟩
theorem open_name_cells {c0 c1 c2 c3 c4 c5 c6 c7 : Value} {x : DataW H × List MemPlace} (h : DataW.trod enc Tryz.prog W base spare held fuel 53 [c0, c1, c2, c3, c4, c5, c6, c7] = some x) : ∃ l : List UInt8, l.length = 8 ∧ [c0, c1, c2, c3, c4, c5, c6, c7] = l.map byteV := by
  obtain ⟨xs, m, _, _, _, hl, hi⟩ := DataW.trod_array Tryz.underlying53 h
  rw [cells_u8] at hi
  have get : ∀ i, i < 8 → ∃ y, xs[i]? = some y := fun i h => ⟨_, List.getElem?_eq_getElem (by omega)⟩
  have one : ∀ (i : Nat) (c : Value), i < 8 → (([c0, c1, c2, c3, c4, c5, c6, c7] : List Value).drop (i * 1)).take 1 = [c] → ∃ b : UInt8, c = byteV b := fun i c h1 h2 => by
    obtain ⟨y, hy⟩ := get i h1
    have := hi i h1
    rw [h2, hy] at this
    exact open_byte this
  obtain ⟨b0, rfl⟩ := one 0 c0 (by omega) rfl
  obtain ⟨b1, rfl⟩ := one 1 c1 (by omega) rfl
  obtain ⟨b2, rfl⟩ := one 2 c2 (by omega) rfl
  obtain ⟨b3, rfl⟩ := one 3 c3 (by omega) rfl
  obtain ⟨b4, rfl⟩ := one 4 c4 (by omega) rfl
  obtain ⟨b5, rfl⟩ := one 5 c5 (by omega) rfl
  obtain ⟨b6, rfl⟩ := one 6 c6 (by omega) rfl
  obtain ⟨b7, rfl⟩ := one 7 c7 (by omega) rfl
  exact ⟨[b0, b1, b2, b3, b4, b5, b6, b7], rfl, rfl⟩
set_option maxRecDepth 100000 in
theorem open_vote_cells {cs : List Value} {x : DataW H × List MemPlace} (h : DataW.trod enc Tryz.prog W base spare held fuel 55 cs = some x) : ∃ s : VoteS, s.Fit ∧ cs = voteCells s := by
  have hS : Tryz.prog.underlying 55 = some (.struct (Tryz.prog.fieldsOf 55)) := by kernel_rfl
  have hfs : (Tryz.prog.fieldsOf 55).toList.map (fun f => (f.type, f.offset)) = [(3, 0), (3, 1), (3, 2), (3, 3), (3, 4), (51, 5), (53, 6), (53, 14)] := by kernel_rfl
  obtain ⟨xs, n, _, _, hcl, hxl, hf⟩ := DataW.trod_struct hS h
  rw [cells_vote] at hcl
  have hsz : (Tryz.prog.fieldsOf 55).size = 8 := by
    have := congrArg List.length hfs
    simpa using this
  have fld : ∀ (i t o : Nat), ((Tryz.prog.fieldsOf 55).toList.map (fun f => (f.type, f.offset)))[i]? = some (t, o) → ∃ y, DataW.trod enc Tryz.prog W base spare held n t ((cs.drop o).take (Tryz.prog.cellsOf t)) = some y := fun i t o hi => by
    rw [List.getElem?_map] at hi
    obtain ⟨f, hf1, hf2⟩ := Option.map_eq_some_iff.1 hi
    have hf3 : (Tryz.prog.fieldsOf 55)[i]? = some f := by simpa using hf1
    have := hf i f hf3
    obtain ⟨e1, e2⟩ := Prod.mk.inj hf2
    rw [e1, e2] at this
    have hlt : i < xs.length := by rw [hxl]; exact (Array.getElem?_eq_some_iff.1 hf3).1
    exact ⟨xs[i], this.trans (List.getElem?_eq_getElem hlt)⟩
  rw [hfs] at fld
  match cs, hcl with
  | [c0, c1, c2, c3, c4, c5, c6, c7, c8, c9, c10, c11, c12, c13, c14, c15, c16, c17, c18, c19, c20, c21], _ =>
    obtain ⟨y0, f0⟩ := fld 0 3 0 rfl
    obtain ⟨y1, f1⟩ := fld 1 3 1 rfl
    obtain ⟨y2, f2⟩ := fld 2 3 2 rfl
    obtain ⟨y3, f3⟩ := fld 3 3 3 rfl
    obtain ⟨y4, f4⟩ := fld 4 3 4 rfl
    obtain ⟨y5, f5⟩ := fld 5 51 5 rfl
    obtain ⟨y6, f6⟩ := fld 6 53 6 rfl
    obtain ⟨y7, f7⟩ := fld 7 53 14 rfl
    rw [cells_int] at f0 f1 f2 f3 f4
    rw [cells_mask] at f5
    rw [cells_name] at f6 f7
    obtain ⟨z0, rfl, h0⟩ := open_int1 Tryz.underlying3 f0
    obtain ⟨z1, rfl, h1⟩ := open_int1 Tryz.underlying3 f1
    obtain ⟨z2, rfl, h2⟩ := open_int1 Tryz.underlying3 f2
    obtain ⟨z3, rfl, h3⟩ := open_int1 Tryz.underlying3 f3
    obtain ⟨z4, rfl, h4⟩ := open_int1 Tryz.underlying3 f4
    obtain ⟨z5, rfl, h5⟩ := open_int1 Tryz.underlying51 f5
    obtain ⟨l6, k6, e6⟩ := open_name_cells f6
    obtain ⟨l7, k7, e7⟩ := open_name_cells f7
    refine ⟨⟨z0, z1, z2, z3, z4, z5, l6, l7⟩, ⟨h0, h1, h2, h3, h4, h5, k6, k7⟩, ?_⟩
    unfold voteCells
    simp only
    rw [← e6, ← e7]
    rfl
set_option maxRecDepth 100000 in
theorem open_signed_cells {cs : List Value} {x : DataW H × List MemPlace} (h : DataW.trod enc Tryz.prog W base spare held fuel 57 cs = some x) : ∃ (s : SignedS) (u : Value), s.vote.Fit ∧ cs = rowS s u ∧ Rd W 1 u s.sig.length (s.sig.map byteV) := by
  have hS : Tryz.prog.underlying 57 = some (.struct (Tryz.prog.fieldsOf 57)) := by kernel_rfl
  have hfs : (Tryz.prog.fieldsOf 57).toList.map (fun f => (f.type, f.offset)) = [(55, 0), (28, 22)] := by kernel_rfl
  obtain ⟨xs, n, _, _, hcl, hxl, hf⟩ := DataW.trod_struct hS h
  rw [cells_signed] at hcl
  have fld : ∀ (i t o : Nat), ((Tryz.prog.fieldsOf 57).toList.map (fun f => (f.type, f.offset)))[i]? = some (t, o) → ∃ y, DataW.trod enc Tryz.prog W base spare held n t ((cs.drop o).take (Tryz.prog.cellsOf t)) = some y := fun i t o hi => by
    rw [List.getElem?_map] at hi
    obtain ⟨f, hf1, hf2⟩ := Option.map_eq_some_iff.1 hi
    have hf3 : (Tryz.prog.fieldsOf 57)[i]? = some f := by simpa using hf1
    have := hf i f hf3
    obtain ⟨e1, e2⟩ := Prod.mk.inj hf2
    rw [e1, e2] at this
    have hlt : i < xs.length := by rw [hxl]; exact (Array.getElem?_eq_some_iff.1 hf3).1
    exact ⟨xs[i], this.trans (List.getElem?_eq_getElem hlt)⟩
  rw [hfs] at fld
  obtain ⟨y0, f0⟩ := fld 0 55 0 rfl
  obtain ⟨y1, f1⟩ := fld 1 28 22 rfl
  rw [cells_vote, List.drop_zero] at f0
  rw [cells_bytes] at f1
  obtain ⟨s, hs, e⟩ := open_vote_cells f0
  obtain ⟨u, hu⟩ : ∃ u, cs.drop 22 = [u] := by
    have hl : (cs.drop 22).length = 1 := by simp; omega
    match h : cs.drop 22, hl with
    | [u], _ => exact ⟨u, rfl⟩
  rw [hu] at f1
  obtain ⟨bs, hb⟩ := open_bytes_of (v := u) f1
  refine ⟨⟨s, bs⟩, u, hs, ?_, hb⟩
  unfold rowS
  rw [← e, ← hu, List.take_append_drop]

/-- A slice of values of whatever type, row by row. -/
theorem open_slice_rows {t e : TypeId} (ht : Tryz.prog.underlying t = some (.slice e)) (hpos : 0 < Tryz.prog.cellsOf e) {x : DataW H × List MemPlace} (h : DataW.trod enc Tryz.prog W base spare held fuel t [v] = some x) :
    ∃ rows : List (List Value), Rd W (Tryz.prog.cellsOf e) v rows.length rows.flatten ∧ ∀ row ∈ rows, row.length = Tryz.prog.cellsOf e ∧ ∃ n y, DataW.trod enc Tryz.prog W base spare held n e row = some y := by
  generalize hk : Tryz.prog.cellsOf e = k at hpos ⊢
  rcases Go.Deep.open_slice ht h with ⟨hcs, hx⟩ | ⟨a, len, cap, m, n, D, Pl, hcs, _, hl, hm, hz, hx, hi⟩
  · injection hcs with hcs
    subst hcs
    exact ⟨[], Rd.nil W _, by simp⟩
  · injection hcs with hcs
    subst hcs
    rw [hk] at hi
    have hlm : len ≤ m := by split at hz <;> omega
    have hex : ∀ i, i < len → ∃ cs' : List Value, cs'.length = k ∧ (∀ j, j < k → W.cell? (a.add (i * k + j)) = cs'[j]?) ∧ ∃ n y, DataW.trod enc Tryz.prog W base spare held n e cs' = some y := by
      intro i hilt
      obtain ⟨cs', h1, h2⟩ := hi i (by omega)
      obtain ⟨_, hcl, hat⟩ := World.cells?_some h1
      exact ⟨cs', hcl, fun j hj => by rw [← Go.Deep.add_add]; exact hat j hj, n, _, h2⟩
    have hrows : ∀ q, q ≤ len → ∃ rows : List (List Value), rows.length = q ∧ ∀ i, i < q → ∃ cs', rows[i]? = some cs' ∧ cs'.length = k ∧ (∀ j, j < k → W.cell? (a.add (i * k + j)) = cs'[j]?) ∧ ∃ n y, DataW.trod enc Tryz.prog W base spare held n e cs' = some y := by
      intro q
      induction q with
      | zero => exact fun _ => ⟨[], rfl, fun i hi => by omega⟩
      | succ q ih =>
        intro hq
        obtain ⟨rows, hrl, hr⟩ := ih (by omega)
        obtain ⟨cs', c1⟩ := hex q (by omega)
        refine ⟨rows ++ [cs'], by simp [hrl], fun i hi => ?_⟩
        rcases Nat.lt_or_ge i q with h | h
        · obtain ⟨c2, e1, e2⟩ := hr i h
          exact ⟨c2, by rw [List.getElem?_append_left (by omega)]; exact e1, e2⟩
        · obtain rfl : i = q := by omega
          exact ⟨cs', by rw [List.getElem?_append_right (by omega)]; simp [hrl], c1⟩
    obtain ⟨rows, hrl, hr⟩ := hrows len (Nat.le_refl _)
    have hall : ∀ row ∈ rows, row.length = k ∧ ∃ n y, DataW.trod enc Tryz.prog W base spare held n e row = some y := by
      intro row hrow
      obtain ⟨i, hi', rfl⟩ := List.mem_iff_getElem.1 hrow
      obtain ⟨c2, e1, e2, _, e4⟩ := hr i (by omega)
      rw [List.getElem?_eq_getElem hi'] at e1
      have e1 := Option.some.inj e1
      rw [e1]
      exact ⟨e2, e4⟩
    have hlen : ∀ row ∈ rows, row.length = k := fun row hrow => (hall row hrow).1
    refine ⟨rows, ⟨some a, cap, by rw [hrl], by omega, hm, flatten_len hlen, fun h0 => ?_⟩, hall⟩
    have hs : a.spot = none := by
      obtain ⟨c2, e1, e2, e3, _⟩ := hr 0 (by omega)
      have := e3 0 hpos
      rw [List.getElem?_eq_getElem (by omega)] at this
      have := spot_of_cell this
      revert this
      unfold Addr.add
      simp
    refine ⟨a.block, a.off, by cases a; simp_all, fun j u hj => ?_⟩
    have hjl : j < len * k := by
      have := (List.getElem?_eq_some_iff.1 hj).1
      rw [flatten_len hlen, hrl] at this
      exact this
    have hdm : j / k < len := by rw [Nat.div_lt_iff_lt_mul hpos]; exact hjl
    have hmod := Nat.mod_lt j hpos
    obtain ⟨c2, e1, e2, e3, _⟩ := hr (j / k) hdm
    have e4 := flatten_at hlen e1 hmod
    have e5 : j / k * k + j % k = j := Nat.div_add_mod' j k
    rw [e5, hj] at e4
    have := e3 (j % k) hmod
    rw [e5, ← e4, add_form hs] at this
    exact this

theorem list_choose {α β : Type} {R : α → β → Prop} : ∀ (l : List α), (∀ x ∈ l, ∃ y, R x y) → ∃ r : List β, r.length = l.length ∧ ∀ (i : Nat) x, l[i]? = some x → ∃ y, r[i]? = some y ∧ R x y
  | [], _ => ⟨[], rfl, fun _ _ h => by cases h⟩
  | a :: l, h => by
    obtain ⟨r, h1, h2⟩ := list_choose l (fun x hx => h x (by simp [hx]))
    obtain ⟨y, hy⟩ := h a (by simp)
    refine ⟨y :: r, by simp [h1], fun i x hx => ?_⟩
    cases i with
    | zero => simp at hx; subst hx; exact ⟨y, rfl, hy⟩
    | succ i => simpa using h2 i x (by simpa using hx)

theorem open_signeds {x : DataW H × List MemPlace} (h : DataW.trod enc Tryz.prog W base spare held fuel 22 [v] = some x) : ∃ l : List SignedS, SgR W v l := by
  obtain ⟨rows, h1, h2⟩ := open_slice_rows Tryz.underlying22 (by rw [cells_signed]; omega) h
  rw [cells_signed] at h1
  obtain ⟨r, hr, hx⟩ := list_choose (R := fun (row : List Value) (y : SignedS × Value) => y.1.vote.Fit ∧ row = rowS y.1 y.2 ∧ Rd W 1 y.2 y.1.sig.length (y.1.sig.map byteV)) rows (fun row hrow => by
    obtain ⟨_, n, y, hy⟩ := h2 row hrow
    obtain ⟨s, u, a1, a2, a3⟩ := open_signed_cells hy
    exact ⟨(s, u), a1, a2, a3⟩)
  have hrows : rows = List.zipWith rowS (r.map (·.1)) (r.map (·.2)) := by
    apply List.ext_getElem?
    intro i
    rw [List.getElem?_zipWith, List.getElem?_map, List.getElem?_map]
    cases hc : rows[i]? with
    | none =>
      have : r[i]? = none := by rw [List.getElem?_eq_none_iff] at hc ⊢; omega
      rw [this]; rfl
    | some row =>
      obtain ⟨y, e1, _, e2, _⟩ := hx i row hc
      rw [e1, e2]; rfl
  have back : ∀ (i : Nat) y, r[i]? = some y → y.1.vote.Fit ∧ Rd W 1 y.2 y.1.sig.length (y.1.sig.map byteV) := fun i y hy => by
    have hlt : i < rows.length := by rw [← hr]; exact (List.getElem?_eq_some_iff.1 hy).1
    obtain ⟨y', e1, e2, _, e3⟩ := hx i _ (List.getElem?_eq_getElem hlt)
    rw [hy] at e1
    have e1 := Option.some.inj e1
    rw [e1]
    exact ⟨e2, e3⟩
  refine ⟨r.map (·.1), ?_, r.map (·.2), by simp, ?_, ?_⟩
  · intro s hs
    obtain ⟨y, hy, rfl⟩ := List.mem_map.1 hs
    obtain ⟨i, hi⟩ := List.getElem?_of_mem hy
    exact (back i y hi).1
  · rw [← hrows, List.length_map, hr]
    exact h1
  · intro i s hs
    rw [List.getElem?_map] at hs
    obtain ⟨y, hy, rfl⟩ := Option.map_eq_some_iff.1 hs
    exact ⟨y.2, by rw [List.getElem?_map, hy]; rfl, (back i y hy).2⟩

theorem open_texts {x : DataW H × List MemPlace} (h : DataW.trod enc Tryz.prog W base spare held fuel 23 [v] = some x) : ∃ l : List (List UInt8), TxR W v l := by
  obtain ⟨vs, h1, h2⟩ := open_cells Tryz.underlying23 cells_bytes h
  obtain ⟨r, hr, hx⟩ := list_choose (R := fun (u : Value) (bs : List UInt8) => Rd W 1 u bs.length (bs.map byteV)) vs (fun u hu => by
    obtain ⟨n, y, hy⟩ := h2 u hu
    exact open_bytes_of hy)
  refine ⟨r, vs, hr.symm, by rw [hr]; exact h1, fun i b hb => ?_⟩
  have hlt : i < vs.length := by rw [← hr]; exact (List.getElem?_eq_some_iff.1 hb).1
  obtain ⟨y, e1, e2⟩ := hx i _ (List.getElem?_eq_getElem hlt)
  rw [hb] at e1
  have e1 := Option.some.inj e1
  subst e1
  exact ⟨_, List.getElem?_eq_getElem hlt, e2⟩

end
end
end Go.Proofs.YtbgificdilpdcaaGreat
