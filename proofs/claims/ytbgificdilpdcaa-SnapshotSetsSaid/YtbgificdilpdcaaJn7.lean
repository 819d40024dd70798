/- Votes with their signatures, texts and views in memory, and arguments of these types opened. No condition. Encode and Less of signed votes, of package signed and of the reference. No condition but sizes. -/
import Derived.Test.YtbgificdilpdcaaJn2
import Derived.Test.YtbgificdilpdcaaJn6
import Derived.Deep.MidRow
import Derived.Lib.SmallJoins
namespace Go.Proofs.Ytbgificdilpdcaa
section
open Go.ChangeShapes Go.WideShapes Go.ChangeAt Go.RowKit

/-! ### words -/
/-- A slice of slices of bytes, as it reads now. -/
def TxR (w : World) (v : Value) (l : List (List UInt8)) : Prop :=
  ∃ vs : List Value, vs.length = l.length ∧ Rd w 1 v l.length vs ∧ ∀ (i : Nat) b, l[i]? = some b → ∃ u, vs[i]? = some u ∧ Rd w 1 u b.length (b.map byteV)
def rowS (s : SignedS) (u : Value) : List Value := voteCells s.vote ++ [u]
/-- A slice of signed votes, as it reads now. -/
def SgR (w : World) (v : Value) (l : List SignedS) : Prop :=
  (∀ s ∈ l, s.vote.Fit) ∧ ∃ us : List Value, us.length = l.length ∧ Rd w 23 v l.length (List.zipWith rowS l us).flatten ∧ ∀ (i : Nat) s, l[i]? = some s → ∃ u, us[i]? = some u ∧ Rd w 1 u s.sig.length (s.sig.map byteV)
/-- A view. -/
def VwR (w : World) (a b : Value) (V : ViewS) : Prop := SgR w a V.votes ∧ TxR w b V.texts

section
variable {w w' : World} {v : Value}
theorem Rd.abK {size n : Nat} {xs : List Value} (h : Rd w size v n xs) (hu : Upd (Ab w) w w') : Rd w' size v n xs := h.ab w' hu
theorem Upd.toAb (h : Upd NoF w w') : Upd (Ab w) w w' := h.mono (fun _ _ f => f.elim)
theorem TxR.ab {l : List (List UInt8)} (h : TxR w v l) (hu : Upd (Ab w) w w') : TxR w' v l := by
  obtain ⟨vs, h1, h2, h3⟩ := h
  refine ⟨vs, h1, h2.abK hu, fun i b hb => ?_⟩
  obtain ⟨u, e1, e2⟩ := h3 i b hb
  exact ⟨u, e1, e2.abK hu⟩
theorem TxR.keep {l : List (List UInt8)} (h : TxR w v l) (hu : Upd NoF w w') : TxR w' v l := h.ab hu.toAb
theorem SgR.ab {l : List SignedS} (h : SgR w v l) (hu : Upd (Ab w) w w') : SgR w' v l := by
  obtain ⟨hf, us, h1, h2, h3⟩ := h
  refine ⟨hf, us, h1, h2.abK hu, fun i b hb => ?_⟩
  obtain ⟨u, e1, e2⟩ := h3 i b hb
  exact ⟨u, e1, e2.abK hu⟩
theorem SgR.keep {l : List SignedS} (h : SgR w v l) (hu : Upd NoF w w') : SgR w' v l := h.ab hu.toAb
theorem VwR.ab {a b : Value} {V : ViewS} (h : VwR w a b V) (hu : Upd (Ab w) w w') : VwR w' a b V := ⟨h.1.ab hu, h.2.ab hu⟩
theorem VwR.keep {a b : Value} {V : ViewS} (h : VwR w a b V) (hu : Upd NoF w w') : VwR w' a b V := h.ab hu.toAb
theorem TxR.nil (w : World) : TxR w (.slice none 0 0) [] := ⟨[], rfl, Rd.nil w 1, fun _ _ h => by cases h⟩
theorem SgR.nil (w : World) : SgR w (.slice none 0 0) [] := ⟨by simp, [], rfl, Rd.nil w 23, fun _ _ h => by cases h⟩
theorem TxR.form {l : List (List UInt8)} (h : TxR w v l) : ∃ A c, v = .slice A l.length c ∧ l.length ≤ c ∧ c ≤ maxLen := by
  obtain ⟨vs, _, ⟨A, c, e, h3, h4, _⟩, _⟩ := h
  exact ⟨A, c, e, h3, h4⟩
theorem SgR.form {l : List SignedS} (h : SgR w v l) : ∃ A c, v = .slice A l.length c ∧ l.length ≤ c ∧ c ≤ maxLen := by
  obtain ⟨_, vs, _, ⟨A, c, e, h3, h4, _⟩, _⟩ := h
  exact ⟨A, c, e, h3, h4⟩
theorem SgR.fit {l : List SignedS} (h : SgR w v l) {i : Nat} {s : SignedS} (hs : l[i]? = some s) : s.vote.Fit := h.1 s (List.mem_of_getElem? hs)
theorem Rd.slice {n : Nat} {xs : List Value} (h : Rd w 1 v n xs) : ∃ A c, v = .slice A n c ∧ n ≤ c ∧ c ≤ maxLen := by
  obtain ⟨A, c, e, h3, h4, _⟩ := h
  exact ⟨A, c, e, h3, h4⟩
/-- One text. -/
theorem TxR.at_ {A : Option Addr} {n c : Nat} {l : List (List UInt8)} (h : TxR w (.slice A n c) l) {i : Nat} {b : List UInt8} (hb : l[i]? = some b) :
    ∃ g o Au cu, A = some ⟨g, o, none⟩ ∧ w.cell? ⟨g, o + i, none⟩ = some (.slice Au b.length cu) ∧ Rd w 1 (.slice Au b.length cu) b.length (b.map byteV) ∧ b.length ≤ cu ∧ cu ≤ 9223372036854775807 := by
  obtain ⟨vs, h1, ⟨A', c', e, h3, h4, h5, h6⟩, h7⟩ := h
  injection e with e1 e2 e3
  subst e1
  have hlt : i < l.length := (List.getElem?_eq_some_iff.1 hb).1
  obtain ⟨g, o, rfl, hx⟩ := h6 (by omega)
  obtain ⟨u, e4, e5⟩ := h7 i b hb
  obtain ⟨Au, cu, rfl, k1, k2⟩ := e5.slice
  unfold maxLen at k2
  exact ⟨g, o, Au, cu, rfl, hx i _ e4, e5, k1, k2⟩
theorem rowS_len {s : SignedS} (hf : s.vote.Fit) (u : Value) : (rowS s u).length = 23 := by simp [rowS, voteCells, hf.parent, hf.value]
theorem zip_rows {l : List SignedS} {us : List Value} (hf : ∀ s ∈ l, s.vote.Fit) : ∀ r ∈ List.zipWith rowS l us, r.length = 23 := by
  intro r hr
  obtain ⟨i, hi, rfl⟩ := List.mem_iff_getElem.1 hr
  rw [List.getElem_zipWith]
  exact rowS_len (hf _ (List.getElem_mem _)) _
/-- One signed vote. -/
theorem SgR.at_ {A : Option Addr} {n c : Nat} {l : List SignedS} (h : SgR w (.slice A n c) l) {i : Nat} {s : SignedS} (hs : l[i]? = some s) :
    ∃ g o Au cu, A = some ⟨g, o, none⟩ ∧ w.rangeAt g (o + i * 23) (rowS s (.slice Au s.sig.length cu)) ∧ Rd w 1 (.slice Au s.sig.length cu) s.sig.length (s.sig.map byteV) ∧ s.sig.length ≤ cu ∧ cu ≤ 9223372036854775807 := by
  obtain ⟨hf, us, h1, ⟨A', c', e, h3, h4, h5, h6⟩, h7⟩ := h
  injection e with e1 e2 e3
  subst e1
  have hlt : i < l.length := (List.getElem?_eq_some_iff.1 hs).1
  obtain ⟨g, o, rfl, hx⟩ := h6 (by omega)
  obtain ⟨u, e4, e5⟩ := h7 i s hs
  obtain ⟨Au, cu, rfl, k1, k2⟩ := e5.slice
  unfold maxLen at k2
  refine ⟨g, o, Au, cu, rfl, fun j x hj => ?_, e5, k1, k2⟩
  have hrow : (List.zipWith rowS l us)[i]? = some (rowS s (.slice Au s.sig.length cu)) := by rw [List.getElem?_zipWith, hs, e4]
  have hj23 : j < 23 := by have := (List.getElem?_eq_some_iff.1 hj).1; rw [rowS_len (hf s (List.mem_of_getElem? hs))] at this; exact this
  have := flatten_at (zip_rows (us := us) hf) hrow hj23
  rw [Nat.add_assoc]
  exact hx _ x (by rw [this]; exact hj)
end

/-! ### opening -/
section
variable {H : Type} {enc : TypeId × Value → H} {W : World} {v : Value} {d : DataW H} {p : List MemPlace} {base : Nat} {spare : Nat → Bool} {held : Bool} {fuel : Nat}

theorem cells_name : Try.prog.cellsOf 33 = 8 := by kernel_rfl
theorem cells_vote : Try.prog.cellsOf 35 = 22 := by kernel_rfl
theorem cells_signed : Try.prog.cellsOf 38 = 23 := by kernel_rfl
theorem cells_mask : Try.prog.cellsOf 31 = 1 := by kernel_rfl
theorem cells_view : Try.prog.cellsOf 25 = 2 := by kernel_rfl

theorem open_byte {c : Value} {x : DataW H × List MemPlace} (h : DataW.trod enc Try.prog W base spare held fuel 5 [c] = some x) : ∃ b : UInt8, c = byteV b := by
  obtain ⟨z, e, _, hw⟩ := DataW.trod_int Try.underlying5 h
  injection e with e
  obtain ⟨h1, h2⟩ := wf_u8 hw
  refine ⟨UInt8.ofNat z.toNat, ?_⟩
  rw [e]
  show Value.int .u8 z = .int .u8 _
  congr 1
  simp
  omega
theorem open_int1 {t : TypeId} (ht : Try.prog.underlying t = some (.int .i64)) {c : Value} {x : DataW H × List MemPlace} (h : DataW.trod enc Try.prog W base spare held fuel t [c] = some x) : ∃ z : Int, c = .int .i64 z ∧ in64 z := by
  obtain ⟨z, e, _, hw⟩ := DataW.trod_int ht h
  injection e with e
  exact ⟨z, e, wf_i64 hw⟩
theorem open_name_cells {c0 c1 c2 c3 c4 c5 c6 c7 : Value} {x : DataW H × List MemPlace} (h : DataW.trod enc Try.prog W base spare held fuel 33 [c0, c1, c2, c3, c4, c5, c6, c7] = some x) : ∃ l : List UInt8, l.length = 8 ∧ [c0, c1, c2, c3, c4, c5, c6, c7] = l.map byteV := by
  obtain ⟨xs, m, _, _, _, hl, hi⟩ := DataW.trod_array Try.underlying33 h
  rw [cells_u8] at hi
  have get : ∀ i, i < 8 → ∃ y, xs[i]? = some y := fun i h => ⟨_, List.getElem?_eq_getElem (by omega)⟩
  have one : ∀ (i : Nat) (c : Value), i < 8 → (([c0, c1, c2, c3, c4, c5, c6, c7] : List Value).drop (i * 1)).take 1 = [c] → ∃ b : UInt8, c = byteV b := fun i c h1 h2 => by
    obtain ⟨y, hy⟩ := get i h1
    have := hi i h1
    rw [h2, hy] at this
    exact open_byte this
  obtain ⟨b0, rfl⟩ := one 0 c0 (by omega) rfl
  obtain ⟨b1, rfl⟩ := one 1 c1 (by omega) rfl
  obtain ⟨b2, rfl⟩ := one 2 c2 (by omega) rfl
  obtain ⟨b3, rfl⟩ := one 3 c3 (by omega) rfl
  obtain ⟨b4, rfl⟩ := one 4 c4 (by omega) rfl
  obtain ⟨b5, rfl⟩ := one 5 c5 (by omega) rfl
  obtain ⟨b6, rfl⟩ := one 6 c6 (by omega) rfl
  obtain ⟨b7, rfl⟩ := one 7 c7 (by omega) rfl
  exact ⟨[b0, b1, b2, b3, b4, b5, b6, b7], rfl, rfl⟩
set_option maxRecDepth 100000 in
theorem open_vote_cells {cs : List Value} {x : DataW H × List MemPlace} (h : DataW.trod enc Try.prog W base spare held fuel 35 cs = some x) : ∃ s : VoteS, s.Fit ∧ cs = voteCells s := by
  have hS : Try.prog.underlying 35 = some (.struct (Try.prog.fieldsOf 35)) := by kernel_rfl
  have hfs : (Try.prog.fieldsOf 35).toList.map (fun f => (f.type, f.offset)) = [(3, 0), (3, 1), (3, 2), (3, 3), (3, 4), (31, 5), (33, 6), (33, 14)] := by kernel_rfl
  obtain ⟨xs, n, _, _, hcl, hxl, hf⟩ := DataW.trod_struct hS h
  rw [cells_vote] at hcl
  have hsz : (Try.prog.fieldsOf 35).size = 8 := by
    have := congrArg List.length hfs
    simpa using this
  have fld : ∀ (i t o : Nat), ((Try.prog.fieldsOf 35).toList.map (fun f => (f.type, f.offset)))[i]? = some (t, o) → ∃ y, DataW.trod enc Try.prog W base spare held n t ((cs.drop o).take (Try.prog.cellsOf t)) = some y := fun i t o hi => by
    rw [List.getElem?_map] at hi
    obtain ⟨f, hf1, hf2⟩ := Option.map_eq_some_iff.1 hi
    have hf3 : (Try.prog.fieldsOf 35)[i]? = some f := by simpa using hf1
    have := hf i f hf3
    obtain ⟨e1, e2⟩ := Prod.mk.inj hf2
    rw [e1, e2] at this
    have hlt : i < xs.length := by rw [hxl]; exact (Array.getElem?_eq_some_iff.1 hf3).1
    exact ⟨xs[i], this.trans (List.getElem?_eq_getElem hlt)⟩
  rw [hfs] at fld
  match cs, hcl with
  | [c0, c1, c2, c3, c4, c5, c6, c7, c8, c9, c10, c11, c12, c13, c14, c15, c16, c17, c18, c19, c20, c21], _ =>
    obtain ⟨y0, f0⟩ := fld 0 3 0 rfl
    obtain ⟨y1, f1⟩ := fld 1 3 1 rfl
    obtain ⟨y2, f2⟩ := fld 2 3 2 rfl
    obtain ⟨y3, f3⟩ := fld 3 3 3 rfl
    obtain ⟨y4, f4⟩ := fld 4 3 4 rfl
    obtain ⟨y5, f5⟩ := fld 5 31 5 rfl
    obtain ⟨y6, f6⟩ := fld 6 33 6 rfl
    obtain ⟨y7, f7⟩ := fld 7 33 14 rfl
    rw [cells_int] at f0 f1 f2 f3 f4
    rw [cells_mask] at f5
    rw [cells_name] at f6 f7
    obtain ⟨z0, rfl, h0⟩ := open_int1 Try.underlying3 f0
    obtain ⟨z1, rfl, h1⟩ := open_int1 Try.underlying3 f1
    obtain ⟨z2, rfl, h2⟩ := open_int1 Try.underlying3 f2
    obtain ⟨z3, rfl, h3⟩ := open_int1 Try.underlying3 f3
    obtain ⟨z4, rfl, h4⟩ := open_int1 Try.underlying3 f4
    obtain ⟨z5, rfl, h5⟩ := open_int1 Try.underlying31 f5
    obtain ⟨l6, k6, e6⟩ := open_name_cells f6
    obtain ⟨l7, k7, e7⟩ := open_name_cells f7
    refine ⟨⟨z0, z1, z2, z3, z4, z5, l6, l7⟩, ⟨h0, h1, h2, h3, h4, h5, k6, k7⟩, ?_⟩
    unfold voteCells
    simp only
    rw [← e6, ← e7]
    rfl
set_option maxRecDepth 100000 in
theorem open_signed_cells {cs : List Value} {x : DataW H × List MemPlace} (h : DataW.trod enc Try.prog W base spare held fuel 38 cs = some x) : ∃ (s : SignedS) (u : Value), s.vote.Fit ∧ cs = rowS s u ∧ Rd W 1 u s.sig.length (s.sig.map byteV) := by
  have hS : Try.prog.underlying 38 = some (.struct (Try.prog.fieldsOf 38)) := by kernel_rfl
  have hfs : (Try.prog.fieldsOf 38).toList.map (fun f => (f.type, f.offset)) = [(35, 0), (36, 22)] := by kernel_rfl
  obtain ⟨xs, n, _, _, hcl, hxl, hf⟩ := DataW.trod_struct hS h
  rw [cells_signed] at hcl
  have fld : ∀ (i t o : Nat), ((Try.prog.fieldsOf 38).toList.map (fun f => (f.type, f.offset)))[i]? = some (t, o) → ∃ y, DataW.trod enc Try.prog W base spare held n t ((cs.drop o).take (Try.prog.cellsOf t)) = some y := fun i t o hi => by
    rw [List.getElem?_map] at hi
    obtain ⟨f, hf1, hf2⟩ := Option.map_eq_some_iff.1 hi
    have hf3 : (Try.prog.fieldsOf 38)[i]? = some f := by simpa using hf1
    have := hf i f hf3
    obtain ⟨e1, e2⟩ := Prod.mk.inj hf2
    rw [e1, e2] at this
    have hlt : i < xs.length := by rw [hxl]; exact (Array.getElem?_eq_some_iff.1 hf3).1
    exact ⟨xs[i], this.trans (List.getElem?_eq_getElem hlt)⟩
  rw [hfs] at fld
  obtain ⟨y0, f0⟩ := fld 0 35 0 rfl
  obtain ⟨y1, f1⟩ := fld 1 36 22 rfl
  rw [cells_vote, List.drop_zero] at f0
  rw [cells_bytes] at f1
  obtain ⟨s, hs, e⟩ := open_vote_cells f0
  obtain ⟨u, hu⟩ : ∃ u, cs.drop 22 = [u] := by
    have hl : (cs.drop 22).length = 1 := by simp; omega
    match h : cs.drop 22, hl with
    | [u], _ => exact ⟨u, rfl⟩
  rw [hu] at f1
  obtain ⟨bs, hb⟩ := open_bytes_of (v := u) f1
  refine ⟨⟨s, bs⟩, u, hs, ?_, hb⟩
  unfold rowS
  rw [← e, ← hu, List.take_append_drop]

/-- A slice of values of whatever type, row by row. -/
theorem open_slice_rows {t e : TypeId} (ht : Try.prog.underlying t = some (.slice e)) (hpos : 0 < Try.prog.cellsOf e) {x : DataW H × List MemPlace} (h : DataW.trod enc Try.prog W base spare held fuel t [v] = some x) :
    ∃ rows : List (List Value), Rd W (Try.prog.cellsOf e) v rows.length rows.flatten ∧ ∀ row ∈ rows, row.length = Try.prog.cellsOf e ∧ ∃ n y, DataW.trod enc Try.prog W base spare held n e row = some y := by
  generalize hk : Try.prog.cellsOf e = k at hpos ⊢
  rcases Go.Deep.open_slice ht h with ⟨hcs, hx⟩ | ⟨a, len, cap, m, n, D, Pl, hcs, _, hl, hm, hz, hx, hi⟩
  · injection hcs with hcs
    subst hcs
    exact ⟨[], Rd.nil W _, by simp⟩
  · injection hcs with hcs
    subst hcs
    rw [hk] at hi
    have hlm : len ≤ m := by split at hz <;> omega
    have hex : ∀ i, i < len → ∃ cs' : List Value, cs'.length = k ∧ (∀ j, j < k → W.cell? (a.add (i * k + j)) = cs'[j]?) ∧ ∃ n y, DataW.trod enc Try.prog W base spare held n e cs' = some y := by
      intro i hilt
      obtain ⟨cs', h1, h2⟩ := hi i (by omega)
      obtain ⟨_, hcl, hat⟩ := World.cells?_some h1
      exact ⟨cs', hcl, fun j hj => by rw [← Go.Deep.add_add]; exact hat j hj, n, _, h2⟩
    have hrows : ∀ q, q ≤ len → ∃ rows : List (List Value), rows.length = q ∧ ∀ i, i < q → ∃ cs', rows[i]? = some cs' ∧ cs'.length = k ∧ (∀ j, j < k → W.cell? (a.add (i * k + j)) = cs'[j]?) ∧ ∃ n y, DataW.trod enc Try.prog W base spare held n e cs' = some y := by
      intro q
      induction q with
      | zero => exact fun _ => ⟨[], rfl, fun i hi => by omega⟩
      | succ q ih =>
        intro hq
        obtain ⟨rows, hrl, hr⟩ := ih (by omega)
        obtain ⟨cs', c1⟩ := hex q (by omega)
        refine ⟨rows ++ [cs'], by simp [hrl], fun i hi => ?_⟩
        rcases Nat.lt_or_ge i q with h | h
        · obtain ⟨c2, e1, e2⟩ := hr i h
          exact ⟨c2, by rw [List.getElem?_append_left (by omega)]; exact e1, e2⟩
        · obtain rfl : i = q := by omega
          exact ⟨cs', by rw [List.getElem?_append_right (by omega)]; simp [hrl], c1⟩
    obtain ⟨rows, hrl, hr⟩ := hrows len (Nat.le_refl _)
    have hall : ∀ row ∈ rows, row.length = k ∧ ∃ n y, DataW.trod enc Try.prog W base spare held n e row = some y := by
      intro row hrow
      obtain ⟨i, hi', rfl⟩ := List.mem_iff_getElem.1 hrow
      obtain ⟨c2, e1, e2, _, e4⟩ := hr i (by omega)
      rw [List.getElem?_eq_getElem hi'] at e1
      have e1 := Option.some.inj e1
      rw [e1]
      exact ⟨e2, e4⟩
    have hlen : ∀ row ∈ rows, row.length = k := fun row hrow => (hall row hrow).1
    refine ⟨rows, ⟨some a, cap, by rw [hrl], by omega, hm, flatten_len hlen, fun h0 => ?_⟩, hall⟩
    have hs : a.spot = none := by
      obtain ⟨c2, e1, e2, e3, _⟩ := hr 0 (by omega)
      have := e3 0 hpos
      rw [List.getElem?_eq_getElem (by omega)] at this
      have := spot_of_cell this
      revert this
      unfold Addr.add
      simp
    refine ⟨a.block, a.off, by cases a; simp_all, fun j u hj => ?_⟩
    have hjl : j < len * k := by
      have := (List.getElem?_eq_some_iff.1 hj).1
      rw [flatten_len hlen, hrl] at this
      exact this
    have hdm : j / k < len := by rw [Nat.div_lt_iff_lt_mul hpos]; exact hjl
    have hmod := Nat.mod_lt j hpos
    obtain ⟨c2, e1, e2, e3, _⟩ := hr (j / k) hdm
    have e4 := flatten_at hlen e1 hmod
    have e5 : j / k * k + j % k = j := Nat.div_add_mod' j k
    rw [e5, hj] at e4
    have := e3 (j % k) hmod
    rw [e5, ← e4, add_form hs] at this
    exact this

theorem list_choose {α β : Type} {R : α → β → Prop} : ∀ (l : List α), (∀ x ∈ l, ∃ y, R x y) → ∃ r : List β, r.length = l.length ∧ ∀ (i : Nat) x, l[i]? = some x → ∃ y, r[i]? = some y ∧ R x y
  | [], _ => ⟨[], rfl, fun _ _ h => by cases h⟩
  | a :: l, h => by
    obtain ⟨r, h1, h2⟩ := list_choose l (fun x hx => h x (by simp [hx]))
    obtain ⟨y, hy⟩ := h a (by simp)
    refine ⟨y :: r, by simp [h1], fun i x hx => ?_⟩
    cases i with
    | zero => simp at hx; subst hx; exact ⟨y, rfl, hy⟩
    | succ i => simpa using h2 i x (by simpa using hx)

theorem open_signeds {x : DataW H × List MemPlace} (h : DataW.trod enc Try.prog W base spare held fuel 22 [v] = some x) : ∃ l : List SignedS, SgR W v l := by
  obtain ⟨rows, h1, h2⟩ := open_slice_rows Try.underlying22 (by rw [cells_signed]; omega) h
  rw [cells_signed] at h1
  obtain ⟨r, hr, hx⟩ := list_choose (R := fun (row : List Value) (y : SignedS × Value) => y.1.vote.Fit ∧ row = rowS y.1 y.2 ∧ Rd W 1 y.2 y.1.sig.length (y.1.sig.map byteV)) rows (fun row hrow => by
    obtain ⟨_, n, y, hy⟩ := h2 row hrow
    obtain ⟨s, u, a1, a2, a3⟩ := open_signed_cells hy
    exact ⟨(s, u), a1, a2, a3⟩)
  have hrows : rows = List.zipWith rowS (r.map (·.1)) (r.map (·.2)) := by
    apply List.ext_getElem?
    intro i
    rw [List.getElem?_zipWith, List.getElem?_map, List.getElem?_map]
    cases hc : rows[i]? with
    | none =>
      have : r[i]? = none := by rw [List.getElem?_eq_none_iff] at hc ⊢; omega
      rw [this]; rfl
    | some row =>
      obtain ⟨y, e1, _, e2, _⟩ := hx i row hc
      rw [e1, e2]; rfl
  have back : ∀ (i : Nat) y, r[i]? = some y → y.1.vote.Fit ∧ Rd W 1 y.2 y.1.sig.length (y.1.sig.map byteV) := fun i y hy => by
    have hlt : i < rows.length := by rw [← hr]; exact (List.getElem?_eq_some_iff.1 hy).1
    obtain ⟨y', e1, e2, _, e3⟩ := hx i _ (List.getElem?_eq_getElem hlt)
    rw [hy] at e1
    have e1 := Option.some.inj e1
    rw [e1]
    exact ⟨e2, e3⟩
  refine ⟨r.map (·.1), ?_, r.map (·.2), by simp, ?_, ?_⟩
  · intro s hs
    obtain ⟨y, hy, rfl⟩ := List.mem_map.1 hs
    obtain ⟨i, hi⟩ := List.getElem?_of_mem hy
    exact (back i y hi).1
  · rw [← hrows, List.length_map, hr]
    exact h1
  · intro i s hs
    rw [List.getElem?_map] at hs
    obtain ⟨y, hy, rfl⟩ := Option.map_eq_some_iff.1 hs
    exact ⟨y.2, by rw [List.getElem?_map, hy]; rfl, (back i y hy).2⟩

theorem open_texts {x : DataW H × List MemPlace} (h : DataW.trod enc Try.prog W base spare held fuel 23 [v] = some x) : ∃ l : List (List UInt8), TxR W v l := by
  obtain ⟨vs, h1, h2⟩ := open_cells Try.underlying23 cells_bytes h
  obtain ⟨r, hr, hx⟩ := list_choose (R := fun (u : Value) (bs : List UInt8) => Rd W 1 u bs.length (bs.map byteV)) vs (fun u hu => by
    obtain ⟨n, y, hy⟩ := h2 u hu
    exact open_bytes_of hy)
  refine ⟨r, vs, hr.symm, by rw [hr]; exact h1, fun i b hb => ?_⟩
  have hlt : i < vs.length := by rw [← hr]; exact (List.getElem?_eq_some_iff.1 hb).1
  obtain ⟨y, e1, e2⟩ := hx i _ (List.getElem?_eq_getElem hlt)
  rw [hb] at e1
  have e1 := Option.some.inj e1
  subst e1
  exact ⟨_, List.getElem?_eq_getElem hlt, e2⟩

end
end

section
open Go.RowKit

theorem rowS_22 {s : SignedS} (hf : s.vote.Fit) (u : Value) : (rowS s u)[22]? = some u := by
  unfold rowS
  rw [List.getElem?_append_right (by rw [vc_len hf]; exact Nat.le_refl _), vc_len hf]
  rfl
theorem range_vote {w : World} {g o : Nat} {s : SignedS} {u : Value} (h : w.rangeAt g o (rowS s u)) : w.rangeAt g o (voteCells s.vote) := fun j v hv => h j v (by
  unfold rowS
  rw [List.getElem?_append_left (List.getElem?_eq_some_iff.1 hv).1]
  exact hv)
theorem range_sig {w : World} {g o : Nat} {s : SignedS} {u : Value} (hf : s.vote.Fit) (h : w.rangeAt g o (rowS s u)) : w.cell? ⟨g, o + 22, none⟩ = some u := h 22 u (rowS_22 hf u)
theorem signed_size : (Try.prog.info? 38).map (·.size) = some 23 := by kernel_rfl
/-- A whole signed vote read out of memory. -/
theorem wpList_load_signed {ops : Array Oper} {rest : List Oper} {op : Oper} {a : Act} {w : World} {Q : Exit → Act → World → Prop} (hgd : op.guard = none) (x : Operand) (ho : op.op = .load 38 x)
    (b o : Nat) (hx : a.eval x = .pointer (some ⟨b, o, none⟩)) (s : SignedS) (u : Value) (hf : s.vote.Fit) (hc : w.rangeAt b o (rowS s u)) (v : Value) (hv : .agg (rowS s u).toArray = v)
    (h : wpList Try.prog ops Q rest (a.put op.dst v) w) : wpList Try.prog ops Q (op :: rest) a w := by
  subst hv
  exact wpList_load_mid hgd 38 x ho b o hx (rowS s u) _ hc Try.underlying38 rfl (by rw [signed_size, rowS_len hf]) h
/-- A whole vote read out of memory, under a name. -/
theorem wpList_load_vote' {ops : Array Oper} {rest : List Oper} {op : Oper} {a : Act} {w : World} {Q : Exit → Act → World → Prop} (hgd : op.guard = none) (x : Operand) (ho : op.op = .load 35 x)
    (b o : Nat) (hx : a.eval x = .pointer (some ⟨b, o, none⟩)) (v : VoteS) (hf : v.Fit) (hc : w.rangeAt b o (voteCells v)) (z : Value) (hz : voteV v = z)
    (h : wpList Try.prog ops Q rest (a.put op.dst z) w) : wpList Try.prog ops Q (op :: rest) a w := by
  subst hz
  exact wpList_load_vote hgd x ho b o hx v hf hc h


set_option maxRecDepth 100000 in
set_option maxHeartbeats 4000000 in
theorem sEncode_bad {s : SignedS} {u : Value} (hf : s.vote.Fit) (w : World) (hu : Rd w 1 u s.sig.length (s.sig.map byteV)) (hv : validB s.vote = false) : Calls Try.prog 33 #[.agg (rowS s u).toArray] w (NilFalse w) := by
  have CV := fun w => vEncode_no hf w hv
  obtain ⟨A, c, rfl, hlc, hcm⟩ := hu.slice
  obtain ⟨z, hz⟩ : ∃ z, voteV s.vote = .agg z := ⟨_, rfl⟩
  rw [hz] at CV
  have HZ := Lib.hid hz
  have HF := Lib.hid hf
  have HU := Lib.hid hu
  have BX := Lib.hid (Blk.new w 38 (rowS s (.slice A s.sig.length c)).toArray)
  have HCV := Lib.hid CV
  obtain ⟨row, hrow⟩ : ∃ row, (rowS s (.slice A s.sig.length c)).toArray = row := ⟨_, rfl⟩
  rw [hrow]
  rw [hrow] at BX
  have HROW := Lib.hid hrow
  have RV := Lib.hid (show ∀ W, Blk W w.heap.size 38 row → W.rangeAt w.heap.size 0 (rowS s (.slice A s.sig.length c)) from fun W h => by rw [← HROW.out] at h; exact range_blk h)
  clear hf hu hz hv CV hrow hcm
  go_enter Try.func33, Try.ntmps33
  go_wp2_with (refine wpList_load_vote' rfl (.tmp 7) rfl w.heap.size 0 rfl s.vote HF.out (range_vote (RV.out _ BX.out)) (.agg z) HZ.out ?_)
  refine (HCV.out _).mono ?_
  rintro e w1 ⟨rfl, hu1⟩
  have U1 := Lib.hid (((Upd.refl NoF w).alloc (.cells row 38)).trans hu1 (fun _ _ h => h))
  clear hu1
  go_wp2
  go_quiet (fail)
  go_wp2
  go_ret2
  exact ⟨rfl, U1.out.drewN _⟩

set_option maxRecDepth 100000 in
set_option maxHeartbeats 4000000 in
theorem sEncode_len {s : SignedS} {u : Value} (hf : s.vote.Fit) (w : World) (hu : Rd w 1 u s.sig.length (s.sig.map byteV)) (hv : validB s.vote = true) (hl : s.sig.length ≠ 370) : Calls Try.prog 33 #[.agg (rowS s u).toArray] w (NilFalse w) := by
  have CV := fun w => vEncode_yes hf w hv
  obtain ⟨A, c, rfl, hlc, hcm⟩ := hu.slice
  obtain ⟨z, hz⟩ : ∃ z, voteV s.vote = .agg z := ⟨_, rfl⟩
  rw [hz] at CV
  have HZ := Lib.hid hz
  have HF := Lib.hid hf
  have HU := Lib.hid hu
  have BX := Lib.hid (Blk.new w 38 (rowS s (.slice A s.sig.length c)).toArray)
  have HCV := Lib.hid CV
  obtain ⟨row, hrow⟩ : ∃ row, (rowS s (.slice A s.sig.length c)).toArray = row := ⟨_, rfl⟩
  rw [hrow]
  rw [hrow] at BX
  have HROW := Lib.hid hrow
  have RV := Lib.hid (show ∀ W, Blk W w.heap.size 38 row → W.rangeAt w.heap.size 0 (rowS s (.slice A s.sig.length c)) from fun W h => by rw [← HROW.out] at h; exact range_blk h)
  have t1 : ((s.sig.length : Int) == 370) = false := by simp; omega
  have t1' : ((s.sig.length : Int) != 370) = true := by simp; omega
  clear hf hu hz hv CV hrow hcm
  go_enter Try.func33, Try.ntmps33
  go_wp2_with (refine wpList_load_vote' rfl (.tmp 7) rfl w.heap.size 0 rfl s.vote HF.out (range_vote (RV.out _ BX.out)) (.agg z) HZ.out ?_)
  refine (HCV.out _).mono ?_
  rintro e w1 ⟨A1, c1, rfl, -, -, hu1⟩
  have hb1 := hu1.blk BX.out (fun h => h)
  have B1 := Lib.hid hb1
  have c22 : w1.cell? ⟨w.heap.size, 22, none⟩ = some (.slice A s.sig.length c) := by have := range_sig HF.out (RV.out _ hb1); simpa using this
  have U1 := Lib.hid (((Upd.refl NoF w).alloc (.cells row 38)).trans hu1 (fun _ _ h => h))
  clear hu1 hb1
  go_wp2
  go_quiet ((go_at_call 60; exact Calls.quiet_of_same ((mSize_any _).mono fun _ _ ⟨h1, h2⟩ => ⟨h1, h2.symm⟩)))
  go_wp2
  go_ret2
  exact ⟨rfl, U1.out.drewN _⟩

set_option maxRecDepth 100000 in
set_option maxHeartbeats 4000000 in
theorem sEncode_yes {s : SignedS} {u : Value} (hf : s.vote.Fit) (w : World) (hu : Rd w 1 u s.sig.length (s.sig.map byteV)) (hv : okS s = true) : Calls Try.prog 33 #[.agg (rowS s u).toArray] w (PairPost w (encS s)) := by
  obtain ⟨hv, hl⟩ := okS_true.1 hv
  have CV := fun w => vEncode_yes hf w (validB_true.2 hv)
  obtain ⟨A, c, rfl, hlc, hcm⟩ := hu.slice
  obtain ⟨z, hz⟩ : ∃ z, voteV s.vote = .agg z := ⟨_, rfl⟩
  rw [hz] at CV
  have HZ := Lib.hid hz
  have HF := Lib.hid hf
  have HU := Lib.hid hu
  have BX := Lib.hid (Blk.new w 38 (rowS s (.slice A s.sig.length c)).toArray)
  have HCV := Lib.hid CV
  obtain ⟨row, hrow⟩ : ∃ row, (rowS s (.slice A s.sig.length c)).toArray = row := ⟨_, rfl⟩
  rw [hrow]
  rw [hrow] at BX
  have HROW := Lib.hid hrow
  have RV := Lib.hid (show ∀ W, Blk W w.heap.size 38 row → W.rangeAt w.heap.size 0 (rowS s (.slice A s.sig.length c)) from fun W h => by rw [← HROW.out] at h; exact range_blk h)
  have t1 : ((s.sig.length : Int) == 370) = true := by simp; omega
  have t1' : ((s.sig.length : Int) != 370) = false := by simp; omega
  obtain ⟨i1, hi1, hy0, hy1, hy2⟩ := info_parts byte_info
  have HL := Lib.hid (encV_len hf.parent hf.value)
  have HS := Lib.hid hl
  clear hf hu hz hv CV hrow hl hcm
  go_enter Try.func33, Try.ntmps33
  go_wp2_with (refine wpList_load_vote' rfl (.tmp 7) rfl w.heap.size 0 rfl s.vote HF.out (range_vote (RV.out _ BX.out)) (.agg z) HZ.out ?_)
  refine (HCV.out _).mono ?_
  rintro e w1 ⟨A1, c1, rfl, ho1, hn1, hu1⟩
  rw [HL.out]
  rw [HL.out] at ho1 hn1
  have hb1 := hu1.blk BX.out (fun h => h)
  have B1 := Lib.hid hb1
  have c22 : w1.cell? ⟨w.heap.size, 22, none⟩ = some (.slice A s.sig.length c) := by have := range_sig HF.out (RV.out _ hb1); simpa using this
  have U1 := Lib.hid (((Upd.refl NoF w).alloc (.cells row 38)).trans hu1 (fun _ _ h => h))
  have O1 := Lib.hid ho1
  have N1 := Lib.hid hn1
  clear hu1 hb1 ho1 hn1
  go_wp2
  go_quiet ((go_at_call 60; exact Calls.quiet_of_same ((mSize_any _).mono fun _ _ ⟨h1, h2⟩ => ⟨h1, h2.symm⟩)))
  go_wp2_with (at_builtin; refine wpList_append_to _ rfl (.tmp 21) (.tmp 23) 36 rfl 5 i1 _ 1 1 Try.underlying36 hi1 hy0 hy1 hy2 rfl (.slice A1 23 c1) 23 _ rfl (O1.out.upd ((Upd.refl NoF w1).drewN _) (fun _ _ h => h)) (.slice A s.sig.length c) s.sig.length (s.sig.map byteV) rfl ((HU.out.keep U1.out).keep ((Upd.refl NoF w1).drewN _)) (bytes_oneCell _) (by have := HS.out; unfold maxLen; omega) (by have := HS.out; omega) ?_; intro A2 c2 w2 hown2 hupd2 hnew2; have O2 := Lib.hid hown2; have V2 := Lib.hid hupd2; have W2 := Lib.hid hnew2; clear hown2 hupd2 hnew2)
  go_ret2
  have hlen : (encS s).length = 23 + s.sig.length := by unfold encS; rw [List.length_append, HL.out]
  refine ⟨A2, c2, by rw [hlen]; rfl, ?_, ?_, ?_⟩
  · rw [hlen]
    have := O2.out
    rw [← List.map_append] at this
    exact this
  · intro k hk
    rw [hlen] at hk
    have hsz : w.heap.size ≤ w1.heap.size := U1.out.size
    have hsw : (w.alloc (.cells row 38)).heap.size = w.heap.size + 1 := by simp
    rcases W2.out k hk with e | e
    · have := N1.out k e
      omega
    · simp at e
      omega
  · refine (U1.out.drewN _).trans V2.out (fun k hk e => ?_)
    have := N1.out k e
    have hsw : (w.alloc (.cells row 38)).heap.size = w.heap.size + 1 := by simp
    omega


set_option maxRecDepth 100000 in
set_option maxHeartbeats 4000000 in
theorem sLess_ne {s t : SignedS} {u v : Value} (hf : s.vote.Fit) (hg : t.vote.Fit) (w : World) (hu : Rd w 1 u s.sig.length (s.sig.map byteV)) (hv : Rd w 1 v t.sig.length (t.sig.map byteV)) (he : s.vote ≠ t.vote) : Calls Try.prog 53 #[.agg (rowS s u).toArray, .agg (rowS t v).toArray] w fun e w' => e = .returned (.bool (lessS s t)) ∧ Upd NoF w w' := by
  have HZ := Lib.hid (show lessS s t = lessV s.vote t.vote from by unfold lessS; rw [if_neg he])
  have CV := vLess_any hf hg
  have hne : ∀ w, (binOp .neq 35 (voteV s.vote) (voteV t.vote)).run Try.prog w = .ok (.bool true) w := fun w => by rw [vote_neq _ _ hf hg]; simp [he]
  obtain ⟨A, c, rfl, hlc, hcm⟩ := hu.slice
  obtain ⟨B, d, rfl, hld, hdm⟩ := hv.slice
  obtain ⟨za, hza⟩ : ∃ z, voteV s.vote = .agg z := ⟨_, rfl⟩
  obtain ⟨zb, hzb⟩ : ∃ z, voteV t.vote = .agg z := ⟨_, rfl⟩
  rw [hza, hzb] at CV hne
  have HZA := Lib.hid hza
  have HZB := Lib.hid hzb
  have HF := Lib.hid hf
  have HG := Lib.hid hg
  have HU := Lib.hid hu
  have HV := Lib.hid hv
  have HCV := Lib.hid CV
  obtain ⟨ra, hra⟩ : ∃ row, (rowS s (.slice A s.sig.length c)).toArray = row := ⟨_, rfl⟩
  obtain ⟨rb, hrb⟩ : ∃ row, (rowS t (.slice B t.sig.length d)).toArray = row := ⟨_, rfl⟩
  rw [hra, hrb]
  have HRA := Lib.hid hra
  have HRB := Lib.hid hrb
  have RA := Lib.hid (show ∀ W, Blk W w.heap.size 38 ra → W.rangeAt w.heap.size 0 (rowS s (.slice A s.sig.length c)) from fun W h => by rw [← HRA.out] at h; exact range_blk h)
  have RB := Lib.hid (show ∀ W, Blk W (w.heap.size + 1) 38 rb → W.rangeAt (w.heap.size + 1) 0 (rowS t (.slice B t.sig.length d)) from fun W h => by rw [← HRB.out] at h; exact range_blk h)
  have ba : Blk ((w.alloc (.cells ra 38)).alloc (.cells rb 38)) w.heap.size 38 ra := (Blk.new w 38 ra).alloc _
  have bb : Blk ((w.alloc (.cells ra 38)).alloc (.cells rb 38)) (w.heap.size + 1) 38 rb := by have := Blk.new (w.alloc (.cells ra 38)) 38 rb; simpa using this
  have BA := Lib.hid ba
  have BB := Lib.hid bb
  clear hf hg hu hv hza hzb CV hra hrb hcm hdm ba bb he
  generalize lessS s t = Z at HZ ⊢
  go_enter Try.func53, Try.ntmps53
  go_wp2_with (first
    | (refine wpList_load_vote' rfl (.tmp 5) rfl w.heap.size 0 rfl s.vote HF.out (range_vote (RA.out _ BA.out)) (.agg za) HZA.out ?_)
    | (refine wpList_load_vote' rfl (.tmp 7) rfl (w.heap.size + 1) 0 rfl t.vote HG.out (range_vote (RB.out _ BB.out)) (.agg zb) HZB.out ?_)
    | (refine wpList_load_vote' rfl (.tmp 10) rfl w.heap.size 0 rfl s.vote HF.out (range_vote (RA.out _ BA.out)) (.agg za) HZA.out ?_)
    | (refine wpList_load_vote' rfl (.tmp 12) rfl (w.heap.size + 1) 0 rfl t.vote HG.out (range_vote (RB.out _ BB.out)) (.agg zb) HZB.out ?_))
  refine (HCV.out _).mono ?_
  rintro e w1 ⟨rfl, hu1⟩
  have U1 := Lib.hid hu1
  clear hu1
  go_wp2
  go_ret
  exact ⟨retb HZ.out.symm, (((Upd.refl NoF w).alloc _).alloc _).trans U1.out (fun _ _ h => h)⟩

set_option maxRecDepth 100000 in
set_option maxHeartbeats 4000000 in
theorem sLess_eq {s t : SignedS} {u v : Value} (hf : s.vote.Fit) (hg : t.vote.Fit) (w : World) (hu : Rd w 1 u s.sig.length (s.sig.map byteV)) (hv : Rd w 1 v t.sig.length (t.sig.map byteV)) (he : s.vote = t.vote) : Calls Try.prog 53 #[.agg (rowS s u).toArray, .agg (rowS t v).toArray] w fun e w' => e = .returned (.bool (lessS s t)) ∧ Upd NoF w w' := by
  have HZ := Lib.hid (show lessS s t = lessT s.sig t.sig from by unfold lessS; rw [if_pos he])
  have CV := vLess_any hf hg
  have hne : ∀ w, (binOp .neq 35 (voteV s.vote) (voteV t.vote)).run Try.prog w = .ok (.bool false) w := fun w => by rw [vote_neq _ _ hf hg]; simp [he]
  obtain ⟨A, c, rfl, hlc, hcm⟩ := hu.slice
  obtain ⟨B, d, rfl, hld, hdm⟩ := hv.slice
  obtain ⟨za, hza⟩ : ∃ z, voteV s.vote = .agg z := ⟨_, rfl⟩
  obtain ⟨zb, hzb⟩ : ∃ z, voteV t.vote = .agg z := ⟨_, rfl⟩
  rw [hza, hzb] at CV hne
  have HZA := Lib.hid hza
  have HZB := Lib.hid hzb
  have HF := Lib.hid hf
  have HG := Lib.hid hg
  have HU := Lib.hid hu
  have HV := Lib.hid hv
  have HCV := Lib.hid CV
  obtain ⟨ra, hra⟩ : ∃ row, (rowS s (.slice A s.sig.length c)).toArray = row := ⟨_, rfl⟩
  obtain ⟨rb, hrb⟩ : ∃ row, (rowS t (.slice B t.sig.length d)).toArray = row := ⟨_, rfl⟩
  rw [hra, hrb]
  have HRA := Lib.hid hra
  have HRB := Lib.hid hrb
  have RA := Lib.hid (show ∀ W, Blk W w.heap.size 38 ra → W.rangeAt w.heap.size 0 (rowS s (.slice A s.sig.length c)) from fun W h => by rw [← HRA.out] at h; exact range_blk h)
  have RB := Lib.hid (show ∀ W, Blk W (w.heap.size + 1) 38 rb → W.rangeAt (w.heap.size + 1) 0 (rowS t (.slice B t.sig.length d)) from fun W h => by rw [← HRB.out] at h; exact range_blk h)
  have ba : Blk ((w.alloc (.cells ra 38)).alloc (.cells rb 38)) w.heap.size 38 ra := (Blk.new w 38 ra).alloc _
  have bb : Blk ((w.alloc (.cells ra 38)).alloc (.cells rb 38)) (w.heap.size + 1) 38 rb := by have := Blk.new (w.alloc (.cells ra 38)) 38 rb; simpa using this
  have BA := Lib.hid ba
  have BB := Lib.hid bb
  have CC := Lib.hid (bCompare_any (hu.keep (((Upd.refl NoF w).alloc (.cells ra 38)).alloc (.cells rb 38))) (hv.keep (((Upd.refl NoF w).alloc (.cells ra 38)).alloc (.cells rb 38))))
  have c1 : ((w.alloc (.cells ra 38)).alloc (.cells rb 38)).cell? ⟨w.heap.size, 22, none⟩ = some (.slice A s.sig.length c) := by have := range_sig hf (RA.out _ ba); simpa using this
  have c2 : ((w.alloc (.cells ra 38)).alloc (.cells rb 38)).cell? ⟨w.heap.size + 1, 22, none⟩ = some (.slice B t.sig.length d) := by have := range_sig hg (RB.out _ bb); simpa using this
  simp only [lessT] at HZ
  clear hf hg hu hv hza hzb CV hra hrb hcm hdm ba bb he HCV
  generalize lessS s t = Z at HZ ⊢
  go_enter Try.func53, Try.ntmps53
  go_wp2_with (first
    | (refine wpList_load_vote' rfl (.tmp 5) rfl w.heap.size 0 rfl s.vote HF.out (range_vote (RA.out _ BA.out)) (.agg za) HZA.out ?_)
    | (refine wpList_load_vote' rfl (.tmp 7) rfl (w.heap.size + 1) 0 rfl t.vote HG.out (range_vote (RB.out _ BB.out)) (.agg zb) HZB.out ?_)
    | (go_at_call 21; refine (CC.out).mono ?_; rintro e w1 ⟨rfl, rfl⟩))
  go_ret
  exact ⟨retb (by rw [HZ.out]; exact cmpB_lt _ _), ((Upd.refl NoF w).alloc _).alloc _⟩

theorem sLess_any {s t : SignedS} {u v : Value} (hf : s.vote.Fit) (hg : t.vote.Fit) (w : World) (hu : Rd w 1 u s.sig.length (s.sig.map byteV)) (hv : Rd w 1 v t.sig.length (t.sig.map byteV)) : Calls Try.prog 53 #[.agg (rowS s u).toArray, .agg (rowS t v).toArray] w fun e w' => e = .returned (.bool (lessS s t)) ∧ Upd NoF w w' := by
  by_cases he : s.vote = t.vote
  · exact sLess_eq hf hg w hu hv he
  · exact sLess_ne hf hg w hu hv he


set_option maxRecDepth 100000 in
set_option maxHeartbeats 4000000 in
theorem rLessS_ne {s t : SignedS} {u v : Value} (hf : s.vote.Fit) (hg : t.vote.Fit) (w : World) (hu : Rd w 1 u s.sig.length (s.sig.map byteV)) (hv : Rd w 1 v t.sig.length (t.sig.map byteV)) (he : s.vote ≠ t.vote) : Calls Try.prog 28 #[.agg (rowS s u).toArray, .agg (rowS t v).toArray] w fun e w' => e = .returned (.bool (lessS s t)) ∧ Upd NoF w w' := by
  have HZ := Lib.hid (show lessS s t = lessV s.vote t.vote from by unfold lessS; rw [if_neg he])
  have CV := rLess_any hf hg
  have hne : ∀ w, (binOp .neq 35 (voteV s.vote) (voteV t.vote)).run Try.prog w = .ok (.bool true) w := fun w => by rw [vote_neq _ _ hf hg]; simp [he]
  obtain ⟨A, c, rfl, hlc, hcm⟩ := hu.slice
  obtain ⟨B, d, rfl, hld, hdm⟩ := hv.slice
  obtain ⟨za, hza⟩ : ∃ z, voteV s.vote = .agg z := ⟨_, rfl⟩
  obtain ⟨zb, hzb⟩ : ∃ z, voteV t.vote = .agg z := ⟨_, rfl⟩
  rw [hza, hzb] at CV hne
  have HZA := Lib.hid hza
  have HZB := Lib.hid hzb
  have HF := Lib.hid hf
  have HG := Lib.hid hg
  have HU := Lib.hid hu
  have HV := Lib.hid hv
  have HCV := Lib.hid CV
  obtain ⟨ra, hra⟩ : ∃ row, (rowS s (.slice A s.sig.length c)).toArray = row := ⟨_, rfl⟩
  obtain ⟨rb, hrb⟩ : ∃ row, (rowS t (.slice B t.sig.length d)).toArray = row := ⟨_, rfl⟩
  rw [hra, hrb]
  have HRA := Lib.hid hra
  have HRB := Lib.hid hrb
  have RA := Lib.hid (show ∀ W, Blk W w.heap.size 38 ra → W.rangeAt w.heap.size 0 (rowS s (.slice A s.sig.length c)) from fun W h => by rw [← HRA.out] at h; exact range_blk h)
  have RB := Lib.hid (show ∀ W, Blk W (w.heap.size + 1) 38 rb → W.rangeAt (w.heap.size + 1) 0 (rowS t (.slice B t.sig.length d)) from fun W h => by rw [← HRB.out] at h; exact range_blk h)
  have ba : Blk ((w.alloc (.cells ra 38)).alloc (.cells rb 38)) w.heap.size 38 ra := (Blk.new w 38 ra).alloc _
  have bb : Blk ((w.alloc (.cells ra 38)).alloc (.cells rb 38)) (w.heap.size + 1) 38 rb := by have := Blk.new (w.alloc (.cells ra 38)) 38 rb; simpa using this
  have BA := Lib.hid ba
  have BB := Lib.hid bb
  clear hf hg hu hv hza hzb CV hra hrb hcm hdm ba bb he
  generalize lessS s t = Z at HZ ⊢
  go_enter Try.func28, Try.ntmps28
  go_wp2_with (first
    | (refine wpList_load_vote' rfl (.tmp 5) rfl w.heap.size 0 rfl s.vote HF.out (range_vote (RA.out _ BA.out)) (.agg za) HZA.out ?_)
    | (refine wpList_load_vote' rfl (.tmp 7) rfl (w.heap.size + 1) 0 rfl t.vote HG.out (range_vote (RB.out _ BB.out)) (.agg zb) HZB.out ?_)
    | (refine wpList_load_vote' rfl (.tmp 10) rfl w.heap.size 0 rfl s.vote HF.out (range_vote (RA.out _ BA.out)) (.agg za) HZA.out ?_)
    | (refine wpList_load_vote' rfl (.tmp 12) rfl (w.heap.size + 1) 0 rfl t.vote HG.out (range_vote (RB.out _ BB.out)) (.agg zb) HZB.out ?_))
  refine (HCV.out _).mono ?_
  rintro e w1 ⟨rfl, hu1⟩
  have U1 := Lib.hid hu1
  clear hu1
  go_wp2
  go_ret
  exact ⟨retb HZ.out.symm, (((Upd.refl NoF w).alloc _).alloc _).trans U1.out (fun _ _ h => h)⟩

set_option maxRecDepth 100000 in
set_option maxHeartbeats 4000000 in
theorem rLessS_eq {s t : SignedS} {u v : Value} (hf : s.vote.Fit) (hg : t.vote.Fit) (w : World) (hu : Rd w 1 u s.sig.length (s.sig.map byteV)) (hv : Rd w 1 v t.sig.length (t.sig.map byteV)) (he : s.vote = t.vote) : Calls Try.prog 28 #[.agg (rowS s u).toArray, .agg (rowS t v).toArray] w fun e w' => e = .returned (.bool (lessS s t)) ∧ Upd NoF w w' := by
  have HZ := Lib.hid (show lessS s t = lessT s.sig t.sig from by unfold lessS; rw [if_pos he])
  have CV := rLess_any hf hg
  have hne : ∀ w, (binOp .neq 35 (voteV s.vote) (voteV t.vote)).run Try.prog w = .ok (.bool false) w := fun w => by rw [vote_neq _ _ hf hg]; simp [he]
  obtain ⟨A, c, rfl, hlc, hcm⟩ := hu.slice
  obtain ⟨B, d, rfl, hld, hdm⟩ := hv.slice
  obtain ⟨za, hza⟩ : ∃ z, voteV s.vote = .agg z := ⟨_, rfl⟩
  obtain ⟨zb, hzb⟩ : ∃ z, voteV t.vote = .agg z := ⟨_, rfl⟩
  rw [hza, hzb] at CV hne
  have HZA := Lib.hid hza
  have HZB := Lib.hid hzb
  have HF := Lib.hid hf
  have HG := Lib.hid hg
  have HU := Lib.hid hu
  have HV := Lib.hid hv
  have HCV := Lib.hid CV
  obtain ⟨ra, hra⟩ : ∃ row, (rowS s (.slice A s.sig.length c)).toArray = row := ⟨_, rfl⟩
  obtain ⟨rb, hrb⟩ : ∃ row, (rowS t (.slice B t.sig.length d)).toArray = row := ⟨_, rfl⟩
  rw [hra, hrb]
  have HRA := Lib.hid hra
  have HRB := Lib.hid hrb
  have RA := Lib.hid (show ∀ W, Blk W w.heap.size 38 ra → W.rangeAt w.heap.size 0 (rowS s (.slice A s.sig.length c)) from fun W h => by rw [← HRA.out] at h; exact range_blk h)
  have RB := Lib.hid (show ∀ W, Blk W (w.heap.size + 1) 38 rb → W.rangeAt (w.heap.size + 1) 0 (rowS t (.slice B t.sig.length d)) from fun W h => by rw [← HRB.out] at h; exact range_blk h)
  have ba : Blk ((w.alloc (.cells ra 38)).alloc (.cells rb 38)) w.heap.size 38 ra := (Blk.new w 38 ra).alloc _
  have bb : Blk ((w.alloc (.cells ra 38)).alloc (.cells rb 38)) (w.heap.size + 1) 38 rb := by have := Blk.new (w.alloc (.cells ra 38)) 38 rb; simpa using this
  have BA := Lib.hid ba
  have BB := Lib.hid bb
  have ka := run_str (hu.keep (((Upd.refl NoF w).alloc (.cells ra 38)).alloc (.cells rb 38)))
  have kb := run_str (hv.keep (((Upd.refl NoF w).alloc (.cells ra 38)).alloc (.cells rb 38)))
  have c1 : ((w.alloc (.cells ra 38)).alloc (.cells rb 38)).cell? ⟨w.heap.size, 22, none⟩ = some (.slice A s.sig.length c) := by have := range_sig hf (RA.out _ ba); simpa using this
  have c2 : ((w.alloc (.cells ra 38)).alloc (.cells rb 38)).cell? ⟨w.heap.size + 1, 22, none⟩ = some (.slice B t.sig.length d) := by have := range_sig hg (RB.out _ bb); simpa using this
  simp only [lessT] at HZ
  clear hf hg hu hv hza hzb CV hra hrb hcm hdm ba bb he HCV
  generalize lessS s t = Z at HZ ⊢
  go_enter Try.func28, Try.ntmps28
  go_wp2_with (first
    | (refine wpList_load_vote' rfl (.tmp 5) rfl w.heap.size 0 rfl s.vote HF.out (range_vote (RA.out _ BA.out)) (.agg za) HZA.out ?_)
    | (refine wpList_load_vote' rfl (.tmp 7) rfl (w.heap.size + 1) 0 rfl t.vote HG.out (range_vote (RB.out _ BB.out)) (.agg zb) HZB.out ?_))
  go_ret
  exact ⟨retb HZ.out.symm, ((Upd.refl NoF w).alloc _).alloc _⟩

theorem rLessS_any {s t : SignedS} {u v : Value} (hf : s.vote.Fit) (hg : t.vote.Fit) (w : World) (hu : Rd w 1 u s.sig.length (s.sig.map byteV)) (hv : Rd w 1 v t.sig.length (t.sig.map byteV)) : Calls Try.prog 28 #[.agg (rowS s u).toArray, .agg (rowS t v).toArray] w fun e w' => e = .returned (.bool (lessS s t)) ∧ Upd NoF w w' := by
  by_cases he : s.vote = t.vote
  · exact rLessS_eq hf hg w hu hv he
  · exact rLessS_ne hf hg w hu hv he
end
end Go.Proofs.Ytbgificdilpdcaa
