/- Views among a statement's arguments: their texts and signatures are in reach. No condition. -/
import Derived.Test.YtbgificdilpdcaaJn27
namespace Go.Proofs.Ytbgificdilpdcaa
open Go.ChangeShapes Go.WideShapes Go.ChangeAt Go.RowKit
theorem weightsAll_mem {H : Type} {P : Program} {e : TypeId} : ∀ {l : List (DataW H)} {d : DataW H}, d ∈ l → ∀ n ∈ d.weights P e, n ∈ DataW.weightsAll P e l
  | d' :: r, d, hd, n, hn => by
    simp only [DataW.weightsAll, List.mem_append]
    rcases List.mem_cons.1 hd with rfl | h
    · exact Or.inl hn
    · exact Or.inr (weightsAll_mem h n hn)
section
variable {H : Type} {enc : TypeId × Value → H} {W : World} {v : Value} {d : DataW H} {p : List MemPlace} {base : Nat} {spare : Nat → Bool} {held : Bool} {fuel : Nat}
set_option maxRecDepth 100000 in
/-- An element of a slice: its cells, and that it is in reach. -/
theorem slice_el {t e : TypeId} (ht : Try.prog.underlying t = some (.slice e)) {g o n c : Nat} {x : DataW H × List MemPlace} (h : DataW.trod enc Try.prog W base spare held fuel t [.slice (some ⟨g, o, none⟩) n c] = some x) (hw : ∀ q ∈ x.1.weights Try.prog t, q ≤ reachBytes) {i : Nat} (hi : i < n) :
    ∃ (cs : List Value) (f : Nat) (y : DataW H × List MemPlace), cs.length = Try.prog.cellsOf e ∧ (∀ j, j < Try.prog.cellsOf e → W.cell? ⟨g, o + (i * Try.prog.cellsOf e + j), none⟩ = cs[j]?) ∧ DataW.trod enc Try.prog W base spare held f e cs = some y ∧ ∀ q ∈ y.1.weights Try.prog e, q ≤ reachBytes := by
  rcases Go.Deep.open_slice ht h with ⟨hcs, hx⟩ | ⟨a, len, cap, m, k, D, Pl, hcs, _, hl, hm, hz, hx, hel⟩
  · injection hcs with hcs
    injection hcs with h1 _ _
    cases h1
  · injection hcs with hcs
    injection hcs with h1 h2 _
    injection h1 with h1
    subst h1 h2 hx
    have hlm : n ≤ m := by rw [hz]; split <;> omega
    obtain ⟨cs, h1, h2⟩ := hel i (by omega)
    obtain ⟨_, hcl, hat⟩ := World.cells?_some h1
    refine ⟨cs, k, _, hcl, fun j hj => ?_, h2, fun q hq => hw q ?_⟩
    · have := hat j hj
      rw [Go.Deep.add_add] at this
      have hadd : ∀ z, (⟨g, o, none⟩ : Addr).add z = ⟨g, o + z, none⟩ := fun z => by unfold Addr.add; split <;> simp_all
      rw [hadd] at this
      exact this
    · simp only [DataW.weights, ht, List.mem_cons, List.mem_append]
      exact .inr (.inl (weightsAll_mem (List.mem_map.2 ⟨i, List.mem_range.2 hi, rfl⟩) q hq))
theorem texts_sized {x : DataW H × List MemPlace} {l : List (List UInt8)} {A : Option Addr} {n c : Nat} (h : DataW.trod enc Try.prog W base spare held fuel 23 [.slice A n c] = some x) (hr : TxR W (.slice A n c) l) (hw : ∀ q ∈ x.1.weights Try.prog 23, q ≤ reachBytes) : ∀ t ∈ l, t.length ≤ 140737488355328 := by
  intro t ht
  obtain ⟨i, hi⟩ := List.getElem?_of_mem ht
  obtain ⟨g, o, Au, cu, rfl, r1, r2, -⟩ := hr.at_ hi
  have hn : i < n := by
    obtain ⟨A', c', e, -⟩ := hr.form
    injection e with _ e _
    rw [e]
    exact (List.getElem?_eq_some_iff.1 hi).1
  have hc1 : Try.prog.cellsOf 36 = 1 := by kernel_rfl
  obtain ⟨cs, f, y, e1, e2, e3, e4⟩ := slice_el Try.underlying23 h hw hn
  rw [hc1] at e1 e2
  obtain ⟨u, rfl⟩ : ∃ u, cs = [u] := by
    match cs, e1 with
    | [u], _ => exact ⟨u, rfl⟩
  have e5 := e2 0 (by omega)
  simp only [Nat.mul_one, Nat.add_zero] at e5
  rw [r1] at e5
  have e6 : u = .slice Au t.length cu := by simpa using e5.symm
  subst e6
  exact slice_sized Try.underlying36 (by have : Try.prog.bytesOf 5 = 1 := (by kernel_rfl); omega) e3 e4
theorem sigs_sized {x : DataW H × List MemPlace} {l : List SignedS} {A : Option Addr} {n c : Nat} (h : DataW.trod enc Try.prog W base spare held fuel 22 [.slice A n c] = some x) (hr : SgR W (.slice A n c) l) (hw : ∀ q ∈ x.1.weights Try.prog 22, q ≤ reachBytes) : ∀ s ∈ l, s.sig.length ≤ 140737488355328 := by
  intro s hs
  obtain ⟨i, hi⟩ := List.getElem?_of_mem hs
  have hfit := hr.fit hi
  obtain ⟨g, o, Au, cu, rfl, r1, r2, -⟩ := hr.at_ hi
  have hn : i < n := by
    obtain ⟨A', c', e, -⟩ := hr.form
    injection e with _ e _
    rw [e]
    exact (List.getElem?_eq_some_iff.1 hi).1
  obtain ⟨cs, f, y, e1, e2, e3, e4⟩ := slice_el Try.underlying22 h hw hn
  rw [cells_signed] at e1 e2
  have hS : Try.prog.underlying 38 = some (.struct (Try.prog.fieldsOf 38)) := by kernel_rfl
  have hfs : (Try.prog.fieldsOf 38).toList.map (fun f => (f.type, f.offset)) = [(35, 0), (36, 22)] := by kernel_rfl
  have hft : (Try.prog.fieldsOf 38).toList.map (·.type) = [35, 36] := by kernel_rfl
  have hc1 : Try.prog.cellsOf 36 = 1 := by kernel_rfl
  obtain ⟨xs, m, _, hy, hcl, hxl, hf⟩ := DataW.trod_struct hS e3
  subst hy
  have hsz : (Try.prog.fieldsOf 38).size = 2 := by have := congrArg List.length hfs; simpa using this
  obtain ⟨fd, hf1, hf2⟩ : ∃ fd, (Try.prog.fieldsOf 38)[1]? = some fd ∧ (fd.type, fd.offset) = ((36 : Nat), (22 : Nat)) := by
    have h1 : ((Try.prog.fieldsOf 38).toList.map (fun f => (f.type, f.offset)))[1]? = some ((36 : Nat), (22 : Nat)) := by rw [hfs]; rfl
    rw [List.getElem?_map] at h1
    obtain ⟨fd, a1, a2⟩ := Option.map_eq_some_iff.1 h1
    exact ⟨fd, by simpa using a1, a2⟩
  obtain ⟨f1, f2⟩ := Prod.mk.inj hf2
  have h2 := hf 1 fd hf1
  have hlt : 1 < xs.length := by rw [hxl, hsz]; omega
  have f1' : fd.type = 36 := f1
  have f2' : fd.offset = 22 := f2
  rw [f1', f2', hc1, List.getElem?_eq_getElem hlt] at h2
  have e5 := e2 22 (by omega)
  have hrow : (rowS s (.slice Au s.sig.length cu))[22]? = some (.slice Au s.sig.length cu) := by
    simp [rowS, voteCells, hfit.parent, hfit.value]
  have e6 := r1 22 _ hrow
  rw [Nat.add_assoc, e5] at e6
  have e7 : (cs.drop 22).take 1 = [.slice Au s.sig.length cu] := by
    apply List.ext_getElem?
    intro j
    rw [List.getElem?_take, List.getElem?_drop]
    match j with
    | 0 => simpa using e6
    | j + 1 => simp
  rw [e7] at h2
  refine slice_sized Try.underlying36 (by have : Try.prog.bytesOf 5 = 1 := (by kernel_rfl); omega) h2 (fun q hq => e4 q ?_)
  simp only [DataW.weights, hS, hft]
  exact DataW.weights_mem_each (j := 1) rfl (by rw [List.getElem?_map, List.getElem?_eq_getElem hlt]; rfl) q hq
set_option maxRecDepth 100000 in
theorem open_view_len {base0 : Nat} (hok : Value.okWide Try.prog W .any base0 25 v) (h : DataW.Trod enc Try.prog W 0 (fun _ => true) true 25 v d p) (hw : ∀ q ∈ d.weights Try.prog 25, q ≤ reachBytes) : ∃ (a b : Value) (V : ViewS), v = .agg #[a, b] ∧ VwR W a b V ∧ V.votes.length ≤ 140737488355328 ∧ V.texts.length ≤ 140737488355328 ∧ LenV V := by
  obtain ⟨v0, v1, y0, y1, n, rfl, rfl, _, h0, h1⟩ := Go.Joins.open_agg2 Try.underlying25 (by kernel_rfl) cells_view hok h
  obtain ⟨l, hl⟩ := open_signeds h0
  obtain ⟨r, hr⟩ := open_texts h1
  obtain ⟨A, c, rfl, -, -⟩ := hl.form
  obtain ⟨B, d, rfl, -, -⟩ := hr.form
  have w0 : ∀ q ∈ y0.1.weights Try.prog 22, q ≤ reachBytes := fun q hq => hw q (by
    simp only [DataW.weights, Try.underlying25, List.map_cons, List.map_nil]
    exact DataW.weights_mem_each (j := 0) rfl rfl q hq)
  have w1 : ∀ q ∈ y1.1.weights Try.prog 23, q ≤ reachBytes := fun q hq => hw q (by
    simp only [DataW.weights, Try.underlying25, List.map_cons, List.map_nil]
    exact DataW.weights_mem_each (j := 1) rfl rfl q hq)
  exact ⟨_, _, ⟨l, r⟩, rfl, ⟨hl, hr⟩, slice_sized Try.underlying22 (by have : Try.prog.bytesOf 38 = 88 := (by kernel_rfl); omega) h0 w0, slice_sized Try.underlying23 (by have : Try.prog.bytesOf 36 = 24 := (by kernel_rfl); omega) h1 w1, sigs_sized h0 hl w0, texts_sized h1 hr w1⟩
end
end Go.Proofs.Ytbgificdilpdcaa
