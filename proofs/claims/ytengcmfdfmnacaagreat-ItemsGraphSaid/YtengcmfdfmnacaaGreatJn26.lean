/- A list of items among the arguments. No condition. ItemsGraph, lifted to its statement. No condition. ItemsGraph: the closed facts of its row. No condition. -/
import Derived.Test.YtengcmfdfmnacaaGreatJn10
import Derived.Test.YtengcmfdfmnacaaGreatJn4
import Derived.Test.YtengcmfdfmnacaaGreatGl
import Derived.JoinedOf
namespace Go.Proofs.YtengcmfdfmnacaaGreat
section
open Go.ChangeShapes Go.WideShapes Go.ChangeAt Go.RowKit

theorem list_map_of {α β : Type} {f : β → α} {P : β → Prop} : ∀ (l : List α), (∀ x ∈ l, ∃ y, x = f y ∧ P y) → ∃ r : List β, l = r.map f ∧ ∀ y ∈ r, P y
  | [], _ => ⟨[], rfl, fun y hy => by cases hy⟩
  | a :: l, h => by
    obtain ⟨r, h1, h2⟩ := list_map_of l (fun x hx => h x (List.mem_cons_of_mem _ hx))
    obtain ⟨y, rfl, hy⟩ := h a List.mem_cons_self
    exact ⟨y :: r, by rw [h1]; rfl, fun z hz => by rcases List.mem_cons.1 hz with rfl | hz; (· exact hy); exact h2 z hz⟩
section
variable {H : Type} {enc : TypeId × Value → H} {W : World} {v : Value} {d : DataW H} {p : List MemPlace} {base : Nat} {spare : Nat → Bool} {held : Bool} {fuel : Nat}
theorem cells_head : Tryz.prog.cellsOf 78 = 9 := by kernel_rfl
theorem cells_item : Tryz.prog.cellsOf 38 = 28 := by kernel_rfl
theorem cells_state : Tryz.prog.cellsOf 34 = 5 := by kernel_rfl
set_option maxRecDepth 100000 in
theorem one_slice {t e : TypeId} (ht : Tryz.prog.underlying t = some (.slice e)) {c : Value} {x : DataW H × List MemPlace} (h : DataW.trod enc Tryz.prog W base spare held fuel t [c] = some x) : c.oneCell' = true := by
  rcases Go.Deep.open_slice ht h with ⟨hcs, hx⟩ | ⟨a, len, cap, m, n, D, Pl, hcs, _⟩
  · injection hcs with hcs
    subst hcs
    simp [Value.oneCell']
  · injection hcs with hcs
    subst hcs
    simp [Value.oneCell']
theorem open_name_list {l : List Value} (hl : l.length = 8) {x : DataW H × List MemPlace} (h : DataW.trod enc Tryz.prog W base spare held fuel 28 l = some x) : ∃ n : List UInt8, n.length = 8 ∧ l = n.map byteV := by
  match l, hl with
  | [c0, c1, c2, c3, c4, c5, c6, c7], _ => exact open_name_cells h
/-- A slice of names among the data. -/
theorem open_names {x : DataW H × List MemPlace} (h : DataW.trod enc Tryz.prog W base spare held fuel 22 [v] = some x) : ∃ l : List (List UInt8), NmR W v l := by
  obtain ⟨rows, h1, h2⟩ := open_slice_rows Tryz.underlying22 (by rw [cells_name]; omega) h
  rw [cells_name] at h1
  obtain ⟨l, rfl, hl⟩ := list_map_of (f := fun n : List UInt8 => n.map byteV) (P := fun n => n.length = 8) rows (fun row hrow => by
    obtain ⟨h3, n, y, hy⟩ := h2 row hrow
    rw [cells_name] at h3
    obtain ⟨n, h8, rfl⟩ := open_name_list h3 hy
    exact ⟨n, rfl, h8⟩)
  exact ⟨l, hl, by rw [List.length_map] at h1; exact h1⟩
set_option maxRecDepth 100000 in
theorem open_head_cells {cs : List Value} {x : DataW H × List MemPlace} (h : DataW.trod enc Tryz.prog W base spare held fuel 78 cs = some x) : ∃ s : Int × List UInt8, cs = choiceC s ∧ s.2.length = 8 := by
  have hS : Tryz.prog.underlying 78 = some (.struct (Tryz.prog.fieldsOf 78)) := by kernel_rfl
  have hfs : (Tryz.prog.fieldsOf 78).toList.map (fun f => (f.type, f.offset)) = [(3, 0), (28, 1)] := by kernel_rfl
  obtain ⟨xs, n, _, _, hcl, hxl, hf⟩ := DataW.trod_struct hS h
  rw [cells_head] at hcl
  have fld : ∀ (i t o : Nat), ((Tryz.prog.fieldsOf 78).toList.map (fun f => (f.type, f.offset)))[i]? = some (t, o) → ∃ y, DataW.trod enc Tryz.prog W base spare held n t ((cs.drop o).take (Tryz.prog.cellsOf t)) = some y := fun i t o hi => by
    rw [List.getElem?_map] at hi
    obtain ⟨f, hf1, hf2⟩ := Option.map_eq_some_iff.1 hi
    have hf3 : (Tryz.prog.fieldsOf 78)[i]? = some f := by simpa using hf1
    have := hf i f hf3
    obtain ⟨e1, e2⟩ := Prod.mk.inj hf2
    rw [e1, e2] at this
    have hlt : i < xs.length := by rw [hxl]; exact (Array.getElem?_eq_some_iff.1 hf3).1
    exact ⟨xs[i], this.trans (List.getElem?_eq_getElem hlt)⟩
  rw [hfs] at fld
  match cs, hcl with
  | [c0, c1, c2, c3, c4, c5, c6, c7, c8], _ =>
    obtain ⟨y0, f0⟩ := fld 0 3 0 rfl
    obtain ⟨y1, f1⟩ := fld 1 28 1 rfl
    rw [cells_int] at f0
    rw [cells_name] at f1
    obtain ⟨z0, rfl, h0⟩ := open_int1 Tryz.underlying3 f0
    obtain ⟨l1, k1, e1⟩ := open_name_cells f1
    refine ⟨(z0, l1), ?_, k1⟩
    unfold choiceC
    simp only
    rw [← e1]
theorem open_heads {x : DataW H × List MemPlace} (h : DataW.trod enc Tryz.prog W base spare held fuel 29 [v] = some x) : ∃ l : List (Int × List UInt8), ChR W v l := by
  obtain ⟨rows, h1, h2⟩ := open_slice_rows Tryz.underlying29 (by rw [cells_head]; omega) h
  rw [cells_head] at h1
  obtain ⟨l, rfl, hl⟩ := list_map_of (f := choiceC) (P := fun s => s.2.length = 8) rows (fun row hrow => by
    obtain ⟨h3, n, y, hy⟩ := h2 row hrow
    exact open_head_cells hy)
  exact ⟨l, hl, by rw [List.length_map] at h1; exact h1⟩
/-- The cells of a struct's field. -/
theorem fld_of {t : TypeId} (hS : Tryz.prog.underlying t = some (.struct (Tryz.prog.fieldsOf t))) {cs : List Value} {x : DataW H × List MemPlace} (h : DataW.trod enc Tryz.prog W base spare held fuel t cs = some x) : cs.length = Tryz.prog.cellsOf t ∧ ∃ n, ∀ (i u o : Nat), ((Tryz.prog.fieldsOf t).toList.map (fun f => (f.type, f.offset)))[i]? = some (u, o) → ∃ y, DataW.trod enc Tryz.prog W base spare held n u ((cs.drop o).take (Tryz.prog.cellsOf u)) = some y := by
  obtain ⟨xs, n, _, _, hcl, hxl, hf⟩ := DataW.trod_struct hS h
  refine ⟨hcl, n, fun i u o hi => ?_⟩
  rw [List.getElem?_map] at hi
  obtain ⟨f, hf1, hf2⟩ := Option.map_eq_some_iff.1 hi
  have hf3 : (Tryz.prog.fieldsOf t)[i]? = some f := by simpa using hf1
  have := hf i f hf3
  obtain ⟨e1, e2⟩ := Prod.mk.inj hf2
  rw [e1, e2] at this
  have hlt : i < xs.length := by rw [hxl]; exact (Array.getElem?_eq_some_iff.1 hf3).1
  exact ⟨xs[i], this.trans (List.getElem?_eq_getElem hlt)⟩
set_option maxRecDepth 100000 in
theorem state_ones {c0 c1 c2 c3 c4 : Value} {x : DataW H × List MemPlace} (h : DataW.trod enc Tryz.prog W base spare held fuel 34 [c0, c1, c2, c3, c4] = some x) : c0.oneCell' = true ∧ c1.oneCell' = true ∧ c2.oneCell' = true ∧ c3.oneCell' = true ∧ c4.oneCell' = true := by
  obtain ⟨hcl, n, fld⟩ := fld_of (t := 34) (by kernel_rfl) h
  have hfs : (Tryz.prog.fieldsOf 34).toList.map (fun f => (f.type, f.offset)) = [(31, 0), (23, 1), (32, 2), (22, 3), (30, 4)] := by kernel_rfl
  rw [hfs] at fld
  obtain ⟨y0, f0⟩ := fld 0 31 0 rfl
  obtain ⟨y1, f1⟩ := fld 1 23 1 rfl
  obtain ⟨y2, f2⟩ := fld 2 32 2 rfl
  obtain ⟨y3, f3⟩ := fld 3 22 3 rfl
  obtain ⟨y4, f4⟩ := fld 4 30 4 rfl
  rw [show Tryz.prog.cellsOf 31 = 1 from by kernel_rfl] at f0
  rw [show Tryz.prog.cellsOf 23 = 1 from by kernel_rfl] at f1
  rw [show Tryz.prog.cellsOf 32 = 1 from by kernel_rfl] at f2
  rw [show Tryz.prog.cellsOf 22 = 1 from by kernel_rfl] at f3
  rw [cells_mask] at f4
  obtain ⟨z, rfl, _⟩ := open_int1 Tryz.underlying30 f4
  exact ⟨one_slice Tryz.underlying31 f0, one_slice Tryz.underlying23 f1, one_slice Tryz.underlying32 f2, one_slice Tryz.underlying22 f3, rfl⟩
set_option maxRecDepth 100000 in
set_option maxHeartbeats 2000000 in
theorem open_item_cells {cs : List Value} {x : DataW H × List MemPlace} (h : DataW.trod enc Tryz.prog W base spare held fuel 38 cs = some x) : ∃ y : ItP × List Value, cs = itemC y.1.name y.2 ∧ ItOk W y.1 y.2 := by
  obtain ⟨hcl, n, fld⟩ := fld_of (t := 38) (by kernel_rfl) h
  have hfs : (Tryz.prog.fieldsOf 38).toList.map (fun f => (f.type, f.offset)) = [(28, 0), (3, 8), (3, 9), (28, 10), (29, 18), (22, 19), (30, 20), (34, 21), (35, 26), (36, 27)] := by kernel_rfl
  rw [hfs] at fld
  rw [cells_item] at hcl
  match cs, hcl with
  | [c0, c1, c2, c3, c4, c5, c6, c7, c8, c9, c10, c11, c12, c13, c14, c15, c16, c17, c18, c19, c20, c21, c22, c23, c24, c25, c26, c27], _ =>
    obtain ⟨y0, f0⟩ := fld 0 28 0 rfl
    obtain ⟨y1, f1⟩ := fld 1 3 8 rfl
    obtain ⟨y2, f2⟩ := fld 2 3 9 rfl
    obtain ⟨y3, f3⟩ := fld 3 28 10 rfl
    obtain ⟨y4, f4⟩ := fld 4 29 18 rfl
    obtain ⟨y5, f5⟩ := fld 5 22 19 rfl
    obtain ⟨y6, f6⟩ := fld 6 30 20 rfl
    obtain ⟨y7, f7⟩ := fld 7 34 21 rfl
    obtain ⟨y8, f8⟩ := fld 8 35 26 rfl
    obtain ⟨y9, f9⟩ := fld 9 36 27 rfl
    rw [cells_int] at f1 f2
    rw [cells_name] at f0 f3
    rw [cells_mask] at f6
    rw [cells_state] at f7
    rw [show Tryz.prog.cellsOf 29 = 1 from by kernel_rfl] at f4
    rw [show Tryz.prog.cellsOf 22 = 1 from by kernel_rfl] at f5
    rw [show Tryz.prog.cellsOf 35 = 1 from by kernel_rfl] at f8
    rw [show Tryz.prog.cellsOf 36 = 1 from by kernel_rfl] at f9
    obtain ⟨nm, k0, e0⟩ := open_name_cells f0
    obtain ⟨kd, rfl, -⟩ := open_int1 Tryz.underlying3 f1
    obtain ⟨ht, rfl, -⟩ := open_int1 Tryz.underlying3 f2
    obtain ⟨pr, k3, e3⟩ := open_name_cells f3
    obtain ⟨hd, h4⟩ := open_heads (v := c18) f4
    obtain ⟨tp, h5⟩ := open_names (v := c19) f5
    obtain ⟨cm, rfl, -⟩ := open_int1 Tryz.underlying30 f6
    obtain ⟨o1, o2, o3, o4, o5⟩ := state_ones f7
    have o8 := one_slice Tryz.underlying35 (c := c26) f8
    have o9 := one_slice Tryz.underlying36 (c := c27) f9
    obtain ⟨H0, ch, rfl, -, -⟩ := show ∃ A c, c18 = .slice A hd.length c ∧ hd.length ≤ c ∧ c ≤ maxLen from by obtain ⟨A, c, e, a, b, -⟩ := h4.2; exact ⟨A, c, e, a, b⟩
    obtain ⟨T0, ct, rfl, -, -⟩ := h5.form
    obtain ⟨P, hP⟩ : ∃ P, pr.map byteV = P := ⟨_, rfl⟩
    have hPl : P.length = 8 := by rw [← hP]; simp [k3]
    refine ⟨(⟨nm, kd, pr, hd, tp⟩, .int .i64 kd :: .int .i64 ht :: (P ++ [.slice H0 hd.length ch, .slice T0 tp.length ct, .int .i64 cm, c21, c22, c23, c24, c25, c26, c27])), ?_, ?_⟩
    · unfold itemC
      simp only
      rw [← e0, ← hP, ← e3]
      rfl
    · refine ⟨by simp [hPl], ?_, rfl, ?_, ⟨H0, ch, ?_, h4⟩, ⟨T0, ct, ?_, h5⟩, ⟨k0, k3, h4.1, h5.1⟩⟩
      · intro u hu
        rcases List.mem_cons.1 hu with rfl | hu
        · rfl
        rcases List.mem_cons.1 hu with rfl | hu
        · rfl
        rcases List.mem_append.1 hu with hu | hu
        · rw [← hP] at hu
          obtain ⟨b, -, rfl⟩ := List.mem_map.1 hu
          rfl
        · simp only [List.mem_cons, List.not_mem_nil, or_false] at hu
          rcases hu with rfl | rfl | rfl | rfl | rfl | rfl | rfl | rfl | rfl | rfl <;> first | rfl | assumption
      · intro j u hj
        show (.int .i64 kd :: .int .i64 ht :: (P ++ _))[2 + j]? = some u
        rw [Nat.add_comm 2 j, List.getElem?_cons_succ, List.getElem?_cons_succ, List.getElem?_append_left (by rw [hPl]; have := (List.getElem?_eq_some_iff.1 hj).1; simpa [k3] using this), ← hP]
        exact hj
      · show (.int .i64 kd :: .int .i64 ht :: (P ++ _))[10]? = _
        rw [show (10 : Nat) = 8 + 1 + 1 from rfl, List.getElem?_cons_succ, List.getElem?_cons_succ, List.getElem?_append_right (by omega), hPl]
        rfl
      · show (.int .i64 kd :: .int .i64 ht :: (P ++ _))[11]? = _
        rw [show (11 : Nat) = 9 + 1 + 1 from rfl, List.getElem?_cons_succ, List.getElem?_cons_succ, List.getElem?_append_right (by omega), hPl]
        rfl
/-- A list of items among the data. -/
theorem open_items {x : DataW H × List MemPlace} (h : DataW.trod enc Tryz.prog W base spare held fuel 44 [v] = some x) : ∃ its : List (ItP × List Value), GrR W v its := by
  obtain ⟨rows, h1, h2⟩ := open_slice_rows Tryz.underlying44 (by rw [cells_item]; omega) h
  rw [cells_item] at h1
  obtain ⟨l, rfl, hl⟩ := list_map_of (f := fun x : ItP × List Value => itemC x.1.name x.2) (P := fun x => ItOk W x.1 x.2) rows (fun row hrow => by
    obtain ⟨h3, n, y, hy⟩ := h2 row hrow
    exact open_item_cells hy)
  refine ⟨l, ⟨fun y hy => ?_, ?_⟩, hl⟩
  · obtain ⟨z, hz, rfl⟩ := List.mem_map.1 hy
    exact ⟨(hl z hz).fit.name, (hl z hz).len⟩
  · rw [List.map_map, List.length_map]
    rw [List.length_map] at h1
    exact h1
end
end

section
open Go.ChangeShapes Go.WideShapes Go.ChangeAt Go.RowKit

section
variable {H : Type} {enc : TypeId × Value → H} {W : World} {v : Value} {d : DataW H} {p : List MemPlace}
set_option maxRecDepth 100000 in
/-- A name by value among the arguments. -/
theorem open_nameV {base0 : Nat} (hok : Value.okWide Tryz.prog W .any base0 28 v) (h : DataW.Trod enc Tryz.prog W 0 (fun _ => true) true 28 v d p) : ∃ l : List UInt8, l.length = 8 ∧ v = nameV l := by
  unfold Value.okWide at hok
  rw [Tryz.underlying28] at hok
  obtain ⟨cs, rfl, hsz, -⟩ := hok
  rw [cells_name] at hsz
  obtain ⟨l⟩ := cs
  match l, hsz with
  | [c0, c1, c2, c3, c4, c5, c6, c7], _ =>
    obtain ⟨fuel, hf⟩ := h
    obtain ⟨l, h8, hl⟩ := open_name_cells (c0 := c0) (c1 := c1) (c2 := c2) (c3 := c3) (c4 := c4) (c5 := c5) (c6 := c6) (c7 := c7) hf
    exact ⟨l, h8, by rw [hl]⟩
set_option maxRecDepth 100000 in
theorem open_itemsV {base0 : Nat} (hok : Value.okWide Tryz.prog W .any base0 44 v) (h : DataW.Trod enc Tryz.prog W 0 (fun _ => true) true 44 v d p) : ∃ its : List (ItP × List Value), GrR W v its := by
  obtain ⟨fuel, hf⟩ := slice_cells (t := 44) (e := 38) Tryz.underlying44 hok h
  exact open_items hf
end
set_option maxRecDepth 100000 in
theorem graph_lifted (os : Os) (started : os.Started) (H : Type) (enc : TypeId × Value → H) :
    ReturnsInHanded {} Tryz.checked os 4 .any (Rows.itemsGraphSpec.pre6 enc Tryz.prog Tryz.f4 Rows.itemsGraphRow.domain false) (Rows.itemsGraphSpec.post enc Tryz.prog Tryz.f4 false true false false) := by
  refine returnsInHanded_of_change (C := Tryz.checked) own started (by kernel_rfl) Tryz.func4
    (ChangeSpec.witness6 (enc := enc) (C := Tryz.checked) false ⟨#[], #[.slice none 0 0, .agg #[.int .u8 0, .int .u8 0, .int .u8 0, .int .u8 0, .int .u8 0, .int .u8 0, .int .u8 0, .int .u8 0], .agg #[.int .u8 0, .int .u8 0, .int .u8 0, .int .u8 0, .int .u8 0, .int .u8 0, .int .u8 0, .int .u8 0]], []⟩ 8 (by kernel_rfl) (by kernel_rfl) (by kernel_rfl) (by kernel_rfl)) ?_
  intro W base args ds gs before hval0 hW hcnd _
  have hval : ∀ (j : Nat) t v, Tryz.f4.params[j]? = some t → args[j]? = some v → Value.okWide Tryz.prog W .any base t v := hval0
  have hW' := hW
  obtain ⟨p, q, hA0, hV, rfl, hfz, hnd⟩ := hW
  have hA : DataW.TrodAll enc Tryz.prog W 0 (fun _ => true) true Tryz.f4.params.toList args.toList ds p := hA0
  rw [Tryz.params4] at hA hval
  obtain ⟨v0, vs0, d0, ds0, p0, q0, hargs, rfl, rfl, h0, r0⟩ := trodAll_cons hA
  obtain ⟨v1, vs1, d1, ds1, p1, q1, rfl, rfl, rfl, h1, r1⟩ := trodAll_cons r0
  obtain ⟨v2, vs2, d2, ds2, p2, q2, rfl, rfl, rfl, h2, r2⟩ := trodAll_cons r1
  obtain ⟨rfl, rfl, rfl⟩ := trodAll_nil r2
  obtain rfl : args = #[v0, v1, v2] := by cases args; simp_all
  have hgs : gs = [] := (trodVars_none hV).1
  subst hgs
  obtain ⟨its, hl⟩ := open_itemsV (hval 0 44 v0 rfl rfl) h0
  obtain ⟨nm, h8, rfl⟩ := open_nameV (hval 1 28 v1 rfl rfl) h1
  obtain ⟨am, h8a, rfl⟩ := open_nameV (hval 2 28 v2 rfl rfl) h2
  obtain ⟨A, c, rfl⟩ : ∃ A c, v0 = .slice A its.length c := by
    obtain ⟨A, c, e, -⟩ := hl.row.rd
    rw [List.length_map] at e
    exact ⟨A, c, e⟩
  refine (ItemsGraph_true rfl hl h8 h8a).mono fun e W' ⟨he, hu⟩ => ?_
  subst he
  exact ⟨_, rfl, law_post rfl rfl (by decide +kernel) ⟨rfl, rfl, rfl⟩ hW' (hu.below (Nat.le_refl _) (fun k hk h => h))⟩
end

section
open Go

theorem and2 {a b : Bool} (h : a = true) (k : b = true) : (a && b) = true := by rw [h, k]; rfl
theorem itemsGraph_fact0 : (Rows.itemsGraphRow.wf (OpenSpec.ofChange Rows.itemsGraphSpec) : Bool) = true := by kernel_rfl
theorem itemsGraph_fact1 : (laidOutB Tryz.prog : Bool) = true := by kernel_rfl
theorem itemsGraph_fact2 : (mapsRowed Tryz.prog : Bool) = true := by kernel_rfl
theorem itemsGraph_fact3 : (Tryz.f4.params.all (Tryz.prog.readableRec ·) : Bool) = true := by kernel_rfl
theorem itemsGraph_fact4 : (namedTie Tryz.prog Rows.itemsGraphRow.named Rows.itemsGraphSpec.vars : Bool) = true := by kernel_rfl
theorem itemsGraph_fact5 : ((Rows.itemsGraphRow.stops == []) : Bool) = true := by kernel_rfl
theorem itemsGraph_fact6 : ((Tryz.prog.stops == []) : Bool) = true := by kernel_rfl
theorem itemsGraph_fact7 : ((Rows.itemsGraphRow.knobs == []) : Bool) = true := by kernel_rfl
theorem itemsGraph_fact8 : ((Tryz.prog.stopKnobs == []) : Bool) = true := by kernel_rfl
theorem itemsGraph_fact9 : ((Rows.itemsGraphRow.inPlace == Tryz.prog.inPlace 4) : Bool) = true := by kernel_rfl
theorem itemsGraph_fact10 : ((Rows.itemsGraphRow.unfollowed == Tryz.prog.unfollowed 4) : Bool) = true := by kernel_rfl
theorem itemsGraph_fact11 : ((Rows.itemsGraphRow.recurses == Tryz.prog.recurses 4) : Bool) = true := by kernel_rfl
theorem itemsGraph_fact12 : ((Rows.itemsGraphRow.named == Tryz.prog.varsNamed 4) : Bool) = true := by kernel_rfl
theorem itemsGraph_fact13 : ((Rows.itemsGraphRow.maps == (Tryz.f4.params.toList ++ Rows.itemsGraphSpec.plain.varTypes Tryz.prog).any (Tryz.prog.mapsRec ·)) : Bool) = true := by kernel_rfl
theorem itemsGraph_fact14 : ((Rows.itemsGraphRow.ifaces == (Tryz.f4.params.toList ++ Rows.itemsGraphSpec.plain.varTypes Tryz.prog).any (Tryz.prog.ifacesRec ·)) : Bool) = true := by kernel_rfl
theorem itemsGraph_fact15 : ((Rows.itemsGraphRow.mapsOut == Tryz.prog.mapsAmong Tryz.f4.resultTypes.toList) : Bool) = true := by kernel_rfl
theorem itemsGraph_fact16 : ((Rows.itemsGraphRow.loops == (Tryz.f4.params.toList ++ Rows.itemsGraphSpec.plain.varTypes Tryz.prog).any (Tryz.prog.loopsFrom ·)) : Bool) = true := by kernel_rfl
theorem itemsGraph_fact17 : ((Rows.itemsGraphRow.wideKeys == (Tryz.f4.params.toList ++ Rows.itemsGraphSpec.plain.varTypes Tryz.prog ++ Tryz.f4.resultTypes.toList).any (Tryz.prog.wideKeysFrom ·)) : Bool) = true := by kernel_rfl
theorem itemsGraph_fact18 : (Rows.itemsGraphSpec.vars.all (Tryz.prog.varReadable ·) : Bool) = true := by kernel_rfl
theorem itemsGraph_fact19 : (Tryz.f4.resultTypes.all (fun t => Tryz.prog.readableRec t && decide (t < Tryz.prog.types.size)) : Bool) = true := by kernel_rfl
theorem itemsGraph_fact20 : ((Rows.itemsGraphRow.ifacesOut == Tryz.f4.resultTypes.toList.any (Tryz.prog.ifacesRec ·)) : Bool) = true := by kernel_rfl
theorem itemsGraph_fact21 : ((Rows.itemsGraphRow.loopsOut == Tryz.f4.resultTypes.toList.any (Tryz.prog.loopsFrom ·)) : Bool) = true := by kernel_rfl
theorem itemsGraph_fact22 : ((Rows.itemsGraphRow.plainKeys == Tryz.prog.plainKeys) : Bool) = true := by kernel_rfl
theorem itemsGraph_fact23 : (Rows.itemsGraphRow.shortTexts.isNone : Bool) = true := by kernel_rfl
theorem itemsGraph_fact24 : (Tryz.prog.stopsHeard : Bool) = true := by kernel_rfl
theorem itemsGraph_fact25 : (Tryz.prog.mayEnter : Bool) = true := by kernel_rfl
theorem itemsGraph_fact26 : ((Rows.itemsGraphRow.lifted == Tryz.prog.liftsFinal) : Bool) = true := by kernel_rfl
theorem itemsGraph_fact27 : ((Tryz.prog.make == some Rows.itemsGraphRow.make) : Bool) = true := by kernel_rfl
theorem itemsGraph_fact28 : ((Rows.itemsGraphRow.kinds == (if Rows.itemsGraphRow.domain.isEmpty then [] else Tryz.f4.params.toList.map fun t => match Tryz.prog.underlying t with | some (.int k) => some k | _ => none)) : Bool) = true := by kernel_rfl
theorem itemsGraph_fact29 : ((Rows.itemsGraphRow.pinned == Rows.itemsGraphRow.pinnedBy) : Bool) = true := by kernel_rfl
theorem itemsGraph_fact30 : ((Rows.itemsGraphRow.veiled == (Tryz.f4.params.toList ++ Rows.itemsGraphSpec.plain.varTypes Tryz.prog ++ Tryz.f4.resultTypes.toList).any (Tryz.prog.veiledRec ·)) : Bool) = true := by kernel_rfl
theorem itemsGraph_fact31 : (Rows.itemsGraphRow.veiledFits Tryz.prog Tryz.f4.params.toList (Tryz.f4.params.toList ++ Rows.itemsGraphSpec.plain.varTypes Tryz.prog ++ Tryz.f4.resultTypes.toList) : Bool) = true := by kernel_rfl
set_option maxRecDepth 100000 in
theorem itemsGraph_facts : joinedFacts Tryz.prog 4 Tryz.f4 Rows.itemsGraphSpec Rows.itemsGraphRow = true := by
  unfold joinedFacts
  exact and2 (and2 (and2 (and2 (and2 (and2 (and2 (and2 (and2 (and2 (and2 (and2 (and2 (and2 (and2 (and2 (and2 (and2 (and2 (and2 (and2 (and2 (and2 (and2 (and2 (and2 (and2 (and2 (and2 (and2 (and2 (itemsGraph_fact0) itemsGraph_fact1) itemsGraph_fact2) itemsGraph_fact3) itemsGraph_fact4) itemsGraph_fact5) itemsGraph_fact6) itemsGraph_fact7) itemsGraph_fact8) itemsGraph_fact9) itemsGraph_fact10) itemsGraph_fact11) itemsGraph_fact12) itemsGraph_fact13) itemsGraph_fact14) itemsGraph_fact15) itemsGraph_fact16) itemsGraph_fact17) itemsGraph_fact18) itemsGraph_fact19) itemsGraph_fact20) itemsGraph_fact21) itemsGraph_fact22) itemsGraph_fact23) itemsGraph_fact24) itemsGraph_fact25) itemsGraph_fact26) itemsGraph_fact27) itemsGraph_fact28) itemsGraph_fact29) itemsGraph_fact30) itemsGraph_fact31
end
end Go.Proofs.YtengcmfdfmnacaaGreat
