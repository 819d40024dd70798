/- What the sanity check of the items holds in memory. No condition. The sanity check of the items answers true. No condition. The sanity check of the items answers true. No condition. -/
import Derived.Test.YtengcmfdfmnacaaGreatJn17
import Derived.Test.YtengcmfdfmnacaaGreatJn21
import Derived.Test.YtengcmfdfmnacaaGreatJn23
import Derived.WalkSpells
import Derived.OwnWalk
namespace Go.Proofs.YtengcmfdfmnacaaGreat
section
open Go.RowKit Go.Lib

section
variable {P : Program} {ops : Array Oper} {rest : List Oper} {o : Oper} {a : Act} {w : World} {Q : Exit → Act → World → Prop}
/-- An operation that makes one new block. -/
theorem wl_new (hw : Region.wanted o (yielded ops a.tmps) = true) (cs : Array Value) (T : TypeId) (v : Value) (h : (execOp a.eval o).run P w = .ok (.value v) (w.alloc (.cells cs T))) (hk : ∀ w', Blk w' w.heap.size T cs → Upd NoF w w' → wpList P ops Q rest (a.put o.dst v) w') : wpList P ops Q (o :: rest) a w :=
  wl_run hw h (hk _ (Blk.new w T cs) ((Upd.refl NoF w).alloc (.cells cs T)))
theorem wl_row1 (hw : Region.wanted o (yielded ops a.tmps) = true) (ty e : TypeId) (x : Operand) (ho : o.op = .buildSlice ty 1 #[(0, x)]) (v : Value) (hx : a.eval x = v) (cs : Array Value) (hr : (Instr.buildSlice ty 1 #[(0, v)]).run P w = .ok (.slice (some ⟨w.heap.size, 0, none⟩) 1 1) (w.alloc (.cells cs e))) (hk : ∀ w', Blk w' w.heap.size e cs → Upd NoF w w' → wpList P ops Q rest (a.put o.dst (.slice (some ⟨w.heap.size, 0, none⟩) 1 1)) w') : wpList P ops Q (o :: rest) a w :=
  wl_od (post := fun u y => u = .slice (some ⟨w.heap.size, 0, none⟩) 1 1 ∧ y = w.alloc (.cells cs e)) hw (od_buildSlice_row9 ty e x ho v hx cs hr ⟨rfl, rfl⟩) (by rintro u y ⟨rfl, rfl⟩; exact hk _ (Blk.new w e cs) ((Upd.refl NoF w).alloc (.cells cs e)))
theorem wl_build (hw : Region.wanted o (yielded ops a.tmps) = true) (ty : TypeId) (ps : Array (Nat × Operand)) (ho : o.op = .build ty ps) (vs : Array (Nat × Value)) (hv : ps.map (fun p => (p.1, a.eval p.2)) = vs) (v : Value) (hr : (Instr.build ty vs).run P w = .ok v w) (hk : wpList P ops Q rest (a.put o.dst v) w) : wpList P ops Q (o :: rest) a w :=
  wl_od (post := fun u y => u = v ∧ y = w) hw (od_build ty ps ho vs hv hr ⟨rfl, rfl⟩) (by rintro u y ⟨rfl, rfl⟩; exact hk)
end
def awV : Array Value := ((awG.vals.map (·.map byteV)).flatten).toArray
def awA : Array Value := ((awG.accs.map (·.map byteV)).flatten).toArray
def awB : Array Value := (awG.bals.map (Value.int .i64)).toArray
theorem cells_names {w : World} {g : Nat} {l : List (List UInt8)} {n : Nat} (h : Blk w g 28 ((l.map (·.map byteV)).flatten).toArray) (h8 : ∀ x ∈ l, x.length = 8) (hn : l.length = n) (hm : n ≤ maxLen) : NmR w (.slice (some ⟨g, 0, none⟩) n n) l := by
  subst hn
  refine ⟨h8, Rd.of_blk h (Nat.le_refl _) hm (rowsN_len h8 rfl) fun j u hu => by simpa using hu⟩
theorem aw_genR {w : World} {A B C : Nat} (ha : Blk w A 28 awV) (hb : Blk w B 28 awA) (hc : Blk w C 3 awB) : GenR w (some ⟨A, 0, none⟩) (some ⟨B, 0, none⟩) (some ⟨C, 0, none⟩) 4 1 1 awG :=
  ⟨⟨by decide, by decide⟩, ⟨by decide, by decide⟩, cells_names ha (by decide) rfl (by decide), cells_names hb (by decide) rfl (by decide), ⟨by decide, Rd.of_blk hc (Nat.le_refl _) (by decide) rfl fun j u hu => by simpa [awB] using hu⟩⟩
/-- The one item of the sanity check. -/
def awI : ItP := ⟨hsum (encG awG), 1, List.replicate 8 0, [], []⟩
theorem aw_fit : awI.Fit := by
  refine ⟨hsum_len _, rfl, ?_, ?_⟩
  · intro h hh; cases hh
  · intro h hh; cases hh
theorem aw_itok {w : World} (x0 x1 x2 x3 x4 : Value) (h : ∀ u ∈ [x0, x1, x2, x3, x4], u.oneCell' = true) (m : Int) : ItOk w awI (genRest x0 x1 x2 x3 x4 m) := by
  have h0 := h x0 (by simp); have h1 := h x1 (by simp); have h2 := h x2 (by simp); have h3 := h x3 (by simp); have h4 := h x4 (by simp)
  refine ⟨rfl, ?_, rfl, ?_, ⟨none, 0, rfl, (fun _ hh => by cases hh), Rd.of0' w 9 (by decide)⟩, ⟨none, 0, rfl, (fun _ hh => by cases hh), Rd.of0' w 8 (by decide)⟩, aw_fit⟩
  · intro u hu
    simp only [genRest, List.mem_cons, List.not_mem_nil, or_false] at hu
    rcases hu with rfl | rfl | rfl | rfl | rfl | rfl | rfl | rfl | rfl | rfl | rfl | rfl | rfl | rfl | rfl | rfl | rfl | rfl | rfl | rfl <;> first | rfl | assumption
  · intro j v hv
    match j with
    | 0 => exact hv
    | 1 => exact hv
    | 2 => exact hv
    | 3 => exact hv
    | 4 => exact hv
    | 5 => exact hv
    | 6 => exact hv
    | 7 => exact hv
    | n + 8 =>
      rw [List.getElem?_eq_none (by simp [awI])] at hv
      cases hv
theorem aw_gr {w : World} {g : Nat} {rest : List Value} (hr : ItOk w awI rest) (h : Blk w g 38 (itemC awI.name rest).toArray) : GrR w (.slice (some ⟨g, 0, none⟩) 1 1) [(awI, rest)] := by
  refine ⟨⟨?_, ?_⟩, ?_⟩
  · intro x hx
    rw [List.map_cons, List.map_nil, List.mem_singleton] at hx
    subst hx
    exact ⟨hr.fit.name, hr.len⟩
  · refine Rd.of_blk h (Nat.le_refl _) (by decide) ?_ fun j u hu => by simpa using hu
    simp [itemC, hr.fit.name, hr.len]
  · intro x hx
    rw [List.mem_singleton] at hx
    subst hx
    exact hr
theorem aw_find : findS [awI.name] awI.name = 0 := by
  unfold findS firstI
  simp [List.length]
theorem aw_find9 : findS [awI.name] (nm 9) = -1 := by decide +kernel
def aw4 : List (Int × List UInt8) := [(0, List.replicate 8 0), (1, List.replicate 8 0), (2, List.replicate 8 0), (3, List.replicate 8 0)]
theorem aw4_good : GoodCh aw4 := by
  refine ⟨by decide, by decide, ?_⟩
  intro i s hs
  match i, hs with
  | 0, rfl | 1, rfl | 2, rfl | 3, rfl =>
    refine ⟨by decide, by decide, ?_⟩
    intro j t ht hj
    match j, ht with
    | 0, rfl | 1, rfl | 2, rfl | 3, rfl => first | (exfalso; omega) | decide
  | n + 4, hs => exact absurd hs (by simp [aw4])
theorem aw4_ids : idsV (idsF 15) = aw4.map fun x => Value.int .i64 x.1 := by
  rw [show idsF 15 = [0, 1, 2, 3] from by decide]
  rfl
theorem aw4_R {w : World} {g : Nat} (h : Blk w g 64 ((aw4.map choiceC).flatten).toArray) : ChR w (.slice (some ⟨g, 0, none⟩) 4 4) aw4 :=
  ⟨by decide, Rd.of_blk h (Nat.le_refl _) (by decide) rfl fun j u hu => by simpa using hu⟩
theorem build_blk8 (b0 b1 b2 b3 b4 b5 b6 b7 : Value) (A : Option Addr) (k c : Nat) (w : World) : (Instr.build 67 #[(0, .agg #[b0, b1, b2, b3, b4, b5, b6, b7]), (1, .slice A k c)]).run Tryz.prog w = .ok (.agg ([b0, b1, b2, b3, b4, b5, b6, b7] ++ [Value.slice A k c]).toArray) w := by kernel_rfl
theorem build_blk {n : List UInt8} (hn : n.length = 8) (A : Option Addr) (k c : Nat) (w : World) : (Instr.build 67 #[(0, nameV n), (1, .slice A k c)]).run Tryz.prog w = .ok (.agg (blkC n (.slice A k c)).toArray) w := by
  match n, hn with
  | [b0, b1, b2, b3, b4, b5, b6, b7], _ => exact build_blk8 _ _ _ _ _ _ _ _ A k c w
theorem slice_item (r : Nat → Value) (w : World) : (Instr.buildSlice 44 1 #[(0, .agg #[r 0, r 1, r 2, r 3, r 4, r 5, r 6, r 7, r 8, r 9, r 10, r 11, r 12, r 13, r 14, r 15, r 16, r 17, r 18, r 19, r 20, r 21, r 22, r 23, r 24, r 25, r 26, r 27])]).run Tryz.prog w = .ok (.slice (some ⟨w.heap.size, 0, none⟩) 1 1) (w.alloc (.cells #[r 0, r 1, r 2, r 3, r 4, r 5, r 6, r 7, r 8, r 9, r 10, r 11, r 12, r 13, r 14, r 15, r 16, r 17, r 18, r 19, r 20, r 21, r 22, r 23, r 24, r 25, r 26, r 27] 38)) := by kernel_rfl
theorem arr28 {ra : Array Value} (h : ra.size = 28) : ∃ r : Nat → Value, ra = #[r 0, r 1, r 2, r 3, r 4, r 5, r 6, r 7, r 8, r 9, r 10, r 11, r 12, r 13, r 14, r 15, r 16, r 17, r 18, r 19, r 20, r 21, r 22, r 23, r 24, r 25, r 26, r 27] := by
  refine ⟨fun i => ra[i]!, ?_⟩
  apply Array.ext
  · rw [h]; rfl
  · intro i h1 h2
    have hi : i < 28 := by omega
    have : ∀ i : Fin 28, ∀ hh : i.1 < ra.size, ra[i.1] = ra[i.1]! := fun i hh => by simp [hh]
    rw [this ⟨i, hi⟩ h1]
    match i, hi with
    | 0, _ | 1, _ | 2, _ | 3, _ | 4, _ | 5, _ | 6, _ | 7, _ | 8, _ | 9, _ | 10, _ | 11, _ | 12, _ | 13, _ | 14, _ | 15, _ | 16, _ | 17, _ | 18, _ | 19, _ | 20, _ | 21, _ | 22, _ | 23, _ | 24, _ | 25, _ | 26, _ | 27, _ => rfl
    | n + 28, h => exact absurd h (by omega)
theorem run_slice_item {ra : Array Value} (h : ra.size = 28) (w : World) : (Instr.buildSlice 44 1 #[(0, .agg ra)]).run Tryz.prog w = .ok (.slice (some ⟨w.heap.size, 0, none⟩) 1 1) (w.alloc (.cells ra 38)) := by
  obtain ⟨r, rfl⟩ := arr28 h
  exact slice_item r w
theorem clo_nil {l : List ItP} {s f : List (List UInt8)} (h : Clo l [] s f) : f = s := by
  generalize hz : ([] : List (List UInt8)) = z at h
  cases h with
  | done => rfl
  | skip => simp at hz
  | take => simp at hz
/-- Nothing stands above the genesis item. -/
theorem aw_anc {res : List (List UInt8)} (h : AncP [awI] awI.name res) : res = [] := by
  rcases h with ⟨-, h⟩ | ⟨x, seen, hx, hc, h⟩
  · exact h
  · have : x = awI := by
      unfold itemOf at hx
      simp at hx
      exact hx.symm
    subst this
    have hp : parents awI = [] := by rfl
    rw [hp] at hc
    rw [h, clo_nil hc]
    rfl
theorem aw_path {seen : List (List UInt8)} (h : Dwn [awI] awI.name [] seen) : seen.length = 1 := by
  have hi : itemOf [awI] awI.name = some awI := by simp [itemOf]
  cases h with
  | stop hc => rcases hc with hc | hc
               · rw [hi] at hc; cases hc
               · cases hc
  | root => rfl
  | step h1 _ h3 => rw [hi] at h1; cases h1; exact absurd rfl h3
theorem aw_few (rest : List Value) : Few [(awI, rest)] := ⟨by simp, fun x hx => by rw [List.mem_singleton] at hx; subst hx; exact ⟨by simp [awI], by simp [awI]⟩⟩
end

section
open Go.RowKit Go.Lib

def zGen : Array Value := #[.int .i64 0, .int .i64 0, .slice none 0 0, .slice none 0 0, .slice none 0 0]
theorem aw_call1 {W : World} {A B C : Nat} {ga : Array Value} (ha : Blk W A 28 awV) (hb : Blk W B 28 awA) (hc : Blk W C 3 awB) (hga : (#[.int .i64 4, .int .i64 0, .slice (some ⟨A, 0, none⟩) 4 4, .slice (some ⟨B, 0, none⟩) 1 1, .slice (some ⟨C, 0, none⟩) 1 1] : Array Value) = ga) :
    Calls Tryz.prog 7 #[.agg ga] W fun e w' => ∃ rest, e = .returned (.tuple #[.agg (itemC awI.name rest).toArray, .int .i64 0]) ∧ (∀ w, ItOk w awI rest) ∧ rest[12]? = some (.int .i64 15) ∧ rest[0]? = some (.int .i64 1) ∧ Upd NoF W w' := by
  have h := itGenesis_ok (aw_genR ha hb hc) awG_valid
  rw [show genV (some ⟨A, 0, none⟩) (some ⟨B, 0, none⟩) (some ⟨C, 0, none⟩) 4 1 1 awG = .agg ga from congrArg Value.agg hga] at h
  refine h.mono ?_
  rintro e w' ⟨A1, c1, A2, c2, rfl, -, -, hu⟩
  have hs : selS awG.vals.length awG.n 0 = 15 := by decide
  rw [hs]
  exact ⟨_, rfl, fun w => aw_itok _ _ _ _ _ (by intro u hu; simp only [List.mem_cons, List.not_mem_nil, or_false] at hu; rcases hu with rfl | rfl | rfl | rfl | rfl <;> rfl) 15, rfl, rfl, hu⟩
theorem aw_call3 (W : World) : Calls Tryz.prog 7 #[.agg #[.int .i64 0, .int .i64 0, .slice none 0 0, .slice none 0 0, .slice none 0 0]] W fun e w' => e = .returned (.tuple #[.agg itZ, .int .i64 1]) ∧ Upd NoF W w' :=
  itGenesis_bad (A := none) (B := none) (C := none) (a := 0) (b := 0) (c := 0) (g := ⟨0, 0, [], [], []⟩) ⟨⟨by decide, by decide⟩, ⟨by decide, by decide⟩, ⟨by simp, Rd.of0' W 8 (by decide)⟩, ⟨by simp, Rd.of0' W 8 (by decide)⟩, ⟨by simp, Rd.of0' W 1 (by decide)⟩⟩ (by decide)
theorem aw_call6 {W : World} {A : Option Addr} (h : ChR W (.slice A 4 4) aw4) : Calls Tryz.prog 26 #[.agg (blkC awI.name (.slice A 4 4)).toArray] W fun e w' => ∃ B d, e = .returned (.tuple #[.slice B (3 :: blkT awI.name aw4).length d, .int .i64 0]) ∧ Rd w' 1 (.slice B (3 :: blkT awI.name aw4).length d) (3 :: blkT awI.name aw4).length ((3 :: blkT awI.name aw4).map byteV) ∧ Upd NoF W w' :=
  r20EncodeBlock_ok rfl (hsum_len _) h aw4_good
theorem aw_call6' {W : World} {g : Nat} {xb : Array Value} (h : Blk W g 64 #[.int .i64 0, .int .u8 0, .int .u8 0, .int .u8 0, .int .u8 0, .int .u8 0, .int .u8 0, .int .u8 0, .int .u8 0, .int .i64 1, .int .u8 0, .int .u8 0, .int .u8 0, .int .u8 0, .int .u8 0, .int .u8 0, .int .u8 0, .int .u8 0, .int .i64 2, .int .u8 0, .int .u8 0, .int .u8 0, .int .u8 0, .int .u8 0, .int .u8 0, .int .u8 0, .int .u8 0, .int .i64 3, .int .u8 0, .int .u8 0, .int .u8 0, .int .u8 0, .int .u8 0, .int .u8 0, .int .u8 0, .int .u8 0]) (hx : (blkC awI.name (.slice (some ⟨g, 0, none⟩) 4 4)).toArray = xb) : Calls Tryz.prog 26 #[.agg xb] W fun e w' => ∃ B d, e = .returned (.tuple #[.slice B (3 :: blkT awI.name aw4).length d, .int .i64 0]) ∧ Rd w' 1 (.slice B (3 :: blkT awI.name aw4).length d) (3 :: blkT awI.name aw4).length ((3 :: blkT awI.name aw4).map byteV) ∧ Upd NoF W w' := by
  subst hx
  exact aw_call6 (aw4_R h)
theorem aw_len : ∀ s ∈ aw4, s.2.length = 8 ∧ 0 ≤ s.1 ∧ s.1 < 256 := by decide
theorem aw_call7 {W : World} {v : Value} {A0 : Option Addr} {c0 : Nat} {rest : List Value} (g0 g1 g2 g3 g4 : Value) (h : Rd W 1 v (3 :: blkT awI.name aw4).length ((3 :: blkT awI.name aw4).map byteV)) (hi : GrR W (.slice A0 1 c0) [(awI, rest)]) (hone : ∀ u ∈ rest, u.oneCell' = true) (hm : rest[12]? = some (.int .i64 15)) :
    Calls Tryz.prog 25 #[.agg #[g0, g1, g2, g3, g4], .agg #[.slice none 0 0, .int .i64 0, .slice none 0 0], .slice A0 1 c0, v] W fun e w' => e = .returned (.tuple #[.agg itZ, .int .i64 105]) ∧ Upd NoF W w' :=
  ItemsBlock_cert (k := 0) g0 g1 g2 g3 g4 h (hsum_len _) aw_len aw4_good rfl hi.row rfl aw_find hone hm (by decide) (by decide) aw4_ids
theorem aw_call8 {W : World} {v : Value} (g0 g1 g2 g3 g4 : Value) (h : Rd W 1 v (3 :: blkT awI.name aw4).length ((3 :: blkT awI.name aw4).map byteV)) :
    Calls Tryz.prog 25 #[.agg #[g0, g1, g2, g3, g4], .agg #[.slice none 0 0, .int .i64 0, .slice none 0 0], .slice none 0 0, v] W fun e w' => e = .returned (.tuple #[.agg itZ, .int .i64 6]) ∧ Upd NoF W w' :=
  ItemsBlock_none g0 g1 g2 g3 g4 h (hsum_len _) aw_len aw4_good (its := []) ⟨by simp, Rd.of0' W 28 (by decide)⟩ rfl
theorem aw_call14 {W : World} {v : Value} {rest : List Value} {zn : Array Value} (h : GrR W v [(awI, rest)]) (hz : (awI.name.map byteV).toArray = zn) : Calls Tryz.prog 14 #[v, .agg zn] W fun e w' => e = .returned (.int .i64 0) ∧ Upd NoF W w' := by
  subst hz
  have q := Find_any h.row awI.name (hsum_len _)
  rw [show findS (List.map (fun x => x.1) (List.map (fun x => (x.1.name, x.2)) [(awI, rest)])) awI.name = 0 from aw_find] at q
  exact q
theorem aw_call14n {W : World} {v : Value} {rest : List Value} (h : GrR W v [(awI, rest)]) : Calls Tryz.prog 14 #[v, .agg #[.int .u8 9, .int .u8 0, .int .u8 0, .int .u8 0, .int .u8 0, .int .u8 0, .int .u8 0, .int .u8 0]] W fun e w' => e = .returned (.int .i64 (-1)) ∧ Upd NoF W w' := by
  have q := Find_any h.row (nm 9) rfl
  rw [show findS (List.map (fun x => x.1) (List.map (fun x => (x.1.name, x.2)) [(awI, rest)])) (nm 9) = -1 from aw_find9] at q
  exact q
theorem aw_call20 {W : World} {A : Option Addr} {c : Nat} {rest : List Value} {zn : Array Value} (h : GrR W (.slice A 1 c) [(awI, rest)]) (hz : (awI.name.map byteV).toArray = zn) : Calls Tryz.prog 20 #[.slice A 1 c, .agg zn] W fun e w' => ∃ A' c', e = .returned (.slice A' 1 c') ∧ Upd NoF W w' := by
  subst hz
  refine (itemsPath_any rfl h (aw_few rest) (hsum_len _) : Calls _ _ #[_, nameV awI.name] _ _).mono ?_
  rintro e w' ⟨seen, A', c', hd, rfl, -, hu⟩
  rw [aw_path hd]
  exact ⟨A', c', rfl, hu⟩
theorem aw_call16 {W : World} {A : Option Addr} {c : Nat} {rest : List Value} {zn : Array Value} (h : GrR W (.slice A 1 c) [(awI, rest)]) (hz : (awI.name.map byteV).toArray = zn) : Calls Tryz.prog 16 #[.slice A 1 c, .agg zn] W fun e w' => ∃ A' c', e = .returned (.slice A' 0 c') ∧ Upd NoF W w' := by
  subst hz
  refine (itemsAncestors_any rfl h (aw_few rest) (hsum_len _) : Calls _ _ #[_, nameV awI.name] _ _).mono ?_
  rintro e w' ⟨res, A', c', hd, rfl, -, hu⟩
  have : res = [] := aw_anc hd
  subst this
  exact ⟨A', c', rfl, hu⟩
theorem aw_tr {rest : List Value} {ra : Array Value} {i : Nat} {u : Value} (hr : (itemC awI.name rest).toArray = ra) (h : (itemC awI.name rest).toArray[i]? = some u) : ra[i]? = some u := by rw [← hr]; exact h
theorem aw_txt {W : World} {g : Nat} (h : Blk W g 5 #[.int .u8 3]) : Rd W 1 (.slice (some ⟨g, 0, none⟩) 1 1) ([3] : List UInt8).length (([3] : List UInt8).map byteV) :=
  Rd.of_blk h (Nat.le_refl _) (by decide) rfl fun j u hu => by
    match j, hu with
    | 0, hu => exact hu
    | j + 1, hu => cases hu
theorem aw_nm {W : World} {g : Nat} {rest : List Value} {ra : Array Value} (hr : (itemC awI.name rest).toArray = ra) (h : Blk W g 38 ra) : W.rangeAt g 0 (awI.name.map byteV) := by
  subst hr
  intro j u hu
  have hj := (List.getElem?_eq_some_iff.1 hu).1
  rw [h.cell]
  simpa [itemC, List.getElem?_append_left hj] using hu
theorem aw_arr8 : ∃ z0 z1 z2 z3 z4 z5 z6 z7, (awI.name.map byteV).toArray = #[z0, z1, z2, z3, z4, z5, z6, z7] := by
  have h : awI.name.length = 8 := hsum_len _
  revert h
  generalize awI.name = n
  intro h
  match n, h with
  | [b0, b1, b2, b3, b4, b5, b6, b7], _ => exact ⟨_, _, _, _, _, _, _, _, rfl⟩
theorem aw_cells {W : World} {g : Nat} {rest : List Value} {ra : Array Value} {z0 z1 z2 z3 z4 z5 z6 z7 : Value} (hz : (awI.name.map byteV).toArray = #[z0, z1, z2, z3, z4, z5, z6, z7]) (hr : (itemC awI.name rest).toArray = ra) (h : Blk W g 38 ra) :
    W.cell? ⟨g, 0, none⟩ = some z0 ∧ W.cell? ⟨g, 1, none⟩ = some z1 ∧ W.cell? ⟨g, 2, none⟩ = some z2 ∧ W.cell? ⟨g, 3, none⟩ = some z3 ∧ W.cell? ⟨g, 4, none⟩ = some z4 ∧ W.cell? ⟨g, 5, none⟩ = some z5 ∧ W.cell? ⟨g, 6, none⟩ = some z6 ∧ W.cell? ⟨g, 7, none⟩ = some z7 := by
  have hl : awI.name.map byteV = [z0, z1, z2, z3, z4, z5, z6, z7] := by simpa using congrArg Array.toList hz
  have hr := aw_nm hr h
  rw [hl] at hr
  exact ⟨hr 0 _ rfl, by simpa using hr 1 _ rfl, by simpa using hr 2 _ rfl, by simpa using hr 3 _ rfl, by simpa using hr 4 _ rfl, by simpa using hr 5 _ rfl, by simpa using hr 6 _ rfl, by simpa using hr 7 _ rfl⟩
theorem aw_c20 {rest : List Value} {u : Value} (h : rest[12]? = some u) : (itemC awI.name rest).toArray[20]? = some u := by
  have h8 : awI.name.length = 8 := hsum_len _
  rw [List.getElem?_toArray]
  unfold itemC
  rw [List.getElem?_append_right (by rw [List.length_map, h8]; omega), List.length_map, h8]
  exact h
theorem aw_c8 {rest : List Value} {u : Value} (h : rest[0]? = some u) : (itemC awI.name rest).toArray[8]? = some u := by
  have h8 : awI.name.length = 8 := hsum_len _
  rw [List.getElem?_toArray]
  unfold itemC
  rw [List.getElem?_append_right (by rw [List.length_map, h8]; omega), List.length_map, h8]
  exact h
theorem aw_blk {zn : Array Value} {A : Option Addr} (hz : (awI.name.map byteV).toArray = zn) (w : World) : (Instr.build 67 #[(0, .agg zn), (1, .slice A 4 4)]).run Tryz.prog w = .ok (.agg (blkC awI.name (.slice A 4 4)).toArray) w := by
  subst hz
  exact build_blk (hsum_len _) A 4 4 w
end

section
open Go.RowKit Go.Lib

set_option maxRecDepth 100000 in
set_option maxHeartbeats 8000000 in
theorem awake25_ok (w : World) : Calls Tryz.prog 6 #[] w fun e w' => e = .returned (.bool true) ∧ Upd NoF w w' := by
  have K := Lib.hid (fun W (h : Upd NoF w W) => h)
  have CB5 := Lib.hid (fun W v g0 g1 g2 g3 g4 L h => ItemsBlock_bad (w := W) (v := v) g0 g1 g2 g3 g4 L h)
  have CC5 := Lib.hid (fun W v A0 c0 rest g0 g1 g2 g3 g4 h hi hone hm => aw_call7 (W := W) (v := v) (A0 := A0) (c0 := c0) (rest := rest) g0 g1 g2 g3 g4 h hi hone hm)
  have CN5 := Lib.hid (fun W v g0 g1 g2 g3 g4 h => aw_call8 (W := W) (v := v) g0 g1 g2 g3 g4 h)
  have IA := Lib.hid item_alloc
  have IO := Lib.hid itZ_one
  have IZ := Lib.hid itZ_size
  have CZ := Lib.hid aw_call3
  obtain ⟨iz, hiz⟩ : ∃ x, itZ = x := ⟨_, rfl⟩
  rw [hiz] at IA IO IZ CZ CB5 CC5 CN5
  obtain ⟨z0, z1, z2, z3, z4, z5, z6, z7, hzn⟩ := aw_arr8
  have HZN := Lib.hid hzn
  have HIZ := Lib.hid hiz
  clear hiz hzn
  go_enter Tryz.func6, Tryz.ntmps6
  go_wp2_with (first
    | (with_reducible show wpList _ _ _ (Oper.mk (some 19) _ _ _ _ _ :: _) _ _; refine wl_new rfl awV 28 (.slice (some ⟨w.heap.size, 0, none⟩) 4 4) (by kernel_rfl) ?_; intro v1 hb hu; replace K := Lib.hid (fun W (h : Upd NoF _ W) => And.intro (K.out W (hu.trans h (fun _ _ f => f))) (h.blk hb (fun f => f))); clear hb hu)
    | (with_reducible show wpList _ _ _ (Oper.mk (some 21) _ _ _ _ _ :: _) _ _; refine wl_new rfl awA 28 (.slice (some ⟨v1.heap.size, 0, none⟩) 1 1) (by kernel_rfl) ?_; intro v2 hb hu; replace K := Lib.hid (fun W (h : Upd NoF _ W) => And.intro (K.out W (hu.trans h (fun _ _ f => f))) (h.blk hb (fun f => f))); clear hb hu)
    | (with_reducible show wpList _ _ _ (Oper.mk (some 22) _ _ _ _ _ :: _) _ _; refine wl_new rfl awB 3 (.slice (some ⟨v2.heap.size, 0, none⟩) 1 1) (by kernel_rfl) ?_; intro v3 hb hu; replace K := Lib.hid (fun W (h : Upd NoF _ W) => And.intro (K.out W (hu.trans h (fun _ _ f => f))) (h.blk hb (fun f => f))); clear hb hu)
    | (refine wl_load rfl 25 (.tmp 1) rfl v3.heap.size 0 (by rfl) (#[.int .i64 4, .int .i64 0, .slice (some ⟨w.heap.size, 0, none⟩) 4 4, .slice (some ⟨v1.heap.size, 0, none⟩) 1 1, .slice (some ⟨v2.heap.size, 0, none⟩) 1 1] : Array Value).toList _ (range_blk (by have k := K.out _ (Upd.refl _ _); first | exact k.2 | exact k.1.2 | exact k.1.1.2 | exact k.1.1.1.2 | exact k.1.1.1.1.2 | exact k.1.1.1.1.1.2 | exact k.1.1.1.1.1.1.2 | exact k.1.1.1.1.1.1.1.2 | exact k.1.1.1.1.1.1.1.1.2)) Tryz.underlying25 rfl gen_size _ rfl ?_)
    | (with_reducible show Calls _ 7 #[.agg #[.int .i64 4, _, _, _, _]] _ _; refine (aw_call1 (by have k := K.out _ (((Upd.refl NoF v3).alloc (.cells #[.int .i64 4, .int .i64 0, .slice (some ⟨w.heap.size, 0, none⟩) 4 4, .slice (some ⟨v1.heap.size, 0, none⟩) 1 1, .slice (some ⟨v2.heap.size, 0, none⟩) 1 1] 25))); first | exact k.2 | exact k.1.2 | exact k.1.1.2 | exact k.1.1.1.2 | exact k.1.1.1.1.2 | exact k.1.1.1.1.1.2 | exact k.1.1.1.1.1.1.2 | exact k.1.1.1.1.1.1.1.2 | exact k.1.1.1.1.1.1.1.1.2) (by have k := K.out _ (((Upd.refl NoF v3).alloc (.cells #[.int .i64 4, .int .i64 0, .slice (some ⟨w.heap.size, 0, none⟩) 4 4, .slice (some ⟨v1.heap.size, 0, none⟩) 1 1, .slice (some ⟨v2.heap.size, 0, none⟩) 1 1] 25))); first | exact k.2 | exact k.1.2 | exact k.1.1.2 | exact k.1.1.1.2 | exact k.1.1.1.1.2 | exact k.1.1.1.1.1.2 | exact k.1.1.1.1.1.1.2 | exact k.1.1.1.1.1.1.1.2 | exact k.1.1.1.1.1.1.1.1.2) (by have k := K.out _ (((Upd.refl NoF v3).alloc (.cells #[.int .i64 4, .int .i64 0, .slice (some ⟨w.heap.size, 0, none⟩) 4 4, .slice (some ⟨v1.heap.size, 0, none⟩) 1 1, .slice (some ⟨v2.heap.size, 0, none⟩) 1 1] 25))); first | exact k.2 | exact k.1.2 | exact k.1.1.2 | exact k.1.1.1.2 | exact k.1.1.1.1.2 | exact k.1.1.1.1.1.2 | exact k.1.1.1.1.1.1.2 | exact k.1.1.1.1.1.1.1.2 | exact k.1.1.1.1.1.1.1.1.2) rfl).mono ?_; rintro e v6 ⟨rest, he, hok, h12, h0, hu⟩; obtain ⟨ra, hra⟩ : ∃ x, (itemC awI.name rest).toArray = x := ⟨_, rfl⟩; rw [hra] at he; subst he; have HRA := Lib.hid hra; have HOK := Lib.hid hok; have H12 := Lib.hid h12; have H0 := Lib.hid h0; have HSZ := Lib.hid (show ra.size = 28 from by rw [← hra]; exact (by rw [List.size_toArray]; exact itemC_len (hok v6))); have HON := Lib.hid (show ra.all (·.oneCell') = true from by rw [← hra]; exact itemC_one (hok v6)); replace K := Lib.hid (fun W (h : Upd NoF _ W) => And.intro (K.out W ((((Upd.refl NoF v3).alloc (.cells #[.int .i64 4, .int .i64 0, .slice (some ⟨w.heap.size, 0, none⟩) 4 4, .slice (some ⟨v1.heap.size, 0, none⟩) 1 1, .slice (some ⟨v2.heap.size, 0, none⟩) 1 1] 25)).trans hu (fun _ _ f => f)).trans h (fun _ _ f => f))) (h.blk (hu.blk (Blk.new v3 25 #[.int .i64 4, .int .i64 0, .slice (some ⟨w.heap.size, 0, none⟩) 4 4, .slice (some ⟨v1.heap.size, 0, none⟩) 1 1, .slice (some ⟨v2.heap.size, 0, none⟩) 1 1]) (fun f => f)) (fun f => f))); clear hok h12 h0 hu hra)
    | (with_reducible show wpList _ _ _ (Oper.mk (some 24) _ _ _ _ _ :: _) _ _; refine wl_run rfl (v := .tuple #[.agg ra, .int .i64 0]) (by rfl) ?_)
    | (with_reducible show wpList _ _ _ (Oper.mk (some 27) _ _ _ _ _ :: _) _ _; refine wl_run rfl (v := .agg ra) (by rfl) ?_)
    | (with_reducible show wpList _ _ _ (Oper.mk (some 28) _ _ _ _ _ :: _) _ _; refine wl_run rfl (v := .int .i64 0) (by rfl) ?_)
    | (with_reducible show wpList _ _ _ (Oper.mk (some 3) _ _ _ _ _ :: _) _ _; refine wl_run rfl (v := .int .i64 0) (by rfl) ?_)
    | (with_reducible show wpList _ _ _ (Oper.mk (some 29) _ _ _ _ _ :: _) _ _; refine wl_run rfl (v := .tuple #[.agg iz, .int .i64 1]) (by rfl) ?_)
    | (with_reducible show wpList _ _ _ (Oper.mk (some 32) _ _ _ _ _ :: _) _ _; refine wl_run rfl (v := .agg iz) (by rfl) ?_)
    | (with_reducible show wpList _ _ _ (Oper.mk (some 33) _ _ _ _ _ :: _) _ _; refine wl_run rfl (v := .int .i64 1) (by rfl) ?_)
    | (with_reducible show wpList _ _ _ (Oper.mk (some 5) _ _ _ _ _ :: _) _ _; refine wl_run rfl (v := .int .i64 1) (by rfl) ?_)
    | (with_reducible show wpList _ _ _ (Oper.mk (some 36) _ _ _ _ _ :: _) _ _; refine wl_run rfl (v := .tuple #[.agg iz, .int .i64 4]) (by rfl) ?_)
    | (with_reducible show wpList _ _ _ (Oper.mk (some 42) _ _ _ _ _ :: _) _ _; refine wl_run rfl (v := .agg iz) (by rfl) ?_)
    | (with_reducible show wpList _ _ _ (Oper.mk (some 43) _ _ _ _ _ :: _) _ _; refine wl_run rfl (v := .int .i64 4) (by rfl) ?_)
    | (with_reducible show wpList _ _ _ (Oper.mk (some 8) _ _ _ _ _ :: _) _ _; refine wl_run rfl (v := .int .i64 4) (by rfl) ?_)
    | (with_reducible show wpList _ _ _ (Oper.mk (some 56) _ _ _ _ _ :: _) _ _; refine wl_run rfl (v := .tuple #[.agg iz, .int .i64 105]) (by rfl) ?_)
    | (with_reducible show wpList _ _ _ (Oper.mk (some 62) _ _ _ _ _ :: _) _ _; refine wl_run rfl (v := .agg iz) (by rfl) ?_)
    | (with_reducible show wpList _ _ _ (Oper.mk (some 63) _ _ _ _ _ :: _) _ _; refine wl_run rfl (v := .int .i64 105) (by rfl) ?_)
    | (with_reducible show wpList _ _ _ (Oper.mk (some 12) _ _ _ _ _ :: _) _ _; refine wl_run rfl (v := .int .i64 105) (by rfl) ?_)
    | (with_reducible show wpList _ _ _ (Oper.mk (some 64) _ _ _ _ _ :: _) _ _; refine wl_run rfl (v := .tuple #[.agg iz, .int .i64 6]) (by rfl) ?_)
    | (with_reducible show wpList _ _ _ (Oper.mk (some 69) _ _ _ _ _ :: _) _ _; refine wl_run rfl (v := .agg iz) (by rfl) ?_)
    | (with_reducible show wpList _ _ _ (Oper.mk (some 70) _ _ _ _ _ :: _) _ _; refine wl_run rfl (v := .int .i64 6) (by rfl) ?_)
    | (with_reducible show wpList _ _ _ (Oper.mk (some 14) _ _ _ _ _ :: _) _ _; refine wl_run rfl (v := .int .i64 6) (by rfl) ?_)
    | (with_reducible show wpList _ _ _ (Oper.mk (some 2) _ _ _ _ _ :: _) _ _; refine wpList_alloc_row rfl 38 rfl iz IA.out ?_; intro va hb hu hs; have UA := Lib.hid hu; have BN := Lib.hid hb; have SZ := Lib.hid hs; clear hb hu hs)
    | (refine wpList_store_row rfl 38 (.tmp 2) (.tmp 27) rfl _ (by rfl) ra (by rfl) 38 _ BN.out (by first | rfl | rw [IZ.out, HSZ.out]) (by rw [HSZ.out]; exact item_size) HON.out ?_; intro vb hb hu hs; have hh := UA.out.trans hu (F := NoF) (fun j hj f => Nat.lt_irrefl _ (Nat.lt_of_lt_of_eq hj (Eq.symm f))); replace K := Lib.hid (fun W (h : Upd NoF _ W) => And.intro (K.out W (hh.trans h (fun _ _ f => f))) (h.blk hb (fun f => f))); clear hb hu hs hh UA BN SZ)
    | (with_reducible show wpList _ _ _ (Oper.mk (some 4) _ _ _ _ _ :: _) _ _; refine wpList_alloc_row rfl 38 rfl iz IA.out ?_; intro va hb hu hs; have UA := Lib.hid hu; have BN := Lib.hid hb; have SZ := Lib.hid hs; clear hb hu hs)
    | (refine wpList_store_row rfl 38 (.tmp 4) (.tmp 32) rfl _ (by rfl) iz (by rfl) 38 _ BN.out (by first | rfl | rw [IZ.out, IZ.out]) (by rw [IZ.out]; exact item_size) IO.out ?_; intro vb hb hu hs; have hh := UA.out.trans hu (F := NoF) (fun j hj f => Nat.lt_irrefl _ (Nat.lt_of_lt_of_eq hj (Eq.symm f))); replace K := Lib.hid (fun W (h : Upd NoF _ W) => K.out W (hh.trans h (fun _ _ f => f))); clear hb hu hs hh UA BN SZ)
    | (with_reducible show wpList _ _ _ (Oper.mk (some 7) _ _ _ _ _ :: _) _ _; refine wpList_alloc_row rfl 38 rfl iz IA.out ?_; intro va hb hu hs; have UA := Lib.hid hu; have BN := Lib.hid hb; have SZ := Lib.hid hs; clear hb hu hs)
    | (refine wpList_store_row rfl 38 (.tmp 7) (.tmp 42) rfl _ (by rfl) iz (by rfl) 38 _ BN.out (by first | rfl | rw [IZ.out, IZ.out]) (by rw [IZ.out]; exact item_size) IO.out ?_; intro vb hb hu hs; have hh := UA.out.trans hu (F := NoF) (fun j hj f => Nat.lt_irrefl _ (Nat.lt_of_lt_of_eq hj (Eq.symm f))); replace K := Lib.hid (fun W (h : Upd NoF _ W) => K.out W (hh.trans h (fun _ _ f => f))); clear hb hu hs hh UA BN SZ; obtain ⟨n0, n1, n2, n3, n4, n5, n6, n7⟩ := aw_cells HZN.out HRA.out (show Blk vb v6.heap.size 38 ra from (by have k := K.out _ (Upd.refl _ _); first | exact k.2 | exact k.1.2 | exact k.1.1.2 | exact k.1.1.1.2 | exact k.1.1.1.1.2 | exact k.1.1.1.1.1.2 | exact k.1.1.1.1.1.1.2 | exact k.1.1.1.1.1.1.1.2 | exact k.1.1.1.1.1.1.1.1.2)))
    | (with_reducible show wpList _ _ _ (Oper.mk (some 11) _ _ _ _ _ :: _) _ _; refine wpList_alloc_row rfl 38 rfl iz IA.out ?_; intro va hb hu hs; have UA := Lib.hid hu; have BN := Lib.hid hb; have SZ := Lib.hid hs; clear hb hu hs)
    | (refine wpList_store_row rfl 38 (.tmp 11) (.tmp 62) rfl _ (by rfl) iz (by rfl) 38 _ BN.out (by first | rfl | rw [IZ.out, IZ.out]) (by rw [IZ.out]; exact item_size) IO.out ?_; intro vb hb hu hs; have hh := UA.out.trans hu (F := NoF) (fun j hj f => Nat.lt_irrefl _ (Nat.lt_of_lt_of_eq hj (Eq.symm f))); replace K := Lib.hid (fun W (h : Upd NoF _ W) => K.out W (hh.trans h (fun _ _ f => f))); clear hb hu hs hh UA BN SZ)
    | (with_reducible show wpList _ _ _ (Oper.mk (some 13) _ _ _ _ _ :: _) _ _; refine wpList_alloc_row rfl 38 rfl iz IA.out ?_; intro va hb hu hs; have UA := Lib.hid hu; have BN := Lib.hid hb; have SZ := Lib.hid hs; clear hb hu hs)
    | (refine wpList_store_row rfl 38 (.tmp 13) (.tmp 69) rfl _ (by rfl) iz (by rfl) 38 _ BN.out (by first | rfl | rw [IZ.out, IZ.out]) (by rw [IZ.out]; exact item_size) IO.out ?_; intro vb hb hu hs; have hh := UA.out.trans hu (F := NoF) (fun j hj f => Nat.lt_irrefl _ (Nat.lt_of_lt_of_eq hj (Eq.symm f))); replace K := Lib.hid (fun W (h : Upd NoF _ W) => K.out W (hh.trans h (fun _ _ f => f))); clear hb hu hs hh UA BN SZ; obtain ⟨n0, n1, n2, n3, n4, n5, n6, n7⟩ := aw_cells HZN.out HRA.out (show Blk vb v6.heap.size 38 ra from (by have k := K.out _ (Upd.refl _ _); first | exact k.2 | exact k.1.2 | exact k.1.1.2 | exact k.1.1.1.2 | exact k.1.1.1.1.2 | exact k.1.1.1.1.1.2 | exact k.1.1.1.1.1.1.2 | exact k.1.1.1.1.1.1.1.2 | exact k.1.1.1.1.1.1.1.1.2)); have c20 : vb.cell? ⟨v6.heap.size, 20, none⟩ = some (.int .i64 15) := ((show Blk vb v6.heap.size 38 ra from (by have k := K.out _ (Upd.refl _ _); first | exact k.2 | exact k.1.2 | exact k.1.1.2 | exact k.1.1.1.2 | exact k.1.1.1.1.2 | exact k.1.1.1.1.1.2 | exact k.1.1.1.1.1.1.2 | exact k.1.1.1.1.1.1.1.2 | exact k.1.1.1.1.1.1.1.1.2)).cell 20).trans (aw_tr HRA.out (aw_c20 H12.out)); have c8 : vb.cell? ⟨v6.heap.size, 8, none⟩ = some (.int .i64 1) := ((show Blk vb v6.heap.size 38 ra from (by have k := K.out _ (Upd.refl _ _); first | exact k.2 | exact k.1.2 | exact k.1.1.2 | exact k.1.1.1.2 | exact k.1.1.1.1.2 | exact k.1.1.1.1.1.2 | exact k.1.1.1.1.1.1.2 | exact k.1.1.1.1.1.1.1.2 | exact k.1.1.1.1.1.1.1.1.2)).cell 8).trans (aw_tr HRA.out (aw_c8 H0.out)))
    | (with_reducible show Calls _ 7 #[.agg #[.int .i64 0, _, _, _, _]] _ _; refine (CZ.out _).mono ?_; rintro e vz ⟨rfl, hu⟩; replace K := Lib.hid (fun W (h : Upd NoF _ W) => K.out W (hu.trans h (fun _ _ f => f))); clear hu)
    | (refine wl_load rfl 38 (.tmp 2) rfl v6.heap.size 0 (by rfl) ra.toList _ (range_blk (by rw [Array.toArray_toList]; exact (by have k := K.out _ (Upd.refl _ _); first | exact k.2 | exact k.1.2 | exact k.1.1.2 | exact k.1.1.1.2 | exact k.1.1.1.1.2 | exact k.1.1.1.1.1.2 | exact k.1.1.1.1.1.1.2 | exact k.1.1.1.1.1.1.1.2 | exact k.1.1.1.1.1.1.1.1.2))) Tryz.underlying38 rfl (by rw [Array.length_toList, HSZ.out]; exact item_size) ra (by simp) ?_)
    | (refine wl_row1 rfl 44 38 (.tmp 34) rfl (.agg ra) (by rfl) ra (run_slice_item HSZ.out _) ?_; intro vi hb hu; replace K := Lib.hid (fun W (h : Upd NoF _ W) => And.intro (K.out W (hu.trans h (fun _ _ f => f))) ((by have q := h.blk hb (fun f => f); rw [← HRA.out] at q; exact aw_gr (HOK.out W) q))); clear hb hu)
    | (with_reducible show Calls _ 25 #[_, _, _, .slice _ 1 1] _ _; refine (CB5.out _ _ _ _ _ _ _ _ (aw_txt (Blk.new vi 5 #[.int .u8 3]))).mono ?_; rintro e vz ⟨rfl, hu⟩; replace K := Lib.hid (fun W (h : Upd NoF _ W) => K.out W ((((Upd.refl NoF vi).alloc (.cells #[.int .u8 3] 5)).trans hu (fun _ _ f => f)).trans h (fun _ _ f => f))); clear hu)
    | (refine wl_build rfl 67 #[(0, .tmp 46), (1, .tmp 51)] rfl #[(0, .agg #[z0, z1, z2, z3, z4, z5, z6, z7]), (1, .slice (some ⟨_, 0, none⟩) 4 4)] (by simp; exact ⟨rfl, rfl⟩) _ (aw_blk HZN.out _) ?_; generalize hxb : (blkC awI.name (.slice (some ⟨_, 0, none⟩) 4 4)).toArray = xb; have HXB := Lib.hid hxb; clear hxb)
    | (with_reducible show Calls _ 26 _ _ _; refine (aw_call6' (Blk.new vb 64 #[.int .i64 0, .int .u8 0, .int .u8 0, .int .u8 0, .int .u8 0, .int .u8 0, .int .u8 0, .int .u8 0, .int .u8 0, .int .i64 1, .int .u8 0, .int .u8 0, .int .u8 0, .int .u8 0, .int .u8 0, .int .u8 0, .int .u8 0, .int .u8 0, .int .i64 2, .int .u8 0, .int .u8 0, .int .u8 0, .int .u8 0, .int .u8 0, .int .u8 0, .int .u8 0, .int .u8 0, .int .i64 3, .int .u8 0, .int .u8 0, .int .u8 0, .int .u8 0, .int .u8 0, .int .u8 0, .int .u8 0, .int .u8 0]) HXB.out).mono ?_; rintro e vd ⟨B, d, he, hr, hu⟩; obtain ⟨tn, htn⟩ : ∃ x, (3 :: blkT awI.name aw4).length = x := ⟨_, rfl⟩; rw [htn] at he hr; subst he; have HTN := Lib.hid htn; replace K := Lib.hid (fun W (h : Upd NoF _ W) => And.intro (K.out W ((((Upd.refl NoF vb).alloc (.cells #[.int .i64 0, .int .u8 0, .int .u8 0, .int .u8 0, .int .u8 0, .int .u8 0, .int .u8 0, .int .u8 0, .int .u8 0, .int .i64 1, .int .u8 0, .int .u8 0, .int .u8 0, .int .u8 0, .int .u8 0, .int .u8 0, .int .u8 0, .int .u8 0, .int .i64 2, .int .u8 0, .int .u8 0, .int .u8 0, .int .u8 0, .int .u8 0, .int .u8 0, .int .u8 0, .int .u8 0, .int .i64 3, .int .u8 0, .int .u8 0, .int .u8 0, .int .u8 0, .int .u8 0, .int .u8 0, .int .u8 0, .int .u8 0] 64)).trans hu (fun _ _ f => f)).trans h (fun _ _ f => f))) (hr.keep h)); clear hr hu htn)
    | (with_reducible show Calls _ 25 #[_, _, .slice none _ _, _] _ _; refine (CN5.out _ _ _ _ _ _ _ (by rw [HTN.out]; exact (by have k := K.out _ (Upd.refl _ _); first | exact k.2 | exact k.1.2 | exact k.1.1.2 | exact k.1.1.1.2 | exact k.1.1.1.1.2 | exact k.1.1.1.1.1.2 | exact k.1.1.1.1.1.1.2 | exact k.1.1.1.1.1.1.1.2 | exact k.1.1.1.1.1.1.1.1.2))).mono ?_; rintro e vz ⟨rfl, hu⟩; replace K := Lib.hid (fun W (h : Upd NoF _ W) => K.out W (hu.trans h (fun _ _ f => f))); clear hu)
    | (with_reducible show Calls _ 25 #[_, _, _, _] _ _; refine (CC5.out _ _ _ _ rest _ _ _ _ _ (by rw [HTN.out]; exact (by have k := K.out _ (Upd.refl _ _); first | exact k.2 | exact k.1.2 | exact k.1.1.2 | exact k.1.1.1.2 | exact k.1.1.1.1.2 | exact k.1.1.1.1.1.2 | exact k.1.1.1.1.1.1.2 | exact k.1.1.1.1.1.1.1.2 | exact k.1.1.1.1.1.1.1.1.2)) (by have k := K.out _ (Upd.refl _ _); first | exact k.2 | exact k.1.2 | exact k.1.1.2 | exact k.1.1.1.2 | exact k.1.1.1.1.2 | exact k.1.1.1.1.1.2 | exact k.1.1.1.1.1.1.2 | exact k.1.1.1.1.1.1.1.2 | exact k.1.1.1.1.1.1.1.1.2) (HOK.out w).one H12.out).mono ?_; rintro e vz ⟨rfl, hu⟩; replace K := Lib.hid (fun W (h : Upd NoF _ W) => K.out W (hu.trans h (fun _ _ f => f))); clear hu)
    | (with_reducible show Calls _ 14 #[_, .agg #[.int .u8 9, _, _, _, _, _, _, _]] _ _; refine (aw_call14n (by have k := K.out _ (Upd.refl _ _); first | exact k.2 | exact k.1.2 | exact k.1.1.2 | exact k.1.1.1.2 | exact k.1.1.1.1.2 | exact k.1.1.1.1.1.2 | exact k.1.1.1.1.1.1.2 | exact k.1.1.1.1.1.1.1.2 | exact k.1.1.1.1.1.1.1.1.2)).mono ?_; rintro e vz ⟨rfl, hu⟩; replace K := Lib.hid (fun W (h : Upd NoF _ W) => K.out W (hu.trans h (fun _ _ f => f))); clear hu; obtain ⟨n0, n1, n2, n3, n4, n5, n6, n7⟩ := aw_cells HZN.out HRA.out (show Blk vz v6.heap.size 38 ra from (by have k := K.out _ (Upd.refl _ _); first | exact k.2 | exact k.1.2 | exact k.1.1.2 | exact k.1.1.1.2 | exact k.1.1.1.1.2 | exact k.1.1.1.1.1.2 | exact k.1.1.1.1.1.1.2 | exact k.1.1.1.1.1.1.1.2 | exact k.1.1.1.1.1.1.1.1.2)))
    | (with_reducible show Calls _ 14 _ _ _; refine (aw_call14 (by have k := K.out _ (Upd.refl _ _); first | exact k.2 | exact k.1.2 | exact k.1.1.2 | exact k.1.1.1.2 | exact k.1.1.1.1.2 | exact k.1.1.1.1.1.2 | exact k.1.1.1.1.1.1.2 | exact k.1.1.1.1.1.1.1.2 | exact k.1.1.1.1.1.1.1.1.2) HZN.out).mono ?_; rintro e vz ⟨rfl, hu⟩; replace K := Lib.hid (fun W (h : Upd NoF _ W) => K.out W (hu.trans h (fun _ _ f => f))); clear hu)
    | (with_reducible show Calls _ 20 _ _ _; refine (aw_call20 (by have k := K.out _ (Upd.refl _ _); first | exact k.2 | exact k.1.2 | exact k.1.1.2 | exact k.1.1.1.2 | exact k.1.1.1.1.2 | exact k.1.1.1.1.1.2 | exact k.1.1.1.1.1.1.2 | exact k.1.1.1.1.1.1.1.2 | exact k.1.1.1.1.1.1.1.1.2) HZN.out).mono ?_; rintro e vz ⟨A', c', rfl, hu⟩; replace K := Lib.hid (fun W (h : Upd NoF _ W) => K.out W (hu.trans h (fun _ _ f => f))); clear hu; obtain ⟨n0, n1, n2, n3, n4, n5, n6, n7⟩ := aw_cells HZN.out HRA.out (show Blk vz v6.heap.size 38 ra from (by have k := K.out _ (Upd.refl _ _); first | exact k.2 | exact k.1.2 | exact k.1.1.2 | exact k.1.1.1.2 | exact k.1.1.1.1.2 | exact k.1.1.1.1.1.2 | exact k.1.1.1.1.1.1.2 | exact k.1.1.1.1.1.1.1.2 | exact k.1.1.1.1.1.1.1.1.2)))
    | (with_reducible show Calls _ 16 _ _ _; refine (aw_call16 (by have k := K.out _ (Upd.refl _ _); first | exact k.2 | exact k.1.2 | exact k.1.1.2 | exact k.1.1.1.2 | exact k.1.1.1.1.2 | exact k.1.1.1.1.1.2 | exact k.1.1.1.1.1.1.2 | exact k.1.1.1.1.1.1.1.2 | exact k.1.1.1.1.1.1.1.1.2) HZN.out).mono ?_; rintro e vz ⟨A', c', rfl, hu⟩; replace K := Lib.hid (fun W (h : Upd NoF _ W) => K.out W (hu.trans h (fun _ _ f => f))); clear hu))
  go_ret
  exact ⟨rfl, by have k := K.out _ (Upd.refl _ _); exact k.1.1.1.1.1.1.1⟩
end
end Go.Proofs.YtengcmfdfmnacaaGreat
