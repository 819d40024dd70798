/- Operations on maps keyed by names, and cuts of owned slices, in a walk. No condition. accept.Outcomes of no votes, whole. No condition. slices.IndexFunc / ContainsFunc of no outcomes; the question a reader asks itself. No condition. (*Reader).decided of a reader without votes: false; it keeps what it learned in its map of outcomes. No condition. The regions were printed by gen_dcd.py. slices.EqualFunc of choices and their numbers: true where they agree. No condition. items.NewReader of facts without texts and votes. No condition. block.DecodeBlock of the text [3]. No condition. items.(*Reader).Block of the text [3]. No condition. -/
import Derived.Test.YtengcmfdfmnacaaGreatJn11
import Derived.Test.YtengcmfdfmnacaaGreatJn7
import Derived.Test.YtengcmfdfmnacaaGreatJn5
import Derived.Laws.IdiomRangeMap
import Derived.Test.YtengcmfdfmnacaaGreatBk3
import Derived.BigQuiet
namespace Go.Proofs.YtengcmfdfmnacaaGreat
section
open Go.RowKit Go.Shelf Go.Lib

section
variable {P : Program} {ops : Array Oper} {rest : List Oper} {o : Oper} {a : Act} {w : World} {Q : Exit → Act → World → Prop} {post : Value → World → Prop}
theorem wl_od (hw : Region.wanted o (yielded ops a.tmps) = true) (h : OpDone P o a.eval w post) (hk : ∀ v w', post v w' → wpList P ops Q rest (a.put o.dst v) w') : wpList P ops Q (o :: rest) a w :=
  BigFrame.wpList_want hw fun _ hK => h.wp (fun v w' hp => hK _ _ (hk v w' hp))
theorem wl_run (hw : Region.wanted o (yielded ops a.tmps) = true) {v : Value} {w' : World} (h : (execOp a.eval o).run P w = .ok (.value v) w') (hk : wpList P ops Q rest (a.put o.dst v) w') : wpList P ops Q (o :: rest) a w :=
  wl_od (post := fun u x => u = v ∧ x = w') hw (od_of_run h ⟨rfl, rfl⟩) (by rintro u x ⟨rfl, rfl⟩; exact hk)
theorem wl_skip (hw : Region.wanted o (yielded ops a.tmps) = true) {w' : World} (h : (execOp a.eval o).run P w = .ok .skip w') (hk : wpList P ops Q rest (a.put o.dst undef) w') : wpList P ops Q (o :: rest) a w :=
  wl_od (post := fun u x => u = undef ∧ x = w') hw (by unfold OpDone; rw [h]; exact ⟨rfl, rfl⟩) (by rintro u x ⟨rfl, rfl⟩; exact hk)
/-- A row loaded, at an operation with or without a guard. -/
theorem wl_load (hw : Region.wanted o (yielded ops a.tmps) = true) (ty : TypeId) (x : Operand) (ho : o.op = .load ty x) (b off : Nat) (hx : a.eval x = .pointer (some ⟨b, off, none⟩)) (cs : List Value) (d : TypeDesc) (hc : w.rangeAt b off cs) (hu : P.underlying ty = some d) (hd : d.isRow = true) (hi : (P.info? ty).map (·.size) = some cs.length) (ar : Array Value) (har : cs.toArray = ar)
    (hk : wpList P ops Q rest (a.put o.dst (.agg ar)) w) : wpList P ops Q (o :: rest) a w :=
  wl_od (post := fun u x => u = .agg ar ∧ x = w) hw (od_load_row ty x ho b off hx cs d hc hu hd hi ⟨by rw [har], rfl⟩) (by rintro u x ⟨rfl, rfl⟩; exact hk)
/-- A cut x[:k] of a slice that owns its block. -/
theorem wl_cutOwn (hw : Region.wanted o (yielded ops a.tmps) = true) (t e : TypeId) {size n k c : Nat} {A : Option Addr} {xs : List Value} (x y : Operand) (ho : o.op = .slice t x none (some y) none) (hx : a.eval x = .slice A n c) (hy : a.eval y = .int .i64 (k : Int)) (h : Own w e size (.slice A n c) n xs) (hu : P.underlying t = some (.slice e)) (hs : ∀ w, (sizeOf e).run P w = .ok size w) (hkn : k ≤ n)
    (hk : Own w e size (.slice A k c) k (xs.take (k * size)) → wpList P ops Q rest (a.put o.dst (.slice A k c)) w) : wpList P ops Q (o :: rest) a w := by
  have hO : Own w e size (.slice A k c) k (xs.take (k * size)) := by
    refine ⟨by rw [List.length_take, h.1]; exact Nat.min_eq_left (Nat.mul_le_mul_right _ hkn), ?_⟩
    rcases h.2 with ⟨e1, rfl⟩ | ⟨g, cap, cur, e1, hb, h1, h2, h3, h4⟩
    · injection e1 with e2 e3 e4
      subst e2 e4
      have : k = 0 := by omega
      subst this
      exact .inl ⟨rfl, rfl⟩
    · injection e1 with e2 e3 e4
      subst e2 e4
      refine .inr ⟨g, c, cur, rfl, hb, by omega, h2, h3, ?_⟩
      rw [← h4, List.take_take, Nat.min_eq_left (Nat.mul_le_mul_right _ hkn)]
  have hkc : (0 : Int) ≤ (k : Int) ∧ (k : Int) ≤ (c : Int) := by
    rcases h.2 with ⟨e1, rfl⟩ | ⟨g, cap, cur, e1, hb, h1, -⟩
    · exact ⟨by omega, by omega⟩
    · injection e1 with e2 e3 e4
      subst e4
      exact ⟨by omega, by omega⟩
  refine wl_run hw (v := .slice A k c) (w' := w) ?_ (hk hO)
  have hr : (Instr.sliceAt t (.slice A n c) none (some (.int .i64 (k : Int))) none).run P w = .ok (.slice A k c) w := by
    rcases Nat.eq_zero_or_pos c with hc | hc
    · have hk0 : k = 0 := by omega
      subst hc hk0
      simp [Instr.sliceAt, Instr.slice, run_underlying hu, Instr.sliceBounds, Instr.sliceBound, asIntOf, hs]
    · have hc' : ¬ c = 0 := by omega
      have hk' : k ≤ c := by omega
      cases A <;> simp [Instr.sliceAt, Instr.slice, run_underlying hu, Instr.sliceBounds, Instr.sliceBound, asIntOf, hs, hk', Addr.add]
  simp [execOp, ho, hx, hy, hr]
end
section
variable {ops : Array Oper} {rest : List Oper} {o : Oper} {a : Act} {w : World} {Q : Exit → Act → World → Prop} {r : Nat} {l : List (List UInt8 × Value)} {n : List UInt8}
theorem wl_lookup (hw : Region.wanted o (yielded ops a.tmps) = true) (mty et : TypeId) (x y : Operand) (ok : Bool) (ho : o.op = .lookup mty x y ok) (hx : a.eval x = .map (some r)) {za : Array Value} (hy : a.eval y = .agg za) (hv : (n.map byteV).toArray = za) (hn : n.length = 8) (h : MapN w r l) (hm : Tryz.prog.underlying mty = some (.map 28 et)) (z : Value) (hz : ∀ w, (zeroValue et).run Tryz.prog w = .ok z w) (res : Value) (hres : (if ok then .tuple #[(getT l n).getD z, .bool (getT l n).isSome] else (getT l n).getD z) = res)
    (hk : wpList Tryz.prog ops Q rest (a.put o.dst res) w) : wpList Tryz.prog ops Q (o :: rest) a w := by
  refine wl_run hw (v := res) (w' := w) ?_ hk
  rw [← hres]
  subst hv
  simp [execOp, ho, hx, hy, h.lookup hm hn (hz w) ok]
theorem wl_insert (hw : Region.wanted o (yielded ops a.tmps) = true) (mty et : TypeId) (x y u : Operand) (ho : o.op = .mapUpdate mty x y u) (hx : a.eval x = .map (some r)) {za : Array Value} {z : Value} (hy : a.eval y = .agg za) (hv : (n.map byteV).toArray = za) (hz : a.eval u = z) (hn : n.length = 8) (h : MapN w r l) (hm : Tryz.prog.underlying mty = some (.map 28 et)) (hg : getT l n = none)
    (hk : ∀ w', MapN w' r (l ++ [(n, z)]) → Upd (fun k => k = r) w w' → w'.heap.size = w.heap.size → wpList Tryz.prog ops Q rest (a.put o.dst undef) w') : wpList Tryz.prog ops Q (o :: rest) a w := by
  obtain ⟨w', hr, h1, h2, h3⟩ := h.insert hm hn hg z
  refine wl_skip hw (w' := w') ?_ (hk w' h1 h2 h3)
  subst hv
  simp [execOp, ho, hx, hy, hz, hr]
theorem wl_delete (hw : Region.wanted o (yielded ops a.tmps) = true) (mty et kt : TypeId) (x y : Operand) (ho : o.op = .call { callee := .builtin .delete, args := #[x, y], argTypes := #[mty, kt] }) (hx : a.eval x = .map (some r)) {za : Array Value} (hy : a.eval y = .agg za) (hv : (n.map byteV).toArray = za) (hn : n.length = 8) (h : MapN w r l) (hm : Tryz.prog.underlying mty = some (.map 28 et))
    (hk : ∀ w', MapN w' r (l.filter fun p => p.1 ≠ n) → Upd (fun k => k = r) w w' → w'.heap.size = w.heap.size → wpList Tryz.prog ops Q rest (a.put o.dst (.tuple #[])) w') : wpList Tryz.prog ops Q (o :: rest) a w := by
  obtain ⟨w', hr, h1, h2, h3⟩ := h.delete (kt := kt) (ty := o.type) hm hn
  refine wl_run hw (v := .tuple #[]) (w' := w') ?_ (hk w' h1 h2 h3)
  unfold execOp
  subst hv
  simp only [ho, resolve, invoke, builtin, Sem.run_bind, Sem.run_pure, Result.andThen_ok, List.map_toArray, List.map_cons, List.map_nil, hx, hy, hr]
theorem wl_range (hw : Region.wanted o (yielded ops a.tmps) = true) (mty et : TypeId) (x : Operand) (ho : o.op = .range mty x) (hx : a.eval x = .map (some r)) (h : MapN w r l) (hm : Tryz.prog.underlying mty = some (.map 28 et))
    (hk : ∀ w', RngN w' r w.heap.size l l → Upd NoF w w' → w'.heap.size = w.heap.size + 1 → wpList Tryz.prog ops Q rest (a.put o.dst (.pointer (some ⟨w.heap.size, 0, none⟩))) w') : wpList Tryz.prog ops Q (o :: rest) a w := by
  obtain ⟨w', hr, h1, h2, h3⟩ := h.range hm
  refine wl_run hw (v := .pointer (some ⟨w.heap.size, 0, none⟩)) (w' := w') ?_ (hk w' h1 h2 h3)
  simp [execOp, ho, hx, hr]
theorem wl_range_nil (hw : Region.wanted o (yielded ops a.tmps) = true) (mty kt et : TypeId) (x : Operand) (ho : o.op = .range mty x) (hx : a.eval x = .map none) (hm : Tryz.prog.underlying mty = some (.map kt et))
    (hk : wpList Tryz.prog ops Q rest (a.put o.dst (.pointer (some ⟨w.heap.size, 0, none⟩))) (w.alloc (.mapIter none 0 #[] 0))) : wpList Tryz.prog ops Q (o :: rest) a w := by
  refine wl_run hw (v := .pointer (some ⟨w.heap.size, 0, none⟩)) (w' := w.alloc (.mapIter none 0 #[] 0)) ?_ hk
  simp [execOp, ho, hx, run_range_nilMap w mty kt et hm]
theorem wl_next_nil (hw : Region.wanted o (yielded ops a.tmps) = true) (x : Operand) (ho : o.op = .next x false) (it : Nat) (hx : a.eval x = .pointer (some ⟨it, 0, none⟩)) (hb : w.heap[it]? = some (.mapIter none 0 #[] 0))
    (hk : wpList Tryz.prog ops Q rest (a.put o.dst (.tuple #[.bool false])) w) : wpList Tryz.prog ops Q (o :: rest) a w := by
  refine wl_run hw (v := .tuple #[.bool false]) (w' := w) ?_ hk
  have : (Instr.next (.pointer (some ⟨it, 0, none⟩)) false o.type).run Tryz.prog w = .ok (.tuple #[.bool false]) w := by
    simp only [Instr.next, getObj, Sem.run_bind, Sem.run, hb, Result.andThen]
    rfl
  simp [execOp, ho, hx, this]
theorem wl_next (hw : Region.wanted o (yielded ops a.tmps) = true) (x : Operand) (ho : o.op = .next x false) {it : Nat} (hx : a.eval x = .pointer (some ⟨it, 0, none⟩)) {left : List (List UInt8 × Value)} (h : RngN w r it l left)
    (hDone : left = [] → wpList Tryz.prog ops Q rest (a.put o.dst (.tuple #[.bool false])) w)
    (hMore : ∀ (p : List UInt8 × Value) (left' : List (List UInt8 × Value)) (w' : World), left.Perm (p :: left') → RngN w' r it l left' → Upd (fun k => k = it) w w' → w'.heap.size = w.heap.size → (Instr.entry (.pointer (some ⟨it, 0, none⟩))).run Tryz.prog w' = .ok (.tuple #[nameV p.1, p.2]) w' → wpList Tryz.prog ops Q rest (a.put o.dst (.tuple #[.bool true, nameV p.1, p.2])) w') : wpList Tryz.prog ops Q (o :: rest) a w := by
  rcases h.next o.type with ⟨h0, hr⟩ | ⟨p, left', w', hp, hr, h1, h2, h3, h4⟩
  · refine wl_run hw (v := .tuple #[.bool false]) (w' := w) ?_ (hDone h0)
    simp [execOp, ho, hx, hr]
  · refine wl_run hw (v := .tuple #[.bool true, nameV p.1, p.2]) (w' := w') ?_ (hMore p left' w' hp h1 h2 h3 h4)
    simp [execOp, ho, hx, hr]
theorem wl_entry (hw : Region.wanted o (yielded ops a.tmps) = true) (x : Operand) (ho : o.op = .entry x) {it : Nat} (hx : a.eval x = .pointer (some ⟨it, 0, none⟩)) {v : Value} (h : (Instr.entry (.pointer (some ⟨it, 0, none⟩))).run Tryz.prog w = .ok v w)
    (hk : wpList Tryz.prog ops Q rest (a.put o.dst v) w) : wpList Tryz.prog ops Q (o :: rest) a w := by
  refine wl_run hw (v := v) (w' := w) ?_ hk
  simp [execOp, ho, hx, h]
end
end

section
open Go.RowKit Go.Shelf Go.Lib Go.Sort

set_option maxRecDepth 100000 in
set_option maxHeartbeats 8000000 in
theorem Outcomes_nil (m : Int) {p : List UInt8} (hp : p.length = 8) (sl : Int) (w : World) : Calls Tryz.prog 133 #[.int .i64 m, nameV p, .slice none 0 0, .int .i64 sl] w fun e w' => e = .returned (.slice none 0 0) ∧ Upd NoF w w' := by
  obtain ⟨pb, hpb⟩ : ∃ x, (p.map byteV).toArray = x := ⟨_, rfl⟩
  have hnp : nameV p = .agg pb := by rw [← hpb]
  have HP := Lib.hid (show pb.size = 8 from by rw [← hpb]; simp [hp])
  have BV := Lib.hid (Blk.new w 28 pb)
  have UV := Lib.hid ((Upd.refl NoF w).alloc (.cells pb 28))
  have CA := Lib.hid (fun W => Accepted_nil m hp W)
  rw [hnp] at CA ⊢
  have hmm := @run_makeMap Tryz.prog
  clear hpb hnp
  go_enter Tryz.func133, Tryz.ntmps133
  go_wp2
  go_loopg [20, 9] 0 (fun kx s s9 wr => s = .int .i64 0 ∧ s9 = .slice none 0 0 ∧ Hid (Upd NoF w wr) ∧ Hid (Blk wr w.heap.size 28 pb))
  case atStart => exact ⟨rfl, rfl, UV, BV⟩
  case round =>
    obtain ⟨rfl, rfl, U3, B3⟩ := hrel
    go_wp2_with (first
      | (refine wpList_load_row rfl 28 (.tmp 5) rfl w.heap.size 0 rfl pb.toList _ (range_blk (by rw [Array.toArray_toList]; exact B3.out.alloc _)) Tryz.underlying28 rfl (by rw [show (Tryz.prog.info? 28).map (·.size) = some 8 from by kernel_rfl]; simp [HP.out]) pb (by simp) ?_)
      | (refine (CA.out _).mono ?_; rintro e w2 ⟨rfl, hu2⟩))
    have HM := Lib.hid (show w2.heap[wr.heap.size]? = some (.map #[] 0) from (hu2.block wr.heap.size (by simp) (fun f => f)).trans (World.alloc_heap_new wr _))
    have U4 := Lib.hid ((U3.out.alloc (.map #[] 0)).trans hu2 (fun _ _ f => f))
    obtain ⟨bm, hbm⟩ : ∃ b, wr.heap.size = b := ⟨_, rfl⟩
    rw [hbm] at HM ⊢
    clear hbm hu2 B3 U3 UV BV
    go_loopg [44] 0 (fun kx s wr => s = .int .i64 0 ∧ Hid (Upd NoF w wr) ∧ Hid (wr.heap[bm]? = some (.map #[] 0)))
    case atStart => exact ⟨rfl, U4, HM⟩
    case round =>
      rename_i wq _
      obtain ⟨rfl, U5, H5⟩ := hrel
      clear U4 HM
      have hlt : bm < wr.heap.size := (Array.getElem?_eq_some_iff.1 H5.out).1
      have h6 : (wr.alloc (.cells #[.slice none 0 0] 196)).heap[bm]? = some (.map #[] 0) := (Below.heap_alloc wr _ bm hlt).trans H5.out
      have hr := run_range_map (P := Tryz.prog) (wr.alloc (.cells #[.slice none 0 0] 196)) 235 _ _ bm #[] 0 Tryz.underlying235 h6
      have hn : ∀ ty, (Instr.next (.pointer (some ⟨(wr.alloc (.cells #[.slice none 0 0] 196)).heap.size, 0, none⟩)) false ty).run Tryz.prog ((wr.alloc (.cells #[.slice none 0 0] 196)).alloc (.mapIter (some bm) 0 #[] 0)) = .ok (.tuple #[.bool false]) ((wr.alloc (.cells #[.slice none 0 0] 196)).alloc (.mapIter (some bm) 0 #[] 0)) := fun ty => by
        rcases run_next_map (P := Tryz.prog) (wr.alloc (.cells #[.slice none 0 0] 196)) ty bm 0 0 #[] #[] 0 h6 (by simp) (by omega) with ⟨_, h⟩ | ⟨e, he, _⟩
        · exact h
        · simp [leftOf] at he
      rw [World.size_alloc] at hr hn
      clear hlt h6
      obtain ⟨W6, hW6⟩ : ∃ x, x = (wr.alloc (.cells #[.slice none 0 0] 196)).alloc (.mapIter (some bm) 0 #[] 0) := ⟨_, rfl⟩
      have B6 := Lib.hid (show Blk W6 wr.heap.size 196 #[.slice none 0 0] from by rw [hW6]; exact (Blk.new wr _ _).alloc _)
      have U6 := Lib.hid (show Upd NoF w W6 from by rw [hW6]; exact (U5.out.alloc _).alloc _)
      go_wp2
      rw [← hW6] at hn ⊢
      clear hW6 hr
      obtain ⟨hz, hhz⟩ : ∃ n, wr.heap.size = n := ⟨_, rfl⟩
      rw [hhz] at hn B6 ⊢
      clear hhz
      go_loopg [75] 0 (fun kx s75 w7 => Hid (w7 = W6))
      case atStart => exact Lib.hid rfl
      case round =>
        have HW := hrel
        clear hrel
        obtain rfl := HW.out
        have c0 : wr.cell? ⟨hz, 0, none⟩ = some (.slice none 0 0) := B6.out.cell 0
        go_wp2_with fail
        refine (sort_nil_outs _ _ _ wr).mono ?_
        rintro e w8 ⟨rfl, hu8⟩
        have U8 := Lib.hid (U6.out.trans hu8 (fun _ _ f => f))
        have c1 : w8.cell? ⟨hz, 0, none⟩ = some (.slice none 0 0) := (hu8.blk B6.out (fun f => f)).cell 0
        clear hu8
        go_wp2
        go_ret
        exact ⟨rfl, U8.out⟩
end

section
open Go.RowKit Go.Shelf Go.Lib

theorem IndexOut_nil (fv : Value) (w : World) : Calls Tryz.prog 171 #[.slice none 0 0, fv] w fun e w' => e = .returned (.int .i64 (-1)) ∧ Upd NoF w w' := by
  have U0 := Lib.hid (Upd.refl NoF w)
  go_enter Tryz.func171, Tryz.ntmps171
  go_wp2
  go_loopg [8] 0 (fun kx s8 wr => s8 = .int .i64 0 ∧ Hid (Upd NoF w wr))
  case atStart => exact ⟨rfl, U0⟩
  case round =>
    obtain ⟨rfl, U⟩ := hrel
    go_wp2
    go_ret
    exact ⟨rfl, U.out⟩
theorem ContainsOut_nil (fv : Value) (w : World) : Calls Tryz.prog 134 #[.slice none 0 0, fv] w fun e w' => e = .returned (.bool false) ∧ Upd NoF w w' := by
  have CI := Lib.hid (fun W => IndexOut_nil fv W)
  go_enter Tryz.func134, Tryz.ntmps134
  go_wp2_with (refine (CI.out _).mono ?_; rintro e w2 ⟨rfl, hu2⟩)
  go_ret
  exact ⟨rfl, hu2⟩

theorem build_question' (m sl : Int) (q0 q1 q2 q3 q4 q5 q6 q7 : UInt8) (w : World) : (Instr.build 195 #[(0, .int .i64 m), (1, .agg #[byteV q0, byteV q1, byteV q2, byteV q3, byteV q4, byteV q5, byteV q6, byteV q7]), (2, .int .i64 sl)]).run Tryz.prog w = .ok (.agg #[.int .i64 m, byteV q0, byteV q1, byteV q2, byteV q3, byteV q4, byteV q5, byteV q6, byteV q7, .int .i64 sl]) w := by kernel_rfl
def quC (m : Int) (n : List UInt8) (sl : Int) : List Value := .int .i64 m :: (n.map byteV ++ [.int .i64 sl])
theorem build_question (m sl : Int) {n : List UInt8} (hn : n.length = 8) (w : World) : (Instr.build 195 #[(0, .int .i64 m), (1, nameV n), (2, .int .i64 sl)]).run Tryz.prog w = .ok (.agg (quC m n sl).toArray) w := by
  obtain ⟨q0, q1, q2, q3, q4, q5, q6, q7, rfl⟩ := name_spell hn
  exact build_question' m sl q0 q1 q2 q3 q4 q5 q6 q7 w
theorem key_question (em : Bool) (m sl : Int) {n : List UInt8} (hn : n.length = 8) (w : World) : (Instr.checkKey em 10000 195 (.agg (quC m n sl).toArray)).run Tryz.prog w = .ok () w := by
  obtain ⟨q0, q1, q2, q3, q4, q5, q6, q7, rfl⟩ := name_spell hn
  exact question_key em _ _ _ _ _ _ _ _ _ _ w
theorem quC_size (m sl : Int) {n : List UInt8} (hn : n.length = 8) : (quC m n sl).length = 10 := by simp [quC, hn]
theorem quC_one (m sl : Int) (n : List UInt8) : (quC m n sl).toArray.all (·.oneCell') = true := by
  simp [quC, Value.oneCell']
def quZ : Array Value := (quC 0 (List.replicate 8 0) 0).toArray
theorem question_alloc (w : World) : (Instr.alloc 195 true (.tuple #[])).run Tryz.prog w = .ok (.pointer (some ⟨w.heap.size, 0, none⟩)) (w.alloc (.cells quZ 195)) := by kernel_rfl
theorem question_size : (Tryz.prog.info? 195).map (·.size) = some 10 := by kernel_rfl
theorem od_update {P : Program} {o : Oper} {ρ : Operand → Value} {w : World} {post : Value → World → Prop} (mt : TypeId) (m k x : Operand) (ho : o.op = .mapUpdate mt m k x) {w' : World} (hr : (Instr.mapUpdate mt (ρ m) (ρ k) (ρ x)).run P w = .ok () w') (hp : post undef w') : OpDone P o ρ w post := by
  unfold OpDone execOp
  simp only [ho, Sem.run_bind, Sem.run_pure, hr, Result.andThen_ok]
  exact hp
theorem range_choice {w : World} {cz : Nat} {sl : Int} {n : List UInt8} (hb : Blk w cz 64 (choiceC (sl, n)).toArray) : w.rangeAt cz 1 (n.map byteV) := fun j v hv => by
  rw [hb.cell, Nat.add_comm 1 j]
  simpa [choiceC] using hv
end

section
open Go.RowKit Go.Shelf Go.Lib Go.Sort

/-- Where the region stands that puts what was learned into the map om. -/
structure QPh (w0 : World) (om : Nat) (L : Nat → Bool) (w : World) : Prop where
  u0 : L 6 = false → Upd NoF w0 w
  u1 : Upd (fun i => i = om) w0 w
namespace QPh
variable {w0 w : World} {om : Nat} {L : Nat → Bool}
theorem start : QPh w0 om (fun _ => false) w0 := ⟨fun _ => Upd.refl _ _, Upd.refl _ _⟩
theorem same (h : QPh w0 om L w) {i : Nat} (h1 : (6 == i) = false) : QPh w0 om (fun j => j == i || L j) w := ⟨fun e => h.u0 (by simpa [h1] using e), h.u1⟩
theorem put (h : QPh w0 om L w) {o o' : Obj} (hb : w.heap[om]? = some o) : QPh w0 om (fun j => j == 6 || L j) { w with heap := w.heap.setIfInBounds om o' } :=
  ⟨fun e => by simp at e, h.u1.trans (G := fun i => i = om) ⟨rfl, rfl, rfl, by simp, fun i _ hi => (MapKept.heap_set hb).2 i hi⟩ (fun _ _ f => f)⟩
end QPh
theorem quiet_run {P : Program} {C : World → Prop} {K : Act → Prop} {a : Act} {o : Oper} {v : Value} (h : ∀ ρ : Operand → Value, (∀ x, ρ x = a.eval x) → ∀ w, C w → (execOp ρ o).run P w = .ok (.value v) w) (hk : K (a.put o.dst v)) : o.quiet P a C K :=
  ⟨v, fun w hw => by unfold Oper.quietAt; rw [h a.eval (fun _ => rfl) w hw]; exact ⟨rfl, rfl⟩, hk⟩
theorem name_size : (Tryz.prog.info? 28).map (·.size) = some 8 := by kernel_rfl

set_option maxRecDepth 100000 in
set_option maxHeartbeats 4000000 in
theorem Decided_nil {w : World} {rb om : Nat} {G : Array Value} (hb : Blk w rb 148 G) (h5 : G[5]? = some (.slice none 0 0)) (h7 : G[7]? = some (.map (some om))) (hom : w.heap[om]? = some (.map #[] 0)) (m : Int) {p : List UInt8} (hp : p.length = 8) (sl : Int) {n : List UInt8} (hn : n.length = 8) :
    Calls Tryz.prog 91 #[.pointer (some ⟨rb, 0, none⟩), .int .i64 m, nameV p, .agg (choiceC (sl, n)).toArray] w fun e w' => e = .returned (.bool false) ∧ Upd (fun i => i = om) w w' := by
  obtain ⟨pb, hpb⟩ : ∃ x, (p.map byteV).toArray = x := ⟨_, rfl⟩
  obtain ⟨ch, hch⟩ : ∃ x, (choiceC (sl, n)).toArray = x := ⟨_, rfl⟩
  have hnp : nameV p = .agg pb := by rw [← hpb]
  have HP := Lib.hid (show pb.size = 8 from by rw [← hpb]; simp [hp])
  have CO := Lib.hid (fun W => Outcomes_nil m hp sl W)
  have CN := Lib.hid (fun fv W => ContainsOut_nil fv W)
  have BQ := Lib.hid (fun W => build_question m sl hp W)
  have CQ := Lib.hid (fun em W => key_question em m sl hp W)
  obtain ⟨qa, hqa⟩ : ∃ x, (quC m p sl).toArray = x := ⟨_, rfl⟩
  have QO := Lib.hid (show qa.all (·.oneCell') = true from by rw [← hqa]; exact quC_one m sl p)
  have QS := Lib.hid (show qa.size = 10 from by rw [← hqa]; simpa using quC_size m sl hp)
  have HC0 := Lib.hid (show ch[0]? = some (.int .i64 sl) from by rw [← hch]; rfl)
  have HCH := Lib.hid hch
  have H5 := Lib.hid h5
  have H7 := Lib.hid h7
  rw [hqa] at BQ CQ
  rw [hnp] at CO BQ ⊢
  rw [hch]
  have OM := Lib.hid (Array.getElem?_eq_some_iff.1 hom).1
  have HB := Lib.hid (((hb.alloc (.cells pb 28)).alloc (.cells ch 64)))
  have HO := Lib.hid (show ((w.alloc (.cells pb 28)).alloc (.cells ch 64)).heap[om]? = some (.map #[] 0) from by
    have h1 : om < w.heap.size := (Array.getElem?_eq_some_iff.1 hom).1
    rw [Below.heap_alloc _ _ om (by simp; omega), Below.heap_alloc _ _ om h1]; exact hom)
  have BV := Lib.hid ((Blk.new w 28 pb).alloc (.cells ch 64))
  have BC := Lib.hid (Blk.new (w.alloc (.cells pb 28)) 64 ch)
  have UV := Lib.hid (((Upd.refl NoF w).alloc (.cells pb 28)).alloc (.cells ch 64))
  obtain ⟨pz, hpz⟩ : ∃ b, w.heap.size = b := ⟨_, rfl⟩
  obtain ⟨cz, hcz⟩ : ∃ b, (w.alloc (.cells pb 28)).heap.size = b := ⟨_, rfl⟩
  have c0 : ((w.alloc (.cells pb 28)).alloc (.cells ch 64)).cell? ⟨cz, 0, none⟩ = some (.int .i64 sl) := by rw [← hcz]; exact (BC.out.cell 0).trans HC0.out
  rw [hpz] at BV
  rw [hcz] at BC
  have HCZ := Lib.hid (show om < cz from by have := OM.out; rw [← hcz]; simp; omega)
  clear hpb hnp hb hom h5 h7 hch
  go_enter Tryz.func91, Tryz.ntmps91
  obtain ⟨W1, hW1⟩ : ∃ x, x = (w.alloc (.cells pb 28)).alloc (.cells ch 64) := ⟨_, rfl⟩
  rw [← hW1] at HB HO BV BC UV c0
  go_wp2_with (first
    | (rw [← hW1]; clear hW1; refine wpList_load_row rfl 28 (.tmp 6) rfl pz 0 rfl pb.toList _ (range_blk (by rw [Array.toArray_toList]; exact BV.out)) Tryz.underlying28 rfl (by rw [name_size]; simp [HP.out]) pb (by simp) ?_)
    | (refine wpList_od (post := fun v w' => v = .agg qa ∧ w' = W1) rfl (od_build 195 _ rfl #[(0, .int .i64 m), (1, .agg pb), (2, .int .i64 sl)] (by simp; exact ⟨rfl, rfl, rfl⟩) (BQ.out _) ⟨rfl, rfl⟩) ?_; rintro v1 w1 ⟨h1, h2⟩; rw [h1, h2])
    | (refine wpList_alloc_row rfl 195 rfl quZ question_alloc ?_; intro W2 hb2 hu2 hs2; have HB2 := Lib.hid hb2; have HU2 := Lib.hid hu2; have HS2 := Lib.hid hs2; clear hb2 hu2 hs2)
    | (refine wpList_store_row rfl 195 (.tmp 9) (.tmp 17) rfl W1.heap.size rfl qa rfl _ _ HB2.out (by rw [QS.out]; rfl) (by rw [question_size, QS.out]) QO.out ?_; intro W3 hb3 hu3 hs3; have HB3 := Lib.hid hb3; have HU3 := Lib.hid hu3; have HS3 := Lib.hid hs3; clear hb3 hu3 hs3))
  have U13 := Lib.hid (HU2.out.trans HU3.out (F := NoF) (fun i hi h => by omega))
  have B3r := Lib.hid (U13.out.blk HB.out (fun f => f))
  have B3v := Lib.hid (U13.out.blk BV.out (fun f => f))
  have B3c := Lib.hid (U13.out.blk BC.out (fun f => f))
  have H3 := Lib.hid ((U13.out.block om (by exact (Array.getElem?_eq_some_iff.1 HO.out).1) (fun f => f)).trans HO.out)
  have H3l := Lib.hid (show om < W3.heap.size from (Array.getElem?_eq_some_iff.1 H3.out).1)
  have U3 := Lib.hid (UV.out.trans U13.out (fun _ _ f => f))
  obtain ⟨qz, hqz⟩ : ∃ b, W1.heap.size = b := ⟨_, rfl⟩
  have B3q := HB3
  rw [hqz] at B3q ⊢
  clear hqz HB HO BV BC UV c0 HB2 HU2 HS2 HB3 HU3 HS3 U13
  go_simp
  refine wp_region_quiet (C := fun wq => Upd NoF W3 wq) (by kernel_rfl) (by kernel_rfl) ((Upd.refl NoF _).drew) ?_
  refine BigFrame.wpQuiet_want (by rfl) (fun K hK => quiet_run (v := .pointer (some ⟨rb, 0, none⟩)) (fun ρ hρ wq hq => ?_) (hK _ ?_))
  · clear hK
    have e0 : ρ (.tmp 0) = .pointer (some ⟨rb, 0, none⟩) := (hρ (.tmp 0)).trans (by rfl)
    go_simp
  clear hK K
  simp only [Act.put, List.setIfInBounds_toArray, List.set_cons_zero, List.set_cons_succ]
  refine BigFrame.wpQuiet_want (by rfl) (fun K hK => quiet_run (v := .pointer (some ⟨rb, 0, none⟩)) (fun ρ hρ wq hq => ?_) (hK _ ?_))
  · clear hK
    have e19 : ρ (.tmp 19) = .pointer (some ⟨rb, 0, none⟩) := (hρ (.tmp 19)).trans (by rfl)
    go_simp
  clear hK K
  simp only [Act.put, List.setIfInBounds_toArray, List.set_cons_zero, List.set_cons_succ]
  refine BigFrame.wpQuiet_want (by rfl) (fun K hK => quiet_run (v := .pointer (some ⟨rb, 7, none⟩)) (fun ρ hρ wq hq => ?_) (hK _ ?_))
  · clear hK
    have e20 : ρ (.tmp 20) = .pointer (some ⟨rb, 0, none⟩) := (hρ (.tmp 20)).trans (by rfl)
    go_simp
  clear hK K
  simp only [Act.put, List.setIfInBounds_toArray, List.set_cons_zero, List.set_cons_succ]
  refine BigFrame.wpQuiet_want (by rfl) (fun K hK => quiet_run (v := .map (some om)) (fun ρ hρ wq hq => ?_) (hK _ ?_))
  · clear hK
    have e21 : ρ (.tmp 21) = .pointer (some ⟨rb, 7, none⟩) := (hρ (.tmp 21)).trans (by rfl)
    have q0 : wq.cell? ⟨rb, 7, none⟩ = some (.map (some om)) := (Blk.cell (hq.blk B3r.out (fun f => f)) 7).trans H7.out
    go_simp
  clear hK K
  simp only [Act.put, List.setIfInBounds_toArray, List.set_cons_zero, List.set_cons_succ]
  refine BigFrame.wpQuiet_want (by rfl) (fun K hK => quiet_run (v := .agg qa) (fun ρ hρ wq hq => ?_) (hK _ ?_))
  · clear hK
    have e9 : ρ (.tmp 9) = .pointer (some ⟨qz, 0, none⟩) := (hρ (.tmp 9)).trans (by rfl)
    simp only [execOp, e9, Sem.run_bind, Sem.run_pure, run_loadAt_mid wq qz 0 195 qa.toList _ (range_blk (by rw [Array.toArray_toList]; exact hq.blk B3q.out (fun f => f))) Tryz.underlying195 rfl (by rw [question_size]; simp [QS.out]), Result.andThen_ok, Array.toArray_toList]
  clear hK K
  simp only [Act.put, List.setIfInBounds_toArray, List.set_cons_zero, List.set_cons_succ]
  refine BigFrame.wpQuiet_want (by rfl) (fun K hK => quiet_run (v := .tuple #[.slice none 0 0, .bool false]) (fun ρ hρ wq hq => ?_) (hK _ ?_))
  · clear hK
    have e22 : ρ (.tmp 22) = .map (some om) := (hρ (.tmp 22)).trans (by rfl)
    have e23 : ρ (.tmp 23) = .agg qa := (hρ (.tmp 23)).trans (by rfl)
    have hrun := run_lookup_empty (P := Tryz.prog) (w := wq) (r := om) (clock := 0) (key := .agg qa) (z := .slice none 0 0) Tryz.underlying146 (by kernel_rfl) ((hq.block om H3l.out (fun f => f)).trans H3.out) (fun em => CQ.out em wq) (by kernel_rfl)
    simp [execOp, e22, e23, hrun]
  clear hK K
  simp only [Act.put, List.setIfInBounds_toArray, List.set_cons_zero, List.set_cons_succ]
  refine BigFrame.wpQuiet_want (by rfl) (fun K hK => quiet_run (v := .tuple #[.slice none 0 0, .bool false]) (fun ρ hρ wq hq => ?_) (hK _ ?_))
  · clear hK
    have e24 : ρ (.tmp 24) = .tuple #[.slice none 0 0, .bool false] := (hρ (.tmp 24)).trans (by rfl)
    go_simp
  clear hK K
  simp only [Act.put, List.setIfInBounds_toArray, List.set_cons_zero, List.set_cons_succ]
  refine BigFrame.wpQuiet_want (by rfl) (fun K hK => quiet_run (v := .slice none 0 0) (fun ρ hρ wq hq => ?_) (hK _ ?_))
  · clear hK
    have e18 : ρ (.tmp 18) = .tuple #[.slice none 0 0, .bool false] := (hρ (.tmp 18)).trans (by rfl)
    go_simp
  clear hK K
  simp only [Act.put, List.setIfInBounds_toArray, List.set_cons_zero, List.set_cons_succ]
  refine BigFrame.wpQuiet_want (by rfl) (fun K hK => quiet_run (v := .bool false) (fun ρ hρ wq hq => ?_) (hK _ ?_))
  · clear hK
    have e18 : ρ (.tmp 18) = .tuple #[.slice none 0 0, .bool false] := (hρ (.tmp 18)).trans (by rfl)
    go_simp
  clear hK K
  simp only [Act.put, List.setIfInBounds_toArray, List.set_cons_zero, List.set_cons_succ]
  refine BigFrame.wpQuiet_want (by rfl) (fun K hK => quiet_run (v := .slice none 0 0) (fun ρ hρ wq hq => ?_) (hK _ ?_))
  · clear hK
    have e25 : ρ (.tmp 25) = .slice none 0 0 := (hρ (.tmp 25)).trans (by rfl)
    go_simp
  clear hK K
  simp only [Act.put, List.setIfInBounds_toArray, List.set_cons_zero, List.set_cons_succ]
  refine BigFrame.wpQuiet_want (by rfl) (fun K hK => quiet_run (v := .bool false) (fun ρ hρ wq hq => ?_) (hK _ ?_))
  · clear hK
    have e26 : ρ (.tmp 26) = .bool false := (hρ (.tmp 26)).trans (by rfl)
    go_simp
  clear hK K
  simp only [Act.put, List.setIfInBounds_toArray, List.set_cons_zero, List.set_cons_succ]
  refine wpQuiet_nil ?_
  intro W4 hW4
  have U34 := Lib.hid hW4
  clear hW4
  go_wp2
  refine wp_region_rgw (rgR [isV (.int .i64 m), isV (.agg pb), isV (.pointer (some ⟨rb, 0, none⟩)), isV (.pointer (some ⟨rb, 0, none⟩)), isV (.pointer (some ⟨rb, 5, none⟩)), isV (.slice none 0 0), isV (.pointer (some ⟨cz, 0, none⟩)), isV (.int .i64 sl), isV (.slice none 0 0), isV (.slice none 0 0)]) (fun w w' => Upd NoF w w') (fun _ wq => Upd NoF W4.drew wq) (by kernel_rfl) (by kernel_rfl) (by kernel_rfl) (by rfl) (fun w => Upd.refl _ _) (rgR_keep (by
    intro p hp; simp only [List.mem_cons, List.not_mem_nil, or_false] at hp; rcases hp with rfl | rfl | rfl | rfl | rfl | rfl | rfl | rfl | rfl | rfl <;> first | exact stb_isV _ | exact stb_any)) (Upd.refl _ _) ?_ ?_
  · refine ⟨?_, ?_, ?_, ?_, ?_, ?_, ?_, ?_, ?_, ?_, trivial⟩
    · refine fun ρ w' L hW hLi hcl hd hdep hext hc hg hf => ?_
      rw [if_pos (show wantedR _ _ _ = true from rfl)]
      have e1 : ρ (.tmp 1) = .int .i64 m := hext 1 (by kernel_rfl)
      clear hdep hext hcl
      have HW := Lib.hid hW
      clear hW
      unfold OpDone
      go_simp
      exact ⟨rfl, Upd.refl _ _, HW.out⟩
    · refine fun ρ w' L hW hLi hcl hd hdep hext hc hg hf => ?_
      rw [if_pos (show wantedR _ _ _ = true from rfl)]
      have e6 : ρ (.tmp 6) = .pointer (some ⟨pz, 0, none⟩) := hext 6 (by kernel_rfl)
      clear hdep hext
      refine od_load_row 28 (.tmp 6) rfl pz 0 e6 pb.toList _ (range_blk (by rw [Array.toArray_toList]; exact hW.blk (Blk.drew (U34.out.blk B3v.out (fun f => f))) (fun f => f))) Tryz.underlying28 rfl (by rw [name_size]; simp [HP.out]) ⟨by rw [Array.toArray_toList]; rfl, Upd.refl _ _, hW⟩
    · refine fun ρ w' L hW hLi hcl hd hdep hext hc hg hf => ?_
      rw [if_pos (show wantedR _ _ _ = true from rfl)]
      have e0 : ρ (.tmp 0) = .pointer (some ⟨rb, 0, none⟩) := hext 0 (by kernel_rfl)
      clear hdep hext hcl
      have HW := Lib.hid hW
      clear hW
      unfold OpDone
      go_simp
      exact ⟨rfl, Upd.refl _ _, HW.out⟩
    · refine fun ρ w' L hW hLi hcl hd hdep hext hc hg hf => ?_
      rw [if_pos (show wantedR _ _ _ = true from rfl)]
      have e31 : ρ (.tmp 31) = .pointer (some ⟨rb, 0, none⟩) := hdep 2 _ rfl (by kernel_rfl)
      clear hdep hext hcl
      have HW := Lib.hid hW
      clear hW
      unfold OpDone
      go_simp
      exact ⟨rfl, Upd.refl _ _, HW.out⟩
    · refine fun ρ w' L hW hLi hcl hd hdep hext hc hg hf => ?_
      rw [if_pos (show wantedR _ _ _ = true from rfl)]
      have e32 : ρ (.tmp 32) = .pointer (some ⟨rb, 0, none⟩) := hdep 3 _ rfl (by kernel_rfl)
      clear hdep hext hcl
      have HW := Lib.hid hW
      clear hW
      unfold OpDone
      go_simp
      exact ⟨rfl, Upd.refl _ _, HW.out⟩
    · refine fun ρ w' L hW hLi hcl hd hdep hext hc hg hf => ?_
      rw [if_pos (show wantedR _ _ _ = true from rfl)]
      have e33 : ρ (.tmp 33) = .pointer (some ⟨rb, 5, none⟩) := hdep 4 _ rfl (by kernel_rfl)
      have q0 : w'.cell? ⟨rb, 5, none⟩ = some (.slice none 0 0) := (Blk.cell (hW.blk (Blk.drew (U34.out.blk B3r.out (fun f => f))) (fun f => f)) 5).trans H5.out
      clear hdep hext hcl
      have HW := Lib.hid hW
      clear hW
      unfold OpDone
      go_simp
      exact ⟨rfl, Upd.refl _ _, HW.out⟩
    · refine fun ρ w' L hW hLi hcl hd hdep hext hc hg hf => ?_
      rw [if_pos (show wantedR _ _ _ = true from rfl)]
      have e7 : ρ (.tmp 7) = .pointer (some ⟨cz, 0, none⟩) := hext 7 (by kernel_rfl)
      clear hdep hext hcl
      have HW := Lib.hid hW
      clear hW
      unfold OpDone
      go_simp
      exact ⟨rfl, Upd.refl _ _, HW.out⟩
    · refine fun ρ w' L hW hLi hcl hd hdep hext hc hg hf => ?_
      rw [if_pos (show wantedR _ _ _ = true from rfl)]
      have e35 : ρ (.tmp 35) = .pointer (some ⟨cz, 0, none⟩) := hdep 6 _ rfl (by kernel_rfl)
      have q0 : w'.cell? ⟨cz, 0, none⟩ = some (.int .i64 sl) := (Blk.cell (hW.blk (Blk.drew (U34.out.blk B3c.out (fun f => f))) (fun f => f)) 0).trans HC0.out
      clear hdep hext hcl
      have HW := Lib.hid hW
      clear hW
      unfold OpDone
      go_simp
      exact ⟨rfl, Upd.refl _ _, HW.out⟩
    · refine fun ρ w' L hW hLi hcl hd hdep hext hc hg hf => ?_
      rw [if_pos (show wantedR _ _ _ = true from rfl)]
      have e29 : ρ (.tmp 29) = .int .i64 m := hdep 0 _ rfl (by kernel_rfl)
      have e30 : ρ (.tmp 30) = .agg pb := hdep 1 _ rfl (by kernel_rfl)
      have e34 : ρ (.tmp 34) = .slice none 0 0 := hdep 5 _ rfl (by kernel_rfl)
      have e36 : ρ (.tmp 36) = .int .i64 sl := hdep 7 _ rfl (by kernel_rfl)
      clear hdep hext
      have CQ := Lib.hid (CO.out w')
      have HW := Lib.hid hW
      clear hW
      unfold OpDone
      go_simp
      refine CQ.out.mono ?_
      rintro e w2 ⟨rfl, hu2⟩
      exact ⟨_, rfl, rfl, hu2, HW.out.trans hu2 (fun _ _ f => f)⟩
    · refine fun ρ w' L hW hLi hcl hd hdep hext hc hg hf => ?_
      rw [if_pos (show wantedR _ _ _ = true from rfl)]
      have e37 : ρ (.tmp 37) = .slice none 0 0 := hdep 8 _ rfl (by kernel_rfl)
      clear hdep hext hcl
      have HW := Lib.hid hW
      clear hW
      unfold OpDone
      go_simp
      exact ⟨rfl, Upd.refl _ _, HW.out⟩
  intro vs W5 L5 hL5 hW5 hR
  have hv0 : vs 0 = .int .i64 m := hR 0 _ rfl
  have hv1 : vs 1 = .agg pb := hR 1 _ rfl
  have hv2 : vs 2 = .pointer (some ⟨rb, 0, none⟩) := hR 2 _ rfl
  have hv3 : vs 3 = .pointer (some ⟨rb, 0, none⟩) := hR 3 _ rfl
  have hv4 : vs 4 = .pointer (some ⟨rb, 5, none⟩) := hR 4 _ rfl
  have hv5 : vs 5 = .slice none 0 0 := hR 5 _ rfl
  have hv6 : vs 6 = .pointer (some ⟨cz, 0, none⟩) := hR 6 _ rfl
  have hv7 : vs 7 = .int .i64 sl := hR 7 _ rfl
  have hv8 : vs 8 = .slice none 0 0 := hR 8 _ rfl
  have hv9 : vs 9 = .slice none 0 0 := hR 9 _ rfl
  simp only [putAll, Act.put, List.setIfInBounds_toArray, List.set_cons_zero, List.set_cons_succ, hv0, hv1, hv2, hv3, hv4, hv5, hv6, hv7, hv8, hv9]
  clear hR hv0 hv1 hv2 hv3 hv4 hv5 hv6 hv7 hv8 hv9
  have U35 := Lib.hid (show Upd NoF W3 W5 from (U34.out.drew).trans hW5 (fun _ _ f => f))
  clear hW5 hL5 U34
  go_wp2
  refine wp_region_rgl (rgR [isV (.pointer (some ⟨rb, 0, none⟩)), isV (.pointer (some ⟨rb, 0, none⟩)), isV (.pointer (some ⟨rb, 7, none⟩)), isV (.map (some om)), isV (.agg qa), isV (.slice none 0 0), anyV]) (StA) (QPh W5.drew om) (by kernel_rfl) (by kernel_rfl) (by kernel_rfl) (by rfl) (fun L w => StA.any) (rgR_keepL ⟨stbL_isV _, stbL_isV _, stbL_isV _, stbL_isV _, stbL_isV _, stbL_isV _, stbL_any, trivial⟩) (QPh.start) ?_ ?_
  · refine ⟨?_, ?_, ?_, ?_, ?_, ?_, ?_, trivial⟩
    · refine fun ρ w' L hW hLi hcl hd hdep hext hc hg hf => ?_
      rw [if_pos (show wantedR _ _ _ = true from rfl)]
      have e0 : ρ (.tmp 0) = .pointer (some ⟨rb, 0, none⟩) := hext 0 (by kernel_rfl)
      clear hdep hext hcl
      have HW := Lib.hid hW
      clear hW
      unfold OpDone
      go_simp
      exact ⟨rfl, StA.any, (HW.out.same (by decide))⟩
    · refine fun ρ w' L hW hLi hcl hd hdep hext hc hg hf => ?_
      rw [if_pos (show wantedR _ _ _ = true from rfl)]
      have e38 : ρ (.tmp 38) = .pointer (some ⟨rb, 0, none⟩) := hdep 0 _ rfl (by kernel_rfl)
      clear hdep hext hcl
      have HW := Lib.hid hW
      clear hW
      unfold OpDone
      go_simp
      exact ⟨rfl, StA.any, (HW.out.same (by decide))⟩
    · refine fun ρ w' L hW hLi hcl hd hdep hext hc hg hf => ?_
      rw [if_pos (show wantedR _ _ _ = true from rfl)]
      have e39 : ρ (.tmp 39) = .pointer (some ⟨rb, 0, none⟩) := hdep 1 _ rfl (by kernel_rfl)
      clear hdep hext hcl
      have HW := Lib.hid hW
      clear hW
      unfold OpDone
      go_simp
      exact ⟨rfl, StA.any, (HW.out.same (by decide))⟩
    · refine fun ρ w' L hW hLi hcl hd hdep hext hc hg hf => ?_
      rw [if_pos (show wantedR _ _ _ = true from rfl)]
      have e40 : ρ (.tmp 40) = .pointer (some ⟨rb, 7, none⟩) := hdep 2 _ rfl (by kernel_rfl)
      have h6 : L 6 = false := by
        cases h : L 6 with
        | false => rfl
        | true => exact absurd (hcl 6 3 h (by kernel_rfl)) (by rw [hLi]; decide)
      have hv := hW.u0 h6
      have q0 : w'.cell? ⟨rb, 7, none⟩ = some (.map (some om)) := (Blk.cell (hv.blk (Blk.drew (U35.out.blk B3r.out (fun f => f))) (fun f => f)) 7).trans H7.out
      clear hv h6
      clear hdep hext hcl
      have HW := Lib.hid hW
      clear hW
      unfold OpDone
      go_simp
      exact ⟨rfl, StA.any, (HW.out.same (by decide))⟩
    · refine fun ρ w' L hW hLi hcl hd hdep hext hc hg hf => ?_
      rw [if_pos (show wantedR _ _ _ = true from rfl)]
      have e9 : ρ (.tmp 9) = .pointer (some ⟨qz, 0, none⟩) := hext 9 (by kernel_rfl)
      clear hdep hext
      have h6 : L 6 = false := by
        cases h : L 6 with
        | false => rfl
        | true => exact absurd (hcl 6 4 h (by kernel_rfl)) (by rw [hLi]; decide)
      refine od_load_row 195 (.tmp 9) rfl qz 0 e9 qa.toList _ (range_blk (by rw [Array.toArray_toList]; exact (hW.u0 h6).blk (Blk.drew (U35.out.blk B3q.out (fun f => f))) (fun f => f))) Tryz.underlying195 rfl (by rw [question_size]; simp [QS.out]) ⟨by rw [Array.toArray_toList]; rfl, StA.any, hW.same (by decide)⟩
    · refine fun ρ w' L hW hLi hcl hd hdep hext hc hg hf => ?_
      rw [if_pos (show wantedR _ _ _ = true from rfl)]
      have e10 : ρ (.tmp 10) = .slice none 0 0 := hext 10 (by kernel_rfl)
      clear hdep hext hcl
      have HW := Lib.hid hW
      clear hW
      unfold OpDone
      go_simp
      exact ⟨rfl, StA.any, (HW.out.same (by decide))⟩
    · refine fun ρ w' L hW hLi hcl hd hdep hext hc hg hf => ?_
      rw [if_pos (show wantedR _ _ _ = true from rfl)]
      have e41 : ρ (.tmp 41) = .map (some om) := hdep 3 _ rfl (by kernel_rfl)
      have e42 : ρ (.tmp 42) = .agg qa := hdep 4 _ rfl (by kernel_rfl)
      have e43 : ρ (.tmp 43) = .slice none 0 0 := hdep 5 _ rfl (by kernel_rfl)
      clear hdep hext
      have hv := hW.u0 hLi
      have hb := (hv.block om (by have := H3l.out; have := U35.out.size; simp; omega) (fun f => f)).trans ((U35.out.block om (by have := H3l.out; simpa using this) (fun f => f)).trans H3.out)
      have hrun := run_update_first (P := Tryz.prog) (w := w') (r := om) (clock := 0) (key := .agg qa) (val := .slice none 0 0) Tryz.underlying146 (by kernel_rfl) hb (fun em => CQ.out em w')
      refine od_update 146 (.tmp 41) (.tmp 42) (.tmp 43) rfl (by rw [e41, e42, e43]; exact hrun) ⟨trivial, StA.any, hW.put hb⟩
  intro vs W6 L6 hL6 hW6 hR
  have hv0 : vs 0 = .pointer (some ⟨rb, 0, none⟩) := hR 0 _ rfl
  have hv1 : vs 1 = .pointer (some ⟨rb, 0, none⟩) := hR 1 _ rfl
  have hv2 : vs 2 = .pointer (some ⟨rb, 7, none⟩) := hR 2 _ rfl
  have hv3 : vs 3 = .map (some om) := hR 3 _ rfl
  have hv4 : vs 4 = .agg qa := hR 4 _ rfl
  have hv5 : vs 5 = .slice none 0 0 := hR 5 _ rfl
  simp only [putAll, Act.put, List.setIfInBounds_toArray, List.set_cons_zero, List.set_cons_succ, hv0, hv1, hv2, hv3, hv4, hv5]
  clear hR hv0 hv1 hv2 hv3 hv4 hv5
  have U36 := Lib.hid (show Upd (fun i => i = om) W3 W6 from (((U35.out.drew).mono (G := fun i => i = om) (fun _ _ f => f.elim)).trans hW6.u1 (fun _ _ f => f)))
  clear hW6 hL6 U35
  have B6 := Lib.hid (U36.out.blk B3c.out (fun f => by have := HCZ.out; omega))
  have U06 := Lib.hid ((U3.out.mono (G := fun i => i = om) (fun _ _ f => f.elim)).trans U36.out (fun _ _ f => f))
  rw [← HCH.out] at B6
  have hE := eql_name' hn (b := List.replicate 8 0) (by simp)
  obtain ⟨nb, hnb⟩ : ∃ x, (n.map byteV).toArray = x := ⟨_, rfl⟩
  have hzb : nameV (List.replicate 8 0) = .agg #[.int .u8 0, .int .u8 0, .int .u8 0, .int .u8 0, .int .u8 0, .int .u8 0, .int .u8 0, .int .u8 0] := by rfl
  obtain ⟨d, hd⟩ : ∃ d, d = decide (n = List.replicate 8 0) := ⟨_, rfl⟩
  rw [← hd, show nameV n = .agg nb from by rw [← hnb], hzb] at hE
  have HNB := Lib.hid hnb
  have HN := Lib.hid hn
  clear hd hzb hnb hn U36 U3 H3 H3l B3r B3v B3c B3q CO BQ CQ QO QS HC0 H5 H7 HCH
  cases d <;>
  · go_wp2_with (first
      | (refine wpList_load_row rfl 28 (.tmp 44) rfl cz 1 rfl (n.map byteV) _ (by first | exact range_choice (B6.out.alloc _) | exact range_choice ((B6.out.alloc _).far (by have := B6.out.lt; simp; omega) _)) Tryz.underlying28 rfl (by rw [name_size]; simp [HN.out]) nb HNB.out ?_)
      | (refine (CN.out _ _).mono ?_; rintro e w2 ⟨rfl, hu2⟩))
    go_ret
    refine ⟨rfl, ?_⟩
    have hs6 := U06.out.size
    first
      | exact (U06.out.alloc _).trans hu2 (fun _ _ f => f.elim)
      | exact ((U06.out.alloc _).setCell (.inr hs6) _).trans hu2 (fun _ _ f => f.elim)
      | exact (((U06.out.alloc _).setCell (.inr hs6) _).setCell (.inr hs6) _).trans hu2 (fun _ _ f => f.elim)
end

section
open Go.RowKit Go.Shelf Go.Lib Go.Sort

theorem Block1_true (z : Int) (n : List UInt8) (w : World) : Calls Tryz.prog 90 #[.agg (choiceC (z, n)).toArray, .int .i64 z] w fun e w' => e = .returned (.bool true) ∧ Upd NoF w w' := by
  obtain ⟨ch, hch⟩ : ∃ x, (choiceC (z, n)).toArray = x := ⟨_, rfl⟩
  have h0 : ch[0]? = some (.int .i64 z) := by rw [← hch]; rfl
  rw [hch]
  have c0 : (w.alloc (.cells ch 64)).cell? ⟨w.heap.size, 0, none⟩ = some (.int .i64 z) := ((Blk.new w 64 ch).cell 0).trans h0
  have U := Lib.hid ((Upd.refl NoF w).alloc (.cells ch 64))
  clear hch h0
  go_enter Tryz.func90, Tryz.ntmps90
  go_wp2
  go_ret
  exact ⟨by simp, U.out⟩

def chZ : Array Value := (choiceC (0, List.replicate 8 0)).toArray
theorem choice_alloc (w : World) : (Instr.alloc 64 true (.tuple #[])).run Tryz.prog w = .ok (.pointer (some ⟨w.heap.size, 0, none⟩)) (w.alloc (.cells chZ 64)) := by kernel_rfl

set_option maxRecDepth 100000 in
set_option maxHeartbeats 4000000 in
theorem EqualInts_true {w : World} {A B : Option Addr} {n c c' : Nat} {l : List (Int × List UInt8)} (hl : l.length = n) (hr : ChR w (.slice A n c) l) (hi : Rd w 1 (.slice B n c') n (l.map fun x => .int .i64 x.1)) :
    Calls Tryz.prog 89 #[.slice A n c, .slice B n c', .func (.func 90) #[] #[]] w fun e w' => e = .returned (.bool true) ∧ Upd NoF w w' := by
  obtain ⟨hnm8, hrd⟩ := hr
  rw [hl] at hrd
  have hnm : n ≤ maxLen := hrd.le
  unfold maxLen at hnm
  have HR := Lib.hid hrd
  have HI := Lib.hid hi
  have HL := Lib.hid hl
  have H8 := Lib.hid hnm8
  have HKR := Lib.hid (show ∀ r ∈ l.map choiceC, r.length = 9 from fun r h => by
    obtain ⟨x, hx, rfl⟩ := List.mem_map.1 h
    simp [choiceC, hnm8 x hx])
  have CB := Lib.hid (fun z n W => Block1_true z n W)
  obtain ⟨kk, hkk⟩ : ∃ k, k = 9 := ⟨_, rfl⟩
  have HK := Lib.hid hkk
  have aE : ∀ w, (isAgg 64).run Tryz.prog w = .ok true w := fun w => by kernel_rfl
  have zE : ∀ w, (Go.sizeOf 64).run Tryz.prog w = .ok 9 w := fun w => by kernel_rfl
  rw [← hkk] at zE
  clear hrd hi hl hnm8 hkk
  go_enter Tryz.func89, Tryz.ntmps89
  go_wp2
  go_loopg [17] n (fun kx s17 wr => ∃ k : Nat, s17 = .int .i64 (k : Int) ∧ k ≤ n ∧ n - k ≤ kx ∧ Hid (Upd NoF w wr))
  case atStart => exact ⟨0, rfl, by omega, by omega, Lib.hid (Upd.refl _ _)⟩
  case round =>
    obtain ⟨k, rfl, hkn, hkx, HU⟩ := hrel
    by_cases hlt : k < n
    · have hltz : (k : Int) < (n : Int) := by omega
      obtain ⟨x, hx⟩ : ∃ x, l[k]? = some x := ⟨_, List.getElem?_eq_getElem (by have := HL.out; omega)⟩
      obtain ⟨z, nm⟩ := x
      obtain ⟨g0, o0, rfl, hrg⟩ := rows_at HKR.out (HR.out.keep HU.out) (by rw [List.getElem?_map, hx]; rfl) hlt
      rw [← HK.out] at hrg
      have HRG := Lib.hid hrg
      have h8 : nm.length = 8 := H8.out _ (List.mem_of_getElem? hx)
      have HL9 := Lib.hid (show (choiceC (z, nm)).length = 9 from by simp [choiceC, h8])
      obtain ⟨B', c'', e, h1, h2, h3, h4⟩ := HI.out.keep HU.out
      injection e with e1 e2 e3
      subst e1; subst e3
      obtain ⟨g1, o1, rfl, hci⟩ := h4 (by omega)
      have cI : wr.cell? ⟨g1, o1 + k, none⟩ = some (.int .i64 z) := hci k _ (by rw [List.getElem?_map, hx]; rfl)
      have H2 := Lib.hid (And.intro h1 (And.intro h2 h3))
      have CP := Lib.hid (fun W => CB.out z nm W)
      obtain ⟨ra, hra⟩ : ∃ x, (choiceC (z, nm)).toArray = x := ⟨_, rfl⟩
      have HO := Lib.hid (show ra.all (·.oneCell') = true from by rw [← hra, Array.all_eq_true_iff_forall_mem]; exact fun u hu => choice_one z nm u (by simpa using hu))
      have HS := Lib.hid (show ra.size = 9 from by rw [← hra]; simpa using HL9.out)
      rw [hra] at CP
      have HRA := Lib.hid hra
      have hkt : ((k : Int)).toNat = k := by omega
      clear hx hrg hra hci h1 h2 h3 h4 h8
      have HSZ := Lib.hid (show (Tryz.prog.info? 64).map (·.size) = some 9 from by kernel_rfl)
      have CI := Lib.hid cI
      clear cI
      go_wp2_with (first
        | (refine wpList_load_row rfl 64 (.tmp 20) rfl g0 (o0 + k * kk) rfl (choiceC (z, nm)) _ HRG.out Tryz.underlying64 rfl (by rw [HSZ.out, HL9.out]) ra HRA.out ?_)
        | (refine wpList_alloc_row rfl 64 rfl chZ choice_alloc ?_; intro W2 hb2 hu2 hs2; have HB2 := Lib.hid hb2; have HU2 := Lib.hid hu2; have HS2 := Lib.hid hs2; clear hb2 hu2 hs2)
        | (refine wpList_store_row rfl 64 (.tmp 8) (.tmp 21) rfl wr.heap.size rfl ra rfl _ _ HB2.out (by rw [HS.out]; rfl) (by rw [HSZ.out, HS.out]) HO.out ?_; intro W3 hb3 hu3 hs3; have HB3 := Lib.hid hb3; have HU3 := Lib.hid (HU2.out.trans hu3 (F := NoF) (fun i hi h => by omega)); have cI3 := HU3.out.cell CI.out (fun f => f); clear hb3 hu3 hs3)
        | (refine wpList_load_row rfl 64 (.tmp 8) rfl wr.heap.size 0 rfl ra.toList _ (range_blk (by rw [Array.toArray_toList]; exact HB3.out)) Tryz.underlying64 rfl (by rw [HSZ.out]; simp [HS.out]) ra (by simp) ?_)
        | (refine (CP.out _).mono ?_; rintro e w' ⟨rfl, hu'⟩; have HU' := Lib.hid ((HU.out.trans HU3.out (fun _ _ f => f)).trans hu' (fun _ _ f => f)); clear hu'))
      go_roundg (n - (k + 1))
      case measure => omega
      case rel => exact ⟨k + 1, by first | rfl | go_num, by omega, by omega, HU'⟩
    · have hltz : ¬ (k : Int) < (n : Int) := by omega
      obtain rfl : k = n := by omega
      go_wp2
      go_ret
      exact ⟨rfl, HU.out⟩
end

section
open Go.RowKit Go.Shelf Go.Lib Go.Sort

theorem NewReader_nil (g0 g1 g2 g3 g4 : Value) (w : World) : Calls Tryz.prog 53 #[.agg #[g0, g1, g2, g3, g4], .agg #[.slice none 0 0, .int .i64 0, .slice none 0 0]] w fun e w' => ∃ rb tm om, e = .returned (.pointer (some ⟨rb, 0, none⟩)) ∧ Upd NoF w w' ∧ w.heap.size ≤ om ∧ w.heap.size ≤ rb ∧ Blk w' rb 148 #[g0, g1, g2, g3, g4, .slice none 0 0, .map (some tm), .map (some om)] ∧ w'.heap[om]? = some (.map #[] 0) := by
  have hmm := @run_makeMap Tryz.prog
  obtain ⟨Wa, hWa⟩ : ∃ x, x = ((w.alloc (.cells #[g0, g1, g2, g3, g4] 25)).alloc (.cells #[.slice none 0 0, .int .i64 0, .slice none 0 0] 60)).alloc (.map #[] 0) := ⟨_, rfl⟩
  have hsa : Wa.heap.size = w.heap.size + 1 + 1 + 1 := by rw [hWa]; simp
  obtain ⟨R, hR⟩ : ∃ x : Array Value, x = #[g0, g1, g2, g3, g4, .slice none 0 0, .map (some (w.heap.size + 1 + 1)), .map (some (w.heap.size + 1 + 1 + 1))] := ⟨_, rfl⟩
  obtain ⟨W5, hW5⟩ : ∃ x, x = (Wa.alloc (.map #[] 0)).alloc (.cells R 148) := ⟨_, rfl⟩
  have BR := Lib.hid (show Blk W5 (w.heap.size + 1 + 1 + 1 + 1) 148 R from by
    rw [hW5, show w.heap.size + 1 + 1 + 1 + 1 = (Wa.alloc (.map #[] 0)).heap.size from by rw [World.size_alloc, hsa]]
    exact Blk.new _ _ _)
  have HO := Lib.hid (show W5.heap[w.heap.size + 1 + 1 + 1]? = some (.map #[] 0) from by
    rw [hW5, Below.heap_alloc _ _ _ (by rw [World.size_alloc, hsa]; omega), ← hsa]
    exact World.alloc_heap_new Wa _)
  have U5 := Lib.hid (show Upd NoF w W5 from by
    rw [hW5, hWa]
    exact (((((Upd.refl NoF w).alloc _).alloc _).alloc _).alloc _).alloc _)
  rw [hWa, hR] at hW5
  rw [hR] at BR
  clear hWa hR hsa
  go_enter Tryz.func53, Tryz.ntmps53
  go_wp2
  rw [← hW5]
  clear hW5 hmm
  go_loopg [21] 0 (fun kx s21 wr => s21 = .int .i64 0 ∧ Hid (Upd NoF W5 wr))
  case atStart => exact ⟨rfl, Lib.hid (Upd.refl _ _)⟩
  case round =>
    obtain ⟨rfl, U⟩ := hrel
    go_wp2
    go_ret
    exact ⟨_, _, _, rfl, U5.out.trans U.out (fun _ _ f => f), by omega, by omega, U.out.blk BR.out (fun f => f), (U.out.block _ (by exact (Array.getElem?_eq_some_iff.1 HO.out).1) (fun f => f)).trans HO.out⟩
end

section
open Go.RowKit

theorem build_block0 (w : World) : (Instr.build 67 #[]).run Tryz.prog w = .ok (.agg (blkC (List.replicate 8 0) (.slice none 0 0)).toArray) w := by kernel_rfl
theorem wpList_build_block0 {ops : Array Oper} {rest : List Oper} {o : Oper} {a : Act} {w : World} {Q : Exit → Act → World → Prop} (hgd : o.guard = none) (ho : o.op = .build 67 #[]) (z : Array Value) (hz : (blkC (List.replicate 8 0) (.slice none 0 0)).toArray = z)
    (hk : wpList Tryz.prog ops Q rest (a.put o.dst (.agg z)) w) : wpList Tryz.prog ops Q (o :: rest) a w := by
  subst hz
  exact wpList_od (post := fun v w' => wpList Tryz.prog ops Q rest (a.put o.dst v) w') hgd (od_build 67 _ ho #[] (by simp) (build_block0 w) hk) (fun _ _ h => h)
def DecBad (w : World) (e : Ending) (w' : World) : Prop := e = .returned (.tuple #[.agg (blkC (List.replicate 8 0) (.slice none 0 0)).toArray, .int .i64 4]) ∧ Upd NoF w w'
set_option maxRecDepth 100000 in
set_option maxHeartbeats 16000000 in
theorem DecodeBlock_bad {w : World} {v : Value} (h : Rd w 1 v ([3] : List UInt8).length (([3] : List UInt8).map byteV)) : Calls Tryz.prog 87 #[v] w (DecBad w) := by
  obtain ⟨A, c, rfl, hlc, hcm⟩ := h.slice
  have H := Lib.hid h
  obtain ⟨pb, hpb⟩ : ∃ x, ((List.replicate 8 (0 : UInt8)).map byteV).toArray = x := ⟨_, rfl⟩
  have HPB := Lib.hid hpb
  obtain ⟨zb, hzb⟩ : ∃ x, (blkC (List.replicate 8 0) (.slice none 0 0)).toArray = x := ⟨_, rfl⟩
  have HZB := Lib.hid hzb
  have HZS := Lib.hid (show zb.size = 9 ∧ (Tryz.prog.info? 67).map (·.size) = some zb.size ∧ zb.all (·.oneCell') = true from by rw [← hzb]; exact ⟨rfl, by kernel_rfl, blk_one _ none 0 0⟩)
  clear h hcm hpb hzb
  go_enter Tryz.func87, Tryz.ntmps87
  go_wp2_with (first
    | (refine wpList_alloc_row rfl 67 rfl (blkC (List.replicate 8 0) (.slice none 0 0)).toArray alloc_block ?_; intro w1 hb1 hu1 hs1; have B1 := Lib.hid hb1; have V1 := Lib.hid hu1; have S1 := Lib.hid hs1; clear hb1 hu1 hs1))
  refine (open_ok (l := []) (H.out.keep V1.out) 3 rfl (by omega)).mono ?_
  rintro e w2 ⟨g, Ag, cg, rfl, hc2, hr2, hg2, hu2⟩
  have V2 := Lib.hid (V1.out.trans hu2 (fun _ _ f => f))
  have B2 := Lib.hid (hu2.blk B1.out (fun f => f))
  have C2 := Lib.hid hc2
  have R2 := Lib.hid (hr2 w2 hu2)
  have HGR := Lib.hid (show w.heap.size < g from by have := S1.out; omega)
  have cn := curName_bad hc2 (.inr (by decide)) (by decide) (by decide)
  unfold NameBad at cn
  rw [show nameV (List.replicate 8 0) = .agg pb from by rw [← HPB.out]] at cn
  have CN := Lib.hid cn
  clear hc2 hr2 hg2 hu2 cn
  go_wp2_with fail
  refine CN.out.mono ?_
  rintro e w3 ⟨rfl, hc3, hu3⟩
  have V3 := Lib.hid (V2.out.trans hu3 (fun k hk e => by have := HGR.out; have e : k = g := e; omega))
  have B3 := Lib.hid (hu3.blk B2.out (fun e => by have := HGR.out; have e : w.heap.size = g := e; omega))
  have C3 := Lib.hid hc3
  clear hc3 CN hu3
  go_wp2_with (first
    | (refine wpList_build_block rfl (.tmp 9) rfl (n := List.replicate 8 0) (by simp) pb HPB.out rfl zb HZB.out ?_)
    | (refine wpList_alloc_row rfl 67 rfl (blkC (List.replicate 8 0) (.slice none 0 0)).toArray alloc_block ?_; intro w4 hb4 hu4 hs4; have B4 := Lib.hid hb4; have V4 := Lib.hid hu4; have S4 := Lib.hid hs4; clear hb4 hu4 hs4)
    | (refine wpList_store_row rfl 67 (.tmp 5) (.tmp 10) rfl w3.heap.size rfl zb rfl 67 _ B4.out (by rw [HZB.out]) HZS.out.2.1 HZS.out.2.2 ?_; intro w5 hb5 hu5 hs5; have B5 := Lib.hid hb5; have V5 := Lib.hid hu5; have S5 := Lib.hid hs5; clear hb5 hu5 hs5))
  have W5 := Lib.hid (show Upd NoF w w5 from (V3.out.trans V4.out (fun _ _ f => f)).trans V5.out (fun k hk e => by have := V3.out.size; have e : k = w3.heap.size := e; omega))
  have C5 := Lib.hid (show CurB w5 g (.slice Ag 0 cg) 0 true from V5.out.blk (V4.out.blk C3.out (fun f => f)) (fun e => by have := C3.out.lt; have e : g = w3.heap.size := e; omega))
  have Z5 := Lib.hid (V5.out.blk (V4.out.blk B3.out (fun f => f)) (fun e => by have := B3.out.lt; have e : w.heap.size = w3.heap.size := e; omega))
  have CU := Lib.hid (curUintK_bad (k := 1) (bs := []) (by omega) (by omega) C5.out (by obtain ⟨A', c', e1, e2, e3, -⟩ := R2.out; injection e1 with e4 e5 e6; rw [e4, e6]; exact Rd.of0' w5 1 e3) (by decide) (by decide))
  go_wp2_with fail
  refine CU.out.mono ?_
  rintro e w6 ⟨rfl, hc6, hu6⟩
  have W6 := Lib.hid (W5.out.trans hu6 (fun k hk e => by have := HGR.out; have e : k = g := e; omega))
  have Z6 := Lib.hid (hu6.blk Z5.out (fun e => by have := HGR.out; have e : w.heap.size = g := e; omega))
  have CD := Lib.hid (curDone_any (A := Ag) (n := 0) (c := cg) (a := 0) (bad := true) hc6)
  rw [show (!true && decide (0 = 0)) = false from rfl] at CD
  clear hc6 hu6 CU C5 Z5 W5 B5 V5 S5 B4 V4 S4 B3 V3 C3 B2 V2 C2 R2 B1 V1 S1 H
  go_wp2
  go_loopg [13] 0 (fun kx s13 wr => s13 = .int .i64 0 ∧ Hid (wr = w6))
  case atStart => exact ⟨rfl, Lib.hid rfl⟩
  case round =>
    obtain ⟨rfl, HW⟩ := hrel
    obtain rfl := HW.out
    go_wp2_with fail
    refine CD.out.mono ?_
    rintro e w7 ⟨rfl, hu7⟩
    have W7 := Lib.hid (W6.out.trans hu7 (fun _ _ f => f))
    have Z7 := Lib.hid (hu7.blk Z6.out (fun f => f))
    clear hu7
    go_wp2_with (first
      | (refine wpList_build_block0 rfl rfl zb HZB.out ?_)
      | (refine wpList_store_row rfl 67 (.tmp 2) (.tmp 34) rfl w.heap.size rfl zb rfl 67 _ Z7.out (by rw [HZB.out]) HZS.out.2.1 HZS.out.2.2 ?_; intro w9 hb9 hu9 hs9))
    refine bodyPost_ret (results_cell_tmp Tryz.results87 _ _ w.heap.size zb.toList _ rfl (range_blk (by rw [Array.toArray_toList]; exact hb9)) Tryz.underlying67 rfl (by rw [Array.length_toList]; exact HZS.out.2.1)) rfl ?_
    exact ⟨by rw [HZB.out]; simp, W7.out.trans hu9 (fun j hj f => by have f : j = w.heap.size := f; omega)⟩
end

section
open Go.RowKit Go.Shelf Go.Lib Go.Sort

noncomputable def itZ : Array Value := match (Tryz.prog.info? 38).bind (·.zero) with | some (.agg z) => z | _ => #[]
theorem itZ_size : itZ.size = 28 := by kernel_rfl
theorem itZ_one : itZ.all (·.oneCell') = true := by kernel_rfl
theorem item_alloc (w : World) : (Instr.alloc 38 true (.tuple #[])).run Tryz.prog w = .ok (.pointer (some ⟨w.heap.size, 0, none⟩)) (w.alloc (.cells itZ 38)) := by kernel_rfl
set_option maxRecDepth 100000 in
set_option maxHeartbeats 4000000 in
theorem ReaderBlock_bad {w : World} {v : Value} (R L : Value) (h : Rd w 1 v ([3] : List UInt8).length (([3] : List UInt8).map byteV)) : Calls Tryz.prog 54 #[R, L, v] w fun e w' => e = .returned (.tuple #[.agg itZ, .int .i64 4]) ∧ Upd NoF w w' := by
  have H := Lib.hid h
  have CD := Lib.hid (fun W (hu : Upd NoF w W) => DecodeBlock_bad (w := W) (v := v) (h.keep hu))
  obtain ⟨zb, hzb⟩ : ∃ x, (blkC (List.replicate 8 0) (.slice none 0 0)).toArray = x := ⟨_, rfl⟩
  have HZB := Lib.hid hzb
  have HZS := Lib.hid (show zb.size = 9 ∧ (Tryz.prog.info? 67).map (·.size) = some zb.size ∧ zb.all (·.oneCell') = true from by rw [← hzb]; exact ⟨rfl, by kernel_rfl, blk_one _ none 0 0⟩)
  have IA := Lib.hid item_alloc
  have IO := Lib.hid itZ_one
  have IS := Lib.hid (show (Tryz.prog.info? 38).map (·.size) = some itZ.size from by rw [itZ_size, item_size])
  obtain ⟨iz, hiz⟩ : ∃ x, itZ = x := ⟨_, rfl⟩
  rw [hiz] at IA IO IS ⊢
  have HIZ := Lib.hid hiz
  clear h hzb hiz
  go_enter Tryz.func54, Tryz.ntmps54
  go_wp2_with (first
    | (refine wpList_alloc_row rfl 38 rfl iz IA.out ?_; intro w1 hb1 hu1 hs1; have B1 := Lib.hid hb1; have V1 := Lib.hid hu1; have S1 := Lib.hid hs1; clear hb1 hu1 hs1)
    | (refine (CD.out _ V1.out).mono ?_; rintro e w2 ⟨he, hu2⟩; rw [HZB.out] at he; subst he; have B2 := Lib.hid (hu2.blk B1.out (fun f => f)); have V2 := Lib.hid (V1.out.trans hu2 (fun _ _ f => f)); clear hu2)
    | (refine wpList_alloc_row rfl 67 rfl (blkC (List.replicate 8 0) (.slice none 0 0)).toArray alloc_block ?_; intro w4 hb4 hu4 hs4; have B4 := Lib.hid hb4; have V4 := Lib.hid hu4; have S4 := Lib.hid hs4; clear hb4 hu4 hs4)
    | (refine wpList_store_row rfl 67 (.tmp 8) (.tmp 25) rfl w2.heap.size rfl zb rfl 67 _ B4.out (by rw [HZB.out]) HZS.out.2.1 HZS.out.2.2 ?_; intro w5 hb5 hu5 hs5; have V5 := Lib.hid (V4.out.trans hu5 (F := NoF) (fun k hk e => by have e : k = w2.heap.size := e; omega)); have B5 := Lib.hid (V5.out.blk B2.out (fun f => f)); clear hb5 hu5 hs5)
    | (refine wpList_store_row rfl 38 (.tmp 6) (.tmp 29) rfl w.heap.size rfl iz (by rw [← HIZ.out]; kernel_rfl) 38 _ B5.out rfl IS.out IO.out ?_; intro w9 hb9 hu9 hs9))
  refine bodyPost_ret (results_cell_tmp Tryz.results54 _ _ w.heap.size iz.toList _ rfl (range_blk (by rw [Array.toArray_toList]; exact hb9)) Tryz.underlying38 rfl (by rw [Array.length_toList]; exact IS.out)) rfl ?_
  exact ⟨by simp, (V2.out.trans V5.out (fun _ _ f => f)).trans hu9 (fun j hj f => by have f : j = w.heap.size := f; omega)⟩
end
end Go.Proofs.YtengcmfdfmnacaaGreat
