/- General words on memory for the proofs of this seat: a block known whole, what may have been written, slices that read as lists, slices that own their block, append. No condition. From a contract 'it returns true and turns nothing that was there' to the row of a statement. No condition. Abstract values and objects, and what they say of a world: immutable trees, objects that may be written, handles of objects. No condition. States that are left by single moves: a new object, cells stored into an object, an object given up or frozen. No condition. -/
import Derived.WalkKit
import Derived.WalkLawsBesides
import Derived.Below
import Derived.Laws.OwnMore
import Derived.Deep.Draws
import Derived.Test.YthknobbilcolnaaGreatRows
import Derived.ProofKit
import Derived.OpenShut
import Derived.Carry
import Derived.Deep.MidRow
import Derived.Laws.CopyRow
namespace Go.Proofs.YthknobbilcolnaaGreat
section
open Go.RowKit

abbrev byteV (b : UInt8) : Value := .int .u8 b.toNat
abbrev strV (l : List UInt8) : Value := .string ⟨l.toArray⟩

/-! ### blocks known whole -/
def Blk (w : World) (g : Nat) (t : TypeId) (cs : Array Value) : Prop := w.heap[g]? = some (.cells cs t (0, 0))

section
variable {w w' : World} {g : Nat} {t : TypeId} {cs : Array Value}
theorem Blk.lt (h : Blk w g t cs) : g < w.heap.size := (Array.getElem?_eq_some_iff.1 h).1
theorem Blk.cell (h : Blk w g t cs) (i : Nat) : w.cell? ⟨g, i, none⟩ = cs[i]? := cell_of_row w g i cs t (0, 0) h
theorem Blk.frozen (h : Blk w g t cs) (i : Nat) : w.frozen? ⟨g, i, none⟩ = false := frozen_of_row w g i cs t h
theorem Blk.new (w : World) (t : TypeId) (cs : Array Value) : Blk (w.alloc (.cells cs t)) w.heap.size t cs := heap_alloc_new w _
theorem Blk.alloc (h : Blk w g t cs) (o : Obj) : Blk (w.alloc o) g t cs := (Below.heap_alloc w o g h.lt).trans h
theorem Blk.drew (h : Blk w g t cs) : Blk w.drew g t cs := h
theorem Blk.put (h : Blk w g t cs) (i : Nat) (u : Value) : Blk (w.setCell ⟨g, i, none⟩ u) g t (cs.setIfInBounds i u) := heap_setCell_same w g i cs t u h
theorem Blk.far (h : Blk w g t cs) {p : Addr} (hp : g ≠ p.block) (u : Value) : Blk (w.setCell p u) g t cs := (heap_setCell_other w p g u hp).trans h
end

/-! ### what may have been written: 'Upd F w w'': of the blocks that were there only those in F may have turned -/
structure Upd (F : Nat → Prop) (w w' : World) : Prop where
  os : w'.os = w.os
  tape : w'.tape = w.tape
  output : w'.output = w.output
  size : w.heap.size ≤ w'.heap.size
  block : ∀ k, k < w.heap.size → ¬ F k → w'.heap[k]? = w.heap[k]?

def NoF : Nat → Prop := fun _ => False

section
variable {F G : Nat → Prop} {w w' w'' : World}
theorem Upd.refl (F : Nat → Prop) (w : World) : Upd F w w := ⟨rfl, rfl, rfl, Nat.le_refl _, fun _ _ _ => rfl⟩
theorem Upd.trans (h : Upd F w w') (k : Upd G w' w'') (hG : ∀ i, i < w.heap.size → G i → F i) : Upd F w w'' :=
  ⟨k.os.trans h.os, k.tape.trans h.tape, k.output.trans h.output, Nat.le_trans h.size k.size,
   fun i hi hn => (k.block i (Nat.lt_of_lt_of_le hi h.size) (fun g => hn (hG i hi g))).trans (h.block i hi hn)⟩
theorem Upd.mono (h : Upd F w w') (hF : ∀ i, i < w.heap.size → F i → G i) : Upd G w w' :=
  ⟨h.os, h.tape, h.output, h.size, fun i hi hn => h.block i hi (fun f => hn (hF i hi f))⟩
theorem Upd.drew (h : Upd F w w') : Upd F w w'.drew := ⟨h.os, h.tape, h.output, h.size, h.block⟩
theorem Upd.alloc (h : Upd F w w') (o : Obj) : Upd F w (w'.alloc o) :=
  ⟨h.os, h.tape, h.output, Nat.le_trans h.size (by simp), fun i hi hn => (Below.heap_alloc w' o i (Nat.lt_of_lt_of_le hi h.size)).trans (h.block i hi hn)⟩
theorem Upd.setCell (h : Upd F w w') {p : Addr} (hp : F p.block ∨ w.heap.size ≤ p.block) (u : Value) : Upd F w (w'.setCell p u) :=
  ⟨h.os, h.tape, h.output, by simpa [World.setCell] using h.size, fun i hi hn => (heap_setCell_other w' p i u (by
    rintro rfl
    rcases hp with hp | hp
    · exact hn hp
    · omega)).trans (h.block i hi hn)⟩
theorem Upd.setRow (h : Upd F w w') {g : Nat} (hp : F g ∨ w.heap.size ≤ g) (cs : Array Value) : Upd F w (w'.setRow g cs) :=
  ⟨h.os, h.tape, h.output, by simpa [World.setRow] using h.size, fun i hi hn => (setRow_other w' g i cs (by
    rintro rfl
    rcases hp with hp | hp
    · exact hn hp
    · omega)).trans (h.block i hi hn)⟩
theorem Upd.of_below {B : Nat} (h : Below B w w') (hF : ∀ i, i < w.heap.size → B ≤ i → F i) : Upd F w w' :=
  ⟨h.os, h.tape, h.output, h.size, fun i hi hn => h.block i (by
    rcases Nat.lt_or_ge i B with hlt | hge
    · exact hlt
    · exact absurd (hF i hi hge) hn)⟩
theorem Upd.below {B : Nat} (h : Upd F w w') (hB : B ≤ w.heap.size) (hF : ∀ i, i < B → ¬ F i) : Below B w w' :=
  ⟨h.os, h.tape, h.output, h.size, fun i hi => h.block i (by omega) (hF i hi)⟩
theorem Upd.blk {g : Nat} {t : TypeId} {cs : Array Value} (h : Upd F w w') (hb : Blk w g t cs) (hn : ¬ F g) : Blk w' g t cs := (h.block g hb.lt hn).trans hb
theorem Upd.cell (h : Upd F w w') {p : Addr} {v : Value} (hc : w.cell? p = some v) (hn : ¬ F p.block) : w'.cell? p = some v :=
  (World.cell?_of_block (h.block p.block (block_lt_of_cell hc) hn)).trans hc
end

/-! ### slices that read as lists -/
/-- The slice value v has n elements; its cells (size of them an element) read as xs. -/
def Rd (w : World) (size : Nat) (v : Value) (n : Nat) (xs : List Value) : Prop :=
  ∃ A c, v = .slice A n c ∧ n ≤ c ∧ c ≤ maxLen ∧ xs.length = n * size ∧
    (0 < n → ∃ g o, A = some ⟨g, o, none⟩ ∧ ∀ j u, xs[j]? = some u → w.cell? ⟨g, o + j, none⟩ = some u)

/-- .. and goes on doing so while only blocks of F are written. -/
def RdF (F : Nat → Prop) (w : World) (size : Nat) (v : Value) (n : Nat) (xs : List Value) : Prop := ∀ w', Upd F w w' → Rd w' size v n xs

def RdB (F : Nat → Prop) (w : World) (v : Value) (bs : List UInt8) : Prop := RdF F w 1 v bs.length (bs.map byteV)
def RdI (F : Nat → Prop) (w : World) (v : Value) (zs : List Int) : Prop := RdF F w 1 v zs.length (zs.map (Value.int .i64))

section
variable {F G : Nat → Prop} {w w' : World} {size n : Nat} {v : Value} {xs : List Value}
theorem RdF.upd (h : RdF F w size v n xs) (hu : Upd F w w') : RdF F w' size v n xs := fun w'' h'' => h w'' (hu.trans h'' (fun _ _ f => f))
theorem RdF.mono (h : RdF F w size v n xs) (hG : ∀ i, i < w.heap.size → G i → F i) : RdF G w size v n xs := fun w'' h'' => h w'' (h''.mono hG)
theorem Rd.nil (w : World) (size : Nat) : Rd w size (.slice none 0 0) 0 [] := ⟨none, 0, rfl, Nat.le_refl _, Nat.zero_le _, by simp, fun h => absurd h (by omega)⟩
theorem RdF.nil (F : Nat → Prop) (w : World) (size : Nat) : RdF F w size (.slice none 0 0) 0 [] := fun w' _ => Rd.nil w' size
theorem Rd.of_blk {g o c : Nat} {t : TypeId} {cs : Array Value} (hb : Blk w g t cs) (hn : n ≤ c) (hm : c ≤ maxLen) (hl : xs.length = n * size) (hx : ∀ j u, xs[j]? = some u → cs[o + j]? = some u) :
    Rd w size (.slice (some ⟨g, o, none⟩) n c) n xs :=
  ⟨_, c, rfl, hn, hm, hl, fun _ => ⟨g, o, rfl, fun j u hu => (hb.cell _).trans (hx j u hu)⟩⟩
theorem RdF.of_blk {g o c : Nat} {t : TypeId} {cs : Array Value} (hb : Blk w g t cs) (hF : ¬ F g) (hn : n ≤ c) (hm : c ≤ maxLen) (hl : xs.length = n * size) (hx : ∀ j u, xs[j]? = some u → cs[o + j]? = some u) :
    RdF F w size (.slice (some ⟨g, o, none⟩) n c) n xs := fun _ hu => Rd.of_blk (hu.blk hb hF) hn hm hl hx
theorem Rd.len (h : Rd w size v n xs) : xs.length = n * size := by obtain ⟨_, _, _, _, _, hl, _⟩ := h; exact hl
theorem Rd.le (h : Rd w size v n xs) : n ≤ maxLen := by obtain ⟨_, _, _, hn, hc, _⟩ := h; omega
end

/-! ### slices that own their block -/
/-- The slice v of n elements of type e (size cells each) is nil, or lies at the head of a block of its own, of which xs are the first cells. -/
def Own (w : World) (e : TypeId) (size : Nat) (v : Value) (n : Nat) (xs : List Value) : Prop :=
  xs.length = n * size ∧ ((v = .slice none 0 0 ∧ n = 0) ∨
   ∃ g cap cur, v = .slice (some ⟨g, 0, none⟩) n cap ∧ Blk w g e cur ∧ n ≤ cap ∧ cap ≤ maxLen ∧ cap * size ≤ cur.size ∧ cur.toList.take (n * size) = xs)

/-- The block of a slice. -/
def OwnB (v : Value) : Nat → Prop := fun k => v.ownBlock = some k

section
variable {F : Nat → Prop} {w w' : World} {e : TypeId} {size n : Nat} {v : Value} {xs : List Value}
theorem Own.nil (w : World) (e : TypeId) (size : Nat) : Own w e size (.slice none 0 0) 0 [] := ⟨by simp, .inl ⟨rfl, rfl⟩⟩
theorem Own.lt (h : Own w e size v n xs) {k : Nat} (hk : OwnB v k) : k < w.heap.size := by
  rcases h.2 with ⟨rfl, _⟩ | ⟨g, cap, cur, rfl, hb, _⟩
  · simp [OwnB, Value.ownBlock] at hk
  · simp [OwnB, Value.ownBlock] at hk
    exact hk ▸ hb.lt
theorem Own.upd (h : Own w e size v n xs) (hu : Upd F w w') (hF : ∀ k, OwnB v k → ¬ F k) : Own w' e size v n xs := by
  refine ⟨h.1, ?_⟩
  rcases h.2 with hn | ⟨g, cap, cur, rfl, hb, r⟩
  · exact .inl hn
  · exact .inr ⟨g, cap, cur, rfl, hu.blk hb (hF g (by simp [OwnB, Value.ownBlock])), r⟩
theorem Own.form (h : Own w e size v n xs) : ∃ A c, v = .slice A n c := by
  rcases h.2 with ⟨rfl, rfl⟩ | ⟨g, cap, cur, rfl, _⟩
  · exact ⟨_, _, rfl⟩
  · exact ⟨_, _, rfl⟩
theorem Own.rd (h : Own w e size v n xs) : Rd w size v n xs := by
  rcases h.2 with ⟨rfl, rfl⟩ | ⟨g, cap, cur, rfl, hb, hn, hc, hs, hx⟩
  · have : xs = [] := List.eq_nil_of_length_eq_zero (by simpa using h.1)
    subst this
    exact Rd.nil w size
  · refine Rd.of_blk hb hn hc h.1 (fun j u hu => ?_)
    rw [← hx, List.getElem?_take] at hu
    split at hu
    · simpa using hu
    · cases hu
end

/-- A slice whose source is nil, empty or not, appended to one that owns its block (bytes of the elements: 2^47 at most). -/
theorem run_append {P : Program} (w : World) (t ty e : TypeId) (i : TypeInfo) (z : Value) (size bytes : Nat) (ht : P.underlying t = some (.slice e)) (hi : P.info? e = some i) (hz : i.zero = some z)
    (hsize : i.size = size) (hby : i.bytes = bytes) (hzs : z.cells.size = size)
    (v : Value) (n : Nat) (xs : List Value) (hown : Own w e size v n xs) (s : Value) (m : Nat) (ys : List Value) (hs : Rd w size s m ys) (h1 : ∀ u ∈ ys, u.oneCell' = true)
    (h63 : n + m ≤ maxLen) (hbytes : (n + m) * bytes ≤ 140737488355328) :
    ∃ v' w', (Builtin.append_ #[t, t] ty #[v, s]).run P w = .ok v' w' ∧ Own w' e size v' (n + m) (xs ++ ys) ∧ Upd (OwnB v) w w' ∧ (∀ k, OwnB v' k → OwnB v k ∨ w.heap.size ≤ k) := by
  subst hsize
  subst hby
  obtain ⟨A, c, rfl, hmc, hc, hyl, hA⟩ := hs
  have hlen : (xs ++ ys).length = (n + m) * i.size := by rw [List.length_append, hown.1, hyl, Nat.add_mul]
  have hsmall : n + m ≤ 9223372036854775807 := by simp only [maxLen] at h63; omega
  rcases Nat.eq_zero_or_pos m with hm | hm
  · subst hm
    have hy : ys = [] := List.eq_nil_of_length_eq_zero (by simpa using hyl)
    subst hy
    refine ⟨v, w, ?_, by simpa using hown, Upd.refl _ _, fun k hk => .inl hk⟩
    rcases hown.2 with ⟨rfl, rfl⟩ | ⟨g, cap, cur, rfl, hb, hnc, _⟩
    · cases A <;> simp [Builtin.append_, run_underlying ht, sizeOf, typeInfo, hi, Builtin.lenOf, Builtin.firstCells, loadCells, loadCellsFrom]
    · cases A <;> simp [Builtin.append_, run_underlying ht, sizeOf, typeInfo, hi, Builtin.lenOf, Builtin.firstCells, hnc, storeCells, loadCells, loadCellsFrom]
  · obtain ⟨g0, o0, rfl, hcell⟩ := hA hm
    have hcells : ∀ j u, ys[j]? = some u → w.cell? ((⟨g0, o0, none⟩ : Addr).add j) = some u := by
      intro j u hu
      have : (⟨g0, o0, none⟩ : Addr).add j = ⟨g0, o0 + j, none⟩ := by unfold Addr.add; split <;> simp_all
      rw [this]; exact hcell j u hu
    have grown : ∀ (old : Nat), old < n + m →
        Own (w.drew.alloc (.cells (xs.toArray ++ ys.toArray ++ Builtin.zeroCells z.cells (grownCap w (n + m) old e - (n + m))) e)) e i.size
          (.slice (some ⟨w.heap.size, 0, none⟩) (n + m) (grownCap w (n + m) old e)) (n + m) (xs ++ ys) := by
      intro old ho
      have hge := grownCap_ge w (n + m) old e
      have hcm : grownCap w (n + m) old e ≤ maxLen := grownCap_le_maxLen w (n + m) old e h63
      refine ⟨hlen, .inr ⟨w.heap.size, _, _, rfl, Blk.new w.drew _ _, hge, hcm, ?_, ?_⟩⟩
      · simp only [Array.size_append, List.size_toArray, size_zeroCells, hzs, hown.1, hyl, ← Nat.add_mul]
        exact Nat.le_of_eq (by congr 1; omega)
      · simp only [Array.toList_append, List.append_assoc]
        rw [← List.append_assoc, ← hlen]
        exact List.take_left
    rcases hown.2 with ⟨rfl, rfl⟩ | ⟨g, cap, cur, rfl, hb, hnc, hcm, hcs, htake⟩
    · have hx : xs = [] := List.eq_nil_of_length_eq_zero (by simpa using hown.1)
      subst hx
      have hr := run_append_nil (P := P) w t ty e i z ht hi hz ⟨g0, o0, none⟩ m c ys hyl hcells hm (by omega) (by simp only [Nat.zero_add] at hbytes; omega)
      have hg := grown 0 (by omega)
      simp only [Nat.zero_add, List.nil_append] at hg ⊢
      refine ⟨_, _, hr, by simpa using hg, (((Upd.refl _ w).drew).alloc _), fun k hk => ?_⟩
      simp [OwnB, Value.ownBlock] at hk
      exact .inr (by omega)
    · by_cases hroom : n + m ≤ cap
      · have hfit : n * i.size + ys.length ≤ cur.size := by
          rw [hyl, ← Nat.add_mul]
          exact Nat.le_trans (Nat.mul_le_mul_right _ hroom) hcs
        have hr := run_append_room (P := P) w t ty e i ht hi g n cap cur hb ⟨g0, o0, none⟩ m c ys hyl hcells h1 hroom hfit
        refine ⟨_, _, hr, ⟨hlen, .inr ⟨g, cap, _, rfl, setRow_heap w g cur _ e (0, 0) hb, hroom, hcm, ?_, ?_⟩⟩, (Upd.refl _ w).setRow (.inl (by simp [OwnB, Value.ownBlock])) _, fun k hk => .inl (by simpa [OwnB, Value.ownBlock] using hk)⟩
        · simp only [List.size_toArray, List.length_append, List.length_take, List.length_drop, Array.length_toList]
          omega
        · rw [htake]
          simp only []
          rw [← hlen, List.take_append_of_le_length (Nat.le_refl _), List.take_length]
      · have holds : ∀ j u, xs[j]? = some u → w.cell? ((⟨g, 0, none⟩ : Addr).add j) = some u := by
          intro j u hu
          have : (⟨g, 0, none⟩ : Addr).add j = ⟨g, j, none⟩ := by unfold Addr.add; split <;> simp_all
          rw [this, hb.cell]
          rw [← htake, List.getElem?_take] at hu
          split at hu
          · simpa using hu
          · cases hu
        have hr := run_append_grow (P := P) w t ty e i z ht hi hz ⟨g, 0, none⟩ n cap xs hown.1 holds ⟨g0, o0, none⟩ m c ys hyl hcells (by omega) (by omega) (growslice_fits (by omega) hbytes)
        refine ⟨_, _, hr, grown cap (by omega), (((Upd.refl _ w).drew).alloc _), fun k hk => ?_⟩
        simp [OwnB, Value.ownBlock] at hk
        exact .inr (by omega)

theorem Blk.row {w : World} {g : Nat} {t : TypeId} {cs : Array Value} (h : Blk w g t cs) (cs' : Array Value) : Blk (w.setRow g cs') g t cs' := setRow_heap w g cs cs' t (0, 0) h
end

section
open Go.ChangeShapes Go.WideShapes Go.ChangeAt Go.RowKit

theorem own : ownKnob Tryz.prog.godebug = none := by kernel_rfl
theorem laid : laidOutB Tryz.prog = true := by kernel_rfl

theorem trodAll_below {H : Type} {enc : TypeId × Value → H} {W W' : World} (hb : Below W.heap.size W W') : ∀ {ts : List TypeId} {vs : List Value} {ds : List (DataW H)} {ps : List MemPlace},
    DataW.TrodAll enc Tryz.prog W 0 (fun _ => true) true ts vs ds ps → (∀ x ∈ ps, x.block < W.heap.size) → (∀ t ∈ ts, Tryz.prog.readableRec t = true ∧ t < Tryz.prog.types.size) →
    DataW.TrodAll enc Tryz.prog W' 0 (fun b => decide (b < W.heap.size)) true ts vs ds ps
  | [], vs, ds, ps, h, _, _ => by
    obtain ⟨rfl, rfl, rfl⟩ := trodAll_nil h
    exact trodAll_mk0
  | t :: ts, vs, ds, ps, h, hlt, hr => by
    obtain ⟨v, vs0, d, ds0, p, ps0, rfl, rfl, rfl, h0, r0⟩ := trodAll_cons h
    obtain ⟨hr1, hr2⟩ := hr t (by simp)
    exact trodAll_cons_mk (Below.trod laid hr1 hr2 h0 hb (fun x hx => hlt x (by simp [hx]))) (trodAll_below hb r0 (fun x hx => hlt x (by simp [hx])) (fun t ht => hr t (by simp [ht])))

/-- The row's post of a statement that returned true and turned nothing that was there. -/
theorem law_post {H : Type} {enc : TypeId × Value → H} {f : Func} {s : ChangeSpec} {W W' : World} {args : Array Value} {ds gs : List (DataW H)} {before : List MemPlace} (hv : s.vars = []) (hres : f.resultTypes = #[4])
    (hr : ∀ t ∈ f.params.toList, Tryz.prog.readableRec t = true ∧ t < Tryz.prog.types.size) (hfn : (s.fn H (ds ++ gs)).results = [.lit (.bool true)] ∧ (s.fn H (ds ++ gs)).args = ds ∧ (s.fn H (ds ++ gs)).vars = [])
    (hW : DataW.Whole enc Tryz.prog f.params.toList s.vars false W args.toList ds gs before) (hb : Below W.heap.size W W') : s.post enc Tryz.prog f false true false false W args (.bool true) W' := by
  have hW0 := hW
  have hlt : ∀ p ∈ before, p.block < W.heap.size := fun p hp => hW.lt p hp
  obtain ⟨p, q, hA, hV, rfl, _, _⟩ := hW
  rw [hv] at hV
  obtain ⟨rfl, rfl⟩ := trodVars_none hV
  refine ⟨ds, [], p ++ [], [], p, [], hW0, ?_, ?_, ?_, World.keptBut_mono (fun x hx => ⟨hx, .inr (.inl (by simpa using hx))⟩) (hb.frame (· ∈ p ++ [])), fun h => by cases h⟩
  · rw [hfn.1, hres]
    exact trodAll_cons_mk (shut_bool Tryz.underlying4 true) trodAll_mk0
  · rw [hfn.2.1]
    exact trodAll_below hb hA (fun x hx => hlt x (by simp [hx])) hr
  · rw [hv, hfn.2.2]
    exact rfl
end

section
open Go.RowKit

theorem ty_a (t : Nat) (h : t < 1000000) : t + 1000000 < 2000000 := by omega
theorem ty_b (t : Nat) (h : t < 1000000) : (t + 1000000) % 1000000 = t := by omega
theorem ty_c {t : Nat} (h : t < 1000000) : t < 2000000 := by omega
theorem ty_d {t : Nat} {Q : Prop} (h : t < 1000000) (h' : 1000000 ≤ t) : Q := absurd h' (Nat.not_le.2 h)

/-- An abstract value: a plain value; a struct or an array by its cells; results; an immutable slice (elements of k cells); a slice without room; a pointer into an immutable element; a slice or a pointer into an object; a function value; anything. -/
inductive AV where
  | c (v : Value)
  | agg (cs : List AV)
  | tup (vs : List AV)
  | ls (k : Nat) (es : List AV)
  | nil0
  | pe (e : AV) (off : Nat)
  | own (id off n k : Nat)
  | ptr (id off : Nat)
  | mh (id : Nat)
  | fn (f : FuncId) (caps : List AV)
  | ifc (t : TypeId) (a : AV)
  | itr (a : AV)
  | any
instance : Inhabited AV := ⟨.any⟩

def AV.cells : AV → List AV
  | .agg cs => cs
  | x => [x]
def flat (es : List AV) : List AV := es.flatMap AV.cells

/-- An object: given up, or a row of cells of a type (fz: it is not written any more). -/
inductive AObj where
  | dead
  | row (t : TypeId) (fz : Bool) (cs : List AV)

def plainV : Value → Bool
  | .bool _ | .int _ _ | .float _ _ | .string _ | .pointer _ | .slice none 0 0 | .map none | .nilFunc | .nilIface => true
  | _ => false

def alive (H : List AObj) (id : Nat) : Prop := ∃ t fz cs, H[id]? = some (.row t fz cs)
def mutb (H : List AObj) (id : Nat) : Prop := ∃ t cs, H[id]? = some (.row t false cs)
abbrev Loc := Nat → Option (Nat × Nat)

/-- The object is no map and no iterator. -/
def noMap (H : List AObj) (id : Nat) : Prop := ∀ (t : TypeId) (fz : Bool) (cs : List AV), H[id]? = some (.row t fz cs) → t < 2000000
/-- A slice of n elements; of nil only where n = 0. -/
def sl0 (n : Nat) (v : Value) : Prop := ∃ (a : Option Addr) (c : Nat), v = .slice a n c ∧ (0 < n → ∃ b, a = some b)
theorem sl0.one {n : Nat} {v : Value} (h : sl0 n v) : v.oneCell' = true := by obtain ⟨a, c, rfl, -⟩ := h; rfl
theorem sl0.zero (a : Option Addr) (c : Nat) : sl0 0 (.slice a 0 c) := ⟨a, c, rfl, fun h => absurd h (by decide)⟩
theorem sl0.some_ (b : Addr) (n c : Nat) : sl0 n (.slice (some b) n c) := ⟨_, c, rfl, fun _ => ⟨b, rfl⟩⟩
/-- What a handle says. -/
def LV (β : Loc) (H : List AObj) : AV → Value → Prop
  | .own id off n k, v => id < H.length ∧ (sl0 n v ∧ noMap H id) ∧ ∀ t fz cs, H[id]? = some (.row t fz cs) → off + n * k ≤ cs.length ∧ n ≤ maxLen ∧ ((n = 0 ∧ ∃ a, v = .slice a 0 0) ∨ ∃ b s cap, β id = some (b, s) ∧ v = .slice (some ⟨b, off, none⟩) n cap ∧ n ≤ cap ∧ cap ≤ maxLen ∧ off + cap * k ≤ s)
  | .ptr id off, v => id < H.length ∧ ((∃ a, v = .pointer (some a)) ∧ noMap H id) ∧ ∀ t fz cs, H[id]? = some (.row t fz cs) → ∃ b s, β id = some (b, s) ∧ v = .pointer (some ⟨b, off, none⟩)
  | .mh id, v => id < H.length ∧ (∃ r, v = .map (some r)) ∧ ∀ t fz cs, H[id]? = some (.row t fz cs) → 2000000 ≤ t ∧ ∃ b s, β id = some (b, s) ∧ v = .map (some b)
  | _, _ => False

/-- The cells from offset o on of block b read as vs. -/
abbrev RowAt (w : World) (b o : Nat) (vs : List Value) : Prop := w.rangeAt b o vs
def Ones (vs : List Value) : Prop := ∀ u ∈ vs, u.oneCell' = true

/-- Block b reads in w' as in w. -/
def Kept (w w' : World) (b : Nat) : Prop := (∀ o vs, RowAt w b o vs → RowAt w' b o vs) ∧ ∀ m s sn c, w.heap[b]? = some (Obj.mapIter m s sn c) → w'.heap[b]? = some (.mapIter m s sn c)
theorem Kept.refl (w : World) (b : Nat) : Kept w w b := ⟨fun _ _ h => h, fun _ _ _ _ h => h⟩

/-- What an abstract value says of a value in a world: I are the blocks that stay, L what handles say. -/
inductive VR (I : Nat → Prop) (w : World) (L : AV → Value → Prop) : AV → Value → Prop
  | any (v : Value) : VR I w L .any v
  | c {v : Value} (h : plainV v = true) : VR I w L (.c v) v
  | leaf {x : AV} {v : Value} (h : L x v) : VR I w L x v
  | nil0 (a : Option Addr) : VR I w L .nil0 (.slice a 0 0)
  | agg {cs : List AV} {vs : List Value} (hl : vs.length = cs.length) (ho : Ones vs) (h : ∀ (i : Nat) (a : AV) (v : Value), cs[i]? = some a → vs[i]? = some v → VR I w L a v) : VR I w L (.agg cs) (.agg vs.toArray)
  | tup {cs : List AV} {vs : List Value} (hl : vs.length = cs.length) (h : ∀ (i : Nat) (a : AV) (v : Value), cs[i]? = some a → vs[i]? = some v → VR I w L a v) : VR I w L (.tup cs) (.tuple vs.toArray)
  | fn {f : FuncId} {cs : List AV} {vs : List Value} (hl : vs.length = cs.length) (h : ∀ (i : Nat) (a : AV) (v : Value), cs[i]? = some a → vs[i]? = some v → VR I w L a v) : VR I w L (.fn f cs) (.func (.func f) #[] vs.toArray)
  | ifc {t : TypeId} {a : AV} {v : Value} (h : VR I w L a v) : VR I w L (.ifc t a) (.iface t v)
  | itr {a : AV} {r since c : Nat} {m : Option Nat} (hb : I r) (hh : w.heap[r]? = some (.mapIter m since #[] c)) (h : VR I w L a (.map m)) : VR I w L (.itr a) (.pointer (some ⟨r, 0, none⟩))
  | ls {k : Nat} {es : List AV} {vs : List Value} {b o cap : Nat} (hb : I b) (hk : ∀ e ∈ es, e.cells.length = k) (hn : es.length ≤ cap) (hm : cap ≤ maxLen) (hl : vs.length = (flat es).length) (ho : Ones vs) (hc : RowAt w b o vs) (h : ∀ (i : Nat) (a : AV) (v : Value), (flat es)[i]? = some a → vs[i]? = some v → VR I w L a v) : VR I w L (.ls k es) (.slice (some ⟨b, o, none⟩) es.length cap)
  | ls0 {k : Nat} (a : Option Addr) {cap : Nat} (hm : cap ≤ maxLen) : VR I w L (.ls k []) (.slice a 0 cap)
  | pe {e : AV} {off : Nat} {vs : List Value} {b o : Nat} (hb : I b) (hl : vs.length = e.cells.length) (ho : Ones vs) (hc : RowAt w b o vs) (h : ∀ (i : Nat) (a : AV) (v : Value), e.cells[i]? = some a → vs[i]? = some v → VR I w L a v) : VR I w L (.pe e off) (.pointer (some ⟨b, o + off, none⟩))

/-- The blocks of the objects that may be written. -/
def MB (β : Loc) (H : List AObj) (b : Nat) : Prop := ∃ id s, mutb H id ∧ β id = some (b, s)
/-- The blocks that stay as they are: none that is foreign, none that may be written. -/
def Im (F : Nat → Prop) (β : Loc) (H : List AObj) (w : World) (b : Nat) : Prop := b < w.heap.size ∧ ¬ F b ∧ ¬ MB β H b

abbrev V (F : Nat → Prop) (β : Loc) (H : List AObj) (w : World) (a : AV) (v : Value) : Prop := VR (Im F β H w) w (LV β H) a v

/-- A key's or an element's cells: z = twice their number, one more for a struct or an array. -/
def cellsOk (z : Nat) (v : Value) : Prop := if z % 2 = 1 then ∃ cs : Array Value, v = .agg cs ∧ cs.size = z / 2 else v.oneCell' = true ∧ z = 2
def entCells (e : MapEntry) : List Value := e.key.cells.toList ++ e.val.cells.toList
/-- The entries of a map, in its order: their cells; z tells the sizes of keys and elements. -/
def EntOk (z : Nat) (es : List MapEntry) (clock : Nat) (C : List Value) : Prop := C = es.flatMap entCells ∧ (∀ e ∈ es, cellsOk (z / 1000) e.key ∧ cellsOk (z % 1000) e.val ∧ e.born < clock) ∧ (es.map (·.born)).Nodup
/-- Block b is a map with these cells of its entries. -/
def MapSt (w : World) (b z : Nat) (C : List Value) : Prop := ∃ (es : Array MapEntry) (clock : Nat), w.heap[b]? = some (.map es clock) ∧ EntOk z es.toList clock C
/-- What lies at a row's block: cells of a type (from 1000000 on: of that type less 1000000), or a map's entries. -/
def Sto (w : World) (b : Nat) (t : TypeId) (C : Array Value) : Prop := if t < 2000000 then Blk w b (t % 1000000) C else MapSt w b (t - 2000000) C.toList
theorem Sto.lt {w : World} {b : Nat} {t : TypeId} {C : Array Value} (h : Sto w b t C) : b < w.heap.size := by
  unfold Sto at h
  split at h
  · exact h.lt
  · obtain ⟨es, c, h, -⟩ := h
    exact (Array.getElem?_eq_some_iff.1 h).1
theorem Sto.same {w w' : World} {b : Nat} {t : TypeId} {C : Array Value} (h : Sto w b t C) (e : w'.heap[b]? = w.heap[b]?) : Sto w' b t C := by
  unfold Sto at h ⊢
  split at h
  · rw [if_pos (by assumption)]; exact e.trans h
  · rw [if_neg (by assumption)]
    obtain ⟨es, c, h, k⟩ := h
    exact ⟨es, c, e.trans h, k⟩
theorem Sto.blk {w : World} {b : Nat} {t : TypeId} {C : Array Value} (h : Sto w b t C) (ht : t < 2000000) : Blk w b (t % 1000000) C := by
  unfold Sto at h
  rwa [if_pos ht] at h
theorem Sto.of {w : World} {b : Nat} {t : TypeId} {C : Array Value} (ht : t < 2000000) (h : Blk w b (t % 1000000) C) : Sto w b t C := by
  unfold Sto
  rwa [if_pos ht]

/-- The size that a place bears: none for a map, which may grow. -/
def szR (t : TypeId) (C : Array Value) : Nat := if t < 2000000 then C.size else 0
theorem szR_lt {t : TypeId} {C : Array Value} (h : t < 2000000) : szR t C = C.size := if_pos h
theorem szR_map {t : TypeId} {C : Array Value} (h : ¬ t < 2000000) : szR t C = 0 := if_neg h
def RowOk (F : Nat → Prop) (β : Loc) (H : List AObj) (w : World) (id : Nat) (t : TypeId) (cs : List AV) : Prop :=
  (cs = [] ∧ β id = none) ∨ ∃ (b : Nat) (C : Array Value) (vs : List Value), β id = some (b, szR t C) ∧ ¬ F b ∧ (Sto w b t C ∧ (1000000 ≤ t → C.size = vs.length)) ∧ vs.length = cs.length ∧ C.toList.take vs.length = vs ∧ Ones vs ∧ ∀ (i : Nat) (a : AV) (v : Value), cs[i]? = some a → vs[i]? = some v → V F β H w a v

/-- The world holds the objects H, at the places that β says; F: blocks that are none of ours. -/
structure Rep (F : Nat → Prop) (β : Loc) (H : List AObj) (w : World) : Prop where
  far : ∀ b, F b → b < w.heap.size
  row : ∀ id t fz cs, H[id]? = some (.row t fz cs) → RowOk F β H w id t cs
  inj : ∀ i j, alive H i → alive H j → ∀ b s s', β i = some (b, s) → β j = some (b, s') → i = j

/-- From (β, H, w) to (β', H', w'): only blocks of objects that may be written have turned; objects stay or are given up. -/
structure Ext (β : Loc) (H : List AObj) (w : World) (β' : Loc) (H' : List AObj) (w' : World) : Prop where
  upd : Upd (MB β H) w w'
  len : H.length ≤ H'.length
  keep : ∀ id, id < H.length → alive H' id → alive H id ∧ β' id = β id
  size : ∀ (id : Nat) (t : TypeId) (fz : Bool) (cs : List AV) (t' : TypeId) (fz' : Bool) (cs' : List AV), H[id]? = some (AObj.row t fz cs) → H'[id]? = some (AObj.row t' fz' cs') → t' = t ∧ (t < 2000000 → cs.length ≤ cs'.length)
  new : ∀ b, MB β' H' b → b < w.heap.size → MB β H b

theorem alive_lt {H : List AObj} {id : Nat} (h : alive H id) : id < H.length := by
  obtain ⟨t, fz, cs, h⟩ := h
  exact (List.getElem?_eq_some_iff.1 h).1
theorem mutb.alive {H : List AObj} {id : Nat} (h : mutb H id) : alive H id := let ⟨t, cs, h⟩ := h; ⟨t, false, cs, h⟩

section
variable {F : Nat → Prop} {β β' β'' : Loc} {H H' H'' : List AObj} {w w' w'' : World}
theorem Ext.refl (β : Loc) (H : List AObj) (w : World) : Ext β H w β H w :=
  ⟨Upd.refl _ _, Nat.le_refl _, fun _ _ h => ⟨h, rfl⟩, fun _ _ _ _ _ _ _ h h' => by rw [h] at h'; cases h'; exact ⟨rfl, fun _ => Nat.le_refl _⟩, fun _ h _ => h⟩
theorem Ext.trans (h : Ext β H w β' H' w') (k : Ext β' H' w' β'' H'' w'') : Ext β H w β'' H'' w'' where
  upd := h.upd.trans k.upd (fun i hi hm => h.new i hm hi)
  len := Nat.le_trans h.len k.len
  keep id hi ha := by
    obtain ⟨a1, e1⟩ := k.keep id (Nat.lt_of_lt_of_le hi h.len) ha
    obtain ⟨a2, e2⟩ := h.keep id hi a1
    exact ⟨a2, e1.trans e2⟩
  size id t fz cs t' fz' cs' h1 h2 := by
    obtain ⟨⟨t2, f2, c2, a1⟩, -⟩ := k.keep id (Nat.lt_of_lt_of_le (List.getElem?_eq_some_iff.1 h1).1 h.len) ⟨_, _, _, h2⟩
    obtain ⟨e1, l1⟩ := h.size id _ _ _ _ _ _ h1 a1
    obtain ⟨e2, l2⟩ := k.size id _ _ _ _ _ _ a1 h2
    exact ⟨e2.trans e1, fun hl => Nat.le_trans (l1 hl) (l2 (by rw [e1]; exact hl))⟩
  new b hb hi := h.new b (k.new b hb (Nat.lt_of_lt_of_le hi h.upd.size)) hi

theorem noMap.ext {id : Nat} (h : noMap H id) (hi : id < H.length) (e : Ext β H w β' H' w') : noMap H' id := fun t fz cs hr => by
  obtain ⟨⟨t0, f0, c0, a0⟩, -⟩ := e.keep id hi ⟨_, _, _, hr⟩
  rw [(e.size id _ _ _ _ _ _ a0 hr).1]
  exact h _ _ _ a0
theorem LV.ext {x : AV} {v : Value} (h : LV β H x v) (e : Ext β H w β' H' w') : LV β' H' x v := by
  cases x <;> try exact h.elim
  case own id off n k =>
    refine ⟨Nat.lt_of_lt_of_le h.1 e.len, ⟨h.2.1.1, h.2.1.2.ext h.1 e⟩, fun t fz cs hr => ?_⟩
    obtain ⟨⟨t0, f0, c0, a0⟩, eb⟩ := e.keep id h.1 ⟨_, _, _, hr⟩
    obtain ⟨h1, h2, h3⟩ := h.2.2 t0 f0 c0 a0
    exact ⟨Nat.le_trans h1 ((e.size id _ _ _ _ _ _ a0 hr).2 (h.2.1.2 _ _ _ a0)), h2, by rw [eb]; exact h3⟩
  case ptr id off =>
    refine ⟨Nat.lt_of_lt_of_le h.1 e.len, ⟨h.2.1.1, h.2.1.2.ext h.1 e⟩, fun t fz cs hr => ?_⟩
    obtain ⟨⟨t0, f0, c0, a0⟩, eb⟩ := e.keep id h.1 ⟨_, _, _, hr⟩
    rw [eb]
    exact h.2.2 t0 f0 c0 a0
  case mh id =>
    refine ⟨Nat.lt_of_lt_of_le h.1 e.len, h.2.1, fun t fz cs hr => ?_⟩
    obtain ⟨⟨t0, f0, c0, a0⟩, eb⟩ := e.keep id h.1 ⟨_, _, _, hr⟩
    rw [eb, (e.size id _ _ _ _ _ _ a0 hr).1]
    exact h.2.2 t0 f0 c0 a0

theorem Im.ext {b : Nat} (h : Im F β H w b) (e : Ext β H w β' H' w') : Im F β' H' w' b :=
  ⟨Nat.lt_of_lt_of_le h.1 e.upd.size, h.2.1, fun m => h.2.2 (e.new b m h.1)⟩

theorem RowAt.ext {b o : Nat} {vs : List Value} (h : RowAt w b o vs) (hb : Im F β H w b) (e : Ext β H w β' H' w') : RowAt w' b o vs :=
  fun j u hu => e.upd.cell (h j u hu) hb.2.2

theorem VR.mono {I I' : Nat → Prop} {w w' : World} {L L' : AV → Value → Prop} (hI : ∀ b, I b → I' b) (hw : ∀ b, I b → Kept w w' b) (hL : ∀ x v, L x v → L' x v) {a : AV} {v : Value} (h : VR I w L a v) : VR I' w' L' a v := by
  induction h with
  | any v => exact .any v
  | c h => exact .c h
  | leaf h => exact .leaf (hL _ _ h)
  | nil0 a => exact .nil0 a
  | agg hl ho _ ih => exact .agg hl ho ih
  | tup hl _ ih => exact .tup hl ih
  | fn hl _ ih => exact .fn hl ih
  | ifc _ ih => exact .ifc ih
  | itr hb hh _ ih => exact .itr (hI _ hb) ((hw _ hb).2 _ _ _ _ hh) ih
  | ls hb hk hn hm hl ho hc _ ih => exact .ls (hI _ hb) hk hn hm hl ho ((hw _ hb).1 _ _ hc) ih
  | ls0 a hm => exact .ls0 a hm
  | pe hb hl ho hc _ ih => exact .pe (hI _ hb) hl ho ((hw _ hb).1 _ _ hc) ih

theorem V.ext {a : AV} {v : Value} (h : V F β H w a v) (e : Ext β H w β' H' w') : V F β' H' w' a v :=
  VR.mono (fun _ hb => hb.ext e) (fun b hb => ⟨fun _ _ hr => hr.ext hb e, fun _m _s _sn _c h => (e.upd.block b hb.1 hb.2.2).trans h⟩) (fun _ _ hl => LV.ext hl e) h

/-- Nothing of what is known has turned (new blocks may have come). -/
theorem Ext.of_upd (h : Upd NoF w w') (_hr : Rep F β H w) : Ext β H w β H w' where
  upd := h.mono (fun _ _ f => f.elim)
  len := Nat.le_refl _
  keep _ _ ha := ⟨ha, rfl⟩
  size _ _ _ _ _ _ _ h1 h2 := by rw [h1] at h2; cases h2; exact ⟨rfl, fun _ => Nat.le_refl _⟩
  new _ hb _ := hb
theorem Rep.upd (hr : Rep F β H w) (h : Upd NoF w w') : Rep F β H w' where
  far b hb := Nat.lt_of_lt_of_le (hr.far b hb) h.size
  row id t fz cs hi := by
    rcases hr.row id t fz cs hi with h1 | ⟨b, C, vs, h1, h2, h3, h4, h5, h6, h7⟩
    · exact .inl h1
    · exact .inr ⟨b, C, vs, h1, h2, ⟨h3.1.same (h.block b h3.1.lt (fun f => f)), h3.2⟩, h4, h5, h6, fun i a v ha hv => (h7 i a v ha hv).ext (Ext.of_upd h hr)⟩
  inj := hr.inj
end
end

section
open Go.RowKit

section
variable {F : Nat → Prop} {β β' : Loc} {H H' : List AObj} {w w' : World}

theorem Rep.lt (hr : Rep F β H w) {id b s : Nat} (ha : alive H id) (hb : β id = some (b, s)) : b < w.heap.size ∧ ¬ F b := by
  obtain ⟨t, fz, cs, h⟩ := ha
  rcases hr.row id t fz cs h with ⟨-, h1⟩ | ⟨b', C, vs, h1, h2, h3, -⟩
  · rw [h1] at hb; cases hb
  · rw [h1] at hb; cases hb; exact ⟨h3.1.lt, h2⟩
theorem Rep.mb_lt (hr : Rep F β H w) {b : Nat} (hb : MB β H b) : b < w.heap.size ∧ ¬ F b := by
  obtain ⟨id, s, hm, he⟩ := hb
  exact hr.lt hm.alive he

/-- RowOk goes over along an Ext that leaves the object's block. -/
theorem RowOk.ext {id : Nat} {t : TypeId} {cs : List AV} (h : RowOk F β H w id t cs) (e : Ext β H w β' H' w') (hb : β' id = β id) (hn : ∀ b s, β id = some (b, s) → w'.heap[b]? = w.heap[b]?) : RowOk F β' H' w' id t cs := by
  rcases h with ⟨h1, h2⟩ | ⟨b, C, vs, h1, h2, h3, h4, h5, h6, h7⟩
  · exact .inl ⟨h1, hb.trans h2⟩
  · exact .inr ⟨b, C, vs, hb.trans h1, h2, ⟨h3.1.same (hn b _ h1), h3.2⟩, h4, h5, h6, fun i a v ha hv => (h7 i a v ha hv).ext e⟩

def setL (β : Loc) (id : Nat) (x : Option (Nat × Nat)) : Loc := fun j => if j = id then x else β j
theorem setL_same (β : Loc) (id : Nat) (x : Option (Nat × Nat)) : setL β id x id = x := by simp [setL]
theorem setL_ne (β : Loc) {id j : Nat} (x : Option (Nat × Nat)) (h : j ≠ id) : setL β id x j = β j := by simp [setL, h]

theorem get_push {H : List AObj} {o : AObj} {id : Nat} (h : id < H.length) : (H ++ [o])[id]? = H[id]? := by rw [List.getElem?_append_left h]
theorem get_last (H : List AObj) (o : AObj) : (H ++ [o])[H.length]? = some o := by simp
theorem alive_push {H : List AObj} {o : AObj} {id : Nat} (h : alive (H ++ [o]) id) : (id < H.length ∧ alive H id) ∨ id = H.length := by
  have hl := alive_lt h
  rw [List.length_append, List.length_singleton] at hl
  by_cases e : id = H.length
  · exact .inr e
  · have : id < H.length := by omega
    obtain ⟨t, fz, cs, h⟩ := h
    rw [get_push this] at h
    exact .inl ⟨this, t, fz, cs, h⟩

/-- A new object at a new block (or none yet, if it is empty). -/
theorem ext_push (_hr : Rep F β H w) (hu : Upd NoF w w') (o : AObj) (x : Option (Nat × Nat)) (hx : ∀ b s, x = some (b, s) → w.heap.size ≤ b) : Ext β H w (setL β H.length x) (H ++ [o]) w' where
  upd := hu.mono (fun _ _ f => f.elim)
  len := by simp
  keep id hi ha := by
    obtain ⟨t, fz, cs, h⟩ := ha
    rw [get_push hi] at h
    exact ⟨⟨t, fz, cs, h⟩, setL_ne _ _ (by omega)⟩
  size id t fz cs t' fz' cs' h1 h2 := by
    rw [get_push (List.getElem?_eq_some_iff.1 h1).1, h1] at h2; cases h2; exact ⟨rfl, fun _ => Nat.le_refl _⟩
  new b hb hlt := by
    obtain ⟨id, s, hm, he⟩ := hb
    rcases alive_push hm.alive with ⟨hi, -⟩ | e
    · rw [setL_ne _ _ (by omega)] at he
      obtain ⟨t, cs, h⟩ := hm
      rw [get_push hi] at h
      exact ⟨id, s, ⟨t, cs, h⟩, he⟩
    · subst e
      rw [setL_same] at he
      exact absurd (hx b s he) (by omega)

theorem rep_push (hr : Rep F β H w) (hu : Upd NoF w w') {t : TypeId} {fz : Bool} {cs : List AV} (x : Option (Nat × Nat)) (hx : ∀ b s, x = some (b, s) → w.heap.size ≤ b) (_hF : ∀ b s, x = some (b, s) → ¬ F b)
    (hok : RowOk F (setL β H.length x) (H ++ [.row t fz cs]) w' H.length t cs) : Rep F (setL β H.length x) (H ++ [.row t fz cs]) w' where
  far b hb := Nat.lt_of_lt_of_le (hr.far b hb) hu.size
  row id t' fz' cs' h := by
    by_cases hi : id < H.length
    · rw [get_push hi] at h
      have := hr.row id t' fz' cs' h
      exact this.ext (ext_push hr hu _ x hx) (setL_ne _ _ (by omega)) (fun b s hb => hu.block b (hr.lt ⟨_, _, _, h⟩ hb).1 (fun f => f))
    · have : id = H.length := by
        have := alive_lt (id := id) ⟨_, _, _, h⟩
        rw [List.length_append, List.length_singleton] at this
        omega
      subst this
      rw [get_last] at h
      cases h
      exact hok
  inj i j hi hj b s s' h1 h2 := by
    rcases alive_push hi with ⟨li, ai⟩ | rfl <;> rcases alive_push hj with ⟨lj, aj⟩ | rfl
    · rw [setL_ne _ _ (by omega)] at h1 h2
      exact hr.inj i j ai aj b s s' h1 h2
    · rw [setL_ne _ _ (by omega)] at h1
      rw [setL_same] at h2
      exact absurd (hx b s' h2) (by have := (hr.lt ai h1).1; omega)
    · rw [setL_ne _ _ (by omega)] at h2
      rw [setL_same] at h1
      exact absurd (hx b s h1) (by have := (hr.lt aj h2).1; omega)
    · rfl

/-- A new row of cells, at the block that an allocation makes. -/
theorem push_row (hr : Rep F β H w) {t : TypeId} {cs : List AV} {vs : List Value} (more : List Value) (hl : vs.length = cs.length) (ho : Ones vs) (hv : ∀ (i : Nat) (a : AV) (v : Value), cs[i]? = some a → vs[i]? = some v → V F β H w a v) (hu : Upd NoF w w') (ht : t < 2000000) (hb : Blk w' w.heap.size (t % 1000000) (vs ++ more).toArray) (hex : 1000000 ≤ t → more = []) :
    Rep F (setL β H.length (some (w.heap.size, (vs ++ more).length))) (H ++ [.row t false cs]) w' ∧ Ext β H w (setL β H.length (some (w.heap.size, (vs ++ more).length))) (H ++ [.row t false cs]) w' := by
  have hx : ∀ b s, some (w.heap.size, (vs ++ more).length) = some (b, s) → w.heap.size ≤ b := fun b s e => by cases e; exact Nat.le_refl _
  have he := ext_push hr hu (.row t false cs) _ hx
  refine ⟨rep_push hr hu _ hx (fun b s e f => ?_) (.inr ⟨_, _, vs, by rw [setL_same, szR_lt ht]; simp, fun f => ?_, ⟨.of ht hb, fun h => by simp [hex h]⟩, hl, by simp, ho, fun i a v ha hv' => (hv i a v ha hv').ext he⟩), he⟩
  · cases e; exact absurd (hr.far _ f) (by omega)
  · exact absurd (hr.far _ f) (by omega)

/-! ### an object set -/
theorem get_set_ne {H : List AObj} {o : AObj} {i j : Nat} (h : i ≠ j) : (H.set i o)[j]? = H[j]? := by rw [List.getElem?_set_ne h]
theorem get_set_eq {H : List AObj} {o : AObj} {i : Nat} (h : i < H.length) : (H.set i o)[i]? = some o := by rw [List.getElem?_set_self h]

/-- Cells go into an object. -/
theorem ext_store {id b s : Nat} {t : TypeId} {cs cs' : List AV} (_hr : Rep F β H w) (hi : H[id]? = some (.row t false cs)) (hb : β id = some (b, s)) (hl : t < 2000000 → cs.length ≤ cs'.length) (hu : Upd (fun k => k = b) w w') : Ext β H w β (H.set id (.row t false cs')) w' where
  upd := hu.mono (fun k _ e => e ▸ ⟨id, s, ⟨t, cs, hi⟩, hb⟩)
  len := by simp
  keep j hj ha := by
    refine ⟨?_, rfl⟩
    by_cases e : id = j
    · subst e; exact ⟨_, _, _, hi⟩
    · obtain ⟨t', fz, c, h⟩ := ha; rw [get_set_ne e] at h; exact ⟨_, _, _, h⟩
  size j t1 f1 c1 t2 f2 c2 h1 h2 := by
    by_cases e : id = j
    · subst e
      rw [get_set_eq (List.getElem?_eq_some_iff.1 hi).1] at h2
      rw [hi] at h1
      cases h1; cases h2; exact ⟨rfl, hl⟩
    · rw [get_set_ne e, h1] at h2; cases h2; exact ⟨rfl, fun _ => Nat.le_refl _⟩
  new k hk _ := by
    obtain ⟨j, s', ⟨t', c, h⟩, he⟩ := hk
    by_cases e : id = j
    · subst e; exact ⟨id, s', ⟨t, cs, hi⟩, he⟩
    · rw [get_set_ne e] at h; exact ⟨j, s', ⟨t', c, h⟩, he⟩

def splice (cs : List AV) (off : Nat) (az : List AV) : List AV := cs.take off ++ az ++ cs.drop (off + az.length)
theorem splice_len {cs az : List AV} {off : Nat} (h : off + az.length ≤ cs.length) : (splice cs off az).length = cs.length := by simp [splice]; omega
theorem splice_get {cs az : List AV} {off : Nat} (h : off + az.length ≤ cs.length) (i : Nat) : (splice cs off az)[i]? = if i < off then cs[i]? else if i < off + az.length then az[i - off]? else cs[i]? := by
  unfold splice
  rw [List.append_assoc, List.getElem?_append, List.getElem?_append, List.length_take, Nat.min_eq_left (by omega)]
  split
  · rw [List.getElem?_take, if_pos (by assumption)]
  · split
    · rw [if_pos (by omega)]
    · rw [if_neg (by omega), List.getElem?_drop]; congr 1; omega

theorem store_row {id b s off : Nat} {t : TypeId} {cs az : List AV} {C : Array Value} {us : List Value} (hr : Rep F β H w) (hi : H[id]? = some (.row t false cs)) (hb : β id = some (b, s)) (hoff : off + az.length ≤ cs.length) (ht : t < 2000000) (hC : Blk w b (t % 1000000) C) (hl : us.length = az.length) (ho : Ones us)
    (hv : ∀ (i : Nat) (a : AV) (v : Value), az[i]? = some a → us[i]? = some v → V F β H w a v) :
    Rep F β (H.set id (.row t false (splice cs off az))) (w.setRow b (C.toList.take off ++ us ++ C.toList.drop (off + us.length)).toArray) ∧ Ext β H w β (H.set id (.row t false (splice cs off az))) (w.setRow b (C.toList.take off ++ us ++ C.toList.drop (off + us.length)).toArray) := by
  have hlt := (List.getElem?_eq_some_iff.1 hi).1
  have hu : Upd (fun k => k = b) w (w.setRow b (C.toList.take off ++ us ++ C.toList.drop (off + us.length)).toArray) := Upd.setRow (F := fun k => k = b) (Upd.refl _ w) (.inl rfl) _
  have he := ext_store hr hi hb (fun _ => Nat.le_of_eq (splice_len hoff).symm) hu
  refine ⟨⟨fun k hk => Nat.lt_of_lt_of_le (hr.far k hk) hu.size, fun j t' fz c h => ?_, fun i j ai aj b1 s1 s2 h1 h2 => ?_⟩, he⟩
  · by_cases e : id = j
    · subst e
      rw [get_set_eq hlt] at h
      cases h
      rcases hr.row id _ _ _ hi with ⟨h1, h2⟩ | ⟨b', C', vs, h1, h2, h3, h4, h5, h6, h7⟩
      · rw [h2] at hb; cases hb
      · rw [szR_lt ht] at h1
        rw [hb] at h1
        cases h1
        have h3' := h3.1.blk ht
        have hex := h3.2
        replace h3 := h3'
        have : C' = C := by
          unfold Blk at h3 hC
          rw [h3] at hC
          cases hC; rfl
        subst this
        have hCl : vs.length ≤ C'.toList.length := by
          have := congrArg List.length h5
          rw [List.length_take] at this
          omega
        have hlen : (vs.take off ++ us ++ vs.drop (off + us.length)).length = vs.length := by simp; omega
        refine .inr ⟨b, _, vs.take off ++ us ++ vs.drop (off + us.length), ?_, h2, ⟨.of ht (Blk.row hC _), fun h => ?_⟩, ?_, ?_, ?_, fun i a v ha hv' => ?_⟩
        · rw [hb, szR_lt ht]; simp at hCl ⊢; omega
        · rw [hlen, ← hex h]; have := hex h; simp; omega
        · rw [hlen, h4, splice_len hoff]
        · rw [hlen]
          have hoff' : off ≤ vs.length := by omega
          have e1 : C'.toList.take off = vs.take off := by rw [← h5, List.take_take, Nat.min_eq_left hoff']
          show List.take vs.length (C'.toList.take off ++ us ++ C'.toList.drop (off + us.length)) = _
          rw [e1, List.take_append, List.take_of_length_le (by simp; omega)]
          congr 1
          rw [← h5]
          simp only [List.length_append, List.length_take, List.take_take, List.drop_take]
          congr 1
          simp at hCl ⊢
          omega
        · intro u hu'
          rcases List.mem_append.1 hu' with hu' | hu'
          · rcases List.mem_append.1 hu' with hu' | hu'
            · exact h6 u (List.mem_of_mem_take hu')
            · exact ho u hu'
          · exact h6 u (List.mem_of_mem_drop hu')
        · rw [splice_get hoff] at ha
          have hv2 : (vs.take off ++ us ++ vs.drop (off + us.length))[i]? = if i < off then vs[i]? else if i < off + us.length then us[i - off]? else vs[i]? := by
            rw [List.append_assoc, List.getElem?_append, List.getElem?_append, List.length_take, Nat.min_eq_left (by omega)]
            split
            · rw [List.getElem?_take, if_pos (by assumption)]
            · split
              · rw [if_pos (by omega)]
              · rw [if_neg (by omega), List.getElem?_drop]; congr 1; omega
          rw [hv2] at hv'
          rw [hl] at hv'
          split at ha
          · rw [if_pos (by assumption)] at hv'; exact (h7 i a v ha hv').ext he
          · rw [if_neg (by assumption)] at hv'
            split at ha
            · rw [if_pos (by assumption)] at hv'; exact (hv _ a v ha hv').ext he
            · rw [if_neg (by assumption)] at hv'; exact (h7 i a v ha hv').ext he
    · rw [get_set_ne e] at h
      refine (hr.row j t' fz c h).ext he rfl (fun b1 s1 h1 => ?_)
      refine hu.block b1 (hr.lt ⟨_, _, _, h⟩ h1).1 (fun eb => ?_)
      subst eb
      exact e (hr.inj id j ⟨_, _, _, hi⟩ ⟨_, _, _, h⟩ b1 s s1 hb h1)
  · have back : ∀ {k}, alive (H.set id (.row t false (splice cs off az))) k → alive H k := by
      intro k ⟨t', fz, c, h⟩
      by_cases e : id = k
      · subst e; exact ⟨_, _, _, hi⟩
      · rw [get_set_ne e] at h; exact ⟨_, _, _, h⟩
    exact hr.inj i j (back ai) (back aj) b1 s1 s2 h1 h2

/-- An object is given up. -/
theorem drop_row (hr : Rep F β H w) (id : Nat) : Rep F β (H.set id .dead) w ∧ Ext β H w β (H.set id .dead) w := by
  have back : ∀ {k : Nat} {t : TypeId} {fz : Bool} {c : List AV}, (H.set id .dead)[k]? = some (AObj.row t fz c) → H[k]? = some (AObj.row t fz c) := by
    intro k t fz c h
    by_cases e : id = k
    · subst e
      by_cases hl : id < H.length
      · rw [get_set_eq hl] at h; cases h
      · rw [List.getElem?_eq_none (by simp; omega)] at h; cases h
    · rwa [get_set_ne e] at h
  have he : Ext β H w β (H.set id .dead) w := by
    refine ⟨Upd.refl _ _, by simp, fun j _ ⟨t, fz, c, h⟩ => ⟨⟨t, fz, c, back h⟩, rfl⟩, fun j t fz c t' fz' c' h1 h2 => ?_, fun b ⟨j, s, ⟨t, c, h⟩, e⟩ _ => ⟨j, s, ⟨t, c, back h⟩, e⟩⟩
    rw [back h2] at h1; cases h1; exact ⟨rfl, fun _ => Nat.le_refl _⟩
  refine ⟨⟨hr.far, fun j t fz c h => ?_, fun i j ⟨t, fz, c, h⟩ ⟨t', fz', c', h'⟩ => hr.inj i j ⟨_, _, _, back h⟩ ⟨_, _, _, back h'⟩⟩, he⟩
  exact (hr.row j t fz c (back h)).ext he rfl (fun _ _ _ => rfl)
end
end
end Go.Proofs.YthknobbilcolnaaGreat
