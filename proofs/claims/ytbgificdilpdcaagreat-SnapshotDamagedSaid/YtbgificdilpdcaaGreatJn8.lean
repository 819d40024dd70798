/- The reference disk: drop, put. No condition. The hash functions of package hash and of the reference: Tagged. Conditions: sizes. Numbers as bytes: AppendUint and Uint of package codec and of the reference. Conditions: sizes. Numbers as bytes: AppendUint of package codec and of the reference. Conditions: sizes. Numbers as bytes: Uint of package codec and of the reference. Conditions: sizes. Comparing bytes; AppendBytes and Bytes of package codec and of the reference; the length of a signature. Conditions: sizes. -/
import Derived.Test.YtbgificdilpdcaaGreatJn7
import Derived.Test.YtbgificdilpdcaaGreatJn4
import Derived.Laws.MakeOwn
import Derived.Test.YtbgificdilpdcaaGreatJn2
import Derived.Lib.Bytealg
import Derived.Lib.BytesEntry
namespace Go.Proofs.YtbgificdilpdcaaGreat
section
open Go.RowKit Go.Maps

theorem file_info : (Tryz.prog.info? 94).map (fun i => (i.zero, i.size, i.bytes)) = some (some (.agg #[.string ⟨#[]⟩, .slice none 0 0, .int .i64 0]), 3, 48) := by kernel_rfl

theorem cellsR_one {R : List RRec} {w : World} (h : ∀ r ∈ R, Own w 5 1 r.cv r.c.length (r.c.map byteV)) : ∀ u ∈ cellsR R, u.oneCell' = true := by
  intro u hu
  obtain ⟨r, hr, hu⟩ := List.mem_flatMap.1 hu
  obtain ⟨A, c, hcv⟩ := (h r hr).form
  simp only [List.mem_cons, List.not_mem_nil, or_false] at hu
  rcases hu with rfl | rfl | rfl
  · rfl
  · rw [hcv]; rfl
  · rfl

section
variable {w w' : World} {m : Nat} {off armed : Bool} {left : Nat} {lv : Value} {R : List RRec}

/-- The list of files is another one. -/
theorem RefL.relist (h : RefL w m off armed left lv R) {lv' : Value} {R' : List RRec} {F : Nat → Prop} (hu : Upd F w w') (hFc : ∀ r ∈ R', ∀ k, OwnB r.cv k → ¬ F k) (hb : Blk w' m 44 #[lv', .bool armed, .int .i64 left, .bool off])
    (hl : Own w' 94 3 lv' R'.length (cellsR R')) (hsub : ∀ r ∈ R', r ∈ R) (hn : R'.length ≤ 1099511627776) : RefL w' m off armed left lv' R' :=
  { head := hb, list := hl, cont := fun r hr => (h.cont r (hsub r hr)).upd hu (hFc r hr), lft := h.lft, len := fun r hr => h.len r (hsub r hr), num := hn }

/-- The part of a slice before k, and the part from k on. -/
theorem Rd.upto {size n c k : Nat} {A : Option Addr} {xs : List Value} (h : Rd w size (.slice A n c) n xs) (hk : k ≤ n) : Rd w size (.slice A k c) k (xs.take (k * size)) := by
  obtain ⟨A', c', e, hn, hc, hl, hx⟩ := h
  injection e with e1 _ e3
  subst e1 e3
  refine ⟨A, c, rfl, by omega, hc, ?_, fun h0 => ?_⟩
  · rw [List.length_take, hl]; exact Nat.min_eq_left (Nat.mul_le_mul_right _ hk)
  · obtain ⟨g, o, rfl, hx'⟩ := hx (by omega)
    refine ⟨g, o, rfl, fun j u hu => hx' j u ?_⟩
    rw [List.getElem?_take] at hu
    split at hu
    · exact hu
    · cases hu
theorem Rd.from_ {size n c k g o : Nat} {xs : List Value} (h : Rd w size (.slice (some ⟨g, o, none⟩) n c) n xs) (hk : k ≤ n) (A' : Option Addr) (hA : k < n → A' = some ⟨g, o + k * size, none⟩) : Rd w size (.slice A' (n - k) (c - k)) (n - k) (xs.drop (k * size)) := by
  obtain ⟨A0, c', e, hn, hc, hl, hx⟩ := h
  injection e with e1 _ e3
  subst e1 e3
  refine ⟨A', c - k, rfl, by omega, by omega, ?_, fun h0 => ?_⟩
  · rw [List.length_drop, hl, Nat.sub_mul]
  · obtain ⟨g', o', e, hx'⟩ := hx (by omega)
    injection e with e
    injection e with e1 e2
    subst e1 e2
    refine ⟨g, o + k * size, hA (by omega), fun j u hu => ?_⟩
    rw [Nat.add_assoc]
    exact hx' _ u (by rw [← hu, List.getElem?_drop])

def DropPost (w : World) (m : Nat) (off armed : Bool) (left : Nat) (R' : List RRec) (F : Nat → Prop) (e : Ending) (w' : World) : Prop :=
  e = .returned (.tuple #[]) ∧ ∃ lv', RefL w' m off armed left lv' R' ∧ Upd F w w' ∧ (∀ k, OwnB lv' k → w.heap.size ≤ k)

set_option maxRecDepth 100000 in
set_option maxHeartbeats 4000000 in
theorem drop_any (h : RefL w m off armed left lv R) (i : Nat) (hi : i < R.length) :
    Calls Tryz.prog 92 #[ptrV m, .int .i64 i] w (DropPost w m off armed left (R.take i ++ R.drop (i + 1)) (fun k => k = m)) := by
  obtain ⟨A, c, hlv, hn, hc, hx⟩ := h.form
  obtain ⟨g, rfl, hog, _⟩ := hx (by omega)
  subst hlv
  have c0 : w.cell? ⟨m, 0, none⟩ = some (.slice (some ⟨g, 0, none⟩) R.length c) := h.head.cell 0
  have f0 : w.frozen? ⟨m, 0, none⟩ = false := h.head.frozen 0
  have hmz : m < w.heap.size := h.head.lt
  have hgz : g < w.heap.size := h.list.lt hog
  obtain ⟨i0, hi0, hz0, hz1, hz2⟩ := info_parts file_info
  have b1 : (0 : Int) ≤ (i : Int) := by omega
  have b2 : (i : Int) ≤ (c : Int) := by omega
  have b3 : (i : Int) + 1 ≤ (R.length : Int) := by omega
  have b4 : (R.length : Int) ≤ (c : Int) := by omega
  have b5 : IntKind.i64.wrap ((i : Int) + 1) = (i : Int) + 1 := IntWalk.i64_in _ (by omega)
  have b7 : (0 : Int) ≤ (i : Int) + 1 := by omega
  have b8 : (i : Int) ≤ (i : Int) + 1 := by omega
  have hw0 : Upd NoF w (w.alloc (.cells #[] 94)).drew := ((Upd.refl NoF w).alloc _).drew
  have A1 := Lib.hid (show Own (w.alloc (.cells #[] 94)).drew 94 3 (.slice (some ⟨w.heap.size, 0, none⟩) 0 0) 0 [] from ⟨by simp, .inr ⟨w.heap.size, 0, #[], rfl, (Blk.new w _ _).drew, Nat.le_refl _, Nat.zero_le _, Nat.zero_le _, rfl⟩⟩)
  have hrd : RdF (fun k => k = m ∨ k = w.heap.size) (w.alloc (.cells #[] 94)).drew 3 (.slice (some ⟨g, 0, none⟩) R.length c) R.length (cellsR R) :=
    RdF.upd' (F := fun k => k = m) (h.list.rdF (fun k hk e => h.list.ne_of h.head (by decide) hk e)) (hw0.mono (fun _ _ h => h.elim)) (fun k hk h => by rcases h with h | h; exact h; omega)
  have A2 := Lib.hid (hrd.now.upto (k := i) (by omega))
  have A3 := Lib.hid (show ∀ u ∈ (cellsR R).take (i * 3), u.oneCell' = true from fun u hu => cellsR_one h.cont u (List.mem_of_mem_take hu))
  have hnum := h.num
  have A4 := Lib.hid (show i ≤ maxLen by unfold maxLen; omega)
  have A5 := Lib.hid (show i * 48 ≤ 140737488355328 by omega)
  have B3 := Lib.hid (show ∀ u ∈ (cellsR R).drop ((i + 1) * 3), u.oneCell' = true from fun u hu => cellsR_one h.cont u (List.mem_of_mem_drop hu))
  have B4 := Lib.hid (show i + (R.length - (i + 1)) ≤ maxLen by unfold maxLen; omega)
  have B5 := Lib.hid (show (i + (R.length - (i + 1))) * 48 ≤ 140737488355328 by omega)
  have K1 := Lib.hid (show ∀ w1, Upd (OwnB (.slice (some ⟨w.heap.size, 0, none⟩) 0 0)) (w.alloc (.cells #[] 94)).drew w1 → w1.cell? ⟨m, 0, none⟩ = some (.slice (some ⟨g, 0, none⟩) R.length c) ∧ w1.frozen? ⟨m, 0, none⟩ = false from fun w1 hu => by
    have hb : Blk (w.alloc (.cells #[] 94)).drew m 44 #[.slice (some ⟨g, 0, none⟩) R.length c, .bool armed, .int .i64 left, .bool off] := (h.head.alloc _).drew
    have hb1 := hu.blk hb (by simp [OwnB, Value.ownBlock]; omega)
    exact ⟨hb1.cell 0, hb1.frozen 0⟩)
  have B2 := Lib.hid (show ∀ w1, Upd (OwnB (.slice (some ⟨w.heap.size, 0, none⟩) 0 0)) (w.alloc (.cells #[] 94)).drew w1 → ∀ A', (i + 1 < R.length → A' = some ⟨g, (i + 1) * 3, none⟩) → Rd w1 3 (.slice A' (R.length - (i + 1)) (c - (i + 1))) (R.length - (i + 1)) ((cellsR R).drop ((i + 1) * 3)) from fun w1 hu A' hA' =>
    (hrd w1 (hu.mono (fun k _ hk => by simp [OwnB, Value.ownBlock] at hk; exact .inr hk.symm))).from_ (k := i + 1) (by omega) A' (fun h => by rw [hA' h]; simp))
  have K2 := Lib.hid (show ∀ w1 A c1, Upd (OwnB (.slice (some ⟨w.heap.size, 0, none⟩) 0 0)) (w.alloc (.cells #[] 94)).drew w1 → (∀ k, OwnB (.slice A i c1) k → OwnB (.slice (some ⟨w.heap.size, 0, none⟩) 0 0) k ∨ (w.alloc (.cells #[] 94)).drew.heap.size ≤ k) → ∀ w2, Upd (OwnB (.slice A i c1)) w1 w2 → w2.cell? ⟨m, 0, none⟩ = some (.slice (some ⟨g, 0, none⟩) R.length c) ∧ w2.frozen? ⟨m, 0, none⟩ = false from fun w1 A c1 hu hN w2 hu2 => by
    have hb : Blk (w.alloc (.cells #[] 94)).drew m 44 #[.slice (some ⟨g, 0, none⟩) R.length c, .bool armed, .int .i64 left, .bool off] := (h.head.alloc _).drew
    have hb1 := hu.blk hb (by simp [OwnB, Value.ownBlock]; omega)
    have hb2 := hu2.blk hb1 (fun hk => ?_)
    · exact ⟨hb2.cell 0, hb2.frozen 0⟩
    rcases hN m hk with e | e
    · simp [OwnB, Value.ownBlock] at e; omega
    · simp at e; omega)
  have KP0 := Lib.hid (show (w.alloc (.cells #[] 94)).drew.cell? ⟨m, 0, none⟩ = some (.slice (some ⟨g, 0, none⟩) R.length c) ∧ (w.alloc (.cells #[] 94)).drew.frozen? ⟨m, 0, none⟩ = false from ⟨((h.head.alloc _).drew).cell 0, ((h.head.alloc _).drew).frozen 0⟩)
  have fin : ∀ w1 w2 A c1 A' c2, Upd (OwnB (.slice (some ⟨w.heap.size, 0, none⟩) 0 0)) (w.alloc (.cells #[] 94)).drew w1 → (∀ k, OwnB (.slice A i c1) k → OwnB (.slice (some ⟨w.heap.size, 0, none⟩) 0 0) k ∨ (w.alloc (.cells #[] 94)).drew.heap.size ≤ k) →
      Upd (OwnB (.slice A i c1)) w1 w2 → (∀ k, OwnB (.slice A' (i + (R.length - (i + 1))) c2) k → OwnB (.slice A i c1) k ∨ w1.heap.size ≤ k) → Own w2 94 3 (.slice A' (i + (R.length - (i + 1))) c2) (i + (R.length - (i + 1))) ((cellsR R).take (i * 3) ++ (cellsR R).drop ((i + 1) * 3)) →
      DropPost w m off armed left (R.take i ++ R.drop (i + 1)) (fun k => k = m) (.returned (.tuple #[])) (w2.setCell ⟨m, 0, none⟩ (.slice A' (i + (R.length - (i + 1))) c2)) := by
    intro w1 w2 A c1 A' c2 u1 n1 u2 n2 ho
    have hN1 : ∀ k, OwnB (.slice A i c1) k → w.heap.size ≤ k := fun k hk => by
      rcases n1 k hk with e | e
      · simp [OwnB, Value.ownBlock] at e; omega
      · simp at e; omega
    have hU : Upd NoF w w2 := (hw0.trans u1 (fun k hk e => by simp [OwnB, Value.ownBlock] at e; omega)).trans u2 (fun k hk e => by have := hN1 k e; omega)
    have hN2 : ∀ k, OwnB (.slice A' (i + (R.length - (i + 1))) c2) k → w.heap.size ≤ k := fun k hk => by
      rcases n2 k hk with e | e
      · exact hN1 k e
      · have := u1.size; simp at this; omega
    have hlen : i + (R.length - (i + 1)) = (R.take i ++ R.drop (i + 1)).length := by simp; omega
    have hb2 := hU.blk h.head (fun h => h)
    have hU3 : Upd (fun k => k = m) w (w2.setCell ⟨m, 0, none⟩ (.slice A' (i + (R.length - (i + 1))) c2)) := (hU.mono (G := fun k => k = m) (fun _ _ h => h.elim)).setCell (p := ⟨m, 0, none⟩) (.inl rfl) _
    refine ⟨rfl, _, h.relist hU3 ?_ (hb2.put 0 _) ?_ ?_ (by simp; omega), hU3, hN2⟩
    · intro r hr k hk e
      rcases List.mem_append.1 hr with hr | hr
      · exact (h.cont r (List.mem_of_mem_take hr)).ne_of h.head (by decide) hk e
      · exact (h.cont r (List.mem_of_mem_drop hr)).ne_of h.head (by decide) hk e
    · rw [← hlen, cellsR_append, ← cellsR_take, ← cellsR_drop]
      exact ho.upd ((Upd.refl (fun k => k = m) w2).setCell (p := ⟨m, 0, none⟩) (.inl rfl) _) (fun k hk e => by have := hN2 k hk; omega)
    · intro r hr
      rcases List.mem_append.1 hr with hr | hr
      · exact List.mem_of_mem_take hr
      · exact List.mem_of_mem_drop hr
  have FIN := Lib.hid fin
  have H := Lib.hid h
  clear h hx hrd hw0 fin
  by_cases hce : c = i + 1
  · subst hce
    go_enter Tryz.func92, Tryz.ntmps92
    go_wp2_with fail
    go_region_law
      (first
        | (refine step_append_new _ (by rfl) (.tmp 5) (.tmp 11) _ (by rfl) 94 i0 _ 3 48 Tryz.underlying42 hi0 hz0 hz1 hz2 rfl (.slice (some ⟨w.heap.size, 0, none⟩) 0 0) (by rfl) (by exact A1.out) (.slice (some ⟨g, 0, none⟩) i (i + 1)) i ((cellsR R).take (i * 3)) (by rfl) (by exact A2.out) A3.out A4.out A5.out ?_; intro A c1 w1 hown1 hupd1 hnew1; obtain ⟨kp1, kf1⟩ := K1.out w1 hupd1; have O1 := Lib.hid hown1; have U1 := Lib.hid hupd1; have N1 := Lib.hid hnew1; clear hown1 hupd1 hnew1)
        | (refine step_append_none _ (by rfl) (.tmp 12) (.tmp 19) _ (by rfl) 94 i0 3 Tryz.underlying42 hi0 (.slice A i c1) i ((cellsR R).take (i * 3)) (by rfl) O1.out (some ⟨g, 0, none⟩) 0 (by rfl) ?_))
    all_goals
      go_wp2
      go_end0
      have e0 : i + (R.length - (i + 1)) = i := by omega
      have e1 : (cellsR R).drop ((i + 1) * 3) = [] := List.drop_eq_nil_of_le (by rw [length_cellsR]; omega)
      have := FIN.out w1 w1 A c1 A c1 U1.out N1.out (Upd.refl _ _) (by rw [e0]; exact fun k hk => .inl hk) (by rw [e0, e1, List.append_nil]; exact O1.out)
      rw [e0] at this
      exact this
  · have b6 : ¬ c = i + 1 := hce
    go_enter Tryz.func92, Tryz.ntmps92
    go_wp2_with fail
    go_region_law
      (first
        | (refine step_append_new _ (by rfl) (.tmp 5) (.tmp 11) _ (by rfl) 94 i0 _ 3 48 Tryz.underlying42 hi0 hz0 hz1 hz2 rfl (.slice (some ⟨w.heap.size, 0, none⟩) 0 0) (by rfl) (by exact A1.out) (.slice (some ⟨g, 0, none⟩) i c) i ((cellsR R).take (i * 3)) (by rfl) (by exact A2.out) A3.out A4.out A5.out ?_; intro A c1 w1 hown1 hupd1 hnew1; obtain ⟨kp1, kf1⟩ := K1.out w1 hupd1; have O1 := Lib.hid hown1; have U1 := Lib.hid hupd1; have N1 := Lib.hid hnew1; clear hown1 hupd1 hnew1)
        | (refine step_append_to _ (by rfl) (.tmp 12) (.tmp 19) _ (by rfl) 94 i0 _ 3 48 Tryz.underlying42 hi0 hz0 hz1 hz2 rfl (.slice A i c1) i ((cellsR R).take (i * 3)) (by rfl) O1.out (.slice (some ⟨g, (i + 1) * 3, none⟩) (R.length - (i + 1)) (c - (i + 1))) (R.length - (i + 1)) ((cellsR R).drop ((i + 1) * 3)) (by rfl) (B2.out w1 U1.out _ (fun _ => rfl)) B3.out B4.out B5.out ?_; intro A' c2 w2 hown2 hupd2 hnew2; obtain ⟨kp2, kf2⟩ := K2.out w1 A c1 U1.out N1.out w2 hupd2; have O2 := Lib.hid hown2; have U2 := Lib.hid hupd2; have N2 := Lib.hid hnew2; clear hown2 hupd2 hnew2))
    all_goals
      go_wp2
      go_end0
      exact FIN.out w1 w2 A c1 A' c2 U1.out N1.out U2.out N2.out O2.out
end
end

section
open Go.RowKit

theorem run_make160 (w : World) : (Instr.makeSlice 28 (.int .i64 0) (.int .i64 160)).run Tryz.prog w = .ok (.slice (some ⟨w.heap.size, 0, none⟩) 0 160) (w.alloc (.cells (Array.replicate 160 (.int .u8 0)) 5)) := by kernel_rfl
theorem make160 (w : World) : ∃ w', (Instr.makeSlice 28 (.int .i64 0) (.int .i64 160)).run Tryz.prog w = .ok (.slice (some ⟨w.heap.size, 0, none⟩) 0 160) w' ∧ Own w' 5 1 (.slice (some ⟨w.heap.size, 0, none⟩) 0 160) 0 [] ∧ Upd NoF w w' :=
  ⟨_, run_make160 w, ⟨by simp, .inr ⟨w.heap.size, 160, _, rfl, Blk.new w _ _, by omega, by unfold maxLen; omega, by simp, by simp⟩⟩, (Upd.refl NoF w).alloc _⟩
theorem Own.rd2 {w : World} {A : Option Addr} {c : Nat} {t : UInt8} {bs : List UInt8} (h : Own w 5 1 (.slice A (1 + bs.length) c) (1 + bs.length) ([byteV t] ++ bs.map byteV)) : Rd w 1 (.slice A (1 + bs.length) c) (t :: bs).length ((t :: bs).map byteV) := by
  have := h.rd
  rw [show (t :: bs).length = 1 + bs.length by simp; omega]
  exact this
theorem Rd.keep {w w' : World} {size n : Nat} {v : Value} {xs : List Value} (h : Rd w size v n xs) (hu : Upd NoF w w') : Rd w' size v n xs := by
  obtain ⟨A', c', e, h1, h2, h3, hx⟩ := h
  exact ⟨A', c', e, h1, h2, h3, fun h0 => by
    obtain ⟨g, o, e', hc⟩ := hx h0
    exact ⟨g, o, e', fun j u hu' => hu.cell (hc j u hu') (fun h => h)⟩⟩

end

section
open Go.RowKit

/-- A new slice of bytes that owns its block. -/
def NewO (w : World) (bs : List UInt8) (A : Option Addr) (c : Nat) (w' : World) : Prop := Own w' 5 1 (.slice A bs.length c) bs.length (bs.map byteV) ∧ (∀ k, OwnB (.slice A bs.length c) k → w.heap.size ≤ k) ∧ Upd NoF w w'
def BytesPost (w : World) (bs : List UInt8) (e : Ending) (w' : World) : Prop := ∃ A c, e = .returned (.slice A bs.length c) ∧ NewO w bs A c w'

theorem run_make_bytes (w : World) (n m : Nat) (l c : Int) (hl : l = n) (hc : c = m) (hm : m ≤ 1099511627776) (hn : n ≤ m) : ∃ w' cs, (Instr.makeSlice 28 (.int .i64 l) (.int .i64 c)).run Tryz.prog w = .ok (.slice (some ⟨w.heap.size, 0, none⟩) n m) w' ∧ Blk w' w.heap.size 5 cs ∧ cs.size = m ∧ Upd NoF w w' := by
  obtain ⟨i1, hi1, hy0, hy1, hy2⟩ := info_parts byte_info
  subst hl hc
  have h := run_make (P := Tryz.prog) w 28 5 i1 _ Tryz.underlying28 hi1 hy0 .i64 .i64 n m (by omega) (by omega) (by rw [hy2]; omega) (by omega)
  refine ⟨_, _, h, Blk.new w _ _, ?_, (Upd.refl NoF w).alloc _⟩
  rw [size_madeCells, hy1]
  simp

theorem run_copy0 (w : World) (g o dl dc : Nat) (A : Option Addr) (c : Nat) (ty : TypeId) : (Builtin.copy_ #[28, 28] ty #[.slice (some ⟨g, o, none⟩) dl dc, .slice A 0 c]).run Tryz.prog w = .ok (.int .i64 0) w := by
  obtain ⟨i1, hi1, hy0, hy1, hy2⟩ := info_parts byte_info
  cases A <;> simp [Builtin.copy_, run_underlying Tryz.underlying28, Builtin.lenOf, Builtin.firstCells, sizeOf, typeInfo, hi1, storeCells, loadCells, loadCellsFrom, goInt]

/-- 'make' and 'copy' at once. -/
theorem make_copy {w : World} {v : Value} {bs : List UInt8} (h : Rd w 1 v bs.length (bs.map byteV)) (n : Nat) (c : Int) (hc : c = ((bs.length + n : Nat) : Int)) (hm : bs.length + n ≤ 1099511627776) : ∃ w1 w2,
    (Instr.makeSlice 28 (.int .i64 (bs.length : Int)) (.int .i64 c)).run Tryz.prog w = .ok (.slice (some ⟨w.heap.size, 0, none⟩) bs.length (bs.length + n)) w1 ∧
    (Builtin.copy_ #[28, 28] 3 #[.slice (some ⟨w.heap.size, 0, none⟩) bs.length (bs.length + n), v]).run Tryz.prog w1 = .ok (.int .i64 (bs.length : Int)) w2 ∧
    NewO w bs (some ⟨w.heap.size, 0, none⟩) (bs.length + n) w2 := by
  obtain ⟨w1, cs, h1, h2, h3, h4⟩ := run_make_bytes w bs.length (bs.length + n) bs.length c rfl hc hm (by omega)
  have hN : ∀ k, OwnB (.slice (some ⟨w.heap.size, 0, none⟩) bs.length (bs.length + n)) k → w.heap.size ≤ k := fun k hk => by simp [OwnB, Value.ownBlock] at hk; omega
  rcases Nat.eq_zero_or_pos bs.length with h0 | h0
  · obtain rfl : bs = [] := List.eq_nil_of_length_eq_zero h0
    obtain ⟨A, c', rfl, _⟩ := h
    refine ⟨w1, w1, h1, run_copy0 _ _ _ _ _ _ _ _, ⟨by simp, .inr ⟨w.heap.size, _, cs, rfl, h2, by omega, by unfold maxLen; omega, by omega, by simp⟩⟩, hN, h4⟩
  · obtain ⟨w2, k1, k2, k3⟩ := run_copy_bytes (dl := bs.length) (dc := bs.length + n) (o := 0) h2 (h.keep h4) h0 bs.length (by simp only [Nat.min_def]; split <;> omega) (by omega) 3
    refine ⟨w1, w2, h1, k1, ⟨by simp, .inr ⟨w.heap.size, _, _, rfl, k2, by omega, by unfold maxLen; omega, ?_, ?_⟩⟩, hN, h4.trans k3 (fun k hk e => by have e : k = w.heap.size := e; omega)⟩
    · simp; omega
    · simp

set_option maxRecDepth 100000 in
theorem extended_any {w : World} {v : Value} {bs : List UInt8} (h : Rd w 1 v bs.length (bs.map byteV)) (n : Nat) (hm : bs.length + n ≤ 1099511627776) : Calls Tryz.prog 75 #[v, .int .i64 (n : Int)] w (BytesPost w bs) := by
  obtain ⟨w1, w2, h1, h2, h3⟩ := make_copy h n ((bs.length : Int) + (n : Int)) (by omega) hm
  obtain ⟨A, c, rfl, hlc, hcm, _⟩ := id h
  have H3 := Lib.hid h3
  clear h h3
  go_enter Tryz.func75, Tryz.ntmps75
  go_wp2
  go_ret
  exact ⟨_, _, rfl, H3.out⟩

def AuRel (w : World) (bs : List UInt8) (v : Int) (n : Nat) (out i : Value) (wr : World) : Prop := ∃ (r : Nat) (xs : List UInt8) (A : Option Addr) (c : Nat), r ≤ n ∧ i = .int .i64 ((r : Int) - 1) ∧ out = .slice A xs.length c ∧ NewO w xs A c wr ∧ xs ++ beB v r = bs ++ beB v n

theorem NewO.push {w wr w1 : World} {xs : List UInt8} {A A' : Option Addr} {c c' : Nat} {b : UInt8} {o : Obj} (h : NewO w xs A c wr) (ho : Own w1 5 1 (.slice A' (xs.length + 1) c') (xs.length + 1) (xs.map byteV ++ [byteV b])) (hu : Upd (OwnB (.slice A xs.length c)) (wr.alloc o) w1)
    (hn : ∀ k, OwnB (.slice A' (xs.length + 1) c') k → OwnB (.slice A xs.length c) k ∨ (wr.alloc o).heap.size ≤ k) : NewO w (xs ++ [b]) A' c' w1 := by
  obtain ⟨h1, h2, h3⟩ := h
  have hs := h3.size
  refine ⟨by rw [List.length_append, List.length_singleton, List.map_append]; exact ho, fun k hk => ?_, (h3.alloc o).trans hu (fun k hk e => by have := h2 k e; omega)⟩
  rw [List.length_append, List.length_singleton] at hk
  rcases hn k hk with e | e
  · exact h2 k e
  · simp at e; omega
end

section
open Go.RowKit

set_option maxRecDepth 100000 in
set_option maxHeartbeats 4000000 in
theorem cAppendUint_any {w : World} {b : Value} {bs : List UInt8} (h : Rd w 1 b bs.length (bs.map byteV)) (v : Int) (_hv : 0 ≤ v) (n : Nat) (hn : n ≤ 8) (hm : bs.length + 8 ≤ 1099511627776) : Calls Tryz.prog 26 #[b, u64V v, .int .i64 (n : Int)] w (BytesPost w (bs ++ beB v n)) := by
  obtain ⟨A, c, rfl, hlc, hcm, _⟩ := id h
  have CE := Lib.hid (extended_any h n (by omega))
  obtain ⟨i1, hi1, hy0, hy1, hy2⟩ := info_parts byte_info
  have m1 : max (n : Int) 0 = n := by omega
  have m2 : min (n : Int) 8 = n := by omega
  clear h
  go_enter Tryz.func26, Tryz.ntmps26
  go_wp2_with fail
  refine CE.out.mono ?_
  rintro e w1 ⟨A1, c1, rfl, hN1⟩
  have N1 := Lib.hid hN1
  clear hN1 m1 m2
  go_wp2
  go_loopw [7, 8] (fun out i wr => AuRel w bs v n out i wr) (fun _ i _ => (intOf i + 1).toNat)
  case atStart => exact ⟨n, bs, A1, c1, Nat.le_refl _, rfl, rfl, N1.out, rfl⟩
  case round =>
    obtain ⟨r, xs, A2, c2, hr, hi, rfl, hN, hE⟩ := hrel
    have hlen : xs.length + r = bs.length + n := by
      have := congrArg List.length hE
      simpa [beB_len] using this
    have HN := Lib.hid hN
    have HE := Lib.hid hE
    cases r with
    | zero =>
      obtain rfl := hi
      obtain rfl : xs = bs ++ beB v n := by simpa [beB] using HE.out
      have t1 : decide ((0 : Int) ≤ ((0 : Nat) : Int) - 1) = false := by decide
      clear hN hE hlen
      go_wp2
      go_ret
      exact ⟨A2, c2, rfl, HN.out⟩
    | succ r =>
      obtain rfl : _ = Value.int .i64 (r : Int) := hi.trans (by congr 1; omega)
      have t1 : decide ((0 : Int) ≤ (r : Int)) = true := by simp
      have e1 : (0 : Int) ≤ 8 * (r : Int) := by omega
      have e2 : (8 * (r : Int)).toNat = 8 * r := by omega
      have e3 : min (8 * r) 64 = 8 * r := by omega
      have HBV := Lib.hid (show Value.int .u8 (IntKind.u8.wrap (v / 2 ^ (8 * r))) = byteV (byteAt v r) from wrap_byte _)
      have hxl : xs.length ≤ 1099511627776 := by omega
      clear hN hE hi hlen
      go_wp2_with (at_builtin; refine wpList_append_to _ rfl (.tmp 21) (.tmp 27) 28 rfl 5 i1 _ 1 1 Tryz.underlying28 hi1 hy0 hy1 hy2 rfl (.slice A2 xs.length c2) xs.length (xs.map byteV) rfl (HN.out.1.upd ((Upd.refl NoF wr).alloc _) (fun _ _ h => h)) (.slice (some ⟨wr.heap.size, 0, none⟩) 1 1) 1 [byteV (byteAt v r)] rfl (Rd.of_blk (Blk.new wr _ _) (by omega) (by unfold maxLen; omega) rfl (by intro j u hu; rw [← HBV.out, IntKind.wrap_u8'] at hu; cases j with | zero => simpa using hu | succ j => simp at hu)) (by simp [byteV, Value.oneCell']) (by unfold maxLen; omega) (by omega) ?_; intro A3 c3 w3 hown3 hupd3 hnew3; have O3 := Lib.hid hown3; have V3 := Lib.hid hupd3; have W3 := Lib.hid hnew3; clear hown3 hupd3 hnew3)
      go_roundw
      case rel =>
        refine ⟨r, xs ++ [byteAt v r], A3, c3, by omega, by go_num, by simp, HN.out.push O3.out V3.out W3.out, ?_⟩
        rw [← HE.out]
        simp [beB]
      case measure => simp [intOf]

set_option maxRecDepth 100000 in
set_option maxHeartbeats 4000000 in
theorem r1AppendUint_any {w : World} {b : Value} {bs : List UInt8} (h : Rd w 1 b bs.length (bs.map byteV)) (v : Int) (_hv : 0 ≤ v) (n : Nat) (hn : n ≤ 8) (hm : bs.length + 8 ≤ 1099511627776) : Calls Tryz.prog 30 #[b, u64V v, .int .i64 (n : Int)] w (BytesPost w (bs ++ beB v n)) := by
  obtain ⟨A, c, rfl, hlc, hcm, _⟩ := id h
  have H := Lib.hid h
  obtain ⟨i1, hi1, hy0, hy1, hy2⟩ := info_parts byte_info
  have m1 : max (0 : Int) (n : Int) = n := by omega
  have m2 : min (n : Int) 8 = n := by omega
  clear h
  go_enter Tryz.func30, Tryz.ntmps30
  go_wp2_with (at_builtin; refine wpList_append_new _ rfl (.tmp 9) (.tmp 10) 28 rfl 5 i1 _ 1 1 Tryz.underlying28 hi1 hy0 hy1 hy2 rfl (.slice (some ⟨w.heap.size, 0, none⟩) 0 0) rfl (Own.fresh w _ _) (.slice A bs.length c) bs.length (bs.map byteV) rfl (H.out.keep ((Upd.refl NoF w).alloc _)) (bytes_oneCell _) (by unfold maxLen; omega) (by omega) ?_; intro A1 c1 w1 hown1 hupd1 hnew1; have N1 := Lib.hid (show NewO w bs A1 c1 w1 from ⟨hown1, fun k hk => (by rcases hnew1 k hk with e | e; (simp [OwnB, Value.ownBlock] at e; omega); (simp at e; omega)), ((Upd.refl NoF w).alloc _).trans hupd1 (fun k hk e => by simp [OwnB, Value.ownBlock] at e; omega)⟩); clear hown1 hupd1 hnew1)
  clear m1 m2
  go_loopw [7, 8] (fun out i wr => AuRel w bs v n out i wr) (fun _ i _ => (intOf i + 1).toNat)
  case atStart => exact ⟨n, bs, A1, c1, Nat.le_refl _, rfl, rfl, N1.out, rfl⟩
  case round =>
    obtain ⟨r, xs, A2, c2, hr, hi, rfl, hN, hE⟩ := hrel
    have hlen : xs.length + r = bs.length + n := by
      have := congrArg List.length hE
      simpa [beB_len] using this
    have HN := Lib.hid hN
    have HE := Lib.hid hE
    cases r with
    | zero =>
      obtain rfl := hi
      obtain rfl : xs = bs ++ beB v n := by simpa [beB] using HE.out
      have t1 : decide ((0 : Int) ≤ ((0 : Nat) : Int) - 1) = false := by decide
      clear hN hE hlen
      go_wp2
      go_ret
      exact ⟨A2, c2, rfl, HN.out⟩
    | succ r =>
      obtain rfl : _ = Value.int .i64 (r : Int) := hi.trans (by congr 1; omega)
      have t1 : decide ((0 : Int) ≤ (r : Int)) = true := by simp
      have e1 : (0 : Int) ≤ 8 * (r : Int) := by omega
      have e2 : (8 * (r : Int)).toNat = 8 * r := by omega
      have e3 : min (8 * r) 64 = 8 * r := by omega
      have HBV := Lib.hid (show Value.int .u8 (IntKind.u8.wrap (v / 2 ^ (8 * r))) = byteV (byteAt v r) from wrap_byte _)
      have hxl : xs.length ≤ 1099511627776 := by omega
      clear hN hE hi hlen
      go_wp2_with (at_builtin; refine wpList_append_to _ rfl (.tmp 20) (.tmp 27) 28 rfl 5 i1 _ 1 1 Tryz.underlying28 hi1 hy0 hy1 hy2 rfl (.slice A2 xs.length c2) xs.length (xs.map byteV) rfl (HN.out.1.upd ((Upd.refl NoF wr).alloc _) (fun _ _ h => h)) (.slice (some ⟨wr.heap.size, 0, none⟩) 1 1) 1 [byteV (byteAt v r)] rfl (Rd.of_blk (Blk.new wr _ _) (by omega) (by unfold maxLen; omega) rfl (by intro j u hu; rw [← HBV.out, IntKind.wrap_u8'] at hu; cases j with | zero => simpa using hu | succ j => simp at hu)) (by simp [byteV, Value.oneCell']) (by unfold maxLen; omega) (by omega) ?_; intro A3 c3 w3 hown3 hupd3 hnew3; have O3 := Lib.hid hown3; have V3 := Lib.hid hupd3; have W3 := Lib.hid hnew3; clear hown3 hupd3 hnew3)
      go_roundw
      case rel =>
        refine ⟨r, xs ++ [byteAt v r], A3, c3, by omega, by go_num, by simp, HN.out.push O3.out V3.out W3.out, ?_⟩
        rw [← HE.out]
        simp [beB]
      case measure => simp [intOf]
end

section
open Go.RowKit

set_option maxRecDepth 100000 in
theorem follow_any {w : World} {v : Value} {bs : List UInt8} (h : Rd w 1 v bs.length (bs.map byteV)) (a n : Nat) (ha : a ≤ 4611686018427387904) (hn : n ≤ 4611686018427387904) : Calls Tryz.prog 107 #[v, .int .i64 (a : Int), .int .i64 (n : Int)] w fun e w' => e = .returned (.bool (decide (a + n ≤ bs.length))) ∧ w = w' := by
  have hlm := h.le
  unfold maxLen at hlm
  obtain ⟨A, c, rfl, hlc, hcm, _⟩ := id h
  clear h
  have t0 : decide ((0 : Int) ≤ (a : Int)) = true := by simp
  by_cases h1 : a ≤ bs.length
  · have t1 : decide ((a : Int) ≤ (bs.length : Int)) = true := by simpa using h1
    have t1' : decide (a ≤ bs.length) = true := by simpa using h1
    have E := Lib.hid (show decide ((n : Int) ≤ (bs.length : Int) - (a : Int)) = decide (a + n ≤ bs.length) by
      by_cases h : a + n ≤ bs.length
      · simp [h]; omega
      · simp [h]; omega)
    generalize decide (a + n ≤ bs.length) = z at E ⊢
    go_enter Tryz.func107, Tryz.ntmps107
    go_wp2
    go_ret
    exact ⟨congrArg (fun z => Ending.returned (.bool z)) E.out, rfl⟩
  · have t1 : decide ((a : Int) ≤ (bs.length : Int)) = false := by simp; omega
    have t1' : decide (a ≤ bs.length) = false := by simp; omega
    have E := Lib.hid (show false = decide (a + n ≤ bs.length) by simp; omega)
    generalize decide (a + n ≤ bs.length) = z at E ⊢
    go_enter Tryz.func107, Tryz.ntmps107
    go_wp2
    go_ret
    exact ⟨congrArg (fun z => Ending.returned (.bool z)) E.out, rfl⟩

def UiRel (l : List UInt8) (x i : Value) : Prop := ∃ k : Nat, k ≤ l.length ∧ i = .int .i64 k ∧ x = u64V ((be (l.take k) : Nat) : Int)

theorem pow7 (l : List UInt8) (k : Nat) (h : k < 8) : be (l.take k) < 72057594037927936 := by
  have h1 := be_take_lt l k
  have h2 : (256 : Nat) ^ k ≤ 256 ^ 7 := Nat.pow_le_pow_right (by omega) (by omega)
  omega

section
variable {w : World} {v : Value} {bs : List UInt8}

set_option maxRecDepth 100000 in
set_option maxHeartbeats 2000000 in
theorem cUint_no (h : Rd w 1 v bs.length (bs.map byteV)) (a n : Nat) (ha : a ≤ 4611686018427387904) (h1 : 1 ≤ n) (h8 : n ≤ 8) (hno : bs.length < a + n) : Calls Tryz.prog 81 #[v, .int .i64 (a : Int), .int .i64 (n : Int)] w fun e w' => e = .returned (.tuple #[u64V 0, .bool false]) ∧ w = w' := by
  have CF := follow_any h a n ha (by omega)
  rw [show decide (a + n ≤ bs.length) = false by simp; omega] at CF
  have HF := Lib.hid CF
  obtain ⟨A, c, rfl, hlc, hcm, _⟩ := id h
  have t1 : decide ((n : Int) < 1) = false := by simp; omega
  have t2 : decide ((8 : Int) < (n : Int)) = false := by simp; omega
  have t2' : decide (8 < n) = false := by simp; omega
  clear h CF
  go_enter Tryz.func81, Tryz.ntmps81
  go_wp2_with fail
  refine HF.out.mono ?_
  rintro e w' ⟨rfl, rfl⟩
  go_wp2
  go_ret2
  exact ⟨rfl, rfl⟩

set_option maxRecDepth 100000 in
set_option maxHeartbeats 2000000 in
theorem cUint_yes (h : Rd w 1 v bs.length (bs.map byteV)) (a n : Nat) (h1 : 1 ≤ n) (h8 : n ≤ 8) (hyes : a + n ≤ bs.length) (hm : bs.length ≤ 4611686018427387904) : Calls Tryz.prog 81 #[v, .int .i64 (a : Int), .int .i64 (n : Int)] w fun e w' => e = .returned (.tuple #[u64V ((be ((bs.drop a).take n) : Nat) : Int), .bool true]) ∧ w = w' := by
  have CF := follow_any h a n (by omega) (by omega)
  rw [show decide (a + n ≤ bs.length) = true by simp; omega] at CF
  have HF := Lib.hid CF
  obtain ⟨A, c, rfl, hlc, hcm, _⟩ := id h
  unfold maxLen at hcm
  obtain ⟨g, o, rfl, hc⟩ := rd_cells h (by omega)
  have HC := Lib.hid hc
  have t1 : decide ((n : Int) < 1) = false := by simp; omega
  have t2 : decide ((8 : Int) < (n : Int)) = false := by simp; omega
  have t2' : decide (8 < n) = false := by simp; omega
  have b1 : (0 : Int) ≤ a := by omega
  have b2 : (a : Int) ≤ (a : Int) + n := by omega
  have b3 : (a : Int) + n ≤ c := by omega
  have b4 : ¬ c = a := by omega
  have b5 : ((a : Int) + n).toNat = a + n := by omega
  obtain ⟨l, hl⟩ : ∃ l, (bs.drop a).take n = l := ⟨_, rfl⟩
  have hll : l.length = n := by rw [← hl]; simp; omega
  have hlc2 : ∀ (j : Nat) b, l[j]? = some b → w.cell? ⟨g, o + a + j, none⟩ = some (byteV b) := fun j b hb => by
    rw [Nat.add_assoc]
    refine hc (a + j) b ?_
    rw [← hl, List.getElem?_take] at hb
    split at hb
    · rw [List.getElem?_drop] at hb; exact hb
    · cases hb
  have HLC := Lib.hid hlc2
  have HLL := Lib.hid hll
  rw [hl]
  have e0 : a + n - a = n := by omega
  clear h CF hc hl hlc2 hll
  go_enter Tryz.func81, Tryz.ntmps81
  go_wp2_with fail
  refine HF.out.mono ?_
  rintro e w' ⟨rfl, rfl⟩
  go_wp2
  go_loop [8, 31] (fun x i => UiRel l x i) (fun _ i => n - (intOf i).toNat)
  case atStart => exact ⟨0, Nat.zero_le _, rfl, by simp [be]⟩
  case round =>
    obtain ⟨k, hk, rfl, rfl⟩ := hrel
    have hln := HLL.out
    by_cases hlt : k < n
    · obtain ⟨b, hb⟩ : ∃ b, l[k]? = some b := ⟨_, List.getElem?_eq_getElem (by omega)⟩
      have q := HLC.out k b hb
      have HE := Lib.hid (be_take_succ l k b hb)
      have HO := Lib.hid (or_byte (be (l.take k)) b (pow7 l k (by omega)))
      have s1 : decide ((k : Int) < n) = true := by simpa using hlt
      have s2 : (0:Int) ≤ k := by omega
      have s3 : (k:Int) < n := by omega
      generalize be (l.take k) = u at HE HO ⊢
      clear hb hln
      go_wp2
      go_round
      case rel =>
        refine ⟨k + 1, by have := HLL.out; omega, by go_num, ?_⟩
        rw [HE.out, wrap_u64_byte, HO.out]
      case measure => simp [intOf]; omega
    · have s1 : decide ((k : Int) < n) = false := by simp; omega
      have E := Lib.hid (show l.take k = l from List.take_of_length_le (by omega))
      rw [E.out]
      clear hln
      go_wp2
      go_ret2
      exact ⟨rfl, rfl⟩

set_option maxRecDepth 100000 in
set_option maxHeartbeats 2000000 in
theorem r1Uint_no (h : Rd w 1 v bs.length (bs.map byteV)) (a n : Nat) (ha : a ≤ 4611686018427387904) (h1 : 1 ≤ n) (h8 : n ≤ 8) (hno : bs.length < a + n) : Calls Tryz.prog 43 #[v, .int .i64 (a : Int), .int .i64 (n : Int)] w fun e w' => e = .returned (.tuple #[u64V 0, .bool false]) ∧ w = w' := by
  have hlm := h.le
  unfold maxLen at hlm
  obtain ⟨A, c, rfl, hlc, hcm, _⟩ := id h
  have t1 : decide ((n : Int) < 1) = false := by simp; omega
  have t2 : decide ((8 : Int) < (n : Int)) = false := by simp; omega
  have t2' : decide (8 < n) = false := by simp; omega
  have t3 : decide ((a : Int) < 0) = false := by simp
  have t4 : decide ((bs.length : Int) - (n : Int) < (a : Int)) = true := by simp; omega
  clear h
  go_enter Tryz.func43, Tryz.ntmps43
  go_wp2
  go_ret2
  exact ⟨rfl, rfl⟩

set_option maxRecDepth 100000 in
set_option maxHeartbeats 2000000 in
theorem r1Uint_yes (h : Rd w 1 v bs.length (bs.map byteV)) (a n : Nat) (h1 : 1 ≤ n) (h8 : n ≤ 8) (hyes : a + n ≤ bs.length) (hm : bs.length ≤ 4611686018427387904) : Calls Tryz.prog 43 #[v, .int .i64 (a : Int), .int .i64 (n : Int)] w fun e w' => e = .returned (.tuple #[u64V ((be ((bs.drop a).take n) : Nat) : Int), .bool true]) ∧ w = w' := by
  obtain ⟨A, c, rfl, hlc, hcm, _⟩ := id h
  unfold maxLen at hcm
  obtain ⟨g, o, rfl, hc⟩ := rd_cells h (by omega)
  have t1 : decide ((n : Int) < 1) = false := by simp; omega
  have t2 : decide ((8 : Int) < (n : Int)) = false := by simp; omega
  have t2' : decide (8 < n) = false := by simp; omega
  have t3 : decide ((a : Int) < 0) = false := by simp
  have t4 : decide ((bs.length : Int) - (n : Int) < (a : Int)) = false := by simp; omega
  obtain ⟨l, hl⟩ : ∃ l, (bs.drop a).take n = l := ⟨_, rfl⟩
  have hll : l.length = n := by rw [← hl]; simp; omega
  have hlc2 : ∀ (j : Nat) b, l[j]? = some b → w.cell? ⟨g, o + (a + j), none⟩ = some (byteV b) := fun j b hb => by
    refine hc (a + j) b ?_
    rw [← hl, List.getElem?_take] at hb
    split at hb
    · rw [List.getElem?_drop] at hb; exact hb
    · cases hb
  have HLC := Lib.hid hlc2
  have HLL := Lib.hid hll
  rw [hl]
  clear h hc hl hlc2 hll
  go_enter Tryz.func43, Tryz.ntmps43
  go_wp2
  go_loop [8, 9] (fun x i => UiRel l x i) (fun _ i => n - (intOf i).toNat)
  case atStart => exact ⟨0, Nat.zero_le _, rfl, by simp [be]⟩
  case round =>
    obtain ⟨k, hk, rfl, rfl⟩ := hrel
    have hln := HLL.out
    by_cases hlt : k < n
    · obtain ⟨b, hb⟩ : ∃ b, l[k]? = some b := ⟨_, List.getElem?_eq_getElem (by omega)⟩
      have q := HLC.out k b hb
      have HE := Lib.hid (be_take_succ l k b hb)
      have HO := Lib.hid (or_byte (be (l.take k)) b (pow7 l k (by omega)))
      have s1 : decide ((k : Int) < n) = true := by simpa using hlt
      have s2 : (0:Int) ≤ (a : Int) + k := by omega
      have s3 : (a : Int) + k < bs.length := by omega
      have s4 : ((a : Int) + k).toNat = a + k := by omega
      generalize be (l.take k) = u at HE HO ⊢
      clear hb hln
      go_wp2
      go_round
      case rel =>
        refine ⟨k + 1, by have := HLL.out; omega, by go_num, ?_⟩
        rw [HE.out, wrap_u64_byte, HO.out]
      case measure => simp [intOf]; omega
    · have s1 : decide ((k : Int) < n) = false := by simp; omega
      have E := Lib.hid (show l.take k = l from List.take_of_length_le (by omega))
      rw [E.out]
      clear hln
      go_wp2
      go_ret2
      exact ⟨rfl, rfl⟩
end
end

section
open Go.RowKit

theorem mSize_any (w : World) : Calls Tryz.prog 77 #[.int .i64 2] w fun e w' => e = .returned (.int .i64 370) ∧ w = w' := by
  go_enter Tryz.func77, Tryz.ntmps77
  go_wp2
  go_ret
  exact ⟨rfl, rfl⟩

def cmpB (a b : List UInt8) : Int := Lib.compareBytes a b
theorem cmpB_lt : ∀ (a b : List UInt8), decide (cmpB a b < 0) = lessT a b
  | [], [] => rfl
  | [], _ :: _ => rfl
  | _ :: _, [] => rfl
  | a :: l, b :: r => by
    have ih := cmpB_lt l r
    unfold cmpB lessT at ih ⊢
    unfold Lib.compareBytes Op.bytesLess
    by_cases h1 : a < b
    · simp [h1]
    · by_cases h2 : b < a
      · have h3 : ¬ a = b := fun e => by subst e; exact h1 h2
        simp [h1, h2, h3]
      · have h3 : a = b := by
          apply UInt8.toNat.inj
          rw [UInt8.lt_iff_toNat_lt] at h1 h2
          omega
        subst h3
        simp [h1, ih]

theorem run_bytesOf {w : World} {v : Value} {bs : List UInt8} (h : Rd w 1 v bs.length (bs.map byteV)) : (Extern.Bytes.bytesOf v).run Tryz.prog w = .ok ⟨bs.toArray⟩ w := by
  obtain ⟨A, c, rfl, hn, hc, hl, hA⟩ := h
  have hb : ∀ l : List UInt8, Lib.bytesOf (l.map fun b => (b.toNat : Int)) = l := fun l => by
    simp [Lib.bytesOf, List.map_map, Function.comp_def]
  cases A with
  | none =>
    have h0 : bs.length = 0 := by
      rcases Nat.eq_zero_or_pos bs.length with h | h
      · exact h
      · obtain ⟨g, o, e, _⟩ := hA h; cases e
    obtain rfl : bs = [] := List.eq_nil_of_length_eq_zero h0
    simp [Extern.Bytes.bytesOf]
    rfl
  | some a =>
    have := Lib.run_loadBytesX (P := Tryz.prog) w (bs.map fun b => (b.toNat : Int)) a .empty (fun j x hj => by
      rw [List.getElem?_map] at hj
      obtain ⟨b, hb1, rfl⟩ := Option.map_eq_some_iff.1 hj
      have hlt : j < bs.length := (List.getElem?_eq_some_iff.1 hb1).1
      obtain ⟨g, o, e, hx⟩ := hA (by omega)
      injection e with e
      subst e
      have hadd : (⟨g, o, none⟩ : Addr).add j = ⟨g, o + j, none⟩ := by unfold Addr.add; split <;> simp_all
      rw [hadd]
      exact hx j _ (by rw [List.getElem?_map, hb1]; rfl))
    rw [List.length_map, hb] at this
    simp only [Extern.Bytes.bytesOf, this]
    simp
theorem run_acompare {w : World} {u v : Value} {a b : List UInt8} (ha : Rd w 1 u a.length (a.map byteV)) (hb : Rd w 1 v b.length (b.map byteV)) : (Extern.BytealgCompare.compare #[u, v]).run Tryz.prog w = .ok (.int .i64 (cmpB a b)) w := by
  change Sem.run Tryz.prog (do pure (goInt (Extern.BytealgCompare.cmp (← Extern.Bytes.bytesOf u) (← Extern.Bytes.bytesOf v)))) w = _
  simp only [Sem.run_bind, run_bytesOf ha, run_bytesOf hb, Sem.run_pure, Result.andThen, Lib.cmp_eq]
  rfl
set_option maxRecDepth 100000 in
theorem bCompare_any {w : World} {u v : Value} {a b : List UInt8} (ha : Rd w 1 u a.length (a.map byteV)) (hb : Rd w 1 v b.length (b.map byteV)) : Calls Tryz.prog 72 #[u, v] w fun e w' => e = .returned (.int .i64 (cmpB a b)) ∧ w = w' := by
  have CA := Lib.hid (run_acompare ha hb)
  clear ha hb
  generalize cmpB a b = z at CA ⊢
  go_enter Tryz.func72, Tryz.ntmps72
  go_wp2
  rw [run_callFunc_extern Tryz.func102 (by kernel_rfl) (by kernel_rfl) (by kernel_rfl) (e := Extern.BytealgCompare.compare) (by kernel_rfl), CA.out]
  simp only [Result.andThen]
  rw [Oper.upon_value]
  go_wp2
  go_ret
  exact ⟨rfl, rfl⟩

def PairPost (w : World) (bs : List UInt8) (e : Ending) (w' : World) : Prop := ∃ A c, e = .returned (.tuple #[.slice A bs.length c, .bool true]) ∧ NewO w bs A c w'
def NilFalse (w : World) (e : Ending) (w' : World) : Prop := e = .returned (.tuple #[.slice none 0 0, .bool false]) ∧ Upd NoF w w'

set_option maxRecDepth 100000 in
theorem cAppendBytes_no {w : World} {b p : Value} {bs ps : List UInt8} (hb : Rd w 1 b bs.length (bs.map byteV)) (hp : Rd w 1 p ps.length (ps.map byteV)) (hl : 65535 < ps.length) : Calls Tryz.prog 28 #[b, p] w (NilFalse w) := by
  obtain ⟨A, c, rfl, hlc, hcm, _⟩ := id hb
  obtain ⟨B, d, rfl, hld, hdm, _⟩ := id hp
  have t1 : decide ((65535 : Int) < (ps.length : Int)) = true := by simp; omega
  have t1' : decide (65535 < ps.length) = true := by simp; omega
  clear hb hp
  go_enter Tryz.func28, Tryz.ntmps28
  go_wp2
  go_ret2
  exact ⟨rfl, Upd.refl _ _⟩
set_option maxRecDepth 100000 in
set_option maxHeartbeats 2000000 in
theorem cAppendBytes_yes {w : World} {b p : Value} {bs ps : List UInt8} (hb : Rd w 1 b bs.length (bs.map byteV)) (hp : Rd w 1 p ps.length (ps.map byteV)) (hl : ps.length ≤ 65535) (hm : bs.length ≤ 549755813888) : Calls Tryz.prog 28 #[b, p] w (PairPost w (bs ++ encT ps)) := by
  have CA := Lib.hid (cAppendUint_any hb (ps.length : Int) (by omega) 2 (by omega) (by omega))
  have HP := Lib.hid hp
  obtain ⟨i1, hi1, hy0, hy1, hy2⟩ := info_parts byte_info
  obtain ⟨A, c, rfl, hlc, hcm, _⟩ := id hb
  obtain ⟨B, d, rfl, hld, hdm, _⟩ := id hp
  have t1 : decide ((65535 : Int) < (ps.length : Int)) = false := by simp; omega
  have t1' : decide (65535 < ps.length) = false := by simp; omega
  have hwi : IntKind.u64.wrap (ps.length : Int) = ps.length := wrap_u64_nat _ (by omega)
  have hbl : (beB (ps.length : Int) 2).length = 2 := beB_len _ _
  have HL := Lib.hid (show (bs ++ beB (ps.length : Int) 2).length = bs.length + 2 by simp [hbl])
  have hlen : (bs ++ encT ps).length = bs.length + 2 + ps.length := by simp [encT, hbl]; omega
  have HLEN := Lib.hid hlen
  have HE := Lib.hid (show (bs ++ encT ps).map byteV = (bs ++ beB (ps.length : Int) 2).map byteV ++ ps.map byteV by simp [encT])
  clear hb hp hbl hlen
  go_enter Tryz.func28, Tryz.ntmps28
  go_wp2_with fail
  refine CA.out.mono ?_
  rintro e w1 ⟨A1, c1, rfl, hN1⟩
  rw [HL.out]
  have N1 := Lib.hid hN1
  have O1 := Lib.hid (show Own w1 5 1 (.slice A1 (bs.length + 2) c1) (bs.length + 2) ((bs ++ beB (ps.length : Int) 2).map byteV) from by have := hN1.1; rw [HL.out] at this; exact this)
  have F1 := Lib.hid (show ∀ k, OwnB (.slice A1 (bs.length + 2) c1) k → w.heap.size ≤ k from by have := hN1.2.1; rw [HL.out] at this; exact this)
  clear hN1
  go_wp2_with (at_builtin; refine wpList_append_to _ rfl (.tmp 13) (.tmp 14) 28 rfl 5 i1 _ 1 1 Tryz.underlying28 hi1 hy0 hy1 hy2 rfl (.slice A1 (bs.length + 2) c1) (bs.length + 2) _ rfl O1.out (.slice B ps.length d) ps.length (ps.map byteV) rfl (HP.out.keep N1.out.2.2) (bytes_oneCell _) (by unfold maxLen; omega) (by omega) ?_; intro A2 c2 w2 hown2 hupd2 hnew2; have O2 := Lib.hid hown2; have V2 := Lib.hid hupd2; have W2 := Lib.hid hnew2; clear hown2 hupd2 hnew2)
  go_ret2
  refine ⟨A2, c2, by rw [HLEN.out]; rfl, ?_, ?_, N1.out.2.2.trans V2.out (fun k hk e => by have := F1.out k e; omega)⟩
  · rw [HLEN.out, HE.out]
    exact O2.out
  · intro k hk
    rw [HLEN.out] at hk
    rcases W2.out k hk with e | e
    · exact F1.out k e
    · exact Nat.le_trans N1.out.2.2.size e

set_option maxRecDepth 100000 in
theorem r1AppendBytes_no {w : World} {b p : Value} {bs ps : List UInt8} (hb : Rd w 1 b bs.length (bs.map byteV)) (hp : Rd w 1 p ps.length (ps.map byteV)) (hl : 65535 < ps.length) : Calls Tryz.prog 32 #[b, p] w (NilFalse w) := by
  obtain ⟨A, c, rfl, hlc, hcm, _⟩ := id hb
  obtain ⟨B, d, rfl, hld, hdm, _⟩ := id hp
  have t1 : decide ((65535 : Int) < (ps.length : Int)) = true := by simp; omega
  have t1' : decide (65535 < ps.length) = true := by simp; omega
  clear hb hp
  go_enter Tryz.func32, Tryz.ntmps32
  go_wp2
  go_ret2
  exact ⟨rfl, Upd.refl _ _⟩
set_option maxRecDepth 100000 in
set_option maxHeartbeats 2000000 in
theorem r1AppendBytes_yes {w : World} {b p : Value} {bs ps : List UInt8} (hb : Rd w 1 b bs.length (bs.map byteV)) (hp : Rd w 1 p ps.length (ps.map byteV)) (hl : ps.length ≤ 65535) (hm : bs.length ≤ 549755813888) : Calls Tryz.prog 32 #[b, p] w (PairPost w (bs ++ encT ps)) := by
  have CA := Lib.hid (r1AppendUint_any hb (ps.length : Int) (by omega) 2 (by omega) (by omega))
  have HP := Lib.hid hp
  obtain ⟨i1, hi1, hy0, hy1, hy2⟩ := info_parts byte_info
  obtain ⟨A, c, rfl, hlc, hcm, _⟩ := id hb
  obtain ⟨B, d, rfl, hld, hdm, _⟩ := id hp
  have t1 : decide ((65535 : Int) < (ps.length : Int)) = false := by simp; omega
  have t1' : decide (65535 < ps.length) = false := by simp; omega
  have hwi : IntKind.u64.wrap (ps.length : Int) = ps.length := wrap_u64_nat _ (by omega)
  have hbl : (beB (ps.length : Int) 2).length = 2 := beB_len _ _
  have HL := Lib.hid (show (bs ++ beB (ps.length : Int) 2).length = bs.length + 2 by simp [hbl])
  have hlen : (bs ++ encT ps).length = bs.length + 2 + ps.length := by simp [encT, hbl]; omega
  have HLEN := Lib.hid hlen
  have HE := Lib.hid (show (bs ++ encT ps).map byteV = (bs ++ beB (ps.length : Int) 2).map byteV ++ ps.map byteV by simp [encT])
  clear hb hp hbl hlen
  go_enter Tryz.func32, Tryz.ntmps32
  go_wp2_with fail
  refine CA.out.mono ?_
  rintro e w1 ⟨A1, c1, rfl, hN1⟩
  rw [HL.out]
  have N1 := Lib.hid hN1
  have O1 := Lib.hid (show Own w1 5 1 (.slice A1 (bs.length + 2) c1) (bs.length + 2) ((bs ++ beB (ps.length : Int) 2).map byteV) from by have := hN1.1; rw [HL.out] at this; exact this)
  have F1 := Lib.hid (show ∀ k, OwnB (.slice A1 (bs.length + 2) c1) k → w.heap.size ≤ k from by have := hN1.2.1; rw [HL.out] at this; exact this)
  clear hN1
  go_wp2_with (at_builtin; refine wpList_append_to _ rfl (.tmp 13) (.tmp 14) 28 rfl 5 i1 _ 1 1 Tryz.underlying28 hi1 hy0 hy1 hy2 rfl (.slice A1 (bs.length + 2) c1) (bs.length + 2) _ rfl O1.out (.slice B ps.length d) ps.length (ps.map byteV) rfl (HP.out.keep N1.out.2.2) (bytes_oneCell _) (by unfold maxLen; omega) (by omega) ?_; intro A2 c2 w2 hown2 hupd2 hnew2; have O2 := Lib.hid hown2; have V2 := Lib.hid hupd2; have W2 := Lib.hid hnew2; clear hown2 hupd2 hnew2)
  go_ret2
  refine ⟨A2, c2, by rw [HLEN.out]; rfl, ?_, ?_, N1.out.2.2.trans V2.out (fun k hk e => by have := F1.out k e; omega)⟩
  · rw [HLEN.out, HE.out]
    exact O2.out
  · intro k hk
    rw [HLEN.out] at hk
    rcases W2.out k hk with e | e
    · exact F1.out k e
    · exact Nat.le_trans N1.out.2.2.size e
end
end Go.Proofs.YtbgificdilpdcaaGreat
