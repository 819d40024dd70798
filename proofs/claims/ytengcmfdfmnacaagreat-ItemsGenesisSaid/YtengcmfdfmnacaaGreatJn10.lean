/- state.Add of rising changes to a state without entries. Conditions: sizes. state.ValidateGenesis: what it returns for every genesis. No condition. state.ValidateGenesis, case by case. No condition. -/
import Derived.Test.YtengcmfdfmnacaaGreatJn8
import Derived.Test.YtengcmfdfmnacaaGreatBk3
import Derived.Test.YtengcmfdfmnacaaGreatJn5
import Derived.Deep.QuietTactic
import Derived.Deep.LoopGhost
import Derived.BigQuiet
namespace Go.Proofs.YtengcmfdfmnacaaGreat
section
open Go.RowKit

theorem rowD_amt {d : DelS} (h : d.Fit) : (rowD d).toArray[10]? = some (.int .i64 d.amt) := by
  unfold rowD
  rw [List.getElem?_toArray, List.getElem?_append_right (by rw [cellC_len h]; omega), cellC_len h]
  rfl
theorem bs_delta' (z0 z1 z2 : Int) (q0 q1 q2 q3 q4 q5 q6 q7 : UInt8) (w : World) : (Instr.buildSlice 31 1 #[(0, .agg #[.int .i64 z0, .int .i64 z1, byteV q0, byteV q1, byteV q2, byteV q3, byteV q4, byteV q5, byteV q6, byteV q7, .int .i64 z2])]).run Tryz.prog w = .ok (.slice (some ⟨w.heap.size, 0, none⟩) 1 1) (w.alloc (.cells #[.int .i64 z0, .int .i64 z1, byteV q0, byteV q1, byteV q2, byteV q3, byteV q4, byteV q5, byteV q6, byteV q7, .int .i64 z2] 109)) := by kernel_rfl
theorem bs_delta {d : DelS} (h : d.Fit) (w : World) : (Instr.buildSlice 31 1 #[(0, .agg (rowD d).toArray)]).run Tryz.prog w = .ok (.slice (some ⟨w.heap.size, 0, none⟩) 1 1) (w.alloc (.cells (rowD d).toArray 109)) := by
  obtain ⟨z0, z1, l, z2⟩ := d
  obtain ⟨q0, q1, q2, q3, q4, q5, q6, q7, rfl⟩ := name_spell h.lock
  exact bs_delta' z0 z1 z2 q0 q1 q2 q3 q4 q5 q6 q7 w
def BsR (S0 : Nat) (rd : Array Value) (v : Value) (w : World) : Prop := ∃ g, v = .slice (some ⟨g, 0, none⟩) 1 1 ∧ Blk w g 109 rd ∧ S0 ≤ g
def In8 (S0 : Nat) (A1 : Option Addr) (c1 q : Nat) (rows row : List Value) (v : Value) (w : World) : Prop := ∃ A c, v = .slice A (q + 1) c ∧ Own w 109 11 (.slice A (q + 1) c) (q + 1) (rows ++ row) ∧ ∀ k, OwnB (.slice A (q + 1) c) k → OwnB (.slice A1 q c1) k ∨ S0 ≤ k
/-- Only the state and its entries turn; once they were put in, the state alone. -/
def AdSt (S0 X : Nat) (A1 : Option Addr) (c1 q : Nat) (L : Nat → Bool) (w w' : World) : Prop := Upd (fun k => k < S0 ∧ (k = X ∨ OwnB (.slice A1 q c1) k)) w w' ∧ (L 8 = true → Upd (fun k => k = X) w w')
structure AdPh (w0 : World) (S0 X : Nat) (A1 A2 : Option Addr) (q c1 n c2 : Nat) (rows row : List Value) (L : Nat → Bool) (w : World) : Prop where
  u0 : L 8 = false → L 10 = false → Upd NoF w0 w
  u1 : Upd (fun k => k = X ∨ OwnB (.slice A1 q c1) k) w0 w
  x0 : L 10 = false → Blk w X 34 #[.slice A1 q c1, .slice A2 n c2, .slice none 0 0, .slice none 0 0, .int .i64 0]
  x1 : L 10 = true → ∃ A c, Blk w X 34 #[.slice A (q + 1) c, .slice A2 n c2, .slice none 0 0, .slice none 0 0, .int .i64 0] ∧ Own w 109 11 (.slice A (q + 1) c) (q + 1) (rows ++ row) ∧ ∀ k, OwnB (.slice A (q + 1) c) k → OwnB (.slice A1 q c1) k ∨ S0 ≤ k
section
variable {w0 w w' : World} {S0 X q c1 n c2 i : Nat} {A1 A2 : Option Addr} {rows row : List Value} {L : Nat → Bool} {rd : Array Value}
theorem AdSt.nof (h : Upd NoF w w') : AdSt S0 X A1 c1 q L w w' := ⟨h.mono (fun _ _ f => f.elim), fun _ => h.mono (fun _ _ f => f.elim)⟩
theorem AdSt.ins (h8 : L 8 = false) (hu : Upd (OwnB (.slice A1 q c1)) w w') (hl : ∀ k, OwnB (.slice A1 q c1) k → k < S0) : AdSt S0 X A1 c1 q L w w' := ⟨hu.mono (fun k _ f => ⟨hl k f, .inr f⟩), fun e => by rw [h8] at e; cases e⟩
theorem AdSt.put (hX : X < S0) {v : Value} {o : Nat} : AdSt S0 X A1 c1 q L w (w.setCell ⟨X, o, none⟩ v) := ⟨(Upd.refl _ w).setCell (p := ⟨X, o, none⟩) (.inl ⟨hX, .inl rfl⟩) _, fun _ => (Upd.refl (fun k => k = X) w).setCell (p := ⟨X, o, none⟩) (.inl rfl) _⟩
theorem stbL_bs (_hX : X < S0) (_hl : ∀ k, OwnB (.slice A1 q c1) k → k < S0) : StbL (AdSt S0 X A1 c1 q) i (BsR S0 rd) := fun _ _ _ _ _ ⟨g, e, hb, hg⟩ hs => ⟨g, e, hs.1.blk hb (fun f => by have := f.1; omega), hg⟩
theorem stbL_in8 (hX : X < S0) (hXO : ¬ OwnB (.slice A1 q c1) X) : StbL (AdSt S0 X A1 c1 q) 8 (In8 S0 A1 c1 q rows row) := fun _ _ _ _ hl ⟨A, c, e, h1, h2⟩ hs => ⟨A, c, e, h1.upd (hs.2 hl) (fun k hk f => by
  have f : k = X := f
  subst f
  rcases h2 k hk with h | h
  · exact hXO h
  · omega), h2⟩
theorem AdPh.start (h : Blk w0 X 34 #[.slice A1 q c1, .slice A2 n c2, .slice none 0 0, .slice none 0 0, .int .i64 0]) : AdPh w0 S0 X A1 A2 q c1 n c2 rows row (fun _ => false) w0 := ⟨fun _ _ => Upd.refl _ _, Upd.refl _ _, fun _ => h, fun e => by cases e⟩
theorem AdPh.same (h : AdPh w0 S0 X A1 A2 q c1 n c2 rows row L w) (h8 : (8 == i) = false) (h10 : (10 == i) = false) : AdPh w0 S0 X A1 A2 q c1 n c2 rows row (fun j => j == i || L j) w :=
  ⟨fun e f => h.u0 (by simpa [h8] using e) (by simpa [h10] using f), h.u1, fun e => h.x0 (by simpa [h10] using e), fun e => h.x1 (by simpa [h10] using e)⟩
theorem AdPh.step (h : AdPh w0 S0 X A1 A2 q c1 n c2 rows row L w) (l8 : L 8 = false) (l10 : L 10 = false) (_h8 : (8 == i) = false) (h10 : (10 == i) = false) (hu : Upd NoF w w') : AdPh w0 S0 X A1 A2 q c1 n c2 rows row (fun j => j == i || L j) w' :=
  ⟨fun _ _ => (h.u0 l8 l10).trans hu (fun _ _ f => f), h.u1.trans hu (fun _ _ f => f.elim), fun _ => hu.blk (h.x0 l10) (fun f => f), fun e => by simp [h10, l10] at e⟩
theorem AdPh.ins (h : AdPh w0 S0 X A1 A2 q c1 n c2 rows row L w) (l10 : L 10 = false) (hu : Upd (OwnB (.slice A1 q c1)) w w') (hXO : ¬ OwnB (.slice A1 q c1) X) : AdPh w0 S0 X A1 A2 q c1 n c2 rows row (fun j => j == 8 || L j) w' :=
  ⟨fun e _ => by simp at e, h.u1.trans hu (fun _ _ f => .inr f), fun _ => hu.blk (h.x0 l10) hXO, fun e => by simp [l10] at e⟩
theorem AdPh.put (h : AdPh w0 S0 X A1 A2 q c1 n c2 rows row L w) (l10 : L 10 = false) (l8 : L 8 = true) {A : Option Addr} {c : Nat} (ho : Own w 109 11 (.slice A (q + 1) c) (q + 1) (rows ++ row)) (hn : ∀ k, OwnB (.slice A (q + 1) c) k → OwnB (.slice A1 q c1) k ∨ S0 ≤ k) (hX : X < S0) (hXO : ¬ OwnB (.slice A1 q c1) X) : AdPh w0 S0 X A1 A2 q c1 n c2 rows row (fun j => j == 10 || L j) (w.setCell ⟨X, 0, none⟩ (.slice A (q + 1) c)) := by
  have hu : Upd (fun k => k = X) w (w.setCell ⟨X, 0, none⟩ (.slice A (q + 1) c)) := (Upd.refl (fun k => k = X) w).setCell (p := ⟨X, 0, none⟩) (.inl rfl) _
  refine ⟨fun e _ => by simp [l8] at e, h.u1.trans hu (fun _ _ f => .inl f), fun e => by simp at e, fun _ => ⟨A, c, (h.x0 l10).put 0 _, ho.upd hu (fun k hk f => ?_), hn⟩⟩
  have f : k = X := f
  subst f
  rcases hn k hk with h | h
  · exact hXO h
  · omega
end
/-! ### plain -/
def nzD (d : DelS) : Bool := decide (d.amt ≠ 0)
theorem sameC_lt {a b : DelS} (h : cmpC a b < 0) : sameC a b = false := by
  cases hs : sameC a b with
  | false => rfl
  | true =>
    unfold sameC at hs
    rw [decide_eq_true_eq] at hs
    obtain ⟨h1, h2, h3⟩ := hs
    unfold cmpC or3 at h
    rw [h1, h2, h3, cmp3_self, cmp3_self, cmp3_self] at h
    simp at h
theorem filter_next {l : List DelS} {k : Nat} {d : DelS} (h : l[k]? = some d) : (l.take (k + 1)).filter nzD = (l.take k).filter nzD ++ (if nzD d then [d] else []) := by
  obtain ⟨hlt, e⟩ := List.getElem?_eq_some_iff.1 h
  rw [List.take_succ_eq_append_getElem hlt, e, List.filter_append]
  simp [List.filter_cons]
theorem asc_before {l : List DelS} (ha : Asc l) {k : Nat} {d : DelS} (h : l[k]? = some d) : ∀ y ∈ (l.take k).filter nzD, cmpC y d < 0 := by
  intro y hy
  have hy := (List.mem_filter.1 hy).1
  obtain ⟨i, hi⟩ := List.getElem?_of_mem hy
  rw [List.getElem?_take] at hi
  split at hi
  · rename_i hik
    obtain ⟨hlt, e⟩ := List.getElem?_eq_some_iff.1 h
    obtain ⟨hlt2, e2⟩ := List.getElem?_eq_some_iff.1 hi
    have := List.pairwise_iff_getElem.1 ha i k hlt2 hlt hik
    rw [e, e2] at this
    exact this
  · cases hi
theorem own_apart {w : World} {e1 e2 : TypeId} {s1 s2 n1 n2 : Nat} {v1 v2 : Value} {x1 x2 : List Value} (h1 : Own w e1 s1 v1 n1 x1) (h2 : Own w e2 s2 v2 n2 x2) (hne : e1 ≠ e2) : ∀ k, OwnB v2 k → ¬ OwnB v1 k := fun k hk => by
  rcases h2.2 with ⟨rfl, -⟩ | ⟨g, cap, cur, rfl, hb, -⟩
  · simp [OwnB, Value.ownBlock] at hk
  · have : g = k := by simpa [OwnB, Value.ownBlock] using hk
    subst this
    exact h1.blk_ne hb hne

/-- The state as the loop of Add keeps it. -/
structure AdR (w : World) (X n : Nat) (zs : List Int) (cl : List DelS) (wr : World) : Prop where
  ex : ∃ A1 c1 A2 c2, Blk wr X 34 #[.slice A1 cl.length c1, .slice A2 n c2, .slice none 0 0, .slice none 0 0, .int .i64 0] ∧ NwA (X + 2) 109 11 cl.length ((cl.map rowD).flatten) A1 c1 wr ∧ NwA (X + 2) 3 1 n (zs.map (Value.int .i64)) A2 c2 wr
  z : Blk wr (X + 1) 34 zSt
  u : Upd NoF w wr
theorem AdR.keep {w wr w' : World} {X n : Nat} {zs : List Int} {cl : List DelS} (h : AdR w X n zs cl wr) (hu : Upd NoF wr w') : AdR w X n zs cl w' := by
  obtain ⟨⟨A1, c1, A2, c2, h1, h2, h3⟩, h4, h5⟩ := h
  exact ⟨⟨A1, c1, A2, c2, hu.blk h1 (fun f => f), h2.keep hu, h3.keep hu⟩, hu.blk h4 (fun f => f), h5.trans hu (fun _ _ f => f)⟩
theorem delta_alloc : ∀ w, (Instr.alloc 109 true (.tuple #[])).run Tryz.prog w = .ok (.pointer (some ⟨w.heap.size, 0, none⟩)) (w.alloc (.cells (rowD ⟨0, 0, nm0, 0⟩).toArray 109)) := fun w => by kernel_rfl
theorem fit0 : (⟨0, 0, nm0, 0⟩ : DelS).Fit := ⟨by unfold In64; decide, by unfold In64; decide, rfl, by unfold In64; decide⟩
theorem rowD_all (d : DelS) : (rowD d).toArray.all (·.oneCell') = true := by
  rw [Array.all_eq_true_iff_forall_mem]
  intro x hx
  exact rowD_one d x (by simpa using hx)
set_option maxRecDepth 100000 in
set_option maxHeartbeats 16000000 in
theorem stAdd_rising {w : World} {a : Addr} {B : Option Addr} {n c m dd : Nat} {zs : List Int} {l : List DelS} (hn : zs.length = n) (hz : InR w (.slice (some a) n c) zs) (hm : n ≤ 1000000) (hl : l.length = m) (hr : DeR w (.slice B m dd) l) (hm2 : m ≤ 1000000) (hasc : Asc l) :
    Calls Tryz.prog 60 #[.agg #[.slice none 0 0, .slice (some a) n c, .slice none 0 0, .slice none 0 0, .int .i64 0], .slice B m dd] w fun e w' => ∃ A1 c1 A2 c2, e = .returned (.agg #[.slice A1 (l.filter nzD).length c1, .slice A2 n c2, .slice none 0 0, .slice none 0 0, .int .i64 0]) ∧ NwA w.heap.size 109 11 (l.filter nzD).length (((l.filter nzD).map rowD).flatten) A1 c1 w' ∧ NwA w.heap.size 3 1 n (zs.map (Value.int .i64)) A2 c2 w' ∧ Upd NoF w w' := by
  have CC := Lib.hid (fun W (hu : Upd NoF w W) => stClone_seqs (w := W) hn (hz.keep hu) hm)
  have UW := Lib.hid (show Upd NoF w ((w.alloc (.cells #[.slice none 0 0, .slice (some a) n c, .slice none 0 0, .slice none 0 0, .int .i64 0] 34)).alloc (.cells zSt 34)) from ((Upd.refl NoF w).alloc _).alloc _)
  have BX := Lib.hid (show Blk ((w.alloc (.cells #[.slice none 0 0, .slice (some a) n c, .slice none 0 0, .slice none 0 0, .int .i64 0] 34)).alloc (.cells zSt 34)) w.heap.size 34 #[.slice none 0 0, .slice (some a) n c, .slice none 0 0, .slice none 0 0, .int .i64 0] from (Blk.new w _ _).alloc _)
  have BR := Lib.hid (show Blk ((w.alloc (.cells #[.slice none 0 0, .slice (some a) n c, .slice none 0 0, .slice none 0 0, .int .i64 0] 34)).alloc (.cells zSt 34)) (w.heap.size + 1) 34 zSt from by have := Blk.new (w.alloc (.cells #[.slice none 0 0, .slice (some a) n c, .slice none 0 0, .slice none 0 0, .int .i64 0] 34)) 34 zSt; rw [World.size_alloc] at this; exact this)
  have HSZ := Lib.hid (show ((w.alloc (.cells #[.slice none 0 0, .slice (some a) n c, .slice none 0 0, .slice none 0 0, .int .i64 0] 34)).alloc (.cells zSt 34)).heap.size = w.heap.size + 2 from by simp)
  have HR := Lib.hid hr
  have HL := Lib.hid hl
  have HA := Lib.hid hasc
  have HNM := Lib.hid hm2
  obtain ⟨LF, hLF⟩ : ∃ x, x = l.filter nzD := ⟨_, rfl⟩
  rw [← hLF]
  have HLF := Lib.hid hLF
  obtain ⟨QF, hQF⟩ : ∃ q, q = LF.length := ⟨_, rfl⟩
  rw [← hQF]
  have HQF := Lib.hid hQF
  clear hz hn hm hl hr hasc hLF hQF
  go_enter Tryz.func60, Tryz.ntmps60
  go_wp2_with (first
    | (refine wpList_load_row rfl 34 (.tmp 2) rfl w.heap.size 0 rfl (#[.slice none 0 0, .slice (some a) n c, .slice none 0 0, .slice none 0 0, .int .i64 0] : Array Value).toList _ (range_blk BX.out) Tryz.underlying34 rfl (by kernel_rfl) _ rfl ?_)
    | (refine (CC.out _ UW.out).mono ?_; rintro e w1 ⟨A2, c2, rfl, hn2, hu1⟩; have N2 := Lib.hid hn2; have U1 := Lib.hid hu1; have HX1 := Lib.hid (hu1.blk BX.out (fun f => f)); have HZ1 := Lib.hid (hu1.blk BR.out (fun f => f)); clear hn2 hu1)
    | (refine wpList_store_row rfl 34 (.tmp 2) (.tmp 10) rfl w.heap.size rfl _ rfl 34 _ HX1.out rfl (by kernel_rfl) (by kernel_rfl) ?_; intro w2 hb2 hu2 hs2; have HX2 := Lib.hid hb2; have U2 := Lib.hid hu2; clear hb2 hu2 hs2))
  have REL := Lib.hid (show AdR w w.heap.size n zs [] w2 from ⟨⟨none, 0, A2, c2, HX2.out, ⟨Own.nil _ _ _, fun k hk => by simp [OwnB, Value.ownBlock] at hk⟩, ⟨N2.out.1.upd U2.out (fun k hk f => by have := N2.out.2 k hk; have := HSZ.out; have f : k = w.heap.size := f; omega), fun k hk => by have := N2.out.2 k hk; have := HSZ.out; omega⟩⟩, U2.out.blk HZ1.out (fun f => by have f : w.heap.size + 1 = w.heap.size := f; omega), (UW.out.trans U1.out (fun _ _ f => f)).trans U2.out (fun k hk f => by have f : k = w.heap.size := f; omega)⟩)
  clear N2 U1 U2 HX1 HX2 HZ1 BX BR UW HSZ CC
  obtain ⟨X, hX⟩ : ∃ x, w.heap.size = x := ⟨_, rfl⟩
  rw [hX] at REL ⊢
  have HX := Lib.hid hX
  clear hX
  go_loopg [13] m (fun kx s13 wr => ∃ k : Nat, s13 = .int .i64 (k : Int) ∧ k ≤ m ∧ m - k ≤ kx ∧ Hid (AdR w X n zs ((l.take k).filter nzD) wr))
  case atStart => exact ⟨0, rfl, by omega, by omega, REL⟩
  case round =>
    obtain ⟨k, rfl, hkm, hkx, HREL⟩ := hrel
    by_cases hlt : k < m
    · have hltz : (k : Int) < (m : Int) := by omega
      obtain ⟨d, hd⟩ : ∃ d, l[k]? = some d := ⟨_, List.getElem?_eq_getElem (by have := HL.out; omega)⟩
      obtain ⟨g, o, rfl, hrg⟩ := (HR.out.keep HREL.out.u).at_ hd
      have HRG := Lib.hid hrg
      have HD := Lib.hid hd
      have HFD := Lib.hid (HR.out.fit d (List.mem_of_getElem? hd))
      have HLD := Lib.hid (cellC_len HFD.out)
      obtain ⟨rd, hrd⟩ : ∃ x, (rowD d).toArray = x := ⟨_, rfl⟩
      have HRD := Lib.hid hrd
      have HRZ := Lib.hid (show (rowD ⟨0, 0, nm0, 0⟩).toArray.size = rd.size ∧ (Tryz.prog.info? 109).map (·.size) = some rd.size ∧ rd.all (·.oneCell') = true from by rw [← HRD.out]; exact ⟨by simp [rowD_len HFD.out, rowD_len fit0], by rw [delta_size]; simp [rowD_len HFD.out], rowD_all d⟩)
      have HDA := Lib.hid delta_alloc
      obtain ⟨z0, hz0⟩ : ∃ x, (rowD ⟨0, 0, nm0, 0⟩).toArray = x := ⟨_, rfl⟩
      rw [hz0] at HDA HRZ
      obtain ⟨za, hza⟩ : ∃ x, (cellC d).toArray = x := ⟨_, rfl⟩
      have HZA := Lib.hid hza
      have e1 : ((k : Int)).toNat = k := by omega
      clear hrg hd hrd hz0 hza
      obtain ⟨⟨A1, c1, A2', c2', hx, hc, hs⟩, hz, hu⟩ := HREL.out
      obtain ⟨CL, hCL⟩ : ∃ x, x = (l.take k).filter nzD := ⟨_, rfl⟩
      rw [← hCL] at hx hc
      have HCL := Lib.hid hCL
      obtain ⟨q, hq⟩ : ∃ q, CL.length = q := ⟨_, rfl⟩
      rw [hq] at hx hc
      have HQ := Lib.hid hq
      have H1 := Lib.hid (And.intro hx (And.intro hc (And.intro hs (And.intro hz hu))))
      have HFC := Lib.hid (show ∀ y ∈ CL, y.Fit from fun y hy => by rw [hCL] at hy; exact HR.out.fit y (List.mem_of_mem_take (List.mem_filter.1 hy).1))
      have HBF := Lib.hid (show ∀ y ∈ CL, cmpC y d < 0 from by rw [hCL]; exact asc_before HA.out HD.out)
      have HNO := Lib.hid (show ∀ y ∈ CL, sameC y d = false from fun y hy => sameC_lt (HBF.out y hy))
      have HQM := Lib.hid (show q ≤ 1000000 from by have := HNM.out; have h1 : CL.length ≤ k := (by rw [hCL]; exact Nat.le_trans (List.length_filter_le _ _) (by rw [List.length_take]; omega)); omega)
      clear hx hc hs hz hu hCL hq
      go_wp2_with (first
        | (refine wpList_load_row rfl 109 (.tmp 15) rfl g (o + k * 11) rfl (rowD d) _ HRG.out Tryz.underlying109 rfl (by rw [delta_size, rowD_len HFD.out]) rd HRD.out ?_)
        | (refine wpList_alloc_row rfl 109 rfl z0 HDA.out ?_; intro w4 hb4 hu4 hs4; have B4 := Lib.hid hb4; have U4 := Lib.hid hu4; clear hb4 hu4 hs4)
        | (refine wpList_store_row rfl 109 (.tmp 6) (.tmp 16) rfl wr.heap.size rfl rd rfl 109 z0 B4.out HRZ.out.1 HRZ.out.2.1 HRZ.out.2.2 ?_; intro w5 hb5 hu5 hs5; have B5 := Lib.hid hb5; have U5 := Lib.hid hu5; clear hb5 hu5 hs5; have V5 := Lib.hid (show Upd NoF wr w5 from U4.out.trans U5.out (fun k hk f => by have f : k = wr.heap.size := f; omega)); have HX5 := Lib.hid (V5.out.blk H1.out.1 (fun f => f)); have CF := Lib.hid (fun W (hu : Upd NoF w5 W) => show Calls Tryz.prog 100 #[.agg #[.slice A1 q c1, .slice A2' n c2', .slice none 0 0, .slice none 0 0, .int .i64 0], .agg za] W (fun e w' => e = .returned (.int .i64 (-1)) ∧ Upd NoF W w') from by rw [← HZA.out, ← findC_none HNO.out]; exact stFind_any (l := CL) HQ.out ⟨HFC.out, by have h := (H1.out.2.1.keep (V5.out.trans hu (fun _ _ f => f))).1.rd; rw [HQ.out]; exact h⟩ HFD.out.lock))
        | (refine wpList_load_row rfl 34 (.tmp 2) rfl X 0 rfl (#[.slice A1 q c1, .slice A2' n c2', .slice none 0 0, .slice none 0 0, .int .i64 0] : Array Value).toList _ (range_blk HX5.out) Tryz.underlying34 rfl (by kernel_rfl) _ rfl ?_)
        | (refine wpList_load_row rfl 107 (.tmp 18) rfl wr.heap.size 0 rfl (cellC d) _ (row_cells HRD.out B5.out) Tryz.underlying107 rfl (by rw [cell_size, HLD.out]) za HZA.out ?_)
        | (refine (CF.out _ (Upd.refl _ _)).mono ?_; rintro e w6 ⟨rfl, hu6⟩; have U6 := Lib.hid hu6; clear hu6))
      obtain ⟨G, hG⟩ : ∃ x, wr.heap.size = x := ⟨_, rfl⟩
      rw [hG] at B5 ⊢
      have HGE := Lib.hid hG
      clear hG B4 U4 U5 HX5 CF HRZ HDA HRG
      obtain ⟨W6, hW6⟩ : ∃ x, x = w6 := ⟨_, rfl⟩
      subst hW6
      have V6 := Lib.hid (V5.out.trans U6.out.drew (fun _ _ f => f))
      have HX6 := Lib.hid (fun w' (hW : Upd NoF W6.drew w') => (V6.out.trans hW (fun _ _ f => f)).blk H1.out.1 (fun f => f))
      have HG6 := Lib.hid (fun w' (hW : Upd NoF W6.drew w') => (U6.out.drew.trans hW (fun _ _ f => f)).blk B5.out (fun f => f))
      have HDC := Lib.hid (show DeR W6.drew (.slice A1 q c1) CL from ⟨HFC.out, by have h := (H1.out.2.1.keep V6.out).1.rd; rw [HQ.out]; exact h⟩)
      have HU6 := Lib.hid (Upd.refl NoF W6.drew)
      refine wp_region_rgw (rgR [isV (.agg #[.slice A1 q c1, .slice A2' n c2', .slice none 0 0, .slice none 0 0, .int .i64 0]), isV (.pointer (some ⟨G, 0, none⟩)), isV (.agg za), isV (.int .i64 0), isV (.pointer (some ⟨G, 10, none⟩)), isV (.int .i64 d.amt), isV (.int .i64 d.amt), isV (.int .i64 d.amt)]) (fun w w' => Upd NoF w w') (fun _ wq => Upd NoF W6.drew wq) (by kernel_rfl) (by kernel_rfl) (by kernel_rfl) (by rfl) (fun w => Upd.refl _ _) (rgR_keep (by
        intro p hp; simp only [List.mem_cons, List.not_mem_nil, or_false] at hp; rcases hp with rfl | rfl | rfl | rfl | rfl | rfl | rfl | rfl <;> first | exact stb_isV _ | exact stb_any)) (Upd.refl _ _) ?_ ?_
      · refine ⟨?_, ?_, ?_, ?_, ?_, ?_, ?_, ?_, trivial⟩
        · refine fun ρ w' L hW hLi hcl hd hdep hext hc hg hf => ?_
          rw [if_pos (show wantedR _ _ _ = true from rfl)]
          have e2 : ρ (.tmp 2) = .pointer (some ⟨X, 0, none⟩) := hext 2 (by kernel_rfl)
          clear hdep hext
          refine od_load_row 34 (.tmp 2) rfl X 0 e2 (#[.slice A1 q c1, .slice A2' n c2', .slice none 0 0, .slice none 0 0, .int .i64 0] : Array Value).toList _ (range_blk (HX6.out w' hW)) Tryz.underlying34 rfl (by kernel_rfl) ?_
          exact ⟨rfl, Upd.refl _ _, hW⟩
        · refine fun ρ w' L hW hLi hcl hd hdep hext hc hg hf => ?_
          rw [if_pos (show wantedR _ _ _ = true from rfl)]
          have e6 : ρ (.tmp 6) = .pointer (some ⟨G, 0, none⟩) := hext 6 (by kernel_rfl)
          clear hdep hext hcl
          have HW := Lib.hid hW
          clear hW
          unfold OpDone
          go_simp
          exact ⟨rfl, Upd.refl _ _, HW.out⟩
        · refine fun ρ w' L hW hLi hcl hd hdep hext hc hg hf => ?_
          rw [if_pos (show wantedR _ _ _ = true from rfl)]
          have e22 : ρ (.tmp 22) = .pointer (some ⟨G, 0, none⟩) := hdep 1 _ rfl (by kernel_rfl)
          clear hdep hext
          refine od_load_row 107 (.tmp 22) rfl G 0 e22 (cellC d) _ (row_cells HRD.out (HG6.out w' hW)) Tryz.underlying107 rfl (by rw [cell_size, HLD.out]) ?_
          rw [HZA.out]
          exact ⟨rfl, Upd.refl _ _, hW⟩
        · refine fun ρ w' L hW hLi hcl hd hdep hext hc hg hf => ?_
          rw [if_pos (show wantedR _ _ _ = true from rfl)]
          have e21 : ρ (.tmp 21) = .agg #[.slice A1 q c1, .slice A2' n c2', .slice none 0 0, .slice none 0 0, .int .i64 0] := hdep 0 _ rfl (by kernel_rfl)
          have e23 : ρ (.tmp 23) = .agg za := hdep 2 _ rfl (by kernel_rfl)
          clear hdep hext
          have CL := Lib.hid (show Calls Tryz.prog 101 #[.agg #[.slice A1 q c1, .slice A2' n c2', .slice none 0 0, .slice none 0 0, .int .i64 0], .agg za] w' _ from by rw [← HZA.out]; exact stGet_none HQ.out (HDC.out.keep (HU6.out.trans hW (fun _ _ f => f))) HFD.out.lock HNO.out)
          have HW := Lib.hid hW
          clear hW hcl hd hLi
          unfold OpDone
          go_simp
          refine CL.out.mono ?_
          rintro e w2 ⟨rfl, hu⟩
          exact ⟨_, rfl, rfl, hu, HW.out.trans hu (fun _ _ f => f)⟩
        · refine fun ρ w' L hW hLi hcl hd hdep hext hc hg hf => ?_
          rw [if_pos (show wantedR _ _ _ = true from rfl)]
          have e6 : ρ (.tmp 6) = .pointer (some ⟨G, 0, none⟩) := hext 6 (by kernel_rfl)
          clear hdep hext hcl
          have HW := Lib.hid hW
          clear hW
          unfold OpDone
          go_simp
          exact ⟨rfl, Upd.refl _ _, HW.out⟩
        · refine fun ρ w' L hW hLi hcl hd hdep hext hc hg hf => ?_
          rw [if_pos (show wantedR _ _ _ = true from rfl)]
          have e25 : ρ (.tmp 25) = .pointer (some ⟨G, 10, none⟩) := hdep 4 _ rfl (by kernel_rfl)
          have q0 : w'.cell? ⟨G, 10, none⟩ = some (.int .i64 d.amt) := by
            rw [(HG6.out w' hW).cell 10, ← HRD.out]
            exact rowD_amt HFD.out
          clear hdep hext hcl
          have HW := Lib.hid hW
          clear hW
          unfold OpDone
          go_simp
          exact ⟨rfl, Upd.refl _ _, HW.out⟩
        · refine fun ρ w' L hW hLi hcl hd hdep hext hc hg hf => ?_
          rw [if_pos (show wantedR _ _ _ = true from rfl)]
          have e24 : ρ (.tmp 24) = .int .i64 0 := hdep 3 _ rfl (by kernel_rfl)
          have e26 : ρ (.tmp 26) = .int .i64 d.amt := hdep 5 _ rfl (by kernel_rfl)
          have q0 : IntKind.i64.wrap (0 + d.amt) = d.amt := by rw [Int.zero_add]; exact IntWalk.i64_in _ HFD.out.amt
          have q1 : IntKind.i64.wrap d.amt = d.amt := IntWalk.i64_in _ HFD.out.amt
          clear hdep hext hcl
          have HW := Lib.hid hW
          clear hW
          unfold OpDone
          go_simp
          exact ⟨rfl, Upd.refl _ _, HW.out⟩
        · refine fun ρ w' L hW hLi hcl hd hdep hext hc hg hf => ?_
          rw [if_pos (show wantedR _ _ _ = true from rfl)]
          have e27 : ρ (.tmp 27) = .int .i64 d.amt := hdep 6 _ rfl (by kernel_rfl)
          clear hdep hext hcl
          have HW := Lib.hid hW
          clear hW
          unfold OpDone
          go_simp
          exact ⟨rfl, Upd.refl _ _, HW.out⟩
      intro vs W7 L7 hL7 hW7 hR
      have hv0 : vs 0 = .agg #[.slice A1 q c1, .slice A2' n c2', .slice none 0 0, .slice none 0 0, .int .i64 0] := hR 0 _ rfl
      have hv1 : vs 1 = .pointer (some ⟨G, 0, none⟩) := hR 1 _ rfl
      have hv2 : vs 2 = .agg za := hR 2 _ rfl
      have hv3 : vs 3 = .int .i64 0 := hR 3 _ rfl
      have hv4 : vs 4 = .pointer (some ⟨G, 10, none⟩) := hR 4 _ rfl
      have hv5 : vs 5 = .int .i64 d.amt := hR 5 _ rfl
      have hv6 : vs 6 = .int .i64 d.amt := hR 6 _ rfl
      have hv7 : vs 7 = .int .i64 d.amt := hR 7 _ rfl
      simp only [putAll, Act.put, List.setIfInBounds_toArray, List.set_cons_zero, List.set_cons_succ, hv0, hv1, hv2, hv3, hv4, hv5, hv6, hv7]
      clear hR hv0 hv1 hv2 hv3 hv4 hv5 hv6 hv7
      have V7 := Lib.hid (V6.out.trans hW7 (fun _ _ f => f))
      have HG7 := Lib.hid (HG6.out W7 hW7)
      clear HX6 HG6 HDC HU6 V6 U6 V5 B5 hW7 hL7
      by_cases h0 : d.amt = 0
      · have t0 : (d.amt == 0) = true := by simpa using h0
        have HN := Lib.hid (show (l.take (k + 1)).filter nzD = (l.take k).filter nzD from by rw [filter_next HD.out, show nzD d = false from by unfold nzD; simp [h0]]; simp)
        go_wp2_with fail
        go_roundg (m - (k + 1))
        case measure => omega
        case rel => exact ⟨k + 1, by first | rfl | go_num, by omega, by omega, Lib.hid (by rw [HN.out]; exact HREL.out.keep V7.out)⟩
      · have t0 : (d.amt == 0) = false := by simpa using h0
        have HN := Lib.hid (show (l.take (k + 1)).filter nzD = CL ++ [d] from by rw [filter_next HD.out, show nzD d = true from by unfold nzD; simp [h0], HCL.out]; simp)
        have HH0 := Lib.hid h0
        clear h0
        go_wp2_with fail
        obtain ⟨W8, hW8⟩ : ∃ x, x = W7 := ⟨_, rfl⟩
        subst hW8
        obtain ⟨rows, hrows⟩ : ∃ x, x = (CL.map rowD).flatten := ⟨_, rfl⟩
        have HRS := Lib.hid hrows
        have V8 := Lib.hid V7.out.drew
        have HX8 := Lib.hid (V8.out.blk H1.out.1 (fun f => f))
        have HG8 := Lib.hid (show Blk W8.drew G 109 rd from HG7.out.drew)
        have HC8 := Lib.hid (H1.out.2.1.keep V8.out)
        have HDC8 := Lib.hid (show DeR W8.drew (.slice A1 q c1) CL from ⟨HFC.out, by have h := HC8.out.1.rd; rw [HQ.out]; exact h⟩)
        have HOC := Lib.hid (show Own W8.drew 109 11 (.slice A1 q c1) q rows from by rw [hrows]; exact HC8.out.1)
        have HXO := Lib.hid (show ¬ OwnB (.slice A1 q c1) X from fun h => by have := HC8.out.2 X h; omega)
        have HXS := Lib.hid (show X < W8.drew.heap.size from HX8.out.lt)
        have HOL8 := Lib.hid (show ∀ k, OwnB (.slice A1 q c1) k → k < W8.drew.heap.size from fun k hk => HOC.out.lt hk)
        have HBE := Lib.hid (show ∀ y ∈ CL, ¬ 0 < cmpC y d from fun y hy => by have := HBF.out y hy; omega)
        clear hrows t0
        refine wp_region_rgl (rgR [isV (.pointer (some ⟨X, 0, none⟩)), isV (.slice A1 q c1), isV (.pointer (some ⟨X, 0, none⟩)), isV (.slice A1 q c1), isV (.agg rd), isV (.int .i64 (q : Int)), isV (.agg rd), BsR W8.drew.heap.size rd, In8 W8.drew.heap.size A1 c1 q rows (rowD d), isV (.pointer (some ⟨X, 0, none⟩)), anyV]) (AdSt W8.drew.heap.size X A1 c1 q) (AdPh W8.drew W8.drew.heap.size X A1 A2' q c1 n c2' rows (rowD d)) (by kernel_rfl) (by kernel_rfl) (by kernel_rfl) (by rfl) (fun L w => AdSt.nof (Upd.refl _ _)) (rgR_keepL ⟨stbL_isV _, stbL_isV _, stbL_isV _, stbL_isV _, stbL_isV _, stbL_isV _, stbL_isV _, (stbL_bs HXS.out HOL8.out), (stbL_in8 HXS.out HXO.out), stbL_isV _, stbL_any, trivial⟩) (AdPh.start HX8.out) ?_ ?_
        · refine ⟨?_, ?_, ?_, ?_, ?_, ?_, ?_, ?_, ?_, ?_, ?_, trivial⟩
          · refine fun ρ w' L hW hLi hcl hd hdep hext hc hg hf => ?_
            rw [if_pos (show wantedR _ _ _ = true from rfl)]
            have e2 : ρ (.tmp 2) = .pointer (some ⟨X, 0, none⟩) := hext 2 (by kernel_rfl)
            clear hdep hext hcl
            have HW := Lib.hid hW
            clear hW
            unfold OpDone
            go_simp
            exact ⟨rfl, AdSt.nof (Upd.refl _ _), (HW.out.same (by decide) (by decide))⟩
          · refine fun ρ w' L hW hLi hcl hd hdep hext hc hg hf => ?_
            rw [if_pos (show wantedR _ _ _ = true from rfl)]
            have e54 : ρ (.tmp 54) = .pointer (some ⟨X, 0, none⟩) := hdep 0 _ rfl (by kernel_rfl)
            have h10 : L 10 = false := by
              cases h : L 10 with
              | false => rfl
              | true => exact absurd (hcl 8 1 (hcl 10 8 h (by kernel_rfl)) (by kernel_rfl)) (by rw [hLi]; decide)
            have q0 : w'.cell? ⟨X, 0, none⟩ = some (.slice A1 q c1) := (hW.x0 h10).cell 0
            clear hdep hext hcl
            have HW := Lib.hid hW
            clear hW
            unfold OpDone
            go_simp
            exact ⟨rfl, AdSt.nof (Upd.refl _ _), (HW.out.same (by decide) (by decide))⟩
          · refine fun ρ w' L hW hLi hcl hd hdep hext hc hg hf => ?_
            rw [if_pos (show wantedR _ _ _ = true from rfl)]
            have e2 : ρ (.tmp 2) = .pointer (some ⟨X, 0, none⟩) := hext 2 (by kernel_rfl)
            clear hdep hext hcl
            have HW := Lib.hid hW
            clear hW
            unfold OpDone
            go_simp
            exact ⟨rfl, AdSt.nof (Upd.refl _ _), (HW.out.same (by decide) (by decide))⟩
          · refine fun ρ w' L hW hLi hcl hd hdep hext hc hg hf => ?_
            rw [if_pos (show wantedR _ _ _ = true from rfl)]
            have e56 : ρ (.tmp 56) = .pointer (some ⟨X, 0, none⟩) := hdep 2 _ rfl (by kernel_rfl)
            have h10 : L 10 = false := by
              cases h : L 10 with
              | false => rfl
              | true => exact absurd (hcl 5 3 (hcl 8 5 (hcl 10 8 h (by kernel_rfl)) (by kernel_rfl)) (by kernel_rfl)) (by rw [hLi]; decide)
            have q0 : w'.cell? ⟨X, 0, none⟩ = some (.slice A1 q c1) := (hW.x0 h10).cell 0
            clear hdep hext hcl
            have HW := Lib.hid hW
            clear hW
            unfold OpDone
            go_simp
            exact ⟨rfl, AdSt.nof (Upd.refl _ _), (HW.out.same (by decide) (by decide))⟩
          · refine fun ρ w' L hW hLi hcl hd hdep hext hc hg hf => ?_
            rw [if_pos (show wantedR _ _ _ = true from rfl)]
            have e6 : ρ (.tmp 6) = .pointer (some ⟨G, 0, none⟩) := hext 6 (by kernel_rfl)
            clear hdep hext
            have h8 : L 8 = false := by
              cases h : L 8 with
              | false => rfl
              | true => exact absurd (hcl 5 4 (hcl 8 5 h (by kernel_rfl)) (by kernel_rfl)) (by rw [hLi]; decide)
            have h10 : L 10 = false := by
              cases h : L 10 with
              | false => rfl
              | true => exact absurd (hcl 5 4 (hcl 8 5 (hcl 10 8 h (by kernel_rfl)) (by kernel_rfl)) (by kernel_rfl)) (by rw [hLi]; decide)
            refine od_load_row 109 (.tmp 6) rfl G 0 e6 (rowD d) _ (range_blk (by rw [HRD.out]; exact (hW.u0 h8 h10).blk HG8.out (fun f => f))) Tryz.underlying109 rfl (by rw [delta_size, rowD_len HFD.out]) ?_
            rw [HRD.out]
            exact ⟨rfl, AdSt.nof (Upd.refl _ _), hW.same (by decide) (by decide)⟩
          · refine fun ρ w' L hW hLi hcl hd hdep hext hc hg hf => ?_
            rw [if_pos (show wantedR _ _ _ = true from rfl)]
            have e57 : ρ (.tmp 57) = .slice A1 q c1 := hdep 3 _ rfl (by kernel_rfl)
            have e58 : ρ (.tmp 58) = .agg rd := hdep 4 _ rfl (by kernel_rfl)
            clear hdep hext
            have h8 : L 8 = false := by
              cases h : L 8 with
              | false => rfl
              | true => exact absurd (hcl 8 5 h (by kernel_rfl)) (by rw [hLi]; decide)
            have h10 : L 10 = false := by
              cases h : L 10 with
              | false => rfl
              | true => exact absurd (hcl 8 5 (hcl 10 8 h (by kernel_rfl)) (by kernel_rfl)) (by rw [hLi]; decide)
            have CL := Lib.hid (show Calls Tryz.prog 104 #[.slice A1 q c1, .agg rd, .func (.func 105) #[] #[]] w' _ from by rw [← HRD.out]; exact before_end HQ.out (HDC8.out.keep (hW.u0 h8 h10)) HFD.out HBE.out)
            have HW := Lib.hid hW
            have H8 := Lib.hid (And.intro h8 h10)
            clear hW hcl hd hLi h8 h10
            unfold OpDone
            go_simp
            refine CL.out.mono ?_
            rintro e w2 ⟨rfl, hu⟩
            exact ⟨_, rfl, rfl, AdSt.nof hu, HW.out.step H8.out.1 H8.out.2 (by decide) (by decide) hu⟩
          · refine fun ρ w' L hW hLi hcl hd hdep hext hc hg hf => ?_
            rw [if_pos (show wantedR _ _ _ = true from rfl)]
            have e6 : ρ (.tmp 6) = .pointer (some ⟨G, 0, none⟩) := hext 6 (by kernel_rfl)
            clear hdep hext
            have h8 : L 8 = false := by
              cases h : L 8 with
              | false => rfl
              | true => exact absurd (hcl 7 6 (hcl 8 7 h (by kernel_rfl)) (by kernel_rfl)) (by rw [hLi]; decide)
            have h10 : L 10 = false := by
              cases h : L 10 with
              | false => rfl
              | true => exact absurd (hcl 7 6 (hcl 8 7 (hcl 10 8 h (by kernel_rfl)) (by kernel_rfl)) (by kernel_rfl)) (by rw [hLi]; decide)
            refine od_load_row 109 (.tmp 6) rfl G 0 e6 (rowD d) _ (range_blk (by rw [HRD.out]; exact (hW.u0 h8 h10).blk HG8.out (fun f => f))) Tryz.underlying109 rfl (by rw [delta_size, rowD_len HFD.out]) ?_
            rw [HRD.out]
            exact ⟨rfl, AdSt.nof (Upd.refl _ _), hW.same (by decide) (by decide)⟩
          · refine fun ρ w' L hW hLi hcl hd hdep hext hc hg hf => ?_
            rw [if_pos (show wantedR _ _ _ = true from rfl)]
            have e60 : ρ (.tmp 60) = .agg rd := hdep 6 _ rfl (by kernel_rfl)
            clear hdep hext
            have h8 : L 8 = false := by
              cases h : L 8 with
              | false => rfl
              | true => exact absurd (hcl 8 7 h (by kernel_rfl)) (by rw [hLi]; decide)
            have h10 : L 10 = false := by
              cases h : L 10 with
              | false => rfl
              | true => exact absurd (hcl 8 7 (hcl 10 8 h (by kernel_rfl)) (by kernel_rfl)) (by rw [hLi]; decide)
            refine od_buildSlice_row9 31 109 (.tmp 60) rfl _ e60 rd (by rw [← HRD.out]; exact bs_delta HFD.out w') ?_
            exact ⟨⟨_, rfl, Blk.new w' _ _, (hW.u0 h8 h10).size⟩, AdSt.nof ((Upd.refl _ w').alloc _), hW.step h8 h10 (by decide) (by decide) ((Upd.refl _ w').alloc _)⟩
          · refine fun ρ w' L hW hLi hcl hd hdep hext hc hg hf => ?_
            rw [if_pos (show wantedR _ _ _ = true from rfl)]
            have e55 : ρ (.tmp 55) = .slice A1 q c1 := hdep 1 _ rfl (by kernel_rfl)
            have e59 : ρ (.tmp 59) = .int .i64 (q : Int) := hdep 5 _ rfl (by kernel_rfl)
            have e61 : (BsR W8.drew.heap.size rd) (ρ (.tmp 61)) w' := hdep 7 _ rfl (by kernel_rfl)
            clear hdep hext
            have h10 : L 10 = false := by
              cases h : L 10 with
              | false => rfl
              | true => exact absurd (hcl 10 8 h (by kernel_rfl)) (by rw [hLi]; decide)
            obtain ⟨g7, e61, hb7, hg7⟩ := e61
            have hO : Own w' 109 11 (.slice A1 q c1) q rows := HOC.out.upd (hW.u0 hLi h10) (fun _ _ f => f)
            have hS := (hW.u0 hLi h10).size
            have CL := Lib.hid (InsertDelta_end (w := w') (ys := rowD d) (d := 1) hO (Rd.of_blk hb7 (by omega) (by unfold maxLen; omega) (by rw [rowD_len HFD.out]) (fun j y hy => by rw [Nat.zero_add, ← HRD.out, List.getElem?_toArray]; exact hy)) (rowD_one d) HQM.out)
            have HW := Lib.hid hW
            have H10 := Lib.hid (And.intro h10 hLi)
            have HSS := Lib.hid hS
            have HOL := Lib.hid (fun k hk => (HOC.out.lt (k := k) hk : k < _))
            clear hW hcl hd hLi h10 hO hS hb7 hg7
            unfold OpDone
            go_simp
            refine CL.out.mono ?_
            rintro e w2 ⟨A9, c9, rfl, ho, hu, hn⟩
            exact ⟨_, rfl, ⟨A9, c9, rfl, ho, fun k hk => (hn k hk).imp id (fun h => Nat.le_trans HSS.out h)⟩, AdSt.ins H10.out.2 hu HOL.out, HW.out.ins H10.out.1 hu HXO.out⟩
          · refine fun ρ w' L hW hLi hcl hd hdep hext hc hg hf => ?_
            rw [if_pos (show wantedR _ _ _ = true from rfl)]
            have e2 : ρ (.tmp 2) = .pointer (some ⟨X, 0, none⟩) := hext 2 (by kernel_rfl)
            clear hdep hext hcl
            have HW := Lib.hid hW
            clear hW
            unfold OpDone
            go_simp
            exact ⟨rfl, AdSt.nof (Upd.refl _ _), (HW.out.same (by decide) (by decide))⟩
          · refine fun ρ w' L hW hLi hcl hd hdep hext hc hg hf => ?_
            rw [if_pos (show wantedR _ _ _ = true from rfl)]
            have e63 : ρ (.tmp 63) = .pointer (some ⟨X, 0, none⟩) := hdep 9 _ rfl (by kernel_rfl)
            have e62 : (In8 W8.drew.heap.size A1 c1 q rows (rowD d)) (ρ (.tmp 62)) w' := hdep 8 _ rfl (by kernel_rfl)
            clear hdep hext
            have h8 : L 8 = true := hd 8 (by kernel_rfl)
            obtain ⟨a8, k8, e62, ho8, hn8⟩ := e62
            have q0 : w'.cell? ⟨X, 0, none⟩ = some (.slice A1 q c1) := (hW.x0 hLi).cell 0
            have q1 : w'.frozen? ⟨X, 0, none⟩ = false := (hW.x0 hLi).frozen 0
            have HW := Lib.hid hW
            have HL := Lib.hid (And.intro hLi h8)
            have HO := Lib.hid (And.intro ho8 hn8)
            clear hW hcl hd hLi h8 ho8 hn8
            unfold OpDone
            go_simp
            exact ⟨trivial, AdSt.put HXS.out, HW.out.put HL.out.1 HL.out.2 HO.out.1 HO.out.2 HXS.out HXO.out⟩
        intro vs W9 L9 hL9 hW9 hR
        have hv0 : vs 0 = .pointer (some ⟨X, 0, none⟩) := hR 0 _ rfl
        have hv1 : vs 1 = .slice A1 q c1 := hR 1 _ rfl
        have hv2 : vs 2 = .pointer (some ⟨X, 0, none⟩) := hR 2 _ rfl
        have hv3 : vs 3 = .slice A1 q c1 := hR 3 _ rfl
        have hv4 : vs 4 = .agg rd := hR 4 _ rfl
        have hv5 : vs 5 = .int .i64 (q : Int) := hR 5 _ rfl
        have hv6 : vs 6 = .agg rd := hR 6 _ rfl
        have hr7 : (BsR W8.drew.heap.size rd) (vs 7) W9 := hR 7 _ rfl
        obtain ⟨g7, hv7, -⟩ := hr7
        have hr8 : (In8 W8.drew.heap.size A1 c1 q rows (rowD d)) (vs 8) W9 := hR 8 _ rfl
        obtain ⟨a8, k8, hv8, -⟩ := hr8
        have hv9 : vs 9 = .pointer (some ⟨X, 0, none⟩) := hR 9 _ rfl
        simp only [putAll, Act.put, List.setIfInBounds_toArray, List.set_cons_zero, List.set_cons_succ, hv0, hv1, hv2, hv3, hv4, hv5, hv6, hv7, hv8, hv9]
        clear hR hv0 hv1 hv2 hv3 hv4 hv5 hv6 hv7 hv8 hv9
        obtain ⟨A9, c9, hb9, ho9, hn9⟩ := hW9.x1 (hL9 10 (by decide))
        have NEW := Lib.hid (show AdR w X n zs (CL ++ [d]) W9 from ⟨⟨A9, c9, A2', c2', by rw [List.length_append, HQ.out]; exact hb9, ⟨by rw [List.length_append, HQ.out, List.map_append, List.flatten_append, ← HRS.out]; simpa using ho9, fun k hk => by
            rw [List.length_append, HQ.out] at hk
            rcases hn9 k hk with h | h
            · exact HC8.out.2 k h
            · have := (H1.out.2.2.2.1.lt : X + 1 < wr.heap.size); have := V8.out.size; omega⟩, (H1.out.2.2.1.keep V8.out).1.upd hW9.u1 (fun k hk f => by
              rcases f with f | f
              · have := H1.out.2.2.1.2 k hk; omega
              · exact own_apart HOC.out (H1.out.2.2.1.keep V8.out).1 (by decide) k hk f), H1.out.2.2.1.2⟩, (V8.out.blk H1.out.2.2.2.1 (fun f => f) |> fun h => hW9.u1.blk h (fun f => by
              rcases f with f | f
              · omega
              · have := HC8.out.2 (X + 1) f; omega)), (H1.out.2.2.2.2.trans V8.out (fun _ _ f => f)).trans hW9.u1 (fun k hk f => by
              rcases f with f | f
              · have := HX.out; omega
              · have := HC8.out.2 k f; have := HX.out; omega)⟩)
        rw [← HN.out] at NEW
        clear hW9 hL9 hb9 ho9 hn9
        go_wp2_with fail
        go_roundg (m - (k + 1))
        case measure => omega
        case rel => exact ⟨k + 1, by first | rfl | go_num, by omega, by omega, NEW⟩
    · have hltz : ¬ (k : Int) < (m : Int) := by omega
      obtain rfl : k = m := by omega
      have HE := Lib.hid (show (l.take k).filter nzD = LF from by rw [HLF.out, List.take_of_length_le (by rw [HL.out]; exact Nat.le_refl _)])
      rw [HE.out] at HREL
      obtain ⟨⟨A1, c1, A2', c2', hx, hc, hs⟩, hz, hu⟩ := HREL.out
      have H1 := Lib.hid (And.intro hx (And.intro hc (And.intro hs (And.intro hz hu))))
      rw [← HQF.out] at H1
      clear hx hc hs hz hu
      go_wp2_with (first
        | (refine wpList_load_row rfl 34 (.tmp 2) rfl X 0 rfl (#[.slice A1 QF c1, .slice A2' n c2', .slice none 0 0, .slice none 0 0, .int .i64 0] : Array Value).toList _ (range_blk H1.out.1) Tryz.underlying34 rfl (by kernel_rfl) _ rfl ?_)
        | (refine wpList_store_row rfl 34 (.tmp 4) (.tmp 65) rfl (X + 1) rfl _ rfl 34 _ H1.out.2.2.2.1 rfl (by kernel_rfl) (by kernel_rfl) ?_; intro w9 hb9 hu9 hs9))
      refine bodyPost_ret (results_cell_row Tryz.results60 _ _ (X + 1) 34 _ (0, 0) _ rfl hb9 Tryz.underlying34 rfl (by kernel_rfl)) rfl ⟨A1, c1, A2', c2', rfl, ⟨(H1.out.2.1.1.upd hu9 (fun k hk f => by have := H1.out.2.1.2 k hk; have f : k = X + 1 := f; omega)), fun k hk => by have := H1.out.2.1.2 k hk; have := HX.out; omega⟩, ⟨(H1.out.2.2.1.1.upd hu9 (fun k hk f => by have := H1.out.2.2.1.2 k hk; have f : k = X + 1 := f; omega)), fun k hk => by have := H1.out.2.2.1.2 k hk; have := HX.out; omega⟩, H1.out.2.2.2.2.trans hu9 (fun k hk f => by have f : k = X + 1 := f; have := HX.out; omega)⟩
end

section
open Go.RowKit

theorem stAmount_any (v : Int) (w : World) : Calls Tryz.prog 97 #[.int .i64 v] w fun e w' => e = .returned (.bool (amtB v)) ∧ w' = w := by
  by_cases h1 : 0 ≤ v
  · by_cases h2 : v ≤ 1099511627776
    · have t1 : decide (0 ≤ v) = true := by simpa using h1
      have t2 : decide (v ≤ 1099511627776) = true := by simpa using h2
      have E := Lib.hid (show amtB v = true by unfold amtB; rw [t1, t2]; rfl)
      generalize amtB v = z at E ⊢
      go_enter Tryz.func97, Tryz.ntmps97
      go_wp2
      go_ret
      exact ⟨congrArg (fun z => Ending.returned (.bool z)) E.out.symm, rfl⟩
    · have t1 : decide (0 ≤ v) = true := by simpa using h1
      have t2 : decide (v ≤ 1099511627776) = false := by simpa using h2
      have E := Lib.hid (show amtB v = false by unfold amtB; rw [t1, t2]; rfl)
      generalize amtB v = z at E ⊢
      go_enter Tryz.func97, Tryz.ntmps97
      go_wp2
      go_ret
      exact ⟨congrArg (fun z => Ending.returned (.bool z)) E.out.symm, rfl⟩
  · have t1 : decide (0 ≤ v) = false := by simpa using h1
    have E := Lib.hid (show amtB v = false by unfold amtB; rw [t1]; rfl)
    generalize amtB v = z at E ⊢
    go_enter Tryz.func97, Tryz.ntmps97
    go_wp2
    go_ret
    exact ⟨congrArg (fun z => Ending.returned (.bool z)) E.out.symm, rfl⟩

/-- A genesis in memory. -/
structure GenR (w : World) (A B C : Option Addr) (a b c : Nat) (g : GenS) : Prop where
  n : In64 g.n
  stake : In64 g.stake
  vals : NmR w (.slice A g.vals.length a) g.vals
  accs : NmR w (.slice B g.accs.length b) g.accs
  bals : InR w (.slice C g.bals.length c) g.bals
abbrev genV (A B C : Option Addr) (a b c : Nat) (g : GenS) : Value := .agg #[.int .i64 g.n, .int .i64 g.stake, .slice A g.vals.length a, .slice B g.accs.length b, .slice C g.bals.length c]
theorem GenR.keep {w w' : World} {A B C : Option Addr} {a b c : Nat} {g : GenS} (h : GenR w A B C a b c g) (hu : Upd NoF w w') : GenR w' A B C a b c g := ⟨h.n, h.stake, h.vals.keep hu, h.accs.keep hu, h.bals.keep hu⟩

set_option maxRecDepth 100000 in
set_option maxHeartbeats 8000000 in
theorem vgen_2 {w : World} {A B C : Option Addr} {a b c : Nat} {n s : Int} {v m q : Nat} (f1 : 1 ≤ n) (h : 7 < n) : Calls Tryz.prog 58 #[.agg #[.int .i64 n, .int .i64 s, .slice A v a, .slice B m b, .slice C q c]] w fun e w' => e = .returned (.int .i64 1) ∧ Upd NoF w w' := by
  have t1 : decide (n < 1) = false := by simp; omega
  have t2 : decide (7 < n) = true := by simp; omega
  have HU := Lib.hid ((Upd.refl NoF w).alloc (.cells #[.int .i64 n, .int .i64 s, .slice A v a, .slice B m b, .slice C q c] 25))
  clear f1 h
  go_enter Tryz.func58, Tryz.ntmps58
  go_wp2
  go_quiet (fail)
  go_wp2
  go_ret
  exact ⟨rfl, HU.out.drewN _⟩
end

section
open Go.RowKit

set_option maxRecDepth 100000 in
set_option maxHeartbeats 8000000 in
theorem vgen_1 {w : World} {A B C : Option Addr} {a b c : Nat} {n s : Int} {v m q : Nat}  (h : n < 1) : Calls Tryz.prog 58 #[.agg #[.int .i64 n, .int .i64 s, .slice A v a, .slice B m b, .slice C q c]] w fun e w' => e = .returned (.int .i64 1) ∧ Upd NoF w w' := by
  have t1 : decide (n < 1) = true := by simp; omega
  have HU := Lib.hid ((Upd.refl NoF w).alloc (.cells #[.int .i64 n, .int .i64 s, .slice A v a, .slice B m b, .slice C q c] 25))
  clear h
  go_enter Tryz.func58, Tryz.ntmps58
  go_wp2
  go_quiet (fail)
  go_wp2
  go_ret
  exact ⟨rfl, HU.out.drewN _⟩

set_option maxRecDepth 100000 in
set_option maxHeartbeats 8000000 in
theorem vgen_3 {w : World} {A B C : Option Addr} {a b c : Nat} {n s : Int} {v m q : Nat} (f1 : 1 ≤ n) (f2 : n ≤ 7) (h : v = 0) : Calls Tryz.prog 58 #[.agg #[.int .i64 n, .int .i64 s, .slice A v a, .slice B m b, .slice C q c]] w fun e w' => e = .returned (.int .i64 1) ∧ Upd NoF w w' := by
  have t1 : decide (n < 1) = false := by simp; omega
  have t2 : decide (7 < n) = false := by simp; omega
  subst h
  have HU := Lib.hid ((Upd.refl NoF w).alloc (.cells #[.int .i64 n, .int .i64 s, .slice A 0 a, .slice B m b, .slice C q c] 25))
  clear f1 f2
  go_enter Tryz.func58, Tryz.ntmps58
  go_wp2
  go_quiet (fail)
  go_wp2
  go_ret
  exact ⟨rfl, HU.out.drewN _⟩

set_option maxRecDepth 100000 in
set_option maxHeartbeats 8000000 in
theorem vgen_4 {w : World} {A B C : Option Addr} {a b c : Nat} {n s : Int} {v m q : Nat} (f1 : 1 ≤ n) (f2 : n ≤ 7) (_f3 : 1 ≤ v) (h : 10 < v) : Calls Tryz.prog 58 #[.agg #[.int .i64 n, .int .i64 s, .slice A v a, .slice B m b, .slice C q c]] w fun e w' => e = .returned (.int .i64 1) ∧ Upd NoF w w' := by
  have t1 : decide (n < 1) = false := by simp; omega
  have t2 : decide (7 < n) = false := by simp; omega
  have t3 : decide ((v : Int) < 1) = false := by simp; omega
  have t3' : decide (v < 1) = false := by simp; omega
  have t3'' : ¬ v = 0 := by omega
  have t4 : decide ((10 : Int) < (v : Int)) = true := by simp; omega
  have t4' : decide (10 < v) = true := by simp; omega
  have HU := Lib.hid ((Upd.refl NoF w).alloc (.cells #[.int .i64 n, .int .i64 s, .slice A v a, .slice B m b, .slice C q c] 25))
  clear f1 f2 _f3 h
  go_enter Tryz.func58, Tryz.ntmps58
  go_wp2
  go_quiet (fail)
  go_wp2
  go_ret
  exact ⟨rfl, HU.out.drewN _⟩

set_option maxRecDepth 100000 in
set_option maxHeartbeats 8000000 in
theorem vgen_5 {w : World} {A B C : Option Addr} {a b c : Nat} {n s : Int} {v m q : Nat} (f1 : 1 ≤ n) (f2 : n ≤ 7) (f3 : 1 ≤ v) (f4 : v ≤ 10) (h : (v : Int) < n) : Calls Tryz.prog 58 #[.agg #[.int .i64 n, .int .i64 s, .slice A v a, .slice B m b, .slice C q c]] w fun e w' => e = .returned (.int .i64 1) ∧ Upd NoF w w' := by
  have t1 : decide (n < 1) = false := by simp; omega
  have t2 : decide (7 < n) = false := by simp; omega
  have t3 : decide ((v : Int) < 1) = false := by simp; omega
  have t3' : decide (v < 1) = false := by simp; omega
  have t3'' : ¬ v = 0 := by omega
  have t4 : decide ((10 : Int) < (v : Int)) = false := by simp; omega
  have t4' : decide (10 < v) = false := by simp; omega
  have t5 : decide ((v : Int) < n) = true := by simp; omega
  have HU := Lib.hid ((Upd.refl NoF w).alloc (.cells #[.int .i64 n, .int .i64 s, .slice A v a, .slice B m b, .slice C q c] 25))
  clear f1 f2 f3 f4 h
  go_enter Tryz.func58, Tryz.ntmps58
  go_wp2
  go_quiet (fail)
  go_wp2
  go_ret
  exact ⟨rfl, HU.out.drewN _⟩

set_option maxRecDepth 100000 in
set_option maxHeartbeats 8000000 in
theorem vgen_6 {w : World} {A B C : Option Addr} {a b c : Nat} {n s : Int} {v m q : Nat} (f1 : 1 ≤ n) (f2 : n ≤ 7) (f3 : 1 ≤ v) (f4 : v ≤ 10) (f5 : n ≤ (v : Int)) (h : m = 0) : Calls Tryz.prog 58 #[.agg #[.int .i64 n, .int .i64 s, .slice A v a, .slice B m b, .slice C q c]] w fun e w' => e = .returned (.int .i64 1) ∧ Upd NoF w w' := by
  have t1 : decide (n < 1) = false := by simp; omega
  have t2 : decide (7 < n) = false := by simp; omega
  have t3 : decide ((v : Int) < 1) = false := by simp; omega
  have t3' : decide (v < 1) = false := by simp; omega
  have t3'' : ¬ v = 0 := by omega
  have t4 : decide ((10 : Int) < (v : Int)) = false := by simp; omega
  have t4' : decide (10 < v) = false := by simp; omega
  have t5 : decide ((v : Int) < n) = false := by simp; omega
  subst h
  have HU := Lib.hid ((Upd.refl NoF w).alloc (.cells #[.int .i64 n, .int .i64 s, .slice A v a, .slice B 0 b, .slice C q c] 25))
  clear f1 f2 f3 f4 f5
  go_enter Tryz.func58, Tryz.ntmps58
  go_wp2
  go_quiet (fail)
  go_wp2
  go_ret
  exact ⟨rfl, HU.out.drewN _⟩

set_option maxRecDepth 100000 in
set_option maxHeartbeats 8000000 in
theorem vgen_7 {w : World} {A B C : Option Addr} {a b c : Nat} {n s : Int} {v m q : Nat} (f1 : 1 ≤ n) (f2 : n ≤ 7) (f3 : 1 ≤ v) (f4 : v ≤ 10) (f5 : n ≤ (v : Int)) (_f6 : 1 ≤ m) (h : 16 < m) : Calls Tryz.prog 58 #[.agg #[.int .i64 n, .int .i64 s, .slice A v a, .slice B m b, .slice C q c]] w fun e w' => e = .returned (.int .i64 1) ∧ Upd NoF w w' := by
  have t1 : decide (n < 1) = false := by simp; omega
  have t2 : decide (7 < n) = false := by simp; omega
  have t3 : decide ((v : Int) < 1) = false := by simp; omega
  have t3' : decide (v < 1) = false := by simp; omega
  have t3'' : ¬ v = 0 := by omega
  have t4 : decide ((10 : Int) < (v : Int)) = false := by simp; omega
  have t4' : decide (10 < v) = false := by simp; omega
  have t5 : decide ((v : Int) < n) = false := by simp; omega
  have t6 : decide ((m : Int) < 1) = false := by simp; omega
  have t6' : decide (m < 1) = false := by simp; omega
  have t6'' : ¬ m = 0 := by omega
  have t7 : decide ((16 : Int) < (m : Int)) = true := by simp; omega
  have t7' : decide (16 < m) = true := by simp; omega
  have HU := Lib.hid ((Upd.refl NoF w).alloc (.cells #[.int .i64 n, .int .i64 s, .slice A v a, .slice B m b, .slice C q c] 25))
  clear f1 f2 f3 f4 f5 _f6 h
  go_enter Tryz.func58, Tryz.ntmps58
  go_wp2
  go_quiet (fail)
  go_wp2
  go_ret
  exact ⟨rfl, HU.out.drewN _⟩

set_option maxRecDepth 100000 in
set_option maxHeartbeats 8000000 in
theorem vgen_8 {w : World} {A B C : Option Addr} {a b c : Nat} {n s : Int} {v m q : Nat} (f1 : 1 ≤ n) (f2 : n ≤ 7) (f3 : 1 ≤ v) (f4 : v ≤ 10) (f5 : n ≤ (v : Int)) (f6 : 1 ≤ m) (f7 : m ≤ 16) (h : ¬ q = m) : Calls Tryz.prog 58 #[.agg #[.int .i64 n, .int .i64 s, .slice A v a, .slice B m b, .slice C q c]] w fun e w' => e = .returned (.int .i64 1) ∧ Upd NoF w w' := by
  have t1 : decide (n < 1) = false := by simp; omega
  have t2 : decide (7 < n) = false := by simp; omega
  have t3 : decide ((v : Int) < 1) = false := by simp; omega
  have t3' : decide (v < 1) = false := by simp; omega
  have t3'' : ¬ v = 0 := by omega
  have t4 : decide ((10 : Int) < (v : Int)) = false := by simp; omega
  have t4' : decide (10 < v) = false := by simp; omega
  have t5 : decide ((v : Int) < n) = false := by simp; omega
  have t6 : decide ((m : Int) < 1) = false := by simp; omega
  have t6' : decide (m < 1) = false := by simp; omega
  have t6'' : ¬ m = 0 := by omega
  have t7 : decide ((16 : Int) < (m : Int)) = false := by simp; omega
  have t7' : decide (16 < m) = false := by simp; omega
  have t8 : ((q : Int) == (m : Int)) = false := by simp; omega
  have t8' : (q == m) = false := by simpa using h
  have t8'' : ¬ (q : Int) = (m : Int) := by omega
  have HU := Lib.hid ((Upd.refl NoF w).alloc (.cells #[.int .i64 n, .int .i64 s, .slice A v a, .slice B m b, .slice C q c] 25))
  clear f1 f2 f3 f4 f5 f6 f7
  go_enter Tryz.func58, Tryz.ntmps58
  go_wp2
  go_quiet (fail)
  go_wp2
  go_ret
  exact ⟨rfl, HU.out.drewN _⟩

set_option maxRecDepth 100000 in
set_option maxHeartbeats 8000000 in
theorem vgen_9 {w : World} {A B C : Option Addr} {a b c : Nat} {n s : Int} {v m q : Nat} (f1 : 1 ≤ n) (f2 : n ≤ 7) (f3 : 1 ≤ v) (f4 : v ≤ 10) (f5 : n ≤ (v : Int)) (f6 : 1 ≤ m) (f7 : m ≤ 16) (f8 : q = m) (h : amtB s = false) : Calls Tryz.prog 58 #[.agg #[.int .i64 n, .int .i64 s, .slice A v a, .slice B m b, .slice C q c]] w fun e w' => e = .returned (.int .i64 1) ∧ Upd NoF w w' := by
  have t1 : decide (n < 1) = false := by simp; omega
  have t2 : decide (7 < n) = false := by simp; omega
  have t3 : decide ((v : Int) < 1) = false := by simp; omega
  have t3' : decide (v < 1) = false := by simp; omega
  have t3'' : ¬ v = 0 := by omega
  have t4 : decide ((10 : Int) < (v : Int)) = false := by simp; omega
  have t4' : decide (10 < v) = false := by simp; omega
  have t5 : decide ((v : Int) < n) = false := by simp; omega
  have t6 : decide ((m : Int) < 1) = false := by simp; omega
  have t6' : decide (m < 1) = false := by simp; omega
  have t6'' : ¬ m = 0 := by omega
  have t7 : decide ((16 : Int) < (m : Int)) = false := by simp; omega
  have t7' : decide (16 < m) = false := by simp; omega
  subst f8
  have CA := Lib.hid (fun W => stAmount_any s W)
  rw [h] at CA
  have HU := Lib.hid ((Upd.refl NoF w).alloc (.cells #[.int .i64 n, .int .i64 s, .slice A v a, .slice B q b, .slice C q c] 25))
  clear f1 f2 f3 f4 f5 f6 f7 h
  go_enter Tryz.func58, Tryz.ntmps58
  go_wp2
  go_quiet (fail)
  go_wp2_with (refine (CA.out _).mono ?_; rintro e w5 ⟨rfl, rfl⟩)
  go_ret
  exact ⟨rfl, HU.out.drewN _⟩
end
end Go.Proofs.YtengcmfdfmnacaaGreat
