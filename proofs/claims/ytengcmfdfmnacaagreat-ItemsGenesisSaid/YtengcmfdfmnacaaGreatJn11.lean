/- state.ValidateGenesis, whole. No condition. state.Genesis of a valid genesis. No condition. The order of texts, sorting and striking repetitions on plain lists. No condition. Striking repetitions, on plain lists. No condition. Names in ascending order; walking a graph of items from its references, on plain data. No condition. accept.Outcomes of no votes. No condition. Maps keyed by rows (structs, arrays): what a lookup in an empty map gives, and what the first store leaves; the same for a map with one entry whose key is not (or is) the asked one. Maps keyed by names: lookup, a store at a new key, delete, range. No condition. -/
import Derived.Test.YtengcmfdfmnacaaGreatJn10
import Derived.Test.YtengcmfdfmnacaaGreatJn1
import Derived.Test.YtengcmfdfmnacaaGreatJn8
import Derived.Shelf.GgSortFunc.Tiny
import Derived.WalkMore
import Derived.Test.YtengcmfdfmnacaaGreatLay4
import Derived.WideKeyRuns
import Derived.WideMake
import Derived.Test.YtengcmfdfmnacaaGreatJn6
import Derived.Maps.RangeRun
namespace Go.Proofs.YtengcmfdfmnacaaGreat
section
open Go.RowKit

set_option maxRecDepth 100000 in
set_option maxHeartbeats 8000000 in
theorem vgen_loop {w : World} {A B C : Option Addr} {a b c : Nat} {n s : Int} {v m q : Nat} {l : List Int} (f1 : 1 ≤ n) (f2 : n ≤ 7) (f3 : 1 ≤ v) (f4 : v ≤ 10) (f5 : n ≤ (v : Int)) (f6 : 1 ≤ m) (f7 : m ≤ 16) (f8 : q = m) (f9 : amtB s = true) (hl : l.length = q) (hr : InR w (.slice C q c) l) : Calls Tryz.prog 58 #[.agg #[.int .i64 n, .int .i64 s, .slice A v a, .slice B m b, .slice C q c]] w fun e w' => e = .returned (.int .i64 (if l.all amtB then 0 else 1)) ∧ Upd NoF w w' := by
  have t1 : decide (n < 1) = false := by simp; omega
  have t2 : decide (7 < n) = false := by simp; omega
  have t3 : decide ((v : Int) < 1) = false := by simp; omega
  have t3' : decide (v < 1) = false := by simp; omega
  have t3'' : ¬ v = 0 := by omega
  have t4 : decide ((10 : Int) < (v : Int)) = false := by simp; omega
  have t4' : decide (10 < v) = false := by simp; omega
  have t5 : decide ((v : Int) < n) = false := by simp; omega
  have t6 : decide ((m : Int) < 1) = false := by simp; omega
  have t6' : decide (m < 1) = false := by simp; omega
  have t6'' : ¬ m = 0 := by omega
  have t7 : decide ((16 : Int) < (m : Int)) = false := by simp; omega
  have t7' : decide (16 < m) = false := by simp; omega
  subst f8
  have CA := Lib.hid (fun W => stAmount_any s W)
  rw [f9] at CA
  have HL := Lib.hid hl
  have HR := Lib.hid hr
  have HQ := Lib.hid f7
  obtain ⟨R, hR⟩ : ∃ R : Int, R = (if l.all amtB then 0 else 1) := ⟨_, rfl⟩
  have HRE := Lib.hid hR
  rw [← hR]
  clear hR
  have HU := Lib.hid ((Upd.refl NoF w).alloc (.cells #[.int .i64 n, .int .i64 s, .slice A v a, .slice B q b, .slice C q c] 25))
  clear f1 f2 f3 f4 f5 f6 f7 f9 hl hr
  go_enter Tryz.func58, Tryz.ntmps58
  go_wp2
  go_quiet (fail)
  go_wp2_with (refine (CA.out _).mono ?_; rintro e w5 ⟨rfl, rfl⟩)
  clear t1 t2 t3 t3' t3'' t4 t4' t5 t6 t6' t6'' t7 t7'
  have hq16 := HQ.out
  go_loopg [59] q (fun kx s59 wr => ∃ k : Nat, s59 = .int .i64 (k : Int) ∧ k ≤ q ∧ q - k ≤ kx ∧ Hid (∀ (j : Nat) z, j < k → l[j]? = some z → amtB z = true) ∧ Hid (Upd NoF w wr))
  case atStart => exact ⟨0, rfl, by omega, by omega, Lib.hid (fun j z hj => by omega), Lib.hid (HU.out.drewN _)⟩
  case round =>
    obtain ⟨k, rfl, hkq, hkx, HF, HW⟩ := hrel
    by_cases hlt : k < q
    · have hltz : (k : Int) < (q : Int) := by omega
      obtain ⟨z, hz⟩ : ∃ z, l[k]? = some z := ⟨_, List.getElem?_eq_getElem (by have := HL.out; omega)⟩
      obtain ⟨g, o, rfl, c0⟩ := (HR.out.keep HW.out).at_ hz
      have CZ := Lib.hid (fun W => stAmount_any z W)
      have HZ := Lib.hid hz
      have e1 : ((k : Int)).toNat = k := by omega
      clear hz
      cases hb : amtB z with
      | true =>
        have HB := Lib.hid hb
        rw [hb] at CZ
        clear hb
        go_wp2_with (refine (CZ.out _).mono ?_; rintro e w5 ⟨rfl, rfl⟩)
        go_roundg (q - (k + 1))
        case measure => omega
        case rel => exact ⟨k + 1, by first | rfl | go_num, by omega, by omega, Lib.hid (fun j y hj hy => by
          rcases Nat.lt_or_ge j k with h1 | h1
          · exact HF.out j y h1 hy
          · rw [show j = k by omega, HZ.out] at hy; cases hy; exact HB.out), HW⟩
      | false =>
        have HB := Lib.hid hb
        rw [hb] at CZ
        clear hb
        go_wp2_with (refine (CZ.out _).mono ?_; rintro e w5 ⟨rfl, rfl⟩)
        go_ret
        have : l.all amtB = false := by
          rw [List.all_eq_false]
          exact ⟨z, List.mem_of_getElem? HZ.out, by rw [HB.out]; decide⟩
        exact ⟨congrArg (fun z => Ending.returned (.int .i64 z)) (show (1 : Int) = R by rw [HRE.out, this]; rfl), HW.out⟩
    · have hltz : ¬ (k : Int) < (q : Int) := by omega
      go_wp2
      go_ret
      have : l.all amtB = true := by
        rw [List.all_eq_true]
        intro z hz
        obtain ⟨i, hi⟩ := List.getElem?_of_mem hz
        exact HF.out i z (by have := (List.getElem?_eq_some_iff.1 hi).1; have := HL.out; omega) hi
      exact ⟨congrArg (fun z => Ending.returned (.int .i64 z)) (show (0 : Int) = R by rw [HRE.out, this]; rfl), HW.out⟩

theorem stValidateGenesis_any {w : World} {A B C : Option Addr} {a b c : Nat} {g : GenS} (h : GenR w A B C a b c g) : Calls Tryz.prog 58 #[genV A B C a b c g] w fun e w' => e = .returned (.int .i64 (if validG g then 0 else 1)) ∧ Upd NoF w w' := by
  have no : ∀ {P : Prop}, validG g = false → (Calls Tryz.prog 58 #[genV A B C a b c g] w fun e w' => e = .returned (.int .i64 1) ∧ Upd NoF w w') → Calls Tryz.prog 58 #[genV A B C a b c g] w fun e w' => e = .returned (.int .i64 (if validG g then 0 else 1)) ∧ Upd NoF w w' := fun hv hc => by rw [hv]; exact hc
  have nv : ∀ {p : Prop} [Decidable p], ¬ p → (validG g = true → p) → validG g = false := fun hp hi => by
    cases hv : validG g with
    | false => rfl
    | true => exact absurd (hi hv) hp
  have hval : validG g = true ↔ 1 ≤ g.n ∧ g.n ≤ 7 ∧ 1 ≤ g.vals.length ∧ g.vals.length ≤ 10 ∧ g.n ≤ g.vals.length ∧ 1 ≤ g.accs.length ∧ g.accs.length ≤ 16 ∧ g.bals.length = g.accs.length ∧ amtB g.stake = true ∧ g.bals.all amtB = true := by
    unfold validG
    simp only [Bool.and_eq_true, decide_eq_true_eq, and_assoc]
  by_cases f1 : 1 ≤ g.n
  · by_cases f2 : g.n ≤ 7
    · by_cases f3 : 1 ≤ g.vals.length
      · by_cases f4 : g.vals.length ≤ 10
        · by_cases f5 : g.n ≤ (g.vals.length : Int)
          · by_cases f6 : 1 ≤ g.accs.length
            · by_cases f7 : g.accs.length ≤ 16
              · by_cases f8 : g.bals.length = g.accs.length
                · cases f9 : amtB g.stake with
                  | true =>
                    have hl := vgen_loop (s := g.stake) (A := A) (B := B) (a := a) (b := b) f1 f2 f3 f4 f5 f6 f7 f8 f9 rfl h.bals
                    have e : validG g = g.bals.all amtB := by
                      cases hb : g.bals.all amtB with
                      | true => exact hval.2 ⟨f1, f2, f3, f4, f5, f6, f7, f8, f9, hb⟩
                      | false => exact nv (p := g.bals.all amtB = true) (by rw [hb]; decide) (fun x => (hval.1 x).2.2.2.2.2.2.2.2.2)
                    rw [e]
                    exact hl
                  | false => exact no (P := True) (nv (p := amtB g.stake = true) (by rw [f9]; decide) (fun x => (hval.1 x).2.2.2.2.2.2.2.2.1)) (vgen_9 f1 f2 f3 f4 f5 f6 f7 f8 f9)
                · exact no (P := True) (nv f8 (fun x => (hval.1 x).2.2.2.2.2.2.2.1)) (vgen_8 f1 f2 f3 f4 f5 f6 f7 f8)
              · exact no (P := True) (nv f7 (fun x => (hval.1 x).2.2.2.2.2.2.1)) (vgen_7 f1 f2 f3 f4 f5 f6 (by omega))
            · exact no (P := True) (nv f6 (fun x => (hval.1 x).2.2.2.2.2.1)) (vgen_6 f1 f2 f3 f4 f5 (by omega))
          · exact no (P := True) (nv f5 (fun x => (hval.1 x).2.2.2.2.1)) (vgen_5 f1 f2 f3 f4 (by omega))
        · exact no (P := True) (nv f4 (fun x => (hval.1 x).2.2.2.1)) (vgen_4 f1 f2 f3 (by omega))
      · exact no (P := True) (nv f3 (fun x => (hval.1 x).2.2.1)) (vgen_3 f1 f2 (by omega))
    · exact no (P := True) (nv f2 (fun x => (hval.1 x).2.1)) (vgen_2 f1 (by omega))
  · exact no (P := True) (nv f1 (fun x => (hval.1 x).1)) (vgen_1 (by omega))
end

section
open Go.RowKit

theorem wpList_build {P : Program} {ops : Array Oper} {rest : List Oper} {o : Oper} {a : Act} {w : World} {Q : Exit → Act → World → Prop} (hgd : o.guard = none) (ty : TypeId) (ps : Array (Nat × Operand)) (ho : o.op = .build ty ps) (vs : Array (Nat × Value)) (hv : ps.map (fun p => (p.1, a.eval p.2)) = vs) {v : Value} (hr : (Instr.build ty vs).run P w = .ok v w)
    (hk : wpList P ops Q rest (a.put o.dst v) w) : wpList P ops Q (o :: rest) a w :=
  wpList_od (post := fun v w' => wpList P ops Q rest (a.put o.dst v) w') hgd (od_build ty ps ho vs hv hr hk) (fun _ _ h => h)
theorem wpList_bsRow {ops : Array Oper} {rest : List Oper} {o : Oper} {a : Act} {w : World} {Q : Exit → Act → World → Prop} (hgd : o.guard = none) (ty e : TypeId) (x : Operand) (ho : o.op = .buildSlice ty 1 #[(0, x)]) (v : Value) (hx : a.eval x = v) (cells : Array Value) (hr : (Instr.buildSlice ty 1 #[(0, v)]).run Tryz.prog w = .ok (.slice (some ⟨w.heap.size, 0, none⟩) 1 1) (w.alloc (.cells cells e)))
    (hk : ∀ w', Blk w' w.heap.size e cells → Upd NoF w w' → w'.heap.size = w.heap.size + 1 → wpList Tryz.prog ops Q rest (a.put o.dst (.slice (some ⟨w.heap.size, 0, none⟩) 1 1)) w') : wpList Tryz.prog ops Q (o :: rest) a w :=
  wpList_od (post := fun v w' => wpList Tryz.prog ops Q rest (a.put o.dst v) w') hgd (od_buildSlice_row9 ty e x ho v hx cells hr (hk _ (Blk.new w _ _) ((Upd.refl NoF w).alloc _) (by simp))) (fun _ _ h => h)
theorem build_cell (k z : Int) (w : World) : (Instr.build 107 #[(0, .int .i64 k), (1, .int .i64 z)]).run Tryz.prog w = .ok (.agg (cellC ⟨k, z, nm0, 0⟩).toArray) w := by kernel_rfl
theorem build_delta (k z v : Int) (w : World) : (Instr.build 109 #[(0, .agg (cellC ⟨k, z, nm0, 0⟩).toArray), (1, .int .i64 v)]).run Tryz.prog w = .ok (.agg (rowD ⟨k, z, nm0, v⟩).toArray) w := by kernel_rfl
theorem genD_len (g : GenS) : (genD g).length = g.bals.length + g.vals.length := by simp [genD, balD, stkD]
theorem genD_bal {g : GenS} {k : Nat} {z : Int} (h : g.bals[k]? = some z) : (genD g)[k]? = some ⟨1, (k : Int), nm0, z⟩ := by
  have hlt := (List.getElem?_eq_some_iff.1 h).1
  unfold genD
  rw [List.getElem?_append_left (by simp [balD]; exact hlt)]
  simp [balD, List.getElem?_map, List.getElem?_range hlt, h]
theorem genD_stk {g : GenS} {j : Nat} (h : j < g.vals.length) : (genD g)[g.bals.length + j]? = some ⟨3, (j : Int), nm0, g.stake⟩ := by
  unfold genD
  rw [List.getElem?_append_right (by simp [balD])]
  simp [balD, stkD, List.getElem?_map, List.getElem?_range h]
theorem genD_fit {g : GenS} (hs : In64 g.stake) (hb : ∀ z ∈ g.bals, In64 z) (h1 : g.bals.length ≤ 1000000) (h2 : g.vals.length ≤ 1000000) : ∀ d ∈ genD g, d.Fit := by
  intro d hd
  unfold genD at hd
  rcases List.mem_append.1 hd with h | h
  · unfold balD at h
    obtain ⟨i, hi, rfl⟩ := List.mem_map.1 h
    have hi := List.mem_range.1 hi
    refine ⟨by unfold In64; dsimp only; omega, by unfold In64; dsimp only; omega, rfl, ?_⟩
    show In64 (g.bals.getD i 0)
    rw [List.getD_eq_getElem?_getD, List.getElem?_eq_getElem hi]
    exact hb _ (List.getElem_mem hi)
  · unfold stkD at h
    obtain ⟨i, hi, rfl⟩ := List.mem_map.1 h
    have hi := List.mem_range.1 hi
    exact ⟨by unfold In64; dsimp only; omega, by unfold In64; dsimp only; omega, rfl, hs⟩
def genRows (g : GenS) (k : Nat) : List Value := (((genD g).take k).map rowD).flatten
theorem genRows_next {g : GenS} {k : Nat} {d : DelS} (h : (genD g)[k]? = some d) : genRows g (k + 1) = genRows g k ++ rowD d := by
  unfold genRows
  exact take_map_snoc rowD h
theorem NwA.nil (S0 : Nat) (e : TypeId) (size : Nat) (w : World) : NwA S0 e size 0 [] none 0 w := ⟨Own.nil _ _ _, fun k hk => by simp [OwnB, Value.ownBlock] at hk⟩
theorem NwA.app {S0 : Nat} {e : TypeId} {size n : Nat} {xs ys : List Value} {A A' : Option Addr} {c c' : Nat} {wr w5 w6 : World} (h : NwA S0 e size n xs A c wr) (hu0 : Upd NoF wr w5) (hS : S0 ≤ wr.heap.size) (ho : Own w6 e size (.slice A' (n + 1) c') (n + 1) (xs ++ ys)) (hu : Upd (OwnB (.slice A n c)) w5 w6) (hn : ∀ k, OwnB (.slice A' (n + 1) c') k → OwnB (.slice A n c) k ∨ w5.heap.size ≤ k) : NwA S0 e size (n + 1) (xs ++ ys) A' c' w6 ∧ ∀ {w : World}, w.heap.size ≤ S0 → Upd NoF w wr → Upd NoF w w6 := by
  have h5 := hu0.size
  refine ⟨⟨ho, fun k hk => ?_⟩, fun hw hu1 => (hu1.trans hu0 (fun _ _ f => f)).trans hu (fun k hk f => by have := h.2 k f; omega)⟩
  rcases hn k hk with f | f
  · exact h.2 k f
  · omega
end

section
open Go

theorem lessT_irrefl : ∀ a : List UInt8, lessT a a = false
  | [] => rfl
  | x :: l => by
    have ih := lessT_irrefl l
    unfold lessT at ih ⊢
    simp [Op.bytesLess, ih]
theorem lessT_trans : ∀ a b c : List UInt8, lessT a b = true → lessT b c = true → lessT a c = true
  | _, [], _, h, _ => by simp [lessT, Op.bytesLess] at h
  | _, _ :: _, [], _, h => by simp [lessT, Op.bytesLess] at h
  | [], _ :: _, _ :: _, _, _ => rfl
  | x :: l, y :: m, z :: n, h1, h2 => by
    have ih := lessT_trans l m n
    unfold lessT at ih h1 h2 ⊢
    simp only [Op.bytesLess, Bool.or_eq_true, decide_eq_true_eq, Bool.and_eq_true, beq_iff_eq] at h1 h2 ⊢
    rcases h1 with h1 | ⟨rfl, h1⟩
    · rcases h2 with h2 | ⟨rfl, h2⟩
      · exact .inl (UInt8.lt_trans h1 h2)
      · exact .inl h1
    · rcases h2 with h2 | ⟨rfl, h2⟩
      · exact .inl h2
      · exact .inr ⟨rfl, ih h1 h2⟩
theorem lessT_total : ∀ a b : List UInt8, lessT a b = false → lessT b a = false → a = b
  | [], [], _, _ => rfl
  | [], _ :: _, h, _ => by simp [lessT, Op.bytesLess] at h
  | _ :: _, [], _, h => by simp [lessT, Op.bytesLess] at h
  | x :: l, y :: m, h1, h2 => by
    have ih := lessT_total l m
    unfold lessT at ih h1 h2
    simp only [Op.bytesLess, Bool.or_eq_false_iff, decide_eq_false_iff_not, Bool.and_eq_false_imp, beq_iff_eq] at h1 h2
    have e : x = y := by
      have a1 := h1.1
      have a2 := h2.1
      rw [UInt8.lt_iff_toNat_lt] at a1 a2
      exact UInt8.toNat.inj (by omega)
    subst e
    rw [ih (h1.2 rfl) (h2.2 rfl)]
theorem lessT_ntrans (a b c : List UInt8) (h1 : lessT a b = false) (h2 : lessT b c = false) : lessT a c = false := by
  cases h : lessT a c with
  | false => rfl
  | true =>
    exfalso
    cases h3 : lessT b a with
    | true => rw [lessT_trans b a c h3 h] at h2; cases h2
    | false =>
      have := lessT_total a b h1 h3
      subst this
      rw [h] at h2; cases h2
theorem lessT_asymm {a b : List UInt8} (h : lessT a b = true) : lessT b a = false := by
  cases h1 : lessT b a with
  | false => rfl
  | true => have := lessT_trans a b a h h1; rw [lessT_irrefl] at this; cases this

/-! ### one order, any type -/
section
variable {α : Type} (lt : α → α → Bool)
def insL (x : α) : List α → List α
  | [] => [x]
  | y :: l => if lt y x then y :: insL x l else x :: y :: l
/-- The list in ascending order. -/
def sortL : List α → List α
  | [] => []
  | x :: l => insL lt x (sortL l)
def AscL (l : List α) : Prop := l.Pairwise (fun a b => lt b a = false)
variable {lt}
end
/-- A list without neighbours that are equal. -/
def compL {α : Type} [DecidableEq α] : List α → List α
  | a :: b :: l => if a = b then compL (b :: l) else a :: compL (b :: l)
  | l => l
end

section
open Go
theorem take_two {α : Type} {l : List α} {k : Nat} {a b : α} (h1 : l[k]? = some a) (h2 : l[k + 1]? = some b) : l.take (k + 1 + 1) = l.take k ++ [a] ++ [b] := by
  obtain ⟨x1, y1⟩ := List.getElem?_eq_some_iff.1 h1
  obtain ⟨x2, y2⟩ := List.getElem?_eq_some_iff.1 h2
  rw [List.take_succ_eq_append_getElem x2, List.take_succ_eq_append_getElem x1, y1, y2]
theorem take_one {α : Type} {l : List α} {k : Nat} {a : α} (h1 : l[k]? = some a) : l.take (k + 1) = l.take k ++ [a] := by
  obtain ⟨x1, y1⟩ := List.getElem?_eq_some_iff.1 h1
  rw [List.take_succ_eq_append_getElem x1, y1]
section
variable {α : Type} [DecidableEq α]
theorem compL_two (a b : α) (l : List α) : compL (a :: b :: l) = if a = b then compL (b :: l) else a :: compL (b :: l) := by rw [compL]
theorem compL_snoc : ∀ (m : List α) (a b : α), compL (m ++ [a] ++ [b]) = if a = b then compL (m ++ [a]) else compL (m ++ [a]) ++ [b]
  | [], a, b => by
    simp only [List.nil_append, List.singleton_append]
    rw [compL_two]
    split
    · next h => rw [h]
    · rfl
  | [x], a, b => by
    have ih := compL_snoc [] a b
    simp only [List.nil_append, List.cons_append] at ih ⊢
    rw [compL_two x a [b], compL_two x a [], ih]
    by_cases h1 : x = a
    · simp only [if_pos h1]
    · simp only [if_neg h1]
      by_cases h2 : a = b
      · simp only [if_pos h2]
      · simp only [if_neg h2, List.cons_append]
  | x :: y :: m, a, b => by
    have ih := compL_snoc (y :: m) a b
    simp only [List.cons_append] at ih ⊢
    rw [compL_two x y (m ++ [a] ++ [b]), compL_two x y (m ++ [a]), ih]
    by_cases h1 : x = y
    · simp only [if_pos h1]
    · simp only [if_neg h1]
      by_cases h2 : a = b
      · simp only [if_pos h2]
      · simp only [if_neg h2, List.cons_append]
/-- One element more. -/
theorem comp_next {l : List α} {k : Nat} {a b : α} (h1 : l[k]? = some a) (h2 : l[k + 1]? = some b) : compL (l.take (k + 1 + 1)) = if a = b then compL (l.take (k + 1)) else compL (l.take (k + 1)) ++ [b] := by
  rw [take_two h1 h2, compL_snoc, take_one h1]
theorem comp_one (l : List α) : compL (l.take 1) = l.take 1 := by
  cases l <;> rfl
theorem comp_two {l : List α} {k : Nat} {a b : α} (h1 : l[k]? = some a) (h2 : l[k + 1]? = some b) (hne : a ≠ b) (h : compL (l.take (k + 1)) = l.take (k + 1)) : compL (l.take (k + 1 + 1)) = l.take (k + 1 + 1) := by
  rw [comp_next h1 h2, if_neg hne, h, take_two h1 h2, take_one h1]
theorem comp_small {l : List α} (h : l.length < 2) : compL l = l := by
  match l, h with
  | [], _ => rfl
  | [a], _ => rfl
end
end

section
open Go

theorem be_cons_go : ∀ (l : List UInt8) (v : Nat), l.foldl (fun v c => v * 256 + c.toNat) v = v * 256 ^ l.length + be l
  | [], v => by simp [be]
  | c :: l, v => by
    unfold be
    rw [List.foldl_cons, List.foldl_cons, be_cons_go l, be_cons_go l, List.length_cons, Nat.pow_succ, Nat.add_mul, Nat.zero_mul, Nat.zero_add, Nat.add_assoc, Nat.mul_assoc, Nat.mul_comm 256]
theorem be_cons (c : UInt8) (l : List UInt8) : be (c :: l) = c.toNat * 256 ^ l.length + be l := by
  show List.foldl (fun v c => v * 256 + c.toNat) 0 (c :: l) = _
  rw [List.foldl_cons, be_cons_go l]
  simp
theorem be_inj : ∀ (a b : List UInt8), a.length = b.length → be a = be b → a = b
  | [], [], _, _ => rfl
  | [], _ :: _, h, _ => by simp at h
  | _ :: _, [], h, _ => by simp at h
  | x :: a, y :: b, h, e => by
    have h : a.length = b.length := by simpa using h
    rw [be_cons, be_cons, h] at e
    have h1 := be_lt a
    have h2 := be_lt b
    rw [h] at h1
    have hp : 0 < 256 ^ b.length := Nat.pow_pos (by omega)
    have hx : x.toNat = y.toNat := by
      have e1 : (x.toNat * 256 ^ b.length + be a) / 256 ^ b.length = x.toNat := by
        rw [Nat.mul_comm, Nat.mul_add_div hp, Nat.div_eq_of_lt h1]; omega
      have e2 : (y.toNat * 256 ^ b.length + be b) / 256 ^ b.length = y.toNat := by
        rw [Nat.mul_comm, Nat.mul_add_div hp, Nat.div_eq_of_lt h2]; omega
      rw [e, e2] at e1
      exact e1.symm
    rw [hx] at e
    rw [UInt8.toNat.inj hx, be_inj a b h (by omega)]
theorem be_ne {a b : List UInt8} (ha : a.length = 8) (hb : b.length = 8) (h : a ≠ b) : be a ≠ be b := fun e => h (be_inj a b (by omega) e)

/-! ### lists of names in ascending order -/
def AscN (l : List (List UInt8)) : Prop := l.Pairwise fun a b => be a < be b
def All8 (l : List (List UInt8)) : Prop := ∀ n ∈ l, n.length = 8
/-- A name put into an ascending list, unless it is there. -/
def insN (n : List UInt8) : List (List UInt8) → List (List UInt8)
  | [] => [n]
  | x :: l => if be x < be n then x :: insN n l else if x = n then x :: l else n :: x :: l
def ascSet (l : List (List UInt8)) : List (List UInt8) := l.foldl (fun o n => insN n o) []
theorem mem_insN {n y : List UInt8} : ∀ {l : List (List UInt8)}, y ∈ insN n l ↔ y = n ∨ y ∈ l
  | [] => by simp [insN]
  | x :: l => by
    unfold insN
    split
    · rw [List.mem_cons, mem_insN (l := l), List.mem_cons]
      constructor
      · rintro (h | h | h)
        · exact .inr (.inl h)
        · exact .inl h
        · exact .inr (.inr h)
      · rintro (h | h | h)
        · exact .inr (.inl h)
        · exact .inl h
        · exact .inr (.inr h)
    · split
      · rename_i e
        constructor
        · exact .inr
        · rintro (h | h)
          · rw [h, e]; exact List.mem_cons_self
          · exact h
      · rw [List.mem_cons]
theorem asc_insN {n : List UInt8} (hn : n.length = 8) : ∀ {l : List (List UInt8)}, All8 l → AscN l → AscN (insN n l)
  | [], _, _ => by simp [insN, AscN]
  | x :: l, h8, h => by
    unfold insN
    have hx := h8 x List.mem_cons_self
    have h8' : All8 l := fun y hy => h8 y (List.mem_cons_of_mem _ hy)
    have h' := List.pairwise_cons.1 h
    split
    · rename_i hlt
      refine List.pairwise_cons.2 ⟨fun y hy => ?_, asc_insN hn h8' h'.2⟩
      rcases mem_insN.1 hy with rfl | hy
      · exact hlt
      · exact h'.1 y hy
    · split
      · exact h
      · rename_i hge hne
        have hlt : be n < be x := by have := be_ne hx hn hne; omega
        refine List.pairwise_cons.2 ⟨fun y hy => ?_, h⟩
        rcases List.mem_cons.1 hy with rfl | hy
        · exact hlt
        · have := h'.1 y hy; omega
theorem all8_insN {n : List UInt8} (hn : n.length = 8) {l : List (List UInt8)} (h8 : All8 l) : All8 (insN n l) := fun y hy => by
  rcases mem_insN.1 hy with rfl | hy
  · exact hn
  · exact h8 y hy
theorem ascSet_go : ∀ (l o : List (List UInt8)), All8 l → All8 o → AscN o → AscN (l.foldl (fun o n => insN n o) o) ∧ All8 (l.foldl (fun o n => insN n o) o) ∧ ∀ y, y ∈ l.foldl (fun o n => insN n o) o ↔ y ∈ l ∨ y ∈ o
  | [], o, _, h8, h => ⟨h, h8, fun y => by simp⟩
  | x :: l, o, hl, h8, h => by
    have hx := hl x List.mem_cons_self
    obtain ⟨h1, h2, h3⟩ := ascSet_go l (insN x o) (fun y hy => hl y (List.mem_cons_of_mem _ hy)) (all8_insN hx h8) (asc_insN hx h8 h)
    refine ⟨h1, h2, fun y => ?_⟩
    rw [List.foldl_cons, h3, mem_insN, List.mem_cons]
    constructor
    · rintro (h | h | h)
      · exact .inl (.inr h)
      · exact .inl (.inl h)
      · exact .inr h
    · rintro ((h | h) | h)
      · exact .inr (.inl h)
      · exact .inl h
      · exact .inr (.inr h)
theorem ascSet_asc {l : List (List UInt8)} (h : All8 l) : AscN (ascSet l) := (ascSet_go l [] h (by simp [All8]) (by simp [AscN])).1
theorem ascSet_all8 {l : List (List UInt8)} (h : All8 l) : All8 (ascSet l) := (ascSet_go l [] h (by simp [All8]) (by simp [AscN])).2.1
theorem mem_ascSet {l : List (List UInt8)} (h : All8 l) (y : List UInt8) : y ∈ ascSet l ↔ y ∈ l := by
  have := (ascSet_go l [] h (by simp [All8]) (by simp [AscN])).2.2 y
  simpa [ascSet] using this
theorem ascN_unique : ∀ (l m : List (List UInt8)), AscN l → AscN m → (∀ y, y ∈ l ↔ y ∈ m) → l = m
  | [], [], _, _, _ => rfl
  | [], x :: m, _, _, h => by have := (h x).2 List.mem_cons_self; cases this
  | x :: l, [], _, _, h => by have := (h x).1 List.mem_cons_self; cases this
  | x :: l, y :: m, hl, hm, h => by
    have hl' := List.pairwise_cons.1 hl
    have hm' := List.pairwise_cons.1 hm
    have e : x = y := by
      rcases List.mem_cons.1 ((h x).1 List.mem_cons_self) with e | hx
      · exact e
      · rcases List.mem_cons.1 ((h y).2 List.mem_cons_self) with e | hy
        · exact e.symm
        · have h1 := hm'.1 x hx
          have h2 := hl'.1 y hy
          omega
    subst e
    rw [ascN_unique l m hl'.2 hm'.2 (fun z => ?_)]
    constructor
    · intro hz
      rcases List.mem_cons.1 ((h z).1 (List.mem_cons_of_mem _ hz)) with rfl | hz'
      · have := hl'.1 z hz; omega
      · exact hz'
    · intro hz
      rcases List.mem_cons.1 ((h z).2 (List.mem_cons_of_mem _ hz)) with rfl | hz'
      · have := hm'.1 z hz; omega
      · exact hz'
theorem ascSet_eq {l m : List (List UInt8)} (hl : All8 l) (hm : AscN m) (h : ∀ y, y ∈ m ↔ y ∈ l) : m = ascSet l := ascN_unique _ _ hm (ascSet_asc hl) (fun y => (h y).trans (mem_ascSet hl y).symm)
/-- A list without repetitions beside one another. -/
def compN : List (List UInt8) → List (List UInt8)
  | [] => []
  | [x] => [x]
  | x :: y :: l => if x = y then compN (y :: l) else x :: compN (y :: l)
theorem compN_eq : ∀ l, compN l = compL l
  | [] => rfl
  | [_] => rfl
  | x :: y :: l => by unfold compN; rw [compL_two, compN_eq (y :: l)]
theorem mem_compN (z : List UInt8) : ∀ l : List (List UInt8), z ∈ compN l ↔ z ∈ l
  | [] => by simp [compN]
  | [x] => by simp [compN]
  | x :: y :: l => by
    unfold compN
    have ih := mem_compN z (y :: l)
    split
    · rename_i e
      rw [ih, e]
      simp
    · rw [List.mem_cons, ih]
      simp
theorem asc_compN : ∀ l : List (List UInt8), All8 l → l.Pairwise (fun a b => be a ≤ be b) → AscN (compN l)
  | [], _, _ => by simp [compN, AscN]
  | [x], _, _ => by simp [compN, AscN]
  | x :: y :: l, h8, h => by
    unfold compN
    have h' := List.pairwise_cons.1 h
    have ih := asc_compN (y :: l) (fun z hz => h8 z (List.mem_cons_of_mem _ hz)) h'.2
    split
    · exact ih
    · rename_i hne
      refine List.pairwise_cons.2 ⟨fun z hz => ?_, ih⟩
      have hz := (mem_compN z (y :: l)).1 hz
      have hxy : be x < be y := by
        have h1 := h'.1 y List.mem_cons_self
        have h2 := be_ne (h8 x List.mem_cons_self) (h8 y (List.mem_cons_of_mem _ List.mem_cons_self)) hne
        omega
      rcases List.mem_cons.1 hz with rfl | hz
      · exact hxy
      · have := (List.pairwise_cons.1 h'.2).1 z hz
        omega
theorem compN_sorted {l m : List (List UInt8)} (h8 : All8 l) (hp : m.Perm l) (hs : m.Pairwise (fun a b => be a ≤ be b)) : compN m = ascSet l :=
  ascSet_eq h8 (asc_compN m (fun y hy => h8 y (hp.mem_iff.1 hy)) hs) (fun y => (mem_compN y m).trans hp.mem_iff)
/-- A sorted list without repetitions. -/
theorem sorted_nodup {l m : List (List UInt8)} (h8 : All8 l) (hp : m.Perm l) (hn : l.Nodup) (hs : m.Pairwise (fun a b => be a ≤ be b)) : m = ascSet l := by
  refine ascSet_eq h8 ?_ (fun y => hp.mem_iff)
  have h1 : m.Nodup := hp.nodup_iff.2 hn
  have h8' : All8 m := fun y hy => h8 y (hp.mem_iff.1 hy)
  clear hp hn
  induction m with
  | nil => exact List.Pairwise.nil
  | cons x m ih =>
    have hs' := List.pairwise_cons.1 hs
    have hn' := List.nodup_cons.1 h1
    refine List.pairwise_cons.2 ⟨fun y hy => ?_, ih hs'.2 hn'.2 (fun y hy => h8' y (List.mem_cons_of_mem _ hy))⟩
    have h2 := be_ne (h8' x List.mem_cons_self) (h8' y (List.mem_cons_of_mem _ hy)) (fun e => hn'.1 (e ▸ hy))
    have := hs'.1 y hy
    omega
/-! ### items and their references -/
structure ItP where
  name : List UInt8
  kind : Int
  parent : List UInt8
  heads : List (Int × List UInt8)
  tips : List (List UInt8)
def rawPar (i : ItP) : List (List UInt8) := if i.kind = 3 then [i.parent] else if i.kind = 4 then i.parent :: i.heads.map (·.2) ++ i.tips else []
structure ItP.Fit (i : ItP) : Prop where
  name : i.name.length = 8
  parent : i.parent.length = 8
  heads : ∀ h ∈ i.heads, h.2.length = 8
  tips : All8 i.tips
theorem rawPar_all8 {i : ItP} (h : i.Fit) : All8 (rawPar i) := by
  unfold rawPar
  split
  · intro n hn
    have : n = i.parent := by simpa using hn
    rw [this]; exact h.parent
  · split
    · intro n hn
      rcases List.mem_append.1 hn with hn | hn
      · rcases List.mem_cons.1 hn with rfl | hn
        · exact h.parent
        · obtain ⟨x, hx, rfl⟩ := List.mem_map.1 hn
          exact h.heads x hx
      · exact h.tips n hn
    · intro n hn; cases hn
def parents (i : ItP) : List (List UInt8) := ascSet (rawPar i)
/-- The first item with a name. -/
def itemOf (l : List ItP) (n : List UInt8) : Option ItP := l.find? fun i => i.name = n
/-- Going through what is reached from the names that wait: the last one first. -/
inductive Clo (l : List ItP) : List (List UInt8) → List (List UInt8) → List (List UInt8) → Prop
  | done (seen) : Clo l [] seen seen
  | skip {todo n seen fin} : (itemOf l n = none ∨ n ∈ seen) → Clo l todo seen fin → Clo l (todo ++ [n]) seen fin
  | take {todo n seen fin i} : itemOf l n = some i → n ∉ seen → Clo l (todo ++ parents i) (seen ++ [n]) fin → Clo l (todo ++ [n]) seen fin
/-- Going down from a name by parents, until the genesis, a name that is not there, or one that was seen. -/
inductive Dwn (l : List ItP) : List UInt8 → List (List UInt8) → List (List UInt8) → Prop
  | stop {n seen} : (itemOf l n = none ∨ n ∈ seen) → Dwn l n seen seen
  | root {n seen i} : itemOf l n = some i → n ∉ seen → i.kind = 1 → Dwn l n seen (seen ++ [n])
  | step {n seen fin i} : itemOf l n = some i → n ∉ seen → i.kind ≠ 1 → Dwn l i.parent (seen ++ [n]) fin → Dwn l n seen fin
/-- How many names of the list have not been seen. -/
def unseen (l : List ItP) (seen : List (List UInt8)) : Nat := (l.filter fun i => !seen.contains i.name).length
theorem unseen_take {l : List ItP} {seen : List (List UInt8)} {n : List UInt8} {i : ItP} (h : itemOf l n = some i) (hn : n ∉ seen) : unseen l (seen ++ [n]) < unseen l seen := by
  unfold unseen
  have hm := List.mem_of_find?_eq_some h
  have hi : i.name = n := by simpa using List.find?_some h
  have h1 : ∀ x : ItP, (!(seen ++ [n]).contains x.name) = true → (!seen.contains x.name) = true := by
    intro x hx
    simp only [Bool.not_eq_true', List.contains_eq_mem, decide_eq_false_iff_not, List.mem_append, not_or] at hx ⊢
    exact hx.1
  have e : (l.filter fun i => !(seen ++ [n]).contains i.name) = (l.filter fun i => !seen.contains i.name).filter fun i => !(seen ++ [n]).contains i.name := by
    rw [List.filter_filter]
    congr 1
    funext x
    cases hx : !(seen ++ [n]).contains x.name with
    | true => rw [h1 x hx]; rfl
    | false => rfl
  rw [e]
  refine Nat.lt_of_le_of_ne (List.length_filter_le _ _) (fun heq => ?_)
  rw [List.length_filter_eq_length_iff] at heq
  have := heq i (List.mem_filter.2 ⟨hm, by simp [hi, hn]⟩)
  simp [hi] at this
theorem unseen_le (l : List ItP) (seen : List (List UInt8)) : unseen l seen ≤ l.length := List.length_filter_le _ _
end

section
open Go.RowKit Go.Shelf Go.Lib Go.Sort

theorem upd_grow (w : World) (os : Array Obj) : Upd NoF w (grow w os) := by
  refine ⟨rfl, rfl, rfl, by simp [grow], fun k hk _ => ?_⟩
  simp [grow, Array.getElem?_append_left hk]
theorem sort_nil_votes (lf : Fn) (la lb : Array Value) (w : World) : Calls Tryz.prog 168 #[.iface 58 (.slice none 0 0), .func lf la lb] w fun e w' => e = .returned (.tuple #[]) ∧ Upd NoF w w' := by
  obtain ⟨i, hi⟩ : ∃ i, Tryz.prog.info? 58 = some i := Option.isSome_iff_exists.1 (by kernel_rfl)
  obtain ⟨ie, hie⟩ : ∃ i, Tryz.prog.info? 234 = some i := Option.isSome_iff_exists.1 (by kernel_rfl)
  have hd : i.desc = .slice 234 := by
    have : (Tryz.prog.info? 58).map (·.desc) = some (.slice 234) := by kernel_rfl
    rw [hi] at this
    simpa using this
  refine (Any.sort_Slice_tiny Tryz.laysGg6 58 234 i ie hi hd (by kernel_rfl) hie 25 (fun w => by kernel_rfl) none 0 0 (by omega) 233 ?_ lf la lb w).mono ?_
  · rw [show swapperK 0 ie 25 = 1 from rfl]
    kernel_rfl
  · rintro e w' ⟨rfl, os, rfl⟩
    exact ⟨rfl, upd_grow w os⟩
theorem sort_nil_outs (lf : Fn) (la lb : Array Value) (w : World) : Calls Tryz.prog 168 #[.iface 196 (.slice none 0 0), .func lf la lb] w fun e w' => e = .returned (.tuple #[]) ∧ Upd NoF w w' := by
  obtain ⟨i, hi⟩ : ∃ i, Tryz.prog.info? 196 = some i := Option.isSome_iff_exists.1 (by kernel_rfl)
  obtain ⟨ie, hie⟩ : ∃ i, Tryz.prog.info? 201 = some i := Option.isSome_iff_exists.1 (by kernel_rfl)
  have hd : i.desc = .slice 201 := by
    have : (Tryz.prog.info? 196).map (·.desc) = some (.slice 201) := by kernel_rfl
    rw [hi] at this
    simpa using this
  refine (Any.sort_Slice_tiny Tryz.laysGg6 196 201 i ie hi hd (by kernel_rfl) hie 25 (fun w => by kernel_rfl) none 0 0 (by omega) 233 ?_ lf la lb w).mono ?_
  · rw [show swapperK 0 ie 25 = 1 from rfl]
    kernel_rfl
  · rintro e w' ⟨rfl, os, rfl⟩
    exact ⟨rfl, upd_grow w os⟩
set_option maxRecDepth 100000 in
set_option maxHeartbeats 8000000 in
theorem ascending_nil (p : List UInt8) (w : World) : Calls Tryz.prog 192 #[nameV p, .slice none 0 0] w fun e w' => e = .returned (.slice none 0 0) ∧ Upd NoF w w' := by
  obtain ⟨pb, hpb⟩ : ∃ x, (p.map byteV).toArray = x := ⟨_, rfl⟩
  rw [show nameV p = .agg pb from by rw [← hpb]]
  clear hpb
  have BV := Lib.hid (Blk.new (w.alloc (.cells pb 28)) 58 #[.slice none 0 0])
  have UV := Lib.hid (((Upd.refl NoF w).alloc (.cells pb 28)).alloc (.cells #[.slice none 0 0] 58))
  rw [World.size_alloc] at BV
  go_enter Tryz.func192, Tryz.ntmps192
  go_wp2
  go_loopg [13] 0 (fun kx s13 wr => s13 = .int .i64 0 ∧ Hid (Blk wr (w.heap.size + 1) 58 #[.slice none 0 0]) ∧ Hid (Upd NoF w wr))
  case atStart => exact ⟨rfl, BV, UV⟩
  case round =>
    obtain ⟨rfl, B, U⟩ := hrel
    have c0 : wr.cell? ⟨w.heap.size + 1, 0, none⟩ = some (.slice none 0 0) := B.out.cell 0
    go_wp2_with fail
    refine (sort_nil_votes _ _ _ wr).mono ?_
    rintro e w2 ⟨rfl, hu2⟩
    have B2 := Lib.hid (hu2.blk B.out (fun f => f))
    have U2 := Lib.hid (U.out.trans hu2 (fun _ _ f => f))
    have c1 : w2.cell? ⟨w.heap.size + 1, 0, none⟩ = some (.slice none 0 0) := B2.out.cell 0
    clear c0 hu2
    go_wp2
    go_loopg [32, 8] 0 (fun kx s s8 wr => s = .int .i64 0 ∧ s8 = .slice none 0 0 ∧ Hid (Upd NoF w wr))
    case atStart => exact ⟨rfl, rfl, U2⟩
    case round =>
      obtain ⟨rfl, rfl, U3⟩ := hrel
      go_wp2
      go_ret
      exact ⟨rfl, U3.out⟩
set_option maxRecDepth 100000 in
set_option maxHeartbeats 8000000 in
theorem Accepted_nil (m : Int) {p : List UInt8} (hp : p.length = 8) (w : World) : Calls Tryz.prog 165 #[.int .i64 m, nameV p, .slice none 0 0] w fun e w' => e = .returned (.slice none 0 0) ∧ Upd NoF w w' := by
  obtain ⟨pb, hpb⟩ : ∃ x, (p.map byteV).toArray = x := ⟨_, rfl⟩
  have hnp : nameV p = .agg pb := by rw [← hpb]
  have HPB := Lib.hid hpb
  have HP := Lib.hid (show pb.size = 8 from by rw [← hpb]; simp [hp])
  have BV := Lib.hid (Blk.new w 28 pb)
  have UV := Lib.hid ((Upd.refl NoF w).alloc (.cells pb 28))
  have CA := Lib.hid (fun W => ascending_nil p W)
  rw [hnp] at CA ⊢
  clear hpb hnp
  go_enter Tryz.func165, Tryz.ntmps165
  go_wp2_with fail
  go_step3
  go_wp2_with fail
  go_step3
  go_wp2_with (first
    | (refine wpList_load_row rfl 28 (.tmp 4) rfl w.heap.size 0 rfl pb.toList _ (range_blk (by rw [Array.toArray_toList]; exact BV.out)) Tryz.underlying28 rfl (by rw [show (Tryz.prog.info? 28).map (·.size) = some 8 from by kernel_rfl]; simp [HP.out]) pb (by simp) ?_)
    | (refine (CA.out _).mono ?_; rintro e w2 ⟨rfl, hu2⟩; have U2 := Lib.hid (UV.out.trans hu2 (fun _ _ f => f)); clear hu2))
  go_loopg [15, 7] 0 (fun kx s s7 wr => s = .int .i64 0 ∧ s7 = .slice none 0 0 ∧ Hid (Upd NoF w wr))
  case atStart => exact ⟨rfl, rfl, U2⟩
  case round =>
    obtain ⟨rfl, rfl, U3⟩ := hrel
    go_wp2
    first | go_ret | (rw [Exit.noGoto_ret]; go_ret)
    exact ⟨rfl, U3.out⟩
end

section
open Go.RowKit Go.Shelf Go.Lib

section
variable {P : Program} {w : World}

theorem run_lookup_empty {mty kt et : TypeId} {r clock : Nat} {key z : Value} (hm : P.underlying mty = some (.map kt et)) (hw : (match P.underlying kt with | some (.array _ _) | some (.struct _) => true | _ => false) = true)
    (hb : w.heap[r]? = some (.map #[] clock)) (hc : ∀ em, (Instr.checkKey em 10000 kt key).run P w = .ok () w) (hz : (zeroValue et).run P w = .ok z w) :
    (Instr.lookup mty (.map (some r)) key true).run P w = .ok (.tuple #[z, .bool false]) w := by
  simp [Instr.lookup, run_underlying hm, MapKept.run_getObj_map hb, hc, run_findKey_eq w hw, Instr.findAsking, hz, Result.andThen]

theorem run_update_first {mty kt et : TypeId} {r clock : Nat} {key val : Value} (hm : P.underlying mty = some (.map kt et)) (hw : (match P.underlying kt with | some (.array _ _) | some (.struct _) => true | _ => false) = true)
    (hb : w.heap[r]? = some (.map #[] clock)) (hc : ∀ em, (Instr.checkKey em 10000 kt key).run P w = .ok () w) :
    (Instr.mapUpdate mty (.map (some r)) key val).run P w = .ok () { w with heap := w.heap.setIfInBounds r (.map #[{ key := key, val := val, born := clock }] (clock + 1)) } := by
  simp [Instr.mapUpdate, run_underlying hm, MapKept.run_getObj_map hb, hc, run_findKey_eq w hw, Instr.findAsking, MapKept.run_setObj_map _ hb, Result.andThen]
end

/-- The key of a question: mask, name, number. -/
theorem question_key (em : Bool) (a b0 b1 b2 b3 b4 b5 b6 b7 n : Value) (W : World) : (Instr.checkKey em 10000 195 (.agg #[a, b0, b1, b2, b3, b4, b5, b6, b7, n])).run Tryz.prog W = .ok () W := by
  kernel_rfl
end

section
open Go.RowKit Go.Shelf Go.Lib Go.ChangeMaps

abbrev Tri := List UInt8 × Value × Nat
def mkE (t : Tri) : MapEntry := ⟨nameV t.1, t.2.1, t.2.2⟩
theorem name_eqOp {a b : List UInt8} (ha : a.length = 8) (hb : b.length = 8) (w : World) : (Op.equal 28 (nameV a) (nameV b)).run Tryz.prog w = .ok (decide (a = b)) w := by
  rw [show Op.equal 28 (nameV a) (nameV b) = Op.equalIn (9998 + 2) 28 (nameV a) (nameV b) from rfl, name_equal 9998 a b ha hb w]
  by_cases h : a = b <;> simp [h]
theorem name_key8 (em : Bool) (b0 b1 b2 b3 b4 b5 b6 b7 : Value) (w : World) : (Instr.checkKey em 10000 28 (.agg #[b0, b1, b2, b3, b4, b5, b6, b7])).run Tryz.prog w = .ok () w := by
  kernel_rfl
theorem name_key {n : List UInt8} (hn : n.length = 8) (em : Bool) (w : World) : (Instr.checkKey em 10000 28 (nameV n)).run Tryz.prog w = .ok () w := by
  match n, hn with
  | [b0, b1, b2, b3, b4, b5, b6, b7], _ => exact name_key8 em _ _ _ _ _ _ _ _ w
/-- Where a name stands among the entries. -/
def findT : List Tri → List UInt8 → Nat → Option (Nat × Value)
  | [], _, _ => none
  | t :: l, n, i => if n = t.1 then some (i, t.2.1) else findT l n (i + 1)
theorem run_findT {n : List UInt8} (hn : n.length = 8) (w : World) : ∀ (T : List Tri) (i : Nat), (∀ t ∈ T, t.1.length = 8) → (Instr.findAsking 28 (nameV n) (T.map mkE) i).run Tryz.prog w = .ok (findT T n i) w
  | [], i, _ => by simp [Instr.findAsking, findT]
  | t :: T, i, h => by
    have h1 := h t List.mem_cons_self
    have ih := run_findT hn w T (i + 1) (fun t ht => h t (List.mem_cons_of_mem _ ht))
    have e := name_eqOp hn h1 w
    rw [List.map_cons]
    unfold Instr.findAsking findT
    simp only [Sem.run_bind, mkE, e, Result.andThen_ok]
    by_cases hc : n = t.1
    · simp [hc]
    · simp only [hc, decide_false, Bool.false_eq_true, if_false]
      exact ih
def getT (l : List (List UInt8 × Value)) (n : List UInt8) : Option Value := (l.find? fun p => p.1 = n).map (·.2)
theorem findT_get : ∀ (T : List Tri) (n : List UInt8) (i : Nat), (findT T n i).map (·.2) = getT (T.map fun t => (t.1, t.2.1)) n
  | [], _, _ => rfl
  | t :: T, n, i => by
    unfold findT getT
    rw [List.map_cons, List.find?_cons]
    by_cases hc : n = t.1
    · simp [hc]
    · have : decide (t.1 = n) = false := by simp; exact fun e => hc e.symm
      simp only [hc, if_false, this]
      exact findT_get T n (i + 1)
theorem getT_none {l : List (List UInt8 × Value)} {n : List UInt8} : getT l n = none ↔ n ∉ l.map (·.1) := by
  unfold getT
  rw [Option.map_eq_none_iff, List.find?_eq_none]
  constructor
  · intro h hm
    obtain ⟨p, hp, rfl⟩ := List.mem_map.1 hm
    exact h p hp (by simp)
  · intro h p hp e
    exact h (List.mem_map.2 ⟨p, hp, by simpa using e⟩)
/-- A map in memory: its entries as they were laid. -/
structure MapN (w : World) (r : Nat) (l : List (List UInt8 × Value)) : Prop where
  ex : ∃ (T : List Tri) (clock : Nat), w.heap[r]? = some (.map (T.map mkE).toArray clock) ∧ T.map (fun t => (t.1, t.2.1)) = l ∧ (T.map (·.2.2)).Nodup ∧ ∀ t ∈ T, t.2.2 < clock
  k8 : ∀ p ∈ l, p.1.length = 8
  nd : (l.map (·.1)).Nodup
theorem MapN.lt {w : World} {r : Nat} {l : List (List UInt8 × Value)} (h : MapN w r l) : r < w.heap.size := by
  obtain ⟨T, clock, hb, -⟩ := h.ex
  exact (Array.getElem?_eq_some_iff.1 hb).1
theorem MapN.upd {F : Nat → Prop} {w w' : World} {r : Nat} {l : List (List UInt8 × Value)} (h : MapN w r l) (hu : Upd F w w') (hF : ¬ F r) : MapN w' r l := by
  have hl := h.lt
  obtain ⟨T, clock, hb, h2⟩ := h.ex
  exact ⟨⟨T, clock, (hu.block r hl hF).trans hb, h2⟩, h.k8, h.nd⟩
theorem MapN.keep {w w' : World} {r : Nat} {l : List (List UInt8 × Value)} (h : MapN w r l) (hu : Upd NoF w w') : MapN w' r l := h.upd hu (fun f => f)
theorem MapN.fresh (w : World) : MapN (w.alloc (.map #[] 0)) w.heap.size [] := ⟨⟨[], 0, heap_alloc_new w _, rfl, by simp, by simp⟩, by simp, by simp⟩
theorem nm_find (w : World) (x : Value) (es : List MapEntry) : (Instr.findKey 28 x es).run Tryz.prog w = (Instr.findAsking 28 x es).run Tryz.prog w := run_findKey_eq w (by kernel_rfl) x es
section
variable {w : World} {r : Nat} {l : List (List UInt8 × Value)} {n : List UInt8} {mty et : TypeId}
theorem MapN.tri8 {T : List Tri} (h8 : ∀ p ∈ l, p.1.length = 8) (hT : T.map (fun t => (t.1, t.2.1)) = l) : ∀ t ∈ T, t.1.length = 8 := fun t ht => h8 (t.1, t.2.1) (by rw [← hT]; exact List.mem_map.2 ⟨t, ht, rfl⟩)
/-- 'm[n]', with and without ok. -/
theorem MapN.lookup (h : MapN w r l) (hm : Tryz.prog.underlying mty = some (.map 28 et)) (hn : n.length = 8) {z : Value} (hz : (zeroValue et).run Tryz.prog w = .ok z w) (ok : Bool) :
    (Instr.lookup mty (.map (some r)) (nameV n) ok).run Tryz.prog w = .ok (if ok then .tuple #[(getT l n).getD z, .bool (getT l n).isSome] else (getT l n).getD z) w := by
  obtain ⟨T, clock, hb, hT, -, -⟩ := h.ex
  have hf := run_findT hn w T 0 (MapN.tri8 h.k8 hT)
  have hg := findT_get T n 0
  rw [hT] at hg
  cases hc : findT T n 0 with
  | none =>
    rw [hc] at hf hg
    have hg : getT l n = none := hg.symm
    cases ok <;> simp [Instr.lookup, run_underlying hm, MapKept.run_getObj_map hb, name_key hn, nm_find, hf, hz, Result.andThen, hg]
  | some p =>
    rw [hc] at hf hg
    have hg : getT l n = some p.2 := hg.symm
    cases ok <;> simp [Instr.lookup, run_underlying hm, MapKept.run_getObj_map hb, name_key hn, nm_find, hf, Result.andThen, hg]
/-- 'm[n] = v' at a key that is not there. -/
theorem MapN.insert (h : MapN w r l) (hm : Tryz.prog.underlying mty = some (.map 28 et)) (hn : n.length = 8) (hg : getT l n = none) (v : Value) :
    ∃ w', (Instr.mapUpdate mty (.map (some r)) (nameV n) v).run Tryz.prog w = .ok () w' ∧ MapN w' r (l ++ [(n, v)]) ∧ Upd (fun k => k = r) w w' ∧ w'.heap.size = w.heap.size := by
  have hlt := h.lt
  obtain ⟨T, clock, hb, hT, hnd, hcl⟩ := h.ex
  have hf := run_findT hn w T 0 (MapN.tri8 h.k8 hT)
  have hg' := findT_get T n 0
  rw [hT, hg] at hg'
  have hc : findT T n 0 = none := by cases hc : findT T n 0 with | none => rfl | some p => rw [hc] at hg'; cases hg'
  rw [hc] at hf
  refine ⟨{ w with heap := w.heap.setIfInBounds r (.map ((T.map mkE).toArray.push { key := nameV n, val := v, born := clock }) (clock + 1)) }, ?_, ⟨⟨T ++ [(n, v, clock)], clock + 1, ?_, ?_, ?_, ?_⟩, ?_, ?_⟩, ?_, by simp⟩
  · simp [Instr.mapUpdate, run_underlying hm, MapKept.run_getObj_map hb, name_key hn, nm_find, hf, MapKept.run_setObj_map _ hb, Result.andThen]
  · show (w.heap.setIfInBounds r _)[r]? = _
    rw [Array.getElem?_setIfInBounds_self_of_lt hlt]
    simp [mkE]
  · rw [List.map_append, hT]; rfl
  · rw [List.map_append, List.nodup_append]
    refine ⟨hnd, by simp, ?_⟩
    intro a ha b hb'
    obtain ⟨t, ht, rfl⟩ := List.mem_map.1 ha
    have hb' : b = clock := by simpa using hb'
    have := hcl t ht
    omega
  · intro t ht
    rcases List.mem_append.1 ht with ht | ht
    · have := hcl t ht; omega
    · have : t = (n, v, clock) := by simpa using ht
      rw [this]; exact Nat.lt_succ_self _
  · intro p hp
    rcases List.mem_append.1 hp with hp | hp
    · exact h.k8 p hp
    · have : p = (n, v) := by simpa using hp
      rw [this]; exact hn
  · rw [List.map_append, List.nodup_append]
    refine ⟨h.nd, by simp, ?_⟩
    intro a ha b hb' e
    have hb' : b = n := by simpa using hb'
    exact getT_none.1 hg (by rw [← hb', ← e]; exact ha)
  · exact ⟨rfl, rfl, rfl, by simp, fun k hk hne => by
      show (w.heap.setIfInBounds r _)[k]? = _
      rw [Array.getElem?_setIfInBounds_ne (fun e => hne e.symm)]⟩
end
theorem findT_split : ∀ (T : List Tri) (n : List UInt8) (i j : Nat) (v : Value), findT T n i = some (j, v) → ∃ pre t post, T = pre ++ t :: post ∧ pre.length + i = j ∧ n = t.1
  | [], _, _, _, _, h => by cases h
  | t :: T, n, i, j, v, h => by
    unfold findT at h
    by_cases hc : n = t.1
    · rw [if_pos hc] at h
      cases h
      exact ⟨[], t, T, rfl, by simp, hc⟩
    · rw [if_neg hc] at h
      obtain ⟨pre, u, post, e, hl, hu⟩ := findT_split T n (i + 1) j v h
      exact ⟨t :: pre, u, post, by rw [e]; rfl, by simp; omega, hu⟩
theorem MapN.delete {w : World} {r : Nat} {l : List (List UInt8 × Value)} {n : List UInt8} {mty et kt ty : TypeId} (h : MapN w r l) (hm : Tryz.prog.underlying mty = some (.map 28 et)) (hn : n.length = 8) :
    ∃ w', (Builtin.delete_ #[mty, kt] ty #[.map (some r), nameV n]).run Tryz.prog w = .ok (.tuple #[]) w' ∧ MapN w' r (l.filter fun p => p.1 ≠ n) ∧ Upd (fun k => k = r) w w' ∧ w'.heap.size = w.heap.size := by
  have hlt := h.lt
  obtain ⟨T, clock, hb, hT, hnd, hcl⟩ := h.ex
  have hf := run_findT hn w T 0 (MapN.tri8 h.k8 hT)
  have hk8 : ∀ p ∈ l.filter fun p => p.1 ≠ n, p.1.length = 8 := fun p hp => h.k8 p (List.mem_filter.1 hp).1
  have hnd' : ((l.filter fun p => p.1 ≠ n).map (·.1)).Nodup := List.Nodup.sublist (List.Sublist.map _ List.filter_sublist) h.nd
  have hup : ∀ o : Obj, Upd (fun k => k = r) w { w with heap := w.heap.setIfInBounds r o } := fun o => ⟨rfl, rfl, rfl, by simp, fun k hk hne => by
      show (w.heap.setIfInBounds r _)[k]? = _
      rw [Array.getElem?_setIfInBounds_ne (fun e => hne e.symm)]⟩
  have hset : ∀ o : Obj, (w.heap.setIfInBounds r o)[r]? = some o := fun o => Array.getElem?_setIfInBounds_self_of_lt hlt
  cases hc : findT T n 0 with
  | none =>
    rw [hc] at hf
    have hg : getT l n = none := by have := findT_get T n 0; rw [hT, hc] at this; exact this.symm
    have hfl : (l.filter fun p => p.1 ≠ n) = l := List.filter_eq_self.2 (fun p hp => by
      simp only [ne_eq, decide_not, Bool.not_eq_true', decide_eq_false_iff_not]
      exact fun e => getT_none.1 hg (List.mem_map.2 ⟨p, hp, e⟩))
    refine ⟨{ w with heap := w.heap.setIfInBounds r (.map (T.map mkE).toArray clock) }, ?_, ⟨⟨T, clock, hset _, by rw [hfl]; exact hT, hnd, hcl⟩, hk8, hnd'⟩, hup _, by simp⟩
    simp [Builtin.delete_, run_underlying hm, MapKept.run_getObj_map hb, name_key hn, nm_find, hf, MapKept.run_setObj_map _ hb, Result.andThen]
  | some p =>
    obtain ⟨j, v⟩ := p
    rw [hc] at hf
    obtain ⟨pre, t, post, rfl, hj, hnt⟩ := findT_split T n 0 j v hc
    have hj : j = pre.length := by omega
    subst hj
    have herase : (pre ++ t :: post).eraseIdx pre.length = pre ++ post := by
      rw [List.eraseIdx_append_of_length_le (Nat.le_refl _)]; simp
    have hfl : (l.filter fun p => p.1 ≠ n) = (pre ++ post).map (fun t => (t.1, t.2.1)) := by
      have hndk := h.nd
      rw [← hT, List.map_map, List.map_append, List.map_cons, List.nodup_append] at hndk
      obtain ⟨-, k2, k3⟩ := hndk
      rw [List.nodup_cons] at k2
      rw [← hT, List.filter_map, List.filter_append, List.filter_cons]
      have h1 : (pre.filter ((fun p : List UInt8 × Value => decide (p.1 ≠ n)) ∘ fun t : Tri => (t.1, t.2.1))) = pre := List.filter_eq_self.2 (fun x hx => by
        simp only [Function.comp, ne_eq, decide_not, Bool.not_eq_true', decide_eq_false_iff_not]
        exact fun e => k3 _ (List.mem_map.2 ⟨x, hx, rfl⟩) _ List.mem_cons_self (by simp [Function.comp, e, hnt]))
      have h2 : (post.filter ((fun p : List UInt8 × Value => decide (p.1 ≠ n)) ∘ fun t : Tri => (t.1, t.2.1))) = post := List.filter_eq_self.2 (fun x hx => by
        simp only [Function.comp, ne_eq, decide_not, Bool.not_eq_true', decide_eq_false_iff_not]
        exact fun e => k2.1 (List.mem_map.2 ⟨x, hx, by simp [Function.comp, e, hnt]⟩))
      rw [h1, h2]
      simp [Function.comp, hnt]
    refine ⟨{ w with heap := w.heap.setIfInBounds r (.map ((pre ++ post).map mkE).toArray clock) }, ?_, ⟨⟨pre ++ post, clock, hset _, by rw [hfl], ?_, fun x hx => hcl x ?_⟩, hk8, hnd'⟩, hup _, by simp⟩
    · have he : (Array.eraseIdxIfInBounds ((pre ++ t :: post).map mkE).toArray pre.length) = ((pre ++ post).map mkE).toArray := by
        apply Array.toList_inj.1
        have : ∀ (L : List MapEntry) (i : Nat), (L.toArray.eraseIdxIfInBounds i).toList = L.eraseIdx i := fun L i => by
          unfold Array.eraseIdxIfInBounds
          split
          · simp
          · rename_i hh
            rw [List.eraseIdx_of_length_le (by simpa using hh)]
        rw [this, ← map_eraseIdx, herase]
      simp only [Builtin.delete_, Sem.run_bind, Sem.run_pure, run_underlying hm, MapKept.run_getObj_map hb, name_key hn, nm_find, hf, Result.andThen_ok, List.getElem?_toArray, List.getElem?_cons_zero, List.getElem?_cons_succ, he, MapKept.run_setObj_map _ hb]
    · refine List.Nodup.sublist (List.Sublist.map _ ?_) hnd
      exact List.Sublist.append_left (List.sublist_cons_self _ _) _
    · rcases List.mem_append.1 hx with hx | hx
      · exact List.mem_append_left _ hx
      · exact List.mem_append_right _ (List.mem_cons_of_mem _ hx)
/-! ### range -/
/-- Block it goes over map r; left: what is still to come. -/
structure RngN (w : World) (r it : Nat) (l left : List (List UInt8 × Value)) : Prop where
  ex : ∃ (T : List Tri) (clock since c0 : Nat) (seen : Array Nat), w.heap[r]? = some (.map (T.map mkE).toArray clock) ∧ T.map (fun t => (t.1, t.2.1)) = l ∧ (T.map (·.2.2)).Nodup ∧ (∀ t ∈ T, t.2.2 < since) ∧ since ≤ c0 ∧ since ≤ clock ∧
    w.heap[it]? = some (.mapIter (some r) since seen c0) ∧ (T.filter fun t => !seen.contains t.2.2).map (fun t => (t.1, t.2.1)) = left
theorem RngN.upd {F : Nat → Prop} {w w' : World} {r it : Nat} {l left : List (List UInt8 × Value)} (h : RngN w r it l left) (hu : Upd F w w') (h1 : ¬ F r) (h2 : ¬ F it) : RngN w' r it l left := by
  obtain ⟨T, clock, since, c0, seen, a1, a2, a3, a4, a5, a5', a6, a7⟩ := h.ex
  exact ⟨T, clock, since, c0, seen, (hu.block r (Array.getElem?_eq_some_iff.1 a1).1 h1).trans a1, a2, a3, a4, a5, a5', (hu.block it (Array.getElem?_eq_some_iff.1 a6).1 h2).trans a6, a7⟩
theorem RngN.lt {w : World} {r it : Nat} {l left : List (List UInt8 × Value)} (h : RngN w r it l left) : r < w.heap.size ∧ it < w.heap.size ∧ r ≠ it := by
  obtain ⟨T, clock, since, c0, seen, a1, a2, a3, a4, a5, a5', a6, a7⟩ := h.ex
  refine ⟨(Array.getElem?_eq_some_iff.1 a1).1, (Array.getElem?_eq_some_iff.1 a6).1, ?_⟩
  rintro rfl
  rw [a1] at a6
  cases a6
theorem MapN.range {w : World} {r : Nat} {l : List (List UInt8 × Value)} {mty et : TypeId} (h : MapN w r l) (hm : Tryz.prog.underlying mty = some (.map 28 et)) :
    ∃ w', (Instr.range mty (.map (some r))).run Tryz.prog w = .ok (.pointer (some ⟨w.heap.size, 0, none⟩)) w' ∧ RngN w' r w.heap.size l l ∧ Upd NoF w w' ∧ w'.heap.size = w.heap.size + 1 := by
  have hlt := h.lt
  obtain ⟨T, clock, hb, hT, hnd, hcl⟩ := h.ex
  refine ⟨_, run_range_map w mty _ et r _ clock hm hb, ⟨⟨T, clock, clock, clock, #[], ?_, hT, hnd, hcl, Nat.le_refl _, Nat.le_refl _, heap_alloc_new w _, by rw [List.filter_eq_self.2 (fun t _ => by simp)]; exact hT⟩⟩, (Upd.refl NoF w).alloc _, by simp⟩
  exact (Below.heap_alloc w _ r hlt).trans hb
theorem leftOf_map (T : List Tri) (seen : Array Nat) : (leftOf (T.map mkE).toArray seen).toList = (T.filter fun t => !seen.contains t.2.2).map mkE := by
  unfold leftOf
  rw [List.filter_toArray, List.filter_map]
  rfl
theorem filter_born : ∀ (L : List Tri) (t : Tri), t ∈ L → (L.map (·.2.2)).Nodup → L.Perm (t :: L.filter fun x => x.2.2 ≠ t.2.2)
  | [], _, h, _ => by cases h
  | x :: L, t, h, hn => by
    rw [List.map_cons, List.nodup_cons] at hn
    rcases List.mem_cons.1 h with rfl | h
    · have : (L.filter fun x => x.2.2 ≠ t.2.2) = L := by
        rw [List.filter_eq_self]
        intro a ha
        simp only [ne_eq, decide_not, Bool.not_eq_true', decide_eq_false_iff_not]
        exact fun e => hn.1 (List.mem_map.2 ⟨a, ha, e⟩)
      rw [List.filter_cons]
      simp only [ne_eq, not_true_eq_false, decide_false, Bool.false_eq_true, if_false]
      rw [show (L.filter fun x => decide ¬x.2.2 = t.2.2) = L from this]
    · have hne : x.2.2 ≠ t.2.2 := fun e => hn.1 (List.mem_map.2 ⟨t, h, e.symm⟩)
      rw [List.filter_cons]
      simp only [hne, ne_eq, not_false_eq_true, decide_true, if_true]
      exact ((filter_born L t h hn.2).cons x).trans (List.Perm.swap _ _ _)
/-- One step: nothing is left, or some entry comes. -/
theorem RngN.next {w : World} {r it : Nat} {l left : List (List UInt8 × Value)} (h : RngN w r it l left) (ty : TypeId) :
    (left = [] ∧ (Instr.next (.pointer (some ⟨it, 0, none⟩)) false ty).run Tryz.prog w = .ok (.tuple #[.bool false]) w) ∨
    ∃ (p : List UInt8 × Value) (left' : List (List UInt8 × Value)) (w' : World), left.Perm (p :: left') ∧ (Instr.next (.pointer (some ⟨it, 0, none⟩)) false ty).run Tryz.prog w = .ok (.tuple #[.bool true, nameV p.1, p.2]) w' ∧ RngN w' r it l left' ∧ Upd (fun k => k = it) w w' ∧ w'.heap.size = w.heap.size ∧ (Instr.entry (.pointer (some ⟨it, 0, none⟩))).run Tryz.prog w' = .ok (.tuple #[nameV p.1, p.2]) w' := by
  obtain ⟨h1, h2, h3⟩ := h.lt
  obtain ⟨T, clock, since, c0, seen, a1, a2, a3, a4, a5, a5', a6, a7⟩ := h.ex
  have hold : ∀ x ∈ ((T.map mkE).toArray).toList, x.born < since := by
    intro x hx
    obtain ⟨t, ht, rfl⟩ := List.mem_map.1 (show x ∈ T.map mkE from by simpa using hx)
    exact a4 t ht
  have hbn : (((T.map mkE).toArray).toList.map (·.born)).Nodup := by
    have : ((T.map mkE).toArray).toList.map (·.born) = T.map (·.2.2) := by simp [mkE]
    rw [this]; exact a3
  rcases run_next_at w ty it r since c0 seen _ clock a6 a1 hold a5 with ⟨h0, hr⟩ | ⟨e, he, w1, hw1, hr⟩
  · refine .inl ⟨?_, hr⟩
    have : (T.filter fun t => !seen.contains t.2.2) = [] := by
      have h0' : ((T.filter fun t => !seen.contains t.2.2).map mkE).length = 0 := by rw [← leftOf_map, Array.length_toList]; exact h0
      simpa using h0'
    rw [← a7, this]; rfl
  · refine .inr ?_
    rw [leftOf_map] at he
    obtain ⟨t, ht, rfl⟩ := List.mem_map.1 he
    have htT := (List.mem_filter.1 ht).1
    have hnL : ((T.filter fun t => !seen.contains t.2.2).map (·.2.2)).Nodup := List.Nodup.sublist (List.Sublist.map _ List.filter_sublist) a3
    have hp := (filter_born _ t ht hnL).map (fun t => (t.1, t.2.1))
    rw [a7] at hp
    have hne : r ≠ it := h3
    have hw1h : w1.heap = w.heap := by rcases hw1 with rfl | rfl <;> rfl
    have b1 : (setBlock w1 it (.mapIter (some r) since (seen.push t.2.2) clock)).heap[r]? = some (.map (T.map mkE).toArray clock) := by
      show (w1.heap.setIfInBounds it _)[r]? = _
      rw [hw1h, Array.getElem?_setIfInBounds_ne (fun e => hne e.symm), a1]
    have b2 : (setBlock w1 it (.mapIter (some r) since (seen.push t.2.2) clock)).heap[it]? = some (.mapIter (some r) since (seen.push t.2.2) clock) := by
      show (w1.heap.setIfInBounds it _)[it]? = _
      rw [hw1h, Array.getElem?_setIfInBounds_self_of_lt h2]
    refine ⟨(t.1, t.2.1), (T.filter fun x => !(seen.push t.2.2).contains x.2.2).map (fun t => (t.1, t.2.1)), setBlock w1 it (.mapIter (some r) since (seen.push t.2.2) clock), ?_, hr, ⟨⟨T, clock, since, clock, seen.push t.2.2, b1, a2, a3, a4, a5', a5', b2, rfl⟩⟩, ?_, ?_, ?_⟩
    · have e : (T.filter fun x => !(seen.push t.2.2).contains x.2.2) = (T.filter fun t => !seen.contains t.2.2).filter fun x => x.2.2 ≠ t.2.2 := by
        rw [List.filter_filter]
        congr 1
        funext x
        by_cases hx : x.2.2 = t.2.2 <;> simp [hx]
      rw [e]
      exact hp
    · refine ⟨?_, ?_, ?_, by show w.heap.size ≤ (w1.heap.setIfInBounds it _).size; rw [hw1h]; simp, fun k hk hne => ?_⟩
      · rcases hw1 with rfl | rfl <;> rfl
      · rcases hw1 with rfl | rfl <;> rfl
      · rcases hw1 with rfl | rfl <;> rfl
      · show (w1.heap.setIfInBounds it _)[k]? = _
        rw [hw1h, Array.getElem?_setIfInBounds_ne (fun e => hne e.symm)]
    · show (w1.heap.setIfInBounds it _).size = _
      rw [hw1h]; simp
    · exact run_entry_at _ it r since seen _ clock (mkE t) b2 b1 (List.mem_map.2 ⟨t, htT, rfl⟩) hbn
end
end Go.Proofs.YtengcmfdfmnacaaGreat
