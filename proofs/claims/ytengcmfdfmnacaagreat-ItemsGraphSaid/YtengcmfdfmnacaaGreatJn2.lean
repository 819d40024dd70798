/- committee.Has, members, IDs. No condition. committee.Lowest, Select. No condition. The genesis on plain data: its text, its validity. No condition. The disk of the program in memory, and what the map of its files does. No condition. The hash functions of package hash and of the reference: rotations, mixing, words. No condition. The hash functions of package hash and of the reference: names of numbers, words. No condition. The hash functions of package hash: the number of a name, words. No condition. Names and votes as values, and when two are equal. No condition. Valid of package vote and of the reference. No condition. Valid of package vote. No condition. Valid of package vote. No condition. Valid of package vote. No condition. Valid of the reference. No condition. Valid of package vote and of the reference, for every vote. No condition. -/
import Derived.RangeFuncBox
import Derived.RangeFuncLeaves
import Derived.RangeFuncNested
import Derived.Shelf.Abstract
import Derived.WalkKit
import Derived.OwnWalkIn
import Derived.TacticsInMore
import Derived.LoopNIn
import Derived.LoopIn
import Derived.Maps.AppendAt
import Derived.Lib.Hide
import Derived.Test.YtengcmfdfmnacaaGreatJn1
import Derived.Test.YtengcmfdfmnacaaGreatProg
import Derived.Shelf.RegionOpen
import Derived.Test.YtengcmfdfmnacaaGreatLay
import Derived.Maps.OwnSet
import Derived.Maps.Ext
import Derived.Sort.KeysCollected
import Derived.WalkSpells
import Derived.Laws.MathBits
import Derived.RegionTactic
import Derived.BigRegion
import Derived.StillTailTactics
import Derived.Deep.QuietTactic
import Derived.BigQuiet
import Derived.Laws.CopyOwn
import Derived.Laws.Rows
import Derived.Laws.StructEq
import Derived.BigGuardPart
namespace Go.Proofs.YtengcmfdfmnacaaGreat
section
open Go.RowKit Go.Shelf

attribute [local go_sem] Oper.semAt_some

/-- Bit k of a mask. -/
def hasB (m : Int) (k : Nat) : Bool := bits .and .i64 (m / 2 ^ k) 1 == 1
set_option maxRecDepth 100000 in
set_option maxHeartbeats 2000000 in
theorem Has_any (m : Int) (k : Nat) (hk : k < 10) (_h0 : -9223372036854775808 ≤ m) (_h1 : m ≤ 9223372036854775807) (w : World) : Calls Tryz.prog 151 #[.int .i64 m, .int .i64 (k : Int)] w fun e w' => e = .returned (.bool (hasB m k)) ∧ w' = w := by
  have t1 : (k : Int) < 10 := by omega
  go_enter Tryz.func151, Tryz.ntmps151
  go_wp2
  go_ret
  exact ⟨rfl, rfl⟩
/-- The ids below k in a mask. -/
def idsTo (m : Int) (k : Nat) : List (Fin 10) := ((List.finRange 10).take k).filter (fun i => hasB m i.1)
def idsF (m : Int) : List (Fin 10) := idsTo m 10
theorem idsTo_succ (m : Int) (k : Nat) (hk : k < 10) : idsTo m (k + 1) = if hasB m k = true then idsTo m k ++ [⟨k, hk⟩] else idsTo m k := by
  unfold idsTo
  rw [List.take_succ_eq_append_getElem (by simpa using hk), List.filter_append]
  have e : (List.finRange 10)[k]'(by simpa using hk) = ⟨k, hk⟩ := by simp
  rw [e]
  by_cases h : hasB m k = true
  · rw [if_pos h]; simp [h]
  · rw [if_neg h]; simp [h]
theorem idsTo_len (m : Int) (k : Nat) : (idsTo m k).length ≤ k := by
  unfold idsTo
  exact Nat.le_trans (List.length_filter_le _ _) (List.length_take_le _ _)
theorem idsTo_lt (m : Int) (k : Nat) (hk : k < 10) (h : hasB m k = true) : (idsTo m k).length < (idsF m).length ∧ idsTo m k ++ [⟨k, hk⟩] <+: idsF m := by
  have hp : idsTo m (k + 1) <+: idsF m := by
    have hq : (List.finRange 10).take (k + 1) <+: (List.finRange 10).take 10 := List.take_prefix_take_left (by omega)
    exact hq.filter _
  rw [idsTo_succ m k hk, if_pos h] at hp
  refine ⟨?_, hp⟩
  have := hp.length_le
  simp at this
  omega

/-- What a round of a range over members keeps: the mask's box. -/
def KpC (B : Nat) (W W' : World) : Prop := ∀ v, W.cell? ⟨B, 0, none⟩ = some v → W'.cell? ⟨B, 0, none⟩ = some v
theorem kpC_t {Bm : Nat} {A B C : World} (h : KpC Bm A B) (k : KpC Bm B C) : KpC Bm A C := fun v hv => k v (h v hv)
theorem kpC_b {Bm : Nat} {w : World} (W : World) (l : Nat) (o o' : Obj) (_ : w.heap.size ≤ l) (h : W.heap[l]? = some o) (hc : o.isCells = false) (_ : o.isWalk = false) : KpC Bm W (W.putObj l o') := fun _ hv => cell_kept hv (grownBy_putObj' W l o') (fun r e => by cases e; exact ⟨o, h, hc⟩)
set_option maxRecDepth 100000 in
set_option maxHeartbeats 4000000 in
theorem members1_in (n : Nat) (hn : 1 ≤ n) (l Bm : Nat) (m : Int) (hm0 : -9223372036854775808 ≤ m) (hm1 : m ≤ 9223372036854775807) (J Jx : List (Fin 10) → World → Prop)
    (hY : ∀ pre x W, J pre W → pre.length < (idsF m).length → YieldAt Fence.wide (n - 1) Tryz.prog l #[.int .i64 (x.1 : Int)] W fun e W' =>
      (e = .returned (.bool true) ∧ J (pre ++ [x]) W' ∧ KpC Bm W W') ∨ (e = .returned (.bool false) ∧ Jx (pre ++ [x]) W'))
    (W : World) (hc : W.cell? ⟨Bm, 0, none⟩ = some (.int .i64 m)) (h0 : J [] W) :
    CallsIn Fence.wide n Tryz.prog 150 #[.func (.yield l) #[] #[], .pointer (some ⟨Bm, 0, none⟩)] W fun e W' => (∃ v, e = .returned v) ∧ ((∃ ys, ys = idsF m ∧ J ys W') ∨ (∃ pre, pre <+: idsF m ∧ Jx pre W')) := by
  refine callsIn_of_wp Tryz.func150 rfl trivial ?_ rfl
  simp only [Tryz.ntmps150, List.size_toArray, List.length_cons, List.length_nil, Nat.reduceAdd, Nat.reduceSub, Array.replicate_succ, Array.replicate_zero, List.push_toArray, List.append_toArray, List.nil_append, List.cons_append]
  gi_wp2
  gi_loopw [4] (fun s wr => ∃ k : Nat, s = .int .i64 (k : Int) ∧ k ≤ 10 ∧ wr.cell? ⟨Bm, 0, none⟩ = some (.int .i64 m) ∧ J (idsTo m k) wr) (fun s _ => 10 - (intOf s).toNat)
  case atStart => exact ⟨0, rfl, by omega, hc, by simpa [idsTo] using h0⟩
  case round =>
    obtain ⟨k, rfl, hk, hcr, hJ⟩ := hrel
    by_cases hlt : k < 10
    · have hltz : (k : Int) < 10 := by omega
      have HC := Lib.hid (callsIn_wide.2 (Has_any m k hlt hm0 hm1 wr) : CallsIn Fence.wide (n - 1) Tryz.prog _ _ _ _)
      cases hb : hasB m k with
      | false =>
        have HS := Lib.hid (idsTo_succ m k hlt)
        rw [hb] at HC
        gi_wp2_with (refine ⟨trivial, ?_⟩; gi_at_call 151; refine HC.out.mono ?_; rintro e w' ⟨rfl, rfl⟩)
        refine ⟨fun _ h => (by cases h), ?_⟩
        gi_wp2
        go_roundw
        case rel => exact ⟨k + 1, by go_num, by omega, hcr, by rw [HS.out, if_neg (by rw [hb]; decide)]; exact hJ⟩
        case measure => simp [intOf]; omega
      | true =>
        obtain ⟨hlen, hpre⟩ := idsTo_lt m k hlt hb
        have HS := Lib.hid (idsTo_succ m k hlt)
        obtain ⟨fn, tmps, assign, body, hy, hR⟩ := hY (idsTo m k) ⟨k, hlt⟩ wr hJ hlen
        dsimp only at hy
        rw [hb] at HC
        gi_wp2_with (refine ⟨trivial, ?_⟩; gi_at_call 151; refine HC.out.mono ?_; rintro e w' ⟨rfl, rfl⟩)
        refine hR.mono ?_
        rintro e W3 (⟨rfl, hJ3, hk3⟩ | ⟨rfl, hJx3⟩)
        · have hc3 : W3.cell? ⟨Bm, 0, none⟩ = some (.int .i64 m) := hk3 _ hcr
          gi_wp2
          go_roundw
          case rel => exact ⟨k + 1, by go_num, by omega, hc3, by rw [HS.out, if_pos hb]; exact hJ3⟩
          case measure => simp [intOf]; omega
        · gi_wp2
          refine bodyPost_ret (results_none rfl _ _ _) rfl ?_
          exact ⟨⟨_, rfl⟩, .inr ⟨_, hpre, hJx3⟩⟩
    · have hk10 : k = 10 := by omega
      have hJ' := Lib.hid hJ
      subst hk10
      have hltz : ¬ ((10 : Nat) : Int) < 10 := by omega
      clear hJ
      gi_wp2
      go_end0
      exact ⟨⟨_, rfl⟩, .inl hJ'.out⟩
set_option maxHeartbeats 1000000 in
theorem members_in (n : Nat) (m : Int) (w : World) : CallsIn Fence.wide n Tryz.prog 109 #[.int .i64 m] w fun e w' => e = .returned (.func (.func 150) #[] #[.pointer (some ⟨w.heap.size, 0, none⟩)]) ∧ w' = w.alloc (.cells #[.int .i64 m] 30) := by
  refine callsIn_of_wp Tryz.func109 rfl trivial ?_ rfl
  simp only [Tryz.ntmps109, List.size_toArray, List.length_cons, List.length_nil, Nat.reduceAdd, Nat.reduceSub, Array.replicate_succ, Array.replicate_zero, List.push_toArray, List.append_toArray, List.nil_append, List.cons_append]
  gi_wp2
  go_ret
  exact ⟨rfl, rfl⟩
theorem members_stops (n : Nat) (hn : 1 ≤ n) (Bm : Nat) (m : Int) (hm0 : -9223372036854775808 ≤ m) (hm1 : m ≤ 9223372036854775807) (w : World) (hBn : Bm < w.heap.size) (hc : w.cell? ⟨Bm, 0, none⟩ = some (.int .i64 m)) :
    SeqStopsK Fence.wide n Tryz.prog 150 #[.pointer (some ⟨Bm, 0, none⟩)] (fun x : Fin 10 => #[Value.int .i64 (x.1 : Int)]) (KpC Bm) (fun ys => ys = idsF m) (fun pre => pre <+: idsF m) (idsF m).length w := fun l J Jx W hW _ _ hY h0 =>
  members1_in n hn l Bm m hm0 hm1 J Jx hY W ((hW.cell (p := ⟨Bm, 0, none⟩) hBn).trans hc) h0
theorem own_of_row {w : World} {base : Nat} {e : TypeId} {size n : Nat} {v : Value} {xs : List Value} (h : w.ownsRow base e size v n xs) : Own w e size v n xs ∧ ∀ k, OwnB v k → base ≤ k := by
  refine ⟨⟨h.1, ?_⟩, fun k hk => ?_⟩
  · rcases h.2 with h | ⟨g, cap, cur, rfl, _, hg, h1, h2, h3, h4⟩
    · exact .inl h
    · exact .inr ⟨g, cap, cur, rfl, hg, h1, h2, Nat.le_of_eq h3.symm, h4⟩
  · exact (h.lt k hk).1
theorem int_info : (Tryz.prog.info? 3).map (fun i => (i.zero, i.size, i.bytes)) = some (some (.int .i64 0), 1, 8) := by kernel_rfl
def idsV (l : List (Fin 10)) : List Value := l.map (fun i => Value.int .i64 (i.1 : Int))
set_option maxRecDepth 100000 in
set_option maxHeartbeats 4000000 in
theorem IDs_in (n : Nat) (hn : 3 ≤ n) (m : Int) (hm0 : -9223372036854775808 ≤ m) (hm1 : m ≤ 9223372036854775807) (w : World) :
    CallsIn Fence.wide n Tryz.prog 88 #[.int .i64 m] w fun e W' => ∃ v, e = .returned v ∧ W'.ownsRow w.heap.size 3 1 v (idsF m).length (idsV (idsF m)) ∧ (v = .slice none 0 0 ↔ idsF m = []) ∧ Below w.heap.size w W' := by
  have h1 : 1 ≤ n := by omega
  obtain ⟨i0, hi, hz0, hz1, hz2⟩ := info_parts int_info
  refine callsIn_of_wp_marks Tryz.func88 rfl trivial ?_ rfl
  simp only [Tryz.ntmps88, List.size_toArray, List.length_cons, List.length_nil, Nat.reduceAdd, Nat.reduceSub, Array.replicate_succ, Array.replicate_zero, List.push_toArray, List.append_toArray, List.nil_append, List.cons_append]
  gi_wp2_with (refine ⟨trivial, ?_⟩; gi_at_call 109; refine (members_in (n - 1) _ _).mono ?_; rintro e w' ⟨rfl, rfl⟩)
  have bO := Boxed.new w 23 (.slice none 0 0)
  have bN := Boxed.new (w.alloc (.cells #[.slice none 0 0] 23)) 30 (.int .i64 m)
  rw [World.size_alloc] at bN
  have hB0 : Below w.heap.size w ((w.alloc (.cells #[.slice none 0 0] 23)).alloc (.cells #[.int .i64 m] 30)) := ((Below.refl _ w).alloc (Nat.le_refl _) _).alloc (by simp) _
  have hl10 : ∀ k, (idsTo m k).length ≤ k := idsTo_len m
  have hf10 : (idsF m).length ≤ 10 := idsTo_len m 10
  refine wpIn_rangeFunc_ownG rfl h1 (gf := 150) (lb := #[.pointer (some ⟨w.heap.size + 1, 0, none⟩)]) rfl trivial (enters_of Tryz.func150 (by kernel_rfl) rfl)
    (members_stops (n - 1) (by omega) (w.heap.size + 1) m hm0 hm1 _ (by simp) bN.cell) kpC_t kpC_b (Below.refl _ _) (fun _ => rfl)
    (fun pre W => (∃ v, Boxed W w.heap.size 23 v ∧ W.ownsRow w.heap.size 3 1 v pre.length (idsV pre) ∧ (v = .slice none 0 0 ↔ pre = []) ∧ pre.length ≤ 10) ∧ Boxed W (w.heap.size + 1) 30 (.int .i64 m) ∧ Below w.heap.size w W)
    (fun _ _ _ => False)
    (OwnFrom.and (Own.from (holdsRow_own w.heap.size w.heap.size 23 3 1 (fun pre => pre.length) (fun pre => idsV pre) (fun pre v => (v = .slice none 0 0 ↔ pre = []) ∧ pre.length ≤ 10)) _) (OwnFrom.and (Own.from (boxed_own (w.heap.size + 1) 30 (fun _ => .int .i64 m)) _) (ownFrom_below (Nat.le_refl _) (by simp; omega))))
    (fun _ _ _ _ _ hs _ _ => hs)
    ⟨⟨_, bO.alloc _, World.ownsRow_nil _ _ _ _, by simp⟩, bN, hB0⟩
    (fun x => { tmps := #[.int .i64 m, undef, .slice none 0 0, .pointer (some ⟨w.heap.size, 0, none⟩), .int .i64 (x.1 : Int), .int .i64 m, .func (.func 150) #[] #[.pointer (some ⟨w.heap.size + 1, 0, none⟩)], .int .i64 (x.1 : Int), undef, undef, undef, undef, undef], defers := [] }) ?assign ?body ?done ?stop
  case assign =>
    intro l x W K hK
    gi_wp2
    exact hK
  case body =>
    rintro l pre x W ⟨⟨v, hv, hrow, hnil, _⟩, hm, hB⟩ hlt
    have hc := hv.cell
    gi_wp2_with (gi_at_builtin; refine wpListIn_append_own _ rfl _ _ 23 rfl w.heap.size 3 i0 (.int .i64 0) 1 8 Tryz.underlying23 hi hz0 hz1 hz2 rfl (by decide) _ _ _ rfl (hrow.alloc _) ⟨W.heap.size, 0, none⟩ 1 1 [.int .i64 (x.1 : Int)] rfl rfl (cell_one_new _ _ _) (by simp [Value.oneCell']) (by unfold maxLen; omega) (by omega) (by have := hB.size; simp; omega) ?_; intro v' w1 hown' hgrow _; obtain ⟨g', cap', rfl⟩ := ownsRow_succ hown'; obtain ⟨hv1, hv2, hr2, hk2, hb2⟩ := hv.appended (by decide) hrow hB.size (Nat.le_refl _) hown' hgrow; have hm1' := (hm.alloc _).kept hgrow (hm.not_row (by decide) hrow); have hc1 := hv1.cell; have hf1 := hv1.frozen)
    have hm2 := hm1'.other (B' := w.heap.size) (by omega) (.slice (some ⟨g', 0, none⟩) (pre.length + 1) cap')
    exact ⟨hk2.from _, fun u hu => by rw [hm.cell] at hu; rw [← hu]; exact hm2.cell, ⟨_, hv2, by simpa [idsV] using hr2, by simp, by simp; omega⟩, hm2, hB.trans hb2⟩
  case done =>
    rintro D ys W hD rfl ⟨⟨v, hv, hrow, hnil, _⟩, -, hB⟩ hK
    have hc := hv.cell
    gi_wp2
    refine ⟨by simp, .inl ⟨_, _, rfl, run_takeDeferred hK, ?_⟩⟩
    exact ⟨_, results_tmp rfl _ _ _, v, rfl, ownsRow_putObj hrow _ hK rfl, hnil, hB.trans (belowK_b (w := w) (Nat.le_refl _) W D _ _ (by simp at hD; omega) hK rfl rfl)⟩
  case stop =>
    rintro D c pre W _ _ h _
    exact h.elim
end

section
open Go.RowKit Go.Shelf

attribute [local go_sem] Oper.semAt_some

def orBit (o : Int) (x : Fin 10) : Int := bits .or .i64 o (2 ^ x.1)
theorem wrap_two : ∀ x : Fin 10, IntKind.i64.wrap (2 ^ x.1) = 2 ^ x.1 := by decide
theorem wrap_two' (x : Fin 10) : wrap64 (2 ^ x.1) = 2 ^ x.1 := by rw [← IntWalk.i64_left]; exact wrap_two x
theorem pow_ten : ∀ v : Fin 11, IntKind.i64.wrap (2 ^ v.1) = 2 ^ v.1 ∧ IntKind.i64.wrap (2 ^ v.1 - 1) = 2 ^ v.1 - 1 := by decide
/-- The k least ids of a list, as a mask. -/
def lowF : List (Fin 10) → Int → Int → Int
  | [], o, _ => o
  | x :: l, o, k => if k < 1 then o else lowF l (orBit o x) (k - 1)
def LowI (m k : Int) (pre : List (Fin 10)) (o kk : Int) : Prop := kk ≤ k ∧ -9223372036854775808 ≤ kk ∧ ∀ rest, idsF m = pre ++ rest → lowF (idsF m) 0 k = lowF rest o kk
set_option maxRecDepth 100000 in
set_option maxHeartbeats 4000000 in
theorem Lowest_in (n : Nat) (hn : 3 ≤ n) (m k : Int) (hm0 : -9223372036854775808 ≤ m) (hm1 : m ≤ 9223372036854775807) (hk0 : -9223372036854775808 ≤ k) (hk1 : k ≤ 9223372036854775807) (w : World) :
    CallsIn Fence.wide n Tryz.prog 62 #[.int .i64 m, .int .i64 k] w fun e W' => e = .returned (.int .i64 (lowF (idsF m) 0 k)) ∧ Below w.heap.size w W' := by
  have h1 : 1 ≤ n := by omega
  refine callsIn_of_wp_marks Tryz.func62 rfl trivial ?_ rfl
  simp only [Tryz.ntmps62, List.size_toArray, List.length_cons, List.length_nil, Nat.reduceAdd, Nat.reduceSub, Array.replicate_succ, Array.replicate_zero, List.push_toArray, List.append_toArray, List.nil_append, List.cons_append]
  gi_wp2_with (refine ⟨trivial, ?_⟩; gi_at_call 109; refine (members_in (n - 1) _ _).mono ?_; rintro e w' ⟨rfl, rfl⟩)
  have bK := ((Boxed.new w 3 (.int .i64 k)).alloc (.cells #[.int .i64 0] 30)).alloc (.cells #[.int .i64 m] 30)
  have bO := (Boxed.new (w.alloc (.cells #[.int .i64 k] 3)) 30 (.int .i64 0)).alloc (.cells #[.int .i64 m] 30)
  have bM := Boxed.new ((w.alloc (.cells #[.int .i64 k] 3)).alloc (.cells #[.int .i64 0] 30)) 30 (.int .i64 m)
  rw [World.size_alloc] at bO
  rw [World.size_alloc, World.size_alloc] at bM
  have hB0 : Below w.heap.size w (((w.alloc (.cells #[.int .i64 k] 3)).alloc (.cells #[.int .i64 0] 30)).alloc (.cells #[.int .i64 m] 30)) := (((Below.refl _ w).alloc (Nat.le_refl _) _).alloc (by simp) _).alloc (by simp; omega) _
  refine wpIn_rangeFunc_ownG rfl h1 (gf := 150) (lb := #[.pointer (some ⟨w.heap.size + 1 + 1, 0, none⟩)]) rfl trivial (enters_of Tryz.func150 (by kernel_rfl) rfl)
    (members_stops (n - 1) (by omega) (w.heap.size + 1 + 1) m hm0 hm1 _ (by simp) bM.cell) kpC_t kpC_b (Below.refl _ _) (fun _ => rfl)
    (fun pre W => ∃ o kk, Boxed W w.heap.size 3 (.int .i64 kk) ∧ Boxed W (w.heap.size + 1) 30 (.int .i64 o) ∧ Boxed W (w.heap.size + 1 + 1) 30 (.int .i64 m) ∧ Below w.heap.size w W ∧ LowI m k pre o kk)
    (fun c pre W => c = .exit 0 ∧ ∃ o, Boxed W (w.heap.size + 1) 30 (.int .i64 o) ∧ Below w.heap.size w W ∧ ∀ rest, idsF m = pre ++ rest → lowF (idsF m) 0 k = o)
    ?hI ?hIx ⟨0, k, bK, bO, bM, hB0, by omega, by omega, fun rest e => by rw [List.nil_append] at e; rw [e]⟩
    (fun x => { tmps := #[.int .i64 m, .int .i64 k, undef, .pointer (some ⟨w.heap.size, 0, none⟩), .int .i64 0, .pointer (some ⟨w.heap.size + 1, 0, none⟩), .int .i64 (x.1 : Int), .int .i64 m, .func (.func 150) #[] #[.pointer (some ⟨w.heap.size + 1 + 1, 0, none⟩)], .int .i64 (x.1 : Int), undef, undef, undef, undef, undef, undef, undef, undef, undef], defers := [] }) ?assign ?body ?done ?stop
  case hI =>
    rintro s W W' row ⟨o, kk, b1, b2, b3, hB, hL⟩ hg hr
    have hne : ∀ B t v, Boxed W B t v → some B ≠ row := fun B t v hb e => by
      obtain ⟨_, o', ho, hc⟩ := hr B e.symm
      rw [show W.heap[B]? = _ from hb] at ho
      cases ho
      cases hc
    exact ⟨o, kk, b1.kept hg (hne _ _ _ b1), b2.kept hg (hne _ _ _ b2), b3.kept hg (hne _ _ _ b3), hB.grown hg hB.size (fun r e => by have := (hr r e).1; simp at this; omega), hL⟩
  case hIx =>
    rintro c s W W' row ⟨hc', o, b2, hB, hL⟩ hg hr
    have hne : ∀ B t v, Boxed W B t v → some B ≠ row := fun B t v hb e => by
      obtain ⟨_, o', ho, hc⟩ := hr B e.symm
      rw [show W.heap[B]? = _ from hb] at ho
      cases ho
      cases hc
    exact ⟨hc', o, b2.kept hg (hne _ _ _ b2), hB.grown hg hB.size (fun r e => by have := (hr r e).1; simp at this; omega), hL⟩
  case assign =>
    intro l x W K hK
    gi_wp2
    exact hK
  case body =>
    rintro l pre x W ⟨o, kk, b1, b2, b3, hB, hkk, hkl, hL⟩ hlt
    have c1 := b1.cell
    have f1 := b1.frozen
    have c2 := b2.cell
    have f2 := b2.frozen
    have hx := x.2
    have hxz : (0 : Int) ≤ (x.1 : Int) := by omega
    have hxz' : (x.1 : Int) < 10 := by omega
    have hmo : Tryz.prog.follows .mixedOrders = true := by kernel_rfl
    have hw1 := wrap_two x
    have hw2 := wrap_two' x
    by_cases hk : kk < 1
    · gi_wp2
      exact ⟨KeepsFrom.refl _ _, rfl, o, b2, hB, fun rest e => by rw [hL (x :: rest) (by rw [e]; simp)]; simp only [lowF, if_pos hk]⟩
    · gi_wp2
      gi_region_o
      all_goals gi_wp2
      all_goals
        have b1' := (b1.other (B' := w.heap.size + 1) (by omega) (.int .i64 (orBit o x))).set (.int .i64 (kk - 1))
        have b2' := (b2.set (.int .i64 (orBit o x))).other (B' := w.heap.size) (by omega) (.int .i64 (kk - 1))
        have b3' := (b3.other (B' := w.heap.size + 1) (by omega) (.int .i64 (orBit o x))).other (B' := w.heap.size) (by omega) (.int .i64 (kk - 1))
        have hB' : Below w.heap.size w (((W.setCell ⟨w.heap.size + 1, 0, none⟩ (.int .i64 (orBit o x))).setCell ⟨w.heap.size, 0, none⟩ (.int .i64 (kk - 1))).drew) := ((hB.setCell (p := ⟨w.heap.size + 1, 0, none⟩) (by show w.heap.size ≤ w.heap.size + 1; omega) _).setCell (p := ⟨w.heap.size, 0, none⟩) (Nat.le_refl _) _).drew
        refine ⟨(((KeepsOthers.setCell _ _ _).trans (KeepsOthers.setCell _ _ _)).trans (KeepsOthers.drew _)).from _, fun u hu => ?_, orBit o x, kk - 1, b1', b2', b3', hB', by omega, by omega, fun rest e => ?_⟩
        · rw [b3.cell] at hu
          rw [← hu]
          exact b3'.cell
        · rw [hL (x :: rest) (by rw [e]; simp)]
          simp only [lowF, if_neg (show ¬ kk < 1 by omega)]
  case done =>
    rintro D ys W hD rfl ⟨o, kk, b1, b2, b3, hB, hkk, hkl, hL⟩ hK
    have hc := b2.cell
    gi_wp2
    refine ⟨by simp, .inl ⟨_, _, rfl, run_takeDeferred hK, ?_⟩⟩
    have := hL [] (by simp)
    refine ⟨_, results_tmp rfl _ _ _, by rw [this]; rfl, hB.trans (belowK_b (w := w) (Nat.le_refl _) W D _ _ (by simp at hD; omega) hK rfl rfl)⟩
  case stop =>
    rintro D c pre W hD ⟨rest, hr⟩ ⟨rfl, o, b2, hB, hL⟩ hK
    have hc := b2.cell
    gi_wp2
    refine ⟨by simp, .inl ⟨_, _, rfl, run_takeDeferred hK, ?_⟩⟩
    have := hL rest hr.symm
    refine ⟨_, results_tmp rfl _ _ _, by rw [this]; rfl, hB.trans (belowK_b (w := w) (Nat.le_refl _) W D _ _ (by simp at hD; omega) hK rfl rfl)⟩
theorem Lowest_any (m k : Int) (hm0 : -9223372036854775808 ≤ m) (hm1 : m ≤ 9223372036854775807) (hk0 : -9223372036854775808 ≤ k) (hk1 : k ≤ 9223372036854775807) (w : World) :
    Calls Tryz.prog 62 #[.int .i64 m, .int .i64 k] w fun e w' => e = .returned (.int .i64 (lowF (idsF m) 0 k)) ∧ Upd NoF w w' :=
  (callsIn_wide.1 (Lowest_in 3 (by omega) m k hm0 hm1 hk0 hk1 w)).mono fun _ _ ⟨h1, h2⟩ => ⟨h1, Upd.of_below h2 (fun i hi h => by omega)⟩
theorem IDs_any (m : Int) (hm0 : -9223372036854775808 ≤ m) (hm1 : m ≤ 9223372036854775807) (w : World) :
    Calls Tryz.prog 88 #[.int .i64 m] w fun e w' => ∃ v, e = .returned v ∧ Own w' 3 1 v (idsF m).length (idsV (idsF m)) ∧ (∀ k, OwnB v k → w.heap.size ≤ k) ∧ Upd NoF w w' :=
  (callsIn_wide.1 (IDs_in 3 (by omega) m hm0 hm1 w)).mono fun _ _ ⟨v, h1, h2, _, h3⟩ => ⟨v, h1, (own_of_row h2).1, (own_of_row h2).2, Upd.of_below h3 (fun i hi h => by omega)⟩
/-- committee.Select on plain data. -/
def selS (v : Nat) (k g : Int) : Int := lowF (idsF (bits .andNot .i64 (2 ^ v - 1) g)) 0 k
set_option maxRecDepth 100000 in
set_option maxHeartbeats 4000000 in
theorem Select_any (v : Nat) (k g : Int) (hv : v ≤ 10) (hk0 : -9223372036854775808 ≤ k) (hk1 : k ≤ 9223372036854775807) (hg0 : -9223372036854775808 ≤ bits .andNot .i64 (2 ^ v - 1) g) (hg1 : bits .andNot .i64 (2 ^ v - 1) g ≤ 9223372036854775807) (w : World) :
    Calls Tryz.prog 30 #[.int .i64 (v : Int), .int .i64 k, .int .i64 g] w fun e w' => e = .returned (.int .i64 (selS v k g)) ∧ Upd NoF w w' := by
  have m1 : max (v : Int) 0 = v := by omega
  have m2 : min (v : Int) 10 = v := by omega
  obtain ⟨p1, p2⟩ := pow_ten ⟨v, by omega⟩
  have p3 : wrap64 ((2 : Int) ^ v) = 2 ^ v := by rw [← IntWalk.i64_left]; exact p1
  have p4 : wrap64 ((2 : Int) ^ v - 1) = 2 ^ v - 1 := by rw [← IntWalk.i64_left]; exact p2
  have HL := Lib.hid (Lowest_any (bits .andNot .i64 (2 ^ v - 1) g) k hg0 hg1 hk0 hk1 w)
  have v0 : (0 : Int) ≤ (v : Int) := by omega
  have v1 : (v : Int) ≤ 10 := by omega
  dsimp only at p1 p2
  clear hg0 hg1
  go_enter Tryz.func30, Tryz.ntmps30
  go_wp2_with fail
  refine HL.out.mono ?_
  rintro e w' ⟨rfl, hu⟩
  go_wp2
  go_ret
  exact ⟨rfl, hu⟩
end

section
open Go

/-- A genesis. -/
structure GenS where
  n : Int
  stake : Int
  vals : List (List UInt8)
  accs : List (List UInt8)
  bals : List Int
def amtB (n : Int) : Bool := decide (0 ≤ n) && decide (n ≤ 1099511627776)
def validG (g : GenS) : Bool :=
  decide (1 ≤ g.n) && decide (g.n ≤ 7) && decide (1 ≤ g.vals.length) && decide (g.vals.length ≤ 10) && decide (g.n ≤ g.vals.length) && decide (1 ≤ g.accs.length) && decide (g.accs.length ≤ 16) && decide (g.bals.length = g.accs.length) && amtB g.stake && g.bals.all amtB
def encVals (l : List (List UInt8)) : List UInt8 := l.flatten
def encAccs (l : List (List UInt8)) (b : List Int) : List UInt8 := (List.zipWith (fun n a => n ++ beB a 6) l b).flatten
def encG (g : GenS) : List UInt8 := [1, byteAt g.n 0] ++ beB g.stake 6 ++ [byteAt g.vals.length 0] ++ encVals g.vals ++ [byteAt g.accs.length 0] ++ encAccs g.accs g.bals
def nm (b : UInt8) : List UInt8 := [b, 0, 0, 0, 0, 0, 0, 0]
/-- The genesis of the sanity check. -/
def awG : GenS := ⟨4, 0, [nm 1, nm 2, nm 3, nm 4], [nm 5], [1]⟩
theorem awG_valid : validG awG = true := by decide
end

section
open Go.RowKit Go.Maps

/-- A file: its name, its block, the value of its content, the content, the durable part. -/
structure FRec where
  nm : List UInt8
  fb : Nat
  cv : Value
  c : List UInt8
  dur : Nat

def fileR : Value → Option (DataW Unit × List MemPlace)
  | .pointer none => some (.nil, [])
  | .pointer (some ⟨b, 0, none⟩) => some (.lit (.int .i64 b), [])
  | _ => none

def entD (r : FRec) : Lit × DataW Unit := (.string r.nm, .lit (.int .i64 r.fb))
def mapD (L : List FRec) : DataW Unit := .map (L.map entD)

abbrev ptrV (b : Nat) : Value := .pointer (some ⟨b, 0, none⟩)

/-- The blocks of a disk. -/
def foot (d mb : Nat) (L : List FRec) : Nat → Prop := fun k => k = d ∨ k = mb ∨ ∃ r ∈ L, k = r.fb ∨ OwnB r.cv k

theorem keyed : Keyed Tryz.prog 9 := string_keyed Tryz.underlying9
section
variable {w : World} {d mb : Nat} {off armed : Bool} {left : Nat} {L : List FRec}

end

/-! ### lists of files -/
def insR (r : FRec) : List FRec → List FRec
  | [] => [r]
  | y :: l => if bytesBefore r.nm y.nm then r :: y :: l else y :: insR r l

def delR (nm : List UInt8) (L : List FRec) : List FRec := L.filter (fun r => !(r.nm == nm))

theorem mem_insR {r x : FRec} {L : List FRec} : x ∈ insR r L ↔ x = r ∨ x ∈ L := by
  induction L with
  | nil => simp [insR]
  | cons y l ih =>
    simp only [insR]
    split
    · simp
    · simp only [List.mem_cons, ih]
      constructor
      · rintro (h | h | h) <;> simp [h]
      · rintro (h | h | h) <;> simp [h]

theorem length_insR (r : FRec) (L : List FRec) : (insR r L).length = L.length + 1 := by
  induction L with
  | nil => rfl
  | cons y l ih => simp only [insR]; split <;> simp [ih]

theorem pairwise_insR {R : FRec → FRec → Prop} {r : FRec} {L : List FRec} (hs : ∀ a b, R a b → R b a) (h : L.Pairwise R) (hr : ∀ x ∈ L, R r x) : (insR r L).Pairwise R := by
  induction L with
  | nil => simp [insR]
  | cons y l ih =>
    rw [List.pairwise_cons] at h
    simp only [insR]
    split
    · exact List.pairwise_cons.2 ⟨hr, List.pairwise_cons.2 h⟩
    · refine List.pairwise_cons.2 ⟨fun x hx => ?_, ih h.2 (fun x hx => hr x (by simp [hx]))⟩
      rcases mem_insR.1 hx with rfl | hx
      · exact hs _ _ (hr y (by simp))
      · exact h.1 x hx

/-- How many entries a map has is how many its datum has. -/
theorem ownsMap_exact {w : World} {b n : Nat} {L : List FRec} (h : w.ownsMap Tryz.prog 9 fileR b n (mapD L)) : w.ownsMap Tryz.prog 9 fileR b L.length (mapD L) := by
  obtain ⟨es, clock, hb, F, hs, hD⟩ := h
  refine ⟨es, clock, hb, F, ?_, hD⟩
  have e1 : es.size = ((es.toList.map (Go.WideElems.rg Tryz.prog 9 fileR)).foldr DataW.insert []).length := by rw [length_sorted]; simp
  have e2 : (L.map entD) = ((es.toList.map (Go.WideElems.rg Tryz.prog 9 fileR)).foldr DataW.insert []) := by
    simp only [mapD] at hD
    injection hD
  rw [e1, ← e2]
  simp

theorem ownsMap_upd {F : Nat → Prop} {w w' : World} {b n : Nat} {D : DataW Unit} (h : w.ownsMap Tryz.prog 9 fileR b n D) (hu : Upd F w w') (hF : ¬ F b) : w'.ownsMap Tryz.prog 9 fileR b n D := by
  have hlt := h.lt
  obtain ⟨es, clock, hb, r⟩ := h
  exact ⟨es, clock, (hu.block b hlt hF).trans hb, r⟩

theorem ownsMap_ne_blk {w : World} {b n g : Nat} {t : TypeId} {cs : Array Value} {D : DataW Unit} (h : w.ownsMap Tryz.prog 9 fileR b n D) (hb : Blk w g t cs) : b ≠ g := by
  rintro rfl
  obtain ⟨es, clock, he, _⟩ := h
  unfold Blk at hb
  rw [he] at hb
  cases hb

theorem ownsMap_ne_own {w : World} {b n k : Nat} {e : TypeId} {size m : Nat} {v : Value} {xs : List Value} {D : DataW Unit} (h : w.ownsMap Tryz.prog 9 fileR b n D) (ho : Own w e size v m xs) (hk : OwnB v k) : b ≠ k := by
  rcases ho.2 with ⟨rfl, _⟩ | ⟨g, cap, cur, rfl, hb, _⟩
  · simp [OwnB, Value.ownBlock] at hk
  · simp [OwnB, Value.ownBlock] at hk
    exact hk ▸ ownsMap_ne_blk h hb

theorem Own.ne_of {w : World} {k g : Nat} {e t : TypeId} {size m : Nat} {v : Value} {xs : List Value} {cs : Array Value} (ho : Own w e size v m xs) (hb : Blk w g t cs) (hne : e ≠ t) (hk : OwnB v k) : k ≠ g := by
  rintro rfl
  exact ho.blk_ne hb hne hk

end

section
open Go.RowKit

abbrev u64V (x : Int) : Value := .int .u64 x

set_option maxRecDepth 100000 in
theorem rotate_13 (x : Int) (w : World) : Calls Tryz.prog 149 #[u64V x, .int .i64 13] w fun e w' => e = .returned (u64V (rot13 x)) ∧ w = w' := by
  have e0 : bits .and .u64 13 63 = 13 := by decide
  go_enter Tryz.func149, Tryz.ntmps149
  go_wp2
  go_ret
  exact ⟨rfl, rfl⟩
set_option maxRecDepth 100000 in
theorem rotate_32 (x : Int) (w : World) : Calls Tryz.prog 149 #[u64V x, .int .i64 32] w fun e w' => e = .returned (u64V (rot32 x)) ∧ w = w' := by
  have e1 : bits .and .u64 32 63 = 32 := by decide
  go_enter Tryz.func149, Tryz.ntmps149
  go_wp2
  go_ret
  exact ⟨rfl, rfl⟩

def MixPost (w : World) (g : Nat) (p : Int × Int) (e : Ending) (w' : World) : Prop := e = .returned (.tuple #[]) ∧ Blk w' g 172 #[u64V p.1, u64V p.2] ∧ Upd (fun k => k = g) w w'

def MixRel (w : World) (g n : Nat) (p : Int × Int) (i : Value) (wr : World) : Prop := ∃ k : Nat, k ≤ n ∧ i = .int .i64 k ∧ Blk wr g 172 #[u64V (mixN k p).1, u64V (mixN k p).2] ∧ Upd (fun k => k = g) w wr

set_option maxRecDepth 100000 in
set_option maxHeartbeats 2000000 in
theorem hmix_any {w : World} {g : Nat} {p : Int × Int} (h : Blk w g 172 #[u64V p.1, u64V p.2]) (n : Nat) (hn : n ≤ 1000) : Calls Tryz.prog 107 #[ptrV g, .int .i64 n] w (MixPost w g (mixN n p)) := by
  have H := Lib.hid h
  clear h
  go_enter Tryz.func107, Tryz.ntmps107
  go_wp2
  go_loopw [5] (fun i wr => MixRel w g n p i wr) (fun i _ => n - (intOf i).toNat)
  case atStart => exact ⟨0, Nat.zero_le _, rfl, H.out, Upd.refl _ _⟩
  case round =>
    obtain ⟨k, hk, rfl, hB, hU⟩ := hrel
    by_cases hlt : k < n
    · have t1 : decide ((k : Int) < n) = true := by simpa using hlt
      obtain ⟨q, hq⟩ : ∃ q, mixN k p = q := ⟨_, rfl⟩
      have hq1 : mixN (k + 1) p = mixS q := by rw [← hq]; rfl
      rw [hq] at hB
      obtain ⟨x, y⟩ := q
      simp only at hB
      have c0 : wr.cell? ⟨g, 0, none⟩ = some (u64V x) := hB.cell 0
      have c1 : wr.cell? ⟨g, 1, none⟩ = some (u64V y) := hB.cell 1
      have f0 : wr.frozen? ⟨g, 0, none⟩ = false := hB.frozen 0
      have f1 : wr.frozen? ⟨g, 1, none⟩ = false := hB.frozen 1
      have HB := Lib.hid hB
      have HU := Lib.hid hU
      have HQ := Lib.hid hq1
      clear hB hU hq hq1
      go_wp2
      go_region
      obtain ⟨w1, hw1⟩ : ∃ w1, w1 = (wr.setCell ⟨g, 0, none⟩ (u64V (IntKind.u64.wrap (x + y)))).drew := ⟨_, rfl⟩
      rw [← hw1]
      have B1 := Lib.hid (show Blk w1 g 172 #[u64V (IntKind.u64.wrap (x + y)), u64V y] ∧ Upd (fun k => k = g) w w1 from by
        rw [hw1]
        exact ⟨(HB.out.put 0 _).drew, (HU.out.setCell (p := ⟨g, 0, none⟩) (.inl rfl) _).drew⟩)
      have d0 : w1.drew.cell? ⟨g, 0, none⟩ = some (u64V (IntKind.u64.wrap (x + y))) := B1.out.1.drew.cell 0
      have d1 : w1.drew.cell? ⟨g, 1, none⟩ = some (u64V y) := B1.out.1.drew.cell 1
      have e0 : w1.drew.frozen? ⟨g, 0, none⟩ = false := B1.out.1.drew.frozen 0
      have e1 : w1.drew.frozen? ⟨g, 1, none⟩ = false := B1.out.1.drew.frozen 1
      clear hw1 c0 c1 f0 f1
      go_wp2_with fail
      go_still_tail 13, (by kernel_rfl)
      still_call ((rotate_13 y _).mono fun e w' ⟨a, b⟩ => ⟨a, b.symm⟩)
      repeat still_step
      refine wpStill_nil ?_
      change wpList _ _ _ _ _ w1.drew
      generalize hw2 : w1.drew = w2 at d0 d1 e0 e1 ⊢
      have W2 := Lib.hid hw2
      clear hw2
      go_wp2_with fail
      refine (rotate_32 _ _).mono ?_
      rintro e w' ⟨rfl, rfl⟩
      go_wp2
      go_roundw
      case rel =>
        refine ⟨k + 1, by omega, by go_num, ?_, ?_⟩
        · rw [HQ.out, ← W2.out]
          exact (B1.out.1.drew.put 1 _).put 0 _
        · rw [← W2.out]
          exact ((B1.out.2.drew).setCell (p := ⟨g, 1, none⟩) (.inl rfl) _).setCell (p := ⟨g, 0, none⟩) (.inl rfl) _
      case measure => simp [intOf]; omega
    · have t1 : decide ((k : Int) < n) = false := by simp; omega
      have HB := Lib.hid hB
      have HU := Lib.hid hU
      obtain rfl : k = n := by omega
      clear hB hU
      go_wp2
      go_end0
      exact ⟨rfl, HB.out, HU.out⟩
end

section
open Go.RowKit

/-- A name (an array of 8 bytes) as a value. -/
abbrev nameV (l : List UInt8) : Value := .agg (l.map byteV).toArray

theorem wrap_byte (z : Int) : Value.int .u8 (IntKind.u8.wrap z) = byteV (UInt8.ofNat (z % 256).toNat) := by
  have h1 := Int.emod_nonneg z (b := 256) (by omega)
  have h2 := Int.emod_lt_of_pos z (b := 256) (by omega)
  have : ((UInt8.ofNat (z % 256).toNat).toNat : Int) = z % 256 := by
    rw [UInt8.toNat_ofNat_of_lt' (by simp [UInt8.size]; omega)]
    omega
  rw [IntKind.wrap_u8', byteV, this]

set_option maxRecDepth 100000 in
theorem hOf_any (v : Int) (w : World) : Calls Tryz.prog 108 #[u64V v] w fun e w' => e = .returned (nameV (ofV v)) ∧ Upd NoF w w' := by
  go_enter Tryz.func108, Tryz.ntmps108
  go_wp2
  refine bodyPost_ret (v := nameV (ofV v)) (by simp [results, Tryz.results108, go_sem, ofV]; omega) rfl ⟨rfl, ?_⟩
  exact (Upd.refl NoF w).alloc _
/-! ### words -/
theorem word8 (b0 b1 b2 b3 b4 b5 b6 b7 : UInt8) (l : List UInt8) :
    bits .or .u64 (bits .or .u64 (bits .or .u64 (bits .or .u64 (bits .or .u64 (bits .or .u64 (bits .or .u64 (IntKind.u64.wrap ((b0.toNat : Int) * 72057594037927936)) (IntKind.u64.wrap ((b1.toNat : Int) * 281474976710656))) (IntKind.u64.wrap ((b2.toNat : Int) * 1099511627776))) (IntKind.u64.wrap ((b3.toNat : Int) * 4294967296)))
      (IntKind.u64.wrap ((b4.toNat : Int) * 16777216))) (IntKind.u64.wrap ((b5.toNat : Int) * 65536))) (IntKind.u64.wrap ((b6.toNat : Int) * 256))) (b7.toNat : Int) = ((wordN (b0 :: b1 :: b2 :: b3 :: b4 :: b5 :: b6 :: b7 :: l) : Nat) : Int) := by
  have h0 := b0.toNat_lt
  have h1 := b1.toNat_lt
  have h2 := b2.toNat_lt
  have h3 := b3.toNat_lt
  have h4 := b4.toNat_lt
  have h5 := b5.toNat_lt
  have h6 := b6.toNat_lt
  have h7 := b7.toNat_lt
  have e0 : IntKind.u64.wrap ((b0.toNat : Int) * 72057594037927936) = ((b0.toNat * 256 ^ (8 - 1) : Nat) : Int) := by
    rw [show ((b0.toNat : Int) * 72057594037927936) = ((b0.toNat * 256 ^ (8 - 1) : Nat) : Int) by omega]
    exact wrap_u64_nat _ (by omega)
  have s1 := or_place b0.toNat 1 b1 (by omega) (by omega)
  have s2 := or_place (b0.toNat * 256 + b1.toNat) 2 b2 (by omega) (by omega)
  have s3 := or_place ((b0.toNat * 256 + b1.toNat) * 256 + b2.toNat) 3 b3 (by omega) (by omega)
  have s4 := or_place (((b0.toNat * 256 + b1.toNat) * 256 + b2.toNat) * 256 + b3.toNat) 4 b4 (by omega) (by omega)
  have s5 := or_place ((((b0.toNat * 256 + b1.toNat) * 256 + b2.toNat) * 256 + b3.toNat) * 256 + b4.toNat) 5 b5 (by omega) (by omega)
  have s6 := or_place (((((b0.toNat * 256 + b1.toNat) * 256 + b2.toNat) * 256 + b3.toNat) * 256 + b4.toNat) * 256 + b5.toNat) 6 b6 (by omega) (by omega)
  have s7 := or_place ((((((b0.toNat * 256 + b1.toNat) * 256 + b2.toNat) * 256 + b3.toNat) * 256 + b4.toNat) * 256 + b5.toNat) * 256 + b6.toNat) 7 b7 (by omega) (by omega)
  have k1 : (281474976710656 : Int) = 2 ^ (56 - 8 * 1) := rfl
  have k2 : (1099511627776 : Int) = 2 ^ (56 - 8 * 2) := rfl
  have k3 : (4294967296 : Int) = 2 ^ (56 - 8 * 3) := rfl
  have k4 : (16777216 : Int) = 2 ^ (56 - 8 * 4) := rfl
  have k5 : (65536 : Int) = 2 ^ (56 - 8 * 5) := rfl
  have k6 : (256 : Int) = 2 ^ (56 - 8 * 6) := rfl
  have k7 : (b7.toNat : Int) = IntKind.u64.wrap ((b7.toNat : Int) * 2 ^ (56 - 8 * 7)) := by
    rw [show ((b7.toNat : Int) * 2 ^ (56 - 8 * 7)) = ((b7.toNat : Nat) : Int) by omega, wrap_u64_nat _ (by omega)]
  rw [e0, k1, s1, k2, s2, k3, s3, k4, s4, k5, s5, k6, s6]
  rw [show bits .or .u64 ((((((((b0.toNat * 256 + b1.toNat) * 256 + b2.toNat) * 256 + b3.toNat) * 256 + b4.toNat) * 256 + b5.toNat) * 256 + b6.toNat) * 256 ^ (7 - 6) : Nat) : Int) (b7.toNat : Int) = _ from (congrArg (bits .or .u64 _) k7).trans s7]
  have hl : 256 ^ (8 - (b0 :: b1 :: b2 :: b3 :: b4 :: b5 :: b6 :: b7 :: l).length) = 1 := by
    rw [show 8 - (b0 :: b1 :: b2 :: b3 :: b4 :: b5 :: b6 :: b7 :: l).length = 0 by simp]
  unfold wordN
  rw [hl]
  simp [be]

theorem wrap_u64_byte (b : UInt8) : IntKind.u64.wrap (b.toNat : Int) = b.toNat := by
  have := b.toNat_lt
  exact wrap_u64_nat _ (by omega)
theorem word8w (b0 b1 b2 b3 b4 b5 b6 b7 : UInt8) (l : List UInt8) :
    bits .or .u64 (bits .or .u64 (bits .or .u64 (bits .or .u64 (bits .or .u64 (bits .or .u64 (bits .or .u64 (IntKind.u64.wrap ((IntKind.u64.wrap (b0.toNat : Int)) * 72057594037927936)) (IntKind.u64.wrap ((IntKind.u64.wrap (b1.toNat : Int)) * 281474976710656))) (IntKind.u64.wrap ((IntKind.u64.wrap (b2.toNat : Int)) * 1099511627776))) (IntKind.u64.wrap ((IntKind.u64.wrap (b3.toNat : Int)) * 4294967296)))
      (IntKind.u64.wrap ((IntKind.u64.wrap (b4.toNat : Int)) * 16777216))) (IntKind.u64.wrap ((IntKind.u64.wrap (b5.toNat : Int)) * 65536))) (IntKind.u64.wrap ((IntKind.u64.wrap (b6.toNat : Int)) * 256))) (IntKind.u64.wrap (b7.toNat : Int)) = ((wordN (b0 :: b1 :: b2 :: b3 :: b4 :: b5 :: b6 :: b7 :: l) : Nat) : Int) := by
  simp only [wrap_u64_byte]
  exact word8 b0 b1 b2 b3 b4 b5 b6 b7 l

theorem eight (bs : List UInt8) (h : 8 ≤ bs.length) : ∃ b0 b1 b2 b3 b4 b5 b6 b7 l, bs = b0 :: b1 :: b2 :: b3 :: b4 :: b5 :: b6 :: b7 :: l := by
  match bs, h with
  | b0 :: b1 :: b2 :: b3 :: b4 :: b5 :: b6 :: b7 :: l, _ => exact ⟨b0, b1, b2, b3, b4, b5, b6, b7, l, rfl⟩

/-- The cells of a slice of bytes. -/
theorem rd_cells {w : World} {A : Option Addr} {n c : Nat} {bs : List UInt8} (h : Rd w 1 (.slice A n c) n (bs.map byteV)) (h0 : 0 < n) : ∃ g o, A = some ⟨g, o, none⟩ ∧ ∀ j b, bs[j]? = some b → w.cell? ⟨g, o + j, none⟩ = some (byteV b) := by
  obtain ⟨A', c', e, _, _, hl, hx⟩ := h
  obtain ⟨g, o, e', hc⟩ := hx h0
  injection e with e
  exact ⟨g, o, e.trans e', fun j b hb => hc j _ (by rw [List.getElem?_map, hb]; rfl)⟩

set_option maxRecDepth 100000 in
set_option maxHeartbeats 2000000 in
theorem hword_long {w : World} {v : Value} {bs : List UInt8} (h : Rd w 1 v bs.length (bs.map byteV)) (h8 : 8 ≤ bs.length) : Calls Tryz.prog 106 #[v] w fun e w' => e = .returned (u64V (wordN bs)) ∧ Upd NoF w w' := by
  obtain ⟨A, c, rfl, _⟩ := id h
  obtain ⟨g, o, rfl, hc⟩ := rd_cells h (by omega)
  obtain ⟨b0, b1, b2, b3, b4, b5, b6, b7, l, rfl⟩ := eight bs h8
  have W := Lib.hid (word8w b0 b1 b2 b3 b4 b5 b6 b7 l)
  have q0 : w.cell? ⟨g, o, none⟩ = some (byteV b0) := hc 0 b0 rfl
  have q1 := hc 1 b1 rfl
  have q2 := hc 2 b2 rfl
  have q3 := hc 3 b3 rfl
  have q4 := hc 4 b4 rfl
  have q5 := hc 5 b5 rfl
  have q6 := hc 6 b6 rfl
  have q7 := hc 7 b7 rfl
  generalize hN : wordN (b0 :: b1 :: b2 :: b3 :: b4 :: b5 :: b6 :: b7 :: l) = N at W ⊢
  generalize (b0 :: b1 :: b2 :: b3 :: b4 :: b5 :: b6 :: b7 :: l).length = n at h8 ⊢
  have t0 : decide ((8 : Int) ≤ n) = true := by simp; omega
  have z0 : (0 : Int) < n := by omega
  have z1 : (1 : Int) < n := by omega
  have z2 : (2 : Int) < n := by omega
  have z3 : (3 : Int) < n := by omega
  have z4 : (4 : Int) < n := by omega
  have z5 : (5 : Int) < n := by omega
  have z6 : (6 : Int) < n := by omega
  have z7 : (7 : Int) < n := by omega
  have y0 : 0 < n := by omega
  have y1 : 1 < n := by omega
  have y2 : 2 < n := by omega
  have y3 : 3 < n := by omega
  have y4 : 4 < n := by omega
  have y5 : 5 < n := by omega
  have y6 : 6 < n := by omega
  have y7 : 7 < n := by omega
  clear h hc hN
  go_enter Tryz.func106, Tryz.ntmps106
  go_wp2
  go_quiet (fail)
  go_wp2
  go_ret
  refine ⟨?_, (Upd.refl NoF w).drewN _⟩
  rw [← W.out]
  rfl

def WordRel (bs : List UInt8) (x i : Value) : Prop := ∃ k : Nat, k ≤ bs.length ∧ i = .int .i64 k ∧ x = u64V ((be (bs.take k) * 256 ^ (8 - k) : Nat) : Int)
end

section
open Go.RowKit

theorem idx0 (b0 b1 b2 b3 b4 b5 b6 b7 : UInt8) (w : World) : (Instr.index 28 (nameV [b0, b1, b2, b3, b4, b5, b6, b7]) (.int .i64 0)).run Tryz.prog w = .ok (byteV b0) w := by kernel_rfl
theorem idx1 (b0 b1 b2 b3 b4 b5 b6 b7 : UInt8) (w : World) : (Instr.index 28 (nameV [b0, b1, b2, b3, b4, b5, b6, b7]) (.int .i64 1)).run Tryz.prog w = .ok (byteV b1) w := by kernel_rfl
theorem idx2 (b0 b1 b2 b3 b4 b5 b6 b7 : UInt8) (w : World) : (Instr.index 28 (nameV [b0, b1, b2, b3, b4, b5, b6, b7]) (.int .i64 2)).run Tryz.prog w = .ok (byteV b2) w := by kernel_rfl
theorem idx3 (b0 b1 b2 b3 b4 b5 b6 b7 : UInt8) (w : World) : (Instr.index 28 (nameV [b0, b1, b2, b3, b4, b5, b6, b7]) (.int .i64 3)).run Tryz.prog w = .ok (byteV b3) w := by kernel_rfl
theorem idx4 (b0 b1 b2 b3 b4 b5 b6 b7 : UInt8) (w : World) : (Instr.index 28 (nameV [b0, b1, b2, b3, b4, b5, b6, b7]) (.int .i64 4)).run Tryz.prog w = .ok (byteV b4) w := by kernel_rfl
theorem idx5 (b0 b1 b2 b3 b4 b5 b6 b7 : UInt8) (w : World) : (Instr.index 28 (nameV [b0, b1, b2, b3, b4, b5, b6, b7]) (.int .i64 5)).run Tryz.prog w = .ok (byteV b5) w := by kernel_rfl
theorem idx6 (b0 b1 b2 b3 b4 b5 b6 b7 : UInt8) (w : World) : (Instr.index 28 (nameV [b0, b1, b2, b3, b4, b5, b6, b7]) (.int .i64 6)).run Tryz.prog w = .ok (byteV b6) w := by kernel_rfl
theorem idx7 (b0 b1 b2 b3 b4 b5 b6 b7 : UInt8) (w : World) : (Instr.index 28 (nameV [b0, b1, b2, b3, b4, b5, b6, b7]) (.int .i64 7)).run Tryz.prog w = .ok (byteV b7) w := by kernel_rfl
/-- An element of a name. -/
theorem index_name (l : List UInt8) (hl : l.length = 8) (k : Nat) (b : UInt8) (hb : l[k]? = some b) (w : World) : (Instr.index 28 (nameV l) (.int .i64 (k : Int))).run Tryz.prog w = .ok (byteV b) w := by
  obtain ⟨b0, b1, b2, b3, b4, b5, b6, b7, l', rfl⟩ := eight l (by omega)
  obtain rfl : l' = [] := by simpa using hl
  match k, hb with
  | 0, rfl => exact idx0 b0 b1 b2 b3 b4 b5 b6 b7 w
  | 1, rfl => exact idx1 b0 b1 b2 b3 b4 b5 b6 b7 w
  | 2, rfl => exact idx2 b0 b1 b2 b3 b4 b5 b6 b7 w
  | 3, rfl => exact idx3 b0 b1 b2 b3 b4 b5 b6 b7 w
  | 4, rfl => exact idx4 b0 b1 b2 b3 b4 b5 b6 b7 w
  | 5, rfl => exact idx5 b0 b1 b2 b3 b4 b5 b6 b7 w
  | 6, rfl => exact idx6 b0 b1 b2 b3 b4 b5 b6 b7 w
  | 7, rfl => exact idx7 b0 b1 b2 b3 b4 b5 b6 b7 w

def NumRel (l : List UInt8) (x i : Value) : Prop := ∃ k : Nat, k ≤ 8 ∧ i = .int .i64 k ∧ x = u64V ((be (l.take k) : Nat) : Int)

set_option maxRecDepth 100000 in
set_option maxHeartbeats 2000000 in
theorem hNumber_any (l : List UInt8) (hl : l.length = 8) (w : World) : Calls Tryz.prog 77 #[nameV l] w fun e w' => e = .returned (u64V (be l)) ∧ Upd NoF w w' := by
  have IX := Lib.hid (index_name l hl)
  obtain ⟨b0, b1, b2, b3, b4, b5, b6, b7, l', rfl⟩ := eight l (by omega)
  obtain rfl : l' = [] := by simpa using hl
  have HL := Lib.hid hl
  clear hl
  go_enter Tryz.func77, Tryz.ntmps77
  go_wp2
  go_loop [3, 7] (fun x i => NumRel [b0, b1, b2, b3, b4, b5, b6, b7] x i) (fun _ i => 8 - (intOf i).toNat)
  case atStart => exact ⟨0, by omega, rfl, rfl⟩
  case round =>
    obtain ⟨k, hk, rfl, rfl⟩ := hrel
    by_cases hlt : k < 8
    · obtain ⟨b, hb⟩ : ∃ b, [b0, b1, b2, b3, b4, b5, b6, b7][k]? = some b := ⟨_, List.getElem?_eq_getElem hlt⟩
      have IXk : ∀ w, (Instr.index 28 (.agg #[byteV b0, byteV b1, byteV b2, byteV b3, byteV b4, byteV b5, byteV b6, byteV b7]) (.int .i64 (k : Int))).run Tryz.prog w = .ok (byteV b) w := IX.out k b hb
      have HE := Lib.hid (be_take_succ _ k b hb)
      have HO := Lib.hid (or_byte (be (List.take k [b0, b1, b2, b3, b4, b5, b6, b7])) b (by
        have h1 := be_take_lt [b0, b1, b2, b3, b4, b5, b6, b7] k
        have h2 : (256 : Nat) ^ k ≤ 256 ^ 7 := Nat.pow_le_pow_right (by omega) (by omega)
        omega))
      have t1 : decide ((k : Int) < 8) = true := by simp; omega
      have t1' : decide (k < 8) = true := by simp; omega
      generalize be (List.take k [b0, b1, b2, b3, b4, b5, b6, b7]) = u at HE HO ⊢
      clear hb
      go_wp2
      go_round
      case rel =>
        refine ⟨k + 1, by omega, by go_num, ?_⟩
        rw [HE.out, wrap_u64_byte, HO.out]
      case measure => simp [intOf]; omega
    · have t1 : decide ((k : Int) < 8) = false := by simp; omega
      have t1' : decide (k < 8) = false := by simp; omega
      obtain rfl : k = 8 := by omega
      go_wp2
      go_ret
      exact ⟨rfl, (Upd.refl NoF w).alloc _⟩

theorem be_pad (bs : List UInt8) (n : Nat) : be (bs ++ List.replicate n 0) = be bs * 256 ^ n := by
  induction n with
  | zero => simp
  | succ n ih =>
    rw [List.replicate_succ', ← List.append_assoc, be_snoc, ih, Nat.pow_succ]
    simp [Nat.mul_assoc]

/-- 'copy' of bytes into a block that is known whole. -/
theorem run_copy_bytes {w : World} {g o dl dc : Nat} {cur : Array Value} {t : TypeId} (hb : Blk w g t cur) {v : Value} {n : Nat} {bs : List UInt8} (hr : Rd w 1 v n (bs.map byteV)) (h0 : 0 < n) (k : Nat) (hk : k = Nat.min n dl) (hfit : o + k ≤ cur.size) (ty : TypeId) :
    ∃ w', (Builtin.copy_ #[52, 52] ty #[.slice (some ⟨g, o, none⟩) dl dc, v]).run Tryz.prog w = .ok (.int .i64 (k : Int)) w' ∧ Blk w' g t (cur.toList.take o ++ (bs.take k).map byteV ++ cur.toList.drop (o + k)).toArray ∧ Upd (fun j => j = g) w w' := by
  obtain ⟨A, c, rfl, hn, hc, hl, hx⟩ := hr
  obtain ⟨g0, o0, rfl, hcell⟩ := hx h0
  have hlen : ((bs.take k).map byteV).length = k := by
    simp at hl ⊢
    have : k ≤ n := by rw [hk]; exact Nat.min_le_left _ _
    omega
  have hr := run_copy_row (P := Tryz.prog) w 52 52 ty 5 g o dl dc ⟨g0, o0, none⟩ n c cur t ((bs.take k).map byteV) Tryz.underlying52 (by kernel_rfl) hb (by rw [hlen]; exact hk) (fun j u hu => by
    have hadd : (⟨g0, o0, none⟩ : Addr).add j = ⟨g0, o0 + j, none⟩ := by unfold Addr.add; split <;> simp_all
    rw [hadd]
    refine hcell j u ?_
    rw [List.map_take, List.getElem?_take] at hu
    split at hu
    · exact hu
    · cases hu) (by rw [hlen]; exact hfit) (bytes_oneCell _)
  rw [hlen] at hr
  exact ⟨_, hr, hb.row _, (Upd.refl (fun j => j = g) w).setRow (.inl rfl) _⟩

set_option maxRecDepth 100000 in
set_option maxHeartbeats 2000000 in
theorem hword_short {w : World} {v : Value} {bs : List UInt8} (h : Rd w 1 v bs.length (bs.map byteV)) (h8 : bs.length < 8) (h0 : 0 < bs.length) : Calls Tryz.prog 106 #[v] w fun e w' => e = .returned (u64V (wordN bs)) ∧ Upd NoF w w' := by
  obtain ⟨A, c, rfl, _⟩ := id h
  have t0 : decide ((8 : Int) ≤ bs.length) = false := by simp; omega
  have t0' : decide (8 ≤ bs.length) = false := by simp; omega
  have E := Lib.hid (show be (bs ++ List.replicate (8 - bs.length) 0) = wordN bs by rw [be_pad]; unfold wordN; rw [List.take_of_length_le (by omega)])
  have hA : Upd NoF w (w.alloc (.cells #[.int .u8 0, .int .u8 0, .int .u8 0, .int .u8 0, .int .u8 0, .int .u8 0, .int .u8 0, .int .u8 0] 28)) := (Upd.refl NoF w).alloc _
  obtain ⟨w2, hcp, hB2, hU2⟩ := run_copy_bytes (dl := 8) (dc := 8) (o := 0) (Blk.new w 28 #[.int .u8 0, .int .u8 0, .int .u8 0, .int .u8 0, .int .u8 0, .int .u8 0, .int .u8 0, .int .u8 0]) (show Rd _ 1 (.slice A bs.length c) bs.length (bs.map byteV) from by
    intros
    obtain ⟨A', c', e, h1, h2, h3, hx⟩ := h
    exact ⟨A', c', e, h1, h2, h3, fun h0 => by
      obtain ⟨g, o, e', hc⟩ := hx h0
      exact ⟨g, o, e', fun j u hu => hA.cell (hc j u hu) (fun h => h)⟩⟩) h0 bs.length (by simp only [Nat.min_def]; split <;> omega) (by simp; omega) 3
  have U2 := Lib.hid (show Upd NoF w w2 from hA.trans hU2 (fun k hk e => by omega))
  have B2 := Lib.hid (show Blk w2 w.heap.size 28 ((bs ++ List.replicate (8 - bs.length) 0).map byteV).toArray from by
    have e1 : ((#[Value.int .u8 0, .int .u8 0, .int .u8 0, .int .u8 0, .int .u8 0, .int .u8 0, .int .u8 0, .int .u8 0] : Array Value).toList.take 0 ++ (bs.take bs.length).map byteV ++ (#[Value.int .u8 0, .int .u8 0, .int .u8 0, .int .u8 0, .int .u8 0, .int .u8 0, .int .u8 0, .int .u8 0] : Array Value).toList.drop (0 + bs.length)).toArray = ((bs ++ List.replicate (8 - bs.length) 0).map byteV).toArray := by
      have e2 : [Value.int .u8 0, .int .u8 0, .int .u8 0, .int .u8 0, .int .u8 0, .int .u8 0, .int .u8 0, .int .u8 0] = List.replicate 8 (byteV 0) := rfl
      simp only [List.take_zero, List.nil_append, List.take_length, Nat.zero_add, e2, List.drop_replicate, List.map_append, List.map_replicate]
    rw [← e1]
    exact hB2)
  obtain ⟨pl, hpl⟩ : ∃ pl, pl = bs ++ List.replicate (8 - bs.length) 0 := ⟨_, rfl⟩
  rw [← hpl] at B2 E
  have hpl8 : pl.length = 8 := by rw [hpl]; simp; omega
  have CN := Lib.hid (hNumber_any pl hpl8 w2)
  obtain ⟨b0, b1, b2, b3, b4, b5, b6, b7, l', rfl⟩ := eight pl (by omega)
  obtain rfl : l' = [] := by simpa using hpl8
  have q0 : w2.cell? ⟨w.heap.size, 0, none⟩ = some (byteV b0) := B2.out.cell 0
  have q1 : w2.cell? ⟨w.heap.size, 1, none⟩ = some (byteV b1) := B2.out.cell 1
  have q2 : w2.cell? ⟨w.heap.size, 2, none⟩ = some (byteV b2) := B2.out.cell 2
  have q3 : w2.cell? ⟨w.heap.size, 3, none⟩ = some (byteV b3) := B2.out.cell 3
  have q4 : w2.cell? ⟨w.heap.size, 4, none⟩ = some (byteV b4) := B2.out.cell 4
  have q5 : w2.cell? ⟨w.heap.size, 5, none⟩ = some (byteV b5) := B2.out.cell 5
  have q6 : w2.cell? ⟨w.heap.size, 6, none⟩ = some (byteV b6) := B2.out.cell 6
  have q7 : w2.cell? ⟨w.heap.size, 7, none⟩ = some (byteV b7) := B2.out.cell 7
  clear h hA hB2 hU2 hpl hpl8
  go_enter Tryz.func106, Tryz.ntmps106
  go_wp2_with fail
  refine CN.out.mono ?_
  rintro e w3 ⟨rfl, hu3⟩
  go_wp2
  go_ret
  exact ⟨congrArg (fun z : Nat => Ending.returned (u64V z)) E.out, U2.out.trans hu3 (fun _ _ h => h)⟩

theorem hword_any {w : World} {v : Value} {bs : List UInt8} (h : Rd w 1 v bs.length (bs.map byteV)) (h0 : 0 < bs.length) : Calls Tryz.prog 106 #[v] w fun e w' => e = .returned (u64V (wordN bs)) ∧ Upd NoF w w' := by
  rcases Nat.lt_or_ge bs.length 8 with h8 | h8
  · exact hword_short h h8 h0
  · exact hword_long h h8
end

section
open Go.RowKit

def voteCells (v : VoteS) : List Value := [.int .i64 v.kind, .int .i64 v.slot, .int .i64 v.round, .int .i64 v.choice, .int .i64 v.signer, .int .i64 v.support] ++ v.parent.map byteV ++ v.value.map byteV
abbrev voteV (v : VoteS) : Value := .agg (voteCells v).toArray
abbrev signedV (s : SignedS) (u : Value) : Value := .agg (voteCells s.vote ++ [u]).toArray

theorem byte_beq (a b : UInt8) : (((a.toNat : Nat) : Int) == ((b.toNat : Nat) : Int)) = (a == b) := by
  rw [Bool.eq_iff_iff]
  simp [← UInt8.toNat_inj]
  omega

theorem beq_dec (a b : List UInt8) : (a == b) = decide (a = b) := by rw [Bool.eq_iff_iff]; simp

theorem eq_u8 (d : Nat) (a b : UInt8) (w : World) : (Op.equalIn (d + 1) 5 (byteV a) (byteV b)).run Tryz.prog w = .ok (a == b) w := by
  rw [run_equalIn_int w d 5 .u8 .u8 _ _ Tryz.underlying5, byte_beq]

theorem part8_0 (x0 x1 x2 x3 x4 x5 x6 x7 : UInt8) (w : World) : (part 5 #[byteV x0, byteV x1, byteV x2, byteV x3, byteV x4, byteV x5, byteV x6, byteV x7] 0).run Tryz.prog w = .ok (byteV x0) w := by kernel_rfl
theorem part8_1 (x0 x1 x2 x3 x4 x5 x6 x7 : UInt8) (w : World) : (part 5 #[byteV x0, byteV x1, byteV x2, byteV x3, byteV x4, byteV x5, byteV x6, byteV x7] 1).run Tryz.prog w = .ok (byteV x1) w := by kernel_rfl
theorem part8_2 (x0 x1 x2 x3 x4 x5 x6 x7 : UInt8) (w : World) : (part 5 #[byteV x0, byteV x1, byteV x2, byteV x3, byteV x4, byteV x5, byteV x6, byteV x7] 2).run Tryz.prog w = .ok (byteV x2) w := by kernel_rfl
theorem part8_3 (x0 x1 x2 x3 x4 x5 x6 x7 : UInt8) (w : World) : (part 5 #[byteV x0, byteV x1, byteV x2, byteV x3, byteV x4, byteV x5, byteV x6, byteV x7] 3).run Tryz.prog w = .ok (byteV x3) w := by kernel_rfl
theorem part8_4 (x0 x1 x2 x3 x4 x5 x6 x7 : UInt8) (w : World) : (part 5 #[byteV x0, byteV x1, byteV x2, byteV x3, byteV x4, byteV x5, byteV x6, byteV x7] 4).run Tryz.prog w = .ok (byteV x4) w := by kernel_rfl
theorem part8_5 (x0 x1 x2 x3 x4 x5 x6 x7 : UInt8) (w : World) : (part 5 #[byteV x0, byteV x1, byteV x2, byteV x3, byteV x4, byteV x5, byteV x6, byteV x7] 5).run Tryz.prog w = .ok (byteV x5) w := by kernel_rfl
theorem part8_6 (x0 x1 x2 x3 x4 x5 x6 x7 : UInt8) (w : World) : (part 5 #[byteV x0, byteV x1, byteV x2, byteV x3, byteV x4, byteV x5, byteV x6, byteV x7] 6).run Tryz.prog w = .ok (byteV x6) w := by kernel_rfl
theorem part8_7 (x0 x1 x2 x3 x4 x5 x6 x7 : UInt8) (w : World) : (part 5 #[byteV x0, byteV x1, byteV x2, byteV x3, byteV x4, byteV x5, byteV x6, byteV x7] 7).run Tryz.prog w = .ok (byteV x7) w := by kernel_rfl

set_option maxRecDepth 100000 in
theorem name_equal (d : Nat) (a b : List UInt8) (ha : a.length = 8) (hb : b.length = 8) (w : World) : (Op.equalIn (d + 2) 28 (nameV a) (nameV b)).run Tryz.prog w = .ok (a == b) w := by
  obtain ⟨a0, a1, a2, a3, a4, a5, a6, a7, l, rfl⟩ := eight a (by omega)
  obtain ⟨b0, b1, b2, b3, b4, b5, b6, b7, r, rfl⟩ := eight b (by omega)
  obtain rfl : l = [] := by simpa using ha
  obtain rfl : r = [] := by simpa using hb
  have hsz : ∀ w, (sizeOf 5).run Tryz.prog w = .ok 1 w := fun w => by kernel_rfl
  have E := eq_u8 d
  rw [Op.equalIn]
  simp only [Sem.run_bind, run_underlying Tryz.underlying28, Result.andThen_ok, hsz]
  simp only [Std.Legacy.Range.forIn_eq_forIn_range', Std.Legacy.Range.size, Nat.sub_zero, Nat.add_sub_cancel, Nat.div_one, List.range'_succ, List.range'_zero, List.forIn_cons, List.forIn_nil, List.map_cons, List.map_nil]
  by_cases h0 : a0 = b0
  rotate_left
  · simp [h0, part8_0, E]
  by_cases h1 : a1 = b1
  rotate_left
  · simp [h0, h1, part8_0, part8_1, E]
  by_cases h2 : a2 = b2
  rotate_left
  · simp [h0, h1, h2, part8_0, part8_1, part8_2, E]
  by_cases h3 : a3 = b3
  rotate_left
  · simp [h0, h1, h2, h3, part8_0, part8_1, part8_2, part8_3, E]
  by_cases h4 : a4 = b4
  rotate_left
  · simp [h0, h1, h2, h3, h4, part8_0, part8_1, part8_2, part8_3, part8_4, E]
  by_cases h5 : a5 = b5
  rotate_left
  · simp [h0, h1, h2, h3, h4, h5, part8_0, part8_1, part8_2, part8_3, part8_4, part8_5, E]
  by_cases h6 : a6 = b6
  rotate_left
  · simp [h0, h1, h2, h3, h4, h5, h6, part8_0, part8_1, part8_2, part8_3, part8_4, part8_5, part8_6, E]
  by_cases h7 : a7 = b7
  rotate_left
  · simp [h0, h1, h2, h3, h4, h5, h6, h7, part8_0, part8_1, part8_2, part8_3, part8_4, part8_5, part8_6, part8_7, E]
  simp [h0, h1, h2, h3, h4, h5, h6, h7, part8_0, part8_1, part8_2, part8_3, part8_4, part8_5, part8_6, part8_7, E]

theorem name_eql (a b : List UInt8) (ha : a.length = 8) (hb : b.length = 8) (w : World) : (binOp .eql 28 (nameV a) (nameV b)).run Tryz.prog w = .ok (.bool (a == b)) w := by
  rw [run_eql_struct, show (10000 : Nat) = 9998 + 2 from rfl, name_equal 9998 a b ha hb w]
  rfl
theorem name_neq (a b : List UInt8) (ha : a.length = 8) (hb : b.length = 8) (w : World) : (binOp .neq 28 (nameV a) (nameV b)).run Tryz.prog w = .ok (.bool (!(a == b))) w := by
  rw [run_neq_struct, show (10000 : Nat) = 9998 + 2 from rfl, name_equal 9998 a b ha hb w]
  rfl
end

section
open Go.RowKit
end

section
open Go.RowKit
end

section
open Go.RowKit
end

section
open Go.RowKit
end

section
open Go.RowKit
end

section
open Go.RowKit
end
end Go.Proofs.YtengcmfdfmnacaaGreat
