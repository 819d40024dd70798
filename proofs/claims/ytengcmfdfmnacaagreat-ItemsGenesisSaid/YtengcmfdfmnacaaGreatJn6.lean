/- committee.Has, members, IDs. No condition. committee.Lowest, Select. No condition. slices.IndexFunc over rows of cells; items.Find. No condition. cmp.Compare, cmp.Or, the order of names. No condition. -/
import Derived.RangeFuncBox
import Derived.RangeFuncLeaves
import Derived.RangeFuncNested
import Derived.Shelf.Abstract
import Derived.WalkKit
import Derived.OwnWalkIn
import Derived.TacticsInMore
import Derived.LoopNIn
import Derived.LoopIn
import Derived.Maps.AppendAt
import Derived.Lib.Hide
import Derived.Test.YtengcmfdfmnacaaGreatJn1
import Derived.Test.YtengcmfdfmnacaaGreatProg
import Derived.Shelf.RegionOpen
import Derived.Test.YtengcmfdfmnacaaGreatJn5
import Derived.Test.YtengcmfdfmnacaaGreatJn4
import Derived.Deep.LoopGhost
import Derived.Test.YtengcmfdfmnacaaGreatJn2
namespace Go.Proofs.YtengcmfdfmnacaaGreat
section
open Go.RowKit Go.Shelf

attribute [local go_sem] Oper.semAt_some

/-- Bit k of a mask. -/
def hasB (m : Int) (k : Nat) : Bool := bits .and .i64 (m / 2 ^ k) 1 == 1
set_option maxRecDepth 100000 in
set_option maxHeartbeats 2000000 in
theorem Has_any (m : Int) (k : Nat) (hk : k < 10) (_h0 : -9223372036854775808 ≤ m) (_h1 : m ≤ 9223372036854775807) (w : World) : Calls Tryz.prog 151 #[.int .i64 m, .int .i64 (k : Int)] w fun e w' => e = .returned (.bool (hasB m k)) ∧ w' = w := by
  have t1 : (k : Int) < 10 := by omega
  go_enter Tryz.func151, Tryz.ntmps151
  go_wp2
  go_ret
  exact ⟨rfl, rfl⟩
/-- The ids below k in a mask. -/
def idsTo (m : Int) (k : Nat) : List (Fin 10) := ((List.finRange 10).take k).filter (fun i => hasB m i.1)
def idsF (m : Int) : List (Fin 10) := idsTo m 10
theorem idsTo_succ (m : Int) (k : Nat) (hk : k < 10) : idsTo m (k + 1) = if hasB m k = true then idsTo m k ++ [⟨k, hk⟩] else idsTo m k := by
  unfold idsTo
  rw [List.take_succ_eq_append_getElem (by simpa using hk), List.filter_append]
  have e : (List.finRange 10)[k]'(by simpa using hk) = ⟨k, hk⟩ := by simp
  rw [e]
  by_cases h : hasB m k = true
  · rw [if_pos h]; simp [h]
  · rw [if_neg h]; simp [h]
theorem idsTo_len (m : Int) (k : Nat) : (idsTo m k).length ≤ k := by
  unfold idsTo
  exact Nat.le_trans (List.length_filter_le _ _) (List.length_take_le _ _)
theorem idsTo_lt (m : Int) (k : Nat) (hk : k < 10) (h : hasB m k = true) : (idsTo m k).length < (idsF m).length ∧ idsTo m k ++ [⟨k, hk⟩] <+: idsF m := by
  have hp : idsTo m (k + 1) <+: idsF m := by
    have hq : (List.finRange 10).take (k + 1) <+: (List.finRange 10).take 10 := List.take_prefix_take_left (by omega)
    exact hq.filter _
  rw [idsTo_succ m k hk, if_pos h] at hp
  refine ⟨?_, hp⟩
  have := hp.length_le
  simp at this
  omega

/-- What a round of a range over members keeps: the mask's box. -/
def KpC (B : Nat) (W W' : World) : Prop := ∀ v, W.cell? ⟨B, 0, none⟩ = some v → W'.cell? ⟨B, 0, none⟩ = some v
theorem kpC_t {Bm : Nat} {A B C : World} (h : KpC Bm A B) (k : KpC Bm B C) : KpC Bm A C := fun v hv => k v (h v hv)
theorem kpC_b {Bm : Nat} {w : World} (W : World) (l : Nat) (o o' : Obj) (_ : w.heap.size ≤ l) (h : W.heap[l]? = some o) (hc : o.isCells = false) (_ : o.isWalk = false) : KpC Bm W (W.putObj l o') := fun _ hv => cell_kept hv (grownBy_putObj' W l o') (fun r e => by cases e; exact ⟨o, h, hc⟩)
set_option maxRecDepth 100000 in
set_option maxHeartbeats 4000000 in
theorem members1_in (n : Nat) (hn : 1 ≤ n) (l Bm : Nat) (m : Int) (hm0 : -9223372036854775808 ≤ m) (hm1 : m ≤ 9223372036854775807) (J Jx : List (Fin 10) → World → Prop)
    (hY : ∀ pre x W, J pre W → pre.length < (idsF m).length → YieldAt Fence.wide (n - 1) Tryz.prog l #[.int .i64 (x.1 : Int)] W fun e W' =>
      (e = .returned (.bool true) ∧ J (pre ++ [x]) W' ∧ KpC Bm W W') ∨ (e = .returned (.bool false) ∧ Jx (pre ++ [x]) W'))
    (W : World) (hc : W.cell? ⟨Bm, 0, none⟩ = some (.int .i64 m)) (h0 : J [] W) :
    CallsIn Fence.wide n Tryz.prog 150 #[.func (.yield l) #[] #[], .pointer (some ⟨Bm, 0, none⟩)] W fun e W' => (∃ v, e = .returned v) ∧ ((∃ ys, ys = idsF m ∧ J ys W') ∨ (∃ pre, pre <+: idsF m ∧ Jx pre W')) := by
  refine callsIn_of_wp Tryz.func150 rfl trivial ?_ rfl
  simp only [Tryz.ntmps150, List.size_toArray, List.length_cons, List.length_nil, Nat.reduceAdd, Nat.reduceSub, Array.replicate_succ, Array.replicate_zero, List.push_toArray, List.append_toArray, List.nil_append, List.cons_append]
  gi_wp2
  gi_loopw [4] (fun s wr => ∃ k : Nat, s = .int .i64 (k : Int) ∧ k ≤ 10 ∧ wr.cell? ⟨Bm, 0, none⟩ = some (.int .i64 m) ∧ J (idsTo m k) wr) (fun s _ => 10 - (intOf s).toNat)
  case atStart => exact ⟨0, rfl, by omega, hc, by simpa [idsTo] using h0⟩
  case round =>
    obtain ⟨k, rfl, hk, hcr, hJ⟩ := hrel
    by_cases hlt : k < 10
    · have hltz : (k : Int) < 10 := by omega
      have HC := Lib.hid (callsIn_wide.2 (Has_any m k hlt hm0 hm1 wr) : CallsIn Fence.wide (n - 1) Tryz.prog _ _ _ _)
      cases hb : hasB m k with
      | false =>
        have HS := Lib.hid (idsTo_succ m k hlt)
        rw [hb] at HC
        gi_wp2_with (refine ⟨trivial, ?_⟩; gi_at_call 151; refine HC.out.mono ?_; rintro e w' ⟨rfl, rfl⟩)
        refine ⟨fun _ h => (by cases h), ?_⟩
        gi_wp2
        go_roundw
        case rel => exact ⟨k + 1, by go_num, by omega, hcr, by rw [HS.out, if_neg (by rw [hb]; decide)]; exact hJ⟩
        case measure => simp [intOf]; omega
      | true =>
        obtain ⟨hlen, hpre⟩ := idsTo_lt m k hlt hb
        have HS := Lib.hid (idsTo_succ m k hlt)
        obtain ⟨fn, tmps, assign, body, hy, hR⟩ := hY (idsTo m k) ⟨k, hlt⟩ wr hJ hlen
        dsimp only at hy
        rw [hb] at HC
        gi_wp2_with (refine ⟨trivial, ?_⟩; gi_at_call 151; refine HC.out.mono ?_; rintro e w' ⟨rfl, rfl⟩)
        refine hR.mono ?_
        rintro e W3 (⟨rfl, hJ3, hk3⟩ | ⟨rfl, hJx3⟩)
        · have hc3 : W3.cell? ⟨Bm, 0, none⟩ = some (.int .i64 m) := hk3 _ hcr
          gi_wp2
          go_roundw
          case rel => exact ⟨k + 1, by go_num, by omega, hc3, by rw [HS.out, if_pos hb]; exact hJ3⟩
          case measure => simp [intOf]; omega
        · gi_wp2
          refine bodyPost_ret (results_none rfl _ _ _) rfl ?_
          exact ⟨⟨_, rfl⟩, .inr ⟨_, hpre, hJx3⟩⟩
    · have hk10 : k = 10 := by omega
      have hJ' := Lib.hid hJ
      subst hk10
      have hltz : ¬ ((10 : Nat) : Int) < 10 := by omega
      clear hJ
      gi_wp2
      go_end0
      exact ⟨⟨_, rfl⟩, .inl hJ'.out⟩
set_option maxHeartbeats 1000000 in
theorem members_in (n : Nat) (m : Int) (w : World) : CallsIn Fence.wide n Tryz.prog 109 #[.int .i64 m] w fun e w' => e = .returned (.func (.func 150) #[] #[.pointer (some ⟨w.heap.size, 0, none⟩)]) ∧ w' = w.alloc (.cells #[.int .i64 m] 30) := by
  refine callsIn_of_wp Tryz.func109 rfl trivial ?_ rfl
  simp only [Tryz.ntmps109, List.size_toArray, List.length_cons, List.length_nil, Nat.reduceAdd, Nat.reduceSub, Array.replicate_succ, Array.replicate_zero, List.push_toArray, List.append_toArray, List.nil_append, List.cons_append]
  gi_wp2
  go_ret
  exact ⟨rfl, rfl⟩
theorem members_stops (n : Nat) (hn : 1 ≤ n) (Bm : Nat) (m : Int) (hm0 : -9223372036854775808 ≤ m) (hm1 : m ≤ 9223372036854775807) (w : World) (hBn : Bm < w.heap.size) (hc : w.cell? ⟨Bm, 0, none⟩ = some (.int .i64 m)) :
    SeqStopsK Fence.wide n Tryz.prog 150 #[.pointer (some ⟨Bm, 0, none⟩)] (fun x : Fin 10 => #[Value.int .i64 (x.1 : Int)]) (KpC Bm) (fun ys => ys = idsF m) (fun pre => pre <+: idsF m) (idsF m).length w := fun l J Jx W hW _ _ hY h0 =>
  members1_in n hn l Bm m hm0 hm1 J Jx hY W ((hW.cell (p := ⟨Bm, 0, none⟩) hBn).trans hc) h0
theorem own_of_row {w : World} {base : Nat} {e : TypeId} {size n : Nat} {v : Value} {xs : List Value} (h : w.ownsRow base e size v n xs) : Own w e size v n xs ∧ ∀ k, OwnB v k → base ≤ k := by
  refine ⟨⟨h.1, ?_⟩, fun k hk => ?_⟩
  · rcases h.2 with h | ⟨g, cap, cur, rfl, _, hg, h1, h2, h3, h4⟩
    · exact .inl h
    · exact .inr ⟨g, cap, cur, rfl, hg, h1, h2, Nat.le_of_eq h3.symm, h4⟩
  · exact (h.lt k hk).1
theorem int_info : (Tryz.prog.info? 3).map (fun i => (i.zero, i.size, i.bytes)) = some (some (.int .i64 0), 1, 8) := by kernel_rfl
def idsV (l : List (Fin 10)) : List Value := l.map (fun i => Value.int .i64 (i.1 : Int))
set_option maxRecDepth 100000 in
set_option maxHeartbeats 4000000 in
theorem IDs_in (n : Nat) (hn : 3 ≤ n) (m : Int) (hm0 : -9223372036854775808 ≤ m) (hm1 : m ≤ 9223372036854775807) (w : World) :
    CallsIn Fence.wide n Tryz.prog 88 #[.int .i64 m] w fun e W' => ∃ v, e = .returned v ∧ W'.ownsRow w.heap.size 3 1 v (idsF m).length (idsV (idsF m)) ∧ (v = .slice none 0 0 ↔ idsF m = []) ∧ Below w.heap.size w W' := by
  have h1 : 1 ≤ n := by omega
  obtain ⟨i0, hi, hz0, hz1, hz2⟩ := info_parts int_info
  refine callsIn_of_wp_marks Tryz.func88 rfl trivial ?_ rfl
  simp only [Tryz.ntmps88, List.size_toArray, List.length_cons, List.length_nil, Nat.reduceAdd, Nat.reduceSub, Array.replicate_succ, Array.replicate_zero, List.push_toArray, List.append_toArray, List.nil_append, List.cons_append]
  gi_wp2_with (refine ⟨trivial, ?_⟩; gi_at_call 109; refine (members_in (n - 1) _ _).mono ?_; rintro e w' ⟨rfl, rfl⟩)
  have bO := Boxed.new w 23 (.slice none 0 0)
  have bN := Boxed.new (w.alloc (.cells #[.slice none 0 0] 23)) 30 (.int .i64 m)
  rw [World.size_alloc] at bN
  have hB0 : Below w.heap.size w ((w.alloc (.cells #[.slice none 0 0] 23)).alloc (.cells #[.int .i64 m] 30)) := ((Below.refl _ w).alloc (Nat.le_refl _) _).alloc (by simp) _
  have hl10 : ∀ k, (idsTo m k).length ≤ k := idsTo_len m
  have hf10 : (idsF m).length ≤ 10 := idsTo_len m 10
  refine wpIn_rangeFunc_ownG rfl h1 (gf := 150) (lb := #[.pointer (some ⟨w.heap.size + 1, 0, none⟩)]) rfl trivial (enters_of Tryz.func150 (by kernel_rfl) rfl)
    (members_stops (n - 1) (by omega) (w.heap.size + 1) m hm0 hm1 _ (by simp) bN.cell) kpC_t kpC_b (Below.refl _ _) (fun _ => rfl)
    (fun pre W => (∃ v, Boxed W w.heap.size 23 v ∧ W.ownsRow w.heap.size 3 1 v pre.length (idsV pre) ∧ (v = .slice none 0 0 ↔ pre = []) ∧ pre.length ≤ 10) ∧ Boxed W (w.heap.size + 1) 30 (.int .i64 m) ∧ Below w.heap.size w W)
    (fun _ _ _ => False)
    (OwnFrom.and (Own.from (holdsRow_own w.heap.size w.heap.size 23 3 1 (fun pre => pre.length) (fun pre => idsV pre) (fun pre v => (v = .slice none 0 0 ↔ pre = []) ∧ pre.length ≤ 10)) _) (OwnFrom.and (Own.from (boxed_own (w.heap.size + 1) 30 (fun _ => .int .i64 m)) _) (ownFrom_below (Nat.le_refl _) (by simp; omega))))
    (fun _ _ _ _ _ hs _ _ => hs)
    ⟨⟨_, bO.alloc _, World.ownsRow_nil _ _ _ _, by simp⟩, bN, hB0⟩
    (fun x => { tmps := #[.int .i64 m, undef, .slice none 0 0, .pointer (some ⟨w.heap.size, 0, none⟩), .int .i64 (x.1 : Int), .int .i64 m, .func (.func 150) #[] #[.pointer (some ⟨w.heap.size + 1, 0, none⟩)], .int .i64 (x.1 : Int), undef, undef, undef, undef, undef], defers := [] }) ?assign ?body ?done ?stop
  case assign =>
    intro l x W K hK
    gi_wp2
    exact hK
  case body =>
    rintro l pre x W ⟨⟨v, hv, hrow, hnil, _⟩, hm, hB⟩ hlt
    have hc := hv.cell
    gi_wp2_with (gi_at_builtin; refine wpListIn_append_own _ rfl _ _ 23 rfl w.heap.size 3 i0 (.int .i64 0) 1 8 Tryz.underlying23 hi hz0 hz1 hz2 rfl (by decide) _ _ _ rfl (hrow.alloc _) ⟨W.heap.size, 0, none⟩ 1 1 [.int .i64 (x.1 : Int)] rfl rfl (cell_one_new _ _ _) (by simp [Value.oneCell']) (by unfold maxLen; omega) (by omega) (by have := hB.size; simp; omega) ?_; intro v' w1 hown' hgrow _; obtain ⟨g', cap', rfl⟩ := ownsRow_succ hown'; obtain ⟨hv1, hv2, hr2, hk2, hb2⟩ := hv.appended (by decide) hrow hB.size (Nat.le_refl _) hown' hgrow; have hm1' := (hm.alloc _).kept hgrow (hm.not_row (by decide) hrow); have hc1 := hv1.cell; have hf1 := hv1.frozen)
    have hm2 := hm1'.other (B' := w.heap.size) (by omega) (.slice (some ⟨g', 0, none⟩) (pre.length + 1) cap')
    exact ⟨hk2.from _, fun u hu => by rw [hm.cell] at hu; rw [← hu]; exact hm2.cell, ⟨_, hv2, by simpa [idsV] using hr2, by simp, by simp; omega⟩, hm2, hB.trans hb2⟩
  case done =>
    rintro D ys W hD rfl ⟨⟨v, hv, hrow, hnil, _⟩, -, hB⟩ hK
    have hc := hv.cell
    gi_wp2
    refine ⟨by simp, .inl ⟨_, _, rfl, run_takeDeferred hK, ?_⟩⟩
    exact ⟨_, results_tmp rfl _ _ _, v, rfl, ownsRow_putObj hrow _ hK rfl, hnil, hB.trans (belowK_b (w := w) (Nat.le_refl _) W D _ _ (by simp at hD; omega) hK rfl rfl)⟩
  case stop =>
    rintro D c pre W _ _ h _
    exact h.elim
end

section
open Go.RowKit Go.Shelf

attribute [local go_sem] Oper.semAt_some

def orBit (o : Int) (x : Fin 10) : Int := bits .or .i64 o (2 ^ x.1)
theorem wrap_two : ∀ x : Fin 10, IntKind.i64.wrap (2 ^ x.1) = 2 ^ x.1 := by decide
theorem wrap_two' (x : Fin 10) : wrap64 (2 ^ x.1) = 2 ^ x.1 := by rw [← IntWalk.i64_left]; exact wrap_two x
theorem pow_ten : ∀ v : Fin 11, IntKind.i64.wrap (2 ^ v.1) = 2 ^ v.1 ∧ IntKind.i64.wrap (2 ^ v.1 - 1) = 2 ^ v.1 - 1 := by decide
/-- The k least ids of a list, as a mask. -/
def lowF : List (Fin 10) → Int → Int → Int
  | [], o, _ => o
  | x :: l, o, k => if k < 1 then o else lowF l (orBit o x) (k - 1)
def LowI (m k : Int) (pre : List (Fin 10)) (o kk : Int) : Prop := kk ≤ k ∧ -9223372036854775808 ≤ kk ∧ ∀ rest, idsF m = pre ++ rest → lowF (idsF m) 0 k = lowF rest o kk
set_option maxRecDepth 100000 in
set_option maxHeartbeats 4000000 in
theorem Lowest_in (n : Nat) (hn : 3 ≤ n) (m k : Int) (hm0 : -9223372036854775808 ≤ m) (hm1 : m ≤ 9223372036854775807) (hk0 : -9223372036854775808 ≤ k) (hk1 : k ≤ 9223372036854775807) (w : World) :
    CallsIn Fence.wide n Tryz.prog 62 #[.int .i64 m, .int .i64 k] w fun e W' => e = .returned (.int .i64 (lowF (idsF m) 0 k)) ∧ Below w.heap.size w W' := by
  have h1 : 1 ≤ n := by omega
  refine callsIn_of_wp_marks Tryz.func62 rfl trivial ?_ rfl
  simp only [Tryz.ntmps62, List.size_toArray, List.length_cons, List.length_nil, Nat.reduceAdd, Nat.reduceSub, Array.replicate_succ, Array.replicate_zero, List.push_toArray, List.append_toArray, List.nil_append, List.cons_append]
  gi_wp2_with (refine ⟨trivial, ?_⟩; gi_at_call 109; refine (members_in (n - 1) _ _).mono ?_; rintro e w' ⟨rfl, rfl⟩)
  have bK := ((Boxed.new w 3 (.int .i64 k)).alloc (.cells #[.int .i64 0] 30)).alloc (.cells #[.int .i64 m] 30)
  have bO := (Boxed.new (w.alloc (.cells #[.int .i64 k] 3)) 30 (.int .i64 0)).alloc (.cells #[.int .i64 m] 30)
  have bM := Boxed.new ((w.alloc (.cells #[.int .i64 k] 3)).alloc (.cells #[.int .i64 0] 30)) 30 (.int .i64 m)
  rw [World.size_alloc] at bO
  rw [World.size_alloc, World.size_alloc] at bM
  have hB0 : Below w.heap.size w (((w.alloc (.cells #[.int .i64 k] 3)).alloc (.cells #[.int .i64 0] 30)).alloc (.cells #[.int .i64 m] 30)) := (((Below.refl _ w).alloc (Nat.le_refl _) _).alloc (by simp) _).alloc (by simp; omega) _
  refine wpIn_rangeFunc_ownG rfl h1 (gf := 150) (lb := #[.pointer (some ⟨w.heap.size + 1 + 1, 0, none⟩)]) rfl trivial (enters_of Tryz.func150 (by kernel_rfl) rfl)
    (members_stops (n - 1) (by omega) (w.heap.size + 1 + 1) m hm0 hm1 _ (by simp) bM.cell) kpC_t kpC_b (Below.refl _ _) (fun _ => rfl)
    (fun pre W => ∃ o kk, Boxed W w.heap.size 3 (.int .i64 kk) ∧ Boxed W (w.heap.size + 1) 30 (.int .i64 o) ∧ Boxed W (w.heap.size + 1 + 1) 30 (.int .i64 m) ∧ Below w.heap.size w W ∧ LowI m k pre o kk)
    (fun c pre W => c = .exit 0 ∧ ∃ o, Boxed W (w.heap.size + 1) 30 (.int .i64 o) ∧ Below w.heap.size w W ∧ ∀ rest, idsF m = pre ++ rest → lowF (idsF m) 0 k = o)
    ?hI ?hIx ⟨0, k, bK, bO, bM, hB0, by omega, by omega, fun rest e => by rw [List.nil_append] at e; rw [e]⟩
    (fun x => { tmps := #[.int .i64 m, .int .i64 k, undef, .pointer (some ⟨w.heap.size, 0, none⟩), .int .i64 0, .pointer (some ⟨w.heap.size + 1, 0, none⟩), .int .i64 (x.1 : Int), .int .i64 m, .func (.func 150) #[] #[.pointer (some ⟨w.heap.size + 1 + 1, 0, none⟩)], .int .i64 (x.1 : Int), undef, undef, undef, undef, undef, undef, undef, undef, undef], defers := [] }) ?assign ?body ?done ?stop
  case hI =>
    rintro s W W' row ⟨o, kk, b1, b2, b3, hB, hL⟩ hg hr
    have hne : ∀ B t v, Boxed W B t v → some B ≠ row := fun B t v hb e => by
      obtain ⟨_, o', ho, hc⟩ := hr B e.symm
      rw [show W.heap[B]? = _ from hb] at ho
      cases ho
      cases hc
    exact ⟨o, kk, b1.kept hg (hne _ _ _ b1), b2.kept hg (hne _ _ _ b2), b3.kept hg (hne _ _ _ b3), hB.grown hg hB.size (fun r e => by have := (hr r e).1; simp at this; omega), hL⟩
  case hIx =>
    rintro c s W W' row ⟨hc', o, b2, hB, hL⟩ hg hr
    have hne : ∀ B t v, Boxed W B t v → some B ≠ row := fun B t v hb e => by
      obtain ⟨_, o', ho, hc⟩ := hr B e.symm
      rw [show W.heap[B]? = _ from hb] at ho
      cases ho
      cases hc
    exact ⟨hc', o, b2.kept hg (hne _ _ _ b2), hB.grown hg hB.size (fun r e => by have := (hr r e).1; simp at this; omega), hL⟩
  case assign =>
    intro l x W K hK
    gi_wp2
    exact hK
  case body =>
    rintro l pre x W ⟨o, kk, b1, b2, b3, hB, hkk, hkl, hL⟩ hlt
    have c1 := b1.cell
    have f1 := b1.frozen
    have c2 := b2.cell
    have f2 := b2.frozen
    have hx := x.2
    have hxz : (0 : Int) ≤ (x.1 : Int) := by omega
    have hxz' : (x.1 : Int) < 10 := by omega
    have hmo : Tryz.prog.follows .mixedOrders = true := by kernel_rfl
    have hw1 := wrap_two x
    have hw2 := wrap_two' x
    by_cases hk : kk < 1
    · gi_wp2
      exact ⟨KeepsFrom.refl _ _, rfl, o, b2, hB, fun rest e => by rw [hL (x :: rest) (by rw [e]; simp)]; simp only [lowF, if_pos hk]⟩
    · gi_wp2
      gi_region_o
      all_goals gi_wp2
      all_goals
        have b1' := (b1.other (B' := w.heap.size + 1) (by omega) (.int .i64 (orBit o x))).set (.int .i64 (kk - 1))
        have b2' := (b2.set (.int .i64 (orBit o x))).other (B' := w.heap.size) (by omega) (.int .i64 (kk - 1))
        have b3' := (b3.other (B' := w.heap.size + 1) (by omega) (.int .i64 (orBit o x))).other (B' := w.heap.size) (by omega) (.int .i64 (kk - 1))
        have hB' : Below w.heap.size w (((W.setCell ⟨w.heap.size + 1, 0, none⟩ (.int .i64 (orBit o x))).setCell ⟨w.heap.size, 0, none⟩ (.int .i64 (kk - 1))).drew) := ((hB.setCell (p := ⟨w.heap.size + 1, 0, none⟩) (by show w.heap.size ≤ w.heap.size + 1; omega) _).setCell (p := ⟨w.heap.size, 0, none⟩) (Nat.le_refl _) _).drew
        refine ⟨(((KeepsOthers.setCell _ _ _).trans (KeepsOthers.setCell _ _ _)).trans (KeepsOthers.drew _)).from _, fun u hu => ?_, orBit o x, kk - 1, b1', b2', b3', hB', by omega, by omega, fun rest e => ?_⟩
        · rw [b3.cell] at hu
          rw [← hu]
          exact b3'.cell
        · rw [hL (x :: rest) (by rw [e]; simp)]
          simp only [lowF, if_neg (show ¬ kk < 1 by omega)]
  case done =>
    rintro D ys W hD rfl ⟨o, kk, b1, b2, b3, hB, hkk, hkl, hL⟩ hK
    have hc := b2.cell
    gi_wp2
    refine ⟨by simp, .inl ⟨_, _, rfl, run_takeDeferred hK, ?_⟩⟩
    have := hL [] (by simp)
    refine ⟨_, results_tmp rfl _ _ _, by rw [this]; rfl, hB.trans (belowK_b (w := w) (Nat.le_refl _) W D _ _ (by simp at hD; omega) hK rfl rfl)⟩
  case stop =>
    rintro D c pre W hD ⟨rest, hr⟩ ⟨rfl, o, b2, hB, hL⟩ hK
    have hc := b2.cell
    gi_wp2
    refine ⟨by simp, .inl ⟨_, _, rfl, run_takeDeferred hK, ?_⟩⟩
    have := hL rest hr.symm
    refine ⟨_, results_tmp rfl _ _ _, by rw [this]; rfl, hB.trans (belowK_b (w := w) (Nat.le_refl _) W D _ _ (by simp at hD; omega) hK rfl rfl)⟩
theorem Lowest_any (m k : Int) (hm0 : -9223372036854775808 ≤ m) (hm1 : m ≤ 9223372036854775807) (hk0 : -9223372036854775808 ≤ k) (hk1 : k ≤ 9223372036854775807) (w : World) :
    Calls Tryz.prog 62 #[.int .i64 m, .int .i64 k] w fun e w' => e = .returned (.int .i64 (lowF (idsF m) 0 k)) ∧ Upd NoF w w' :=
  (callsIn_wide.1 (Lowest_in 3 (by omega) m k hm0 hm1 hk0 hk1 w)).mono fun _ _ ⟨h1, h2⟩ => ⟨h1, Upd.of_below h2 (fun i hi h => by omega)⟩
theorem IDs_any (m : Int) (hm0 : -9223372036854775808 ≤ m) (hm1 : m ≤ 9223372036854775807) (w : World) :
    Calls Tryz.prog 88 #[.int .i64 m] w fun e w' => ∃ v, e = .returned v ∧ Own w' 3 1 v (idsF m).length (idsV (idsF m)) ∧ (∀ k, OwnB v k → w.heap.size ≤ k) ∧ Upd NoF w w' :=
  (callsIn_wide.1 (IDs_in 3 (by omega) m hm0 hm1 w)).mono fun _ _ ⟨v, h1, h2, _, h3⟩ => ⟨v, h1, (own_of_row h2).1, (own_of_row h2).2, Upd.of_below h3 (fun i hi h => by omega)⟩
/-- committee.Select on plain data. -/
def selS (v : Nat) (k g : Int) : Int := lowF (idsF (bits .andNot .i64 (2 ^ v - 1) g)) 0 k
set_option maxRecDepth 100000 in
set_option maxHeartbeats 4000000 in
theorem Select_any (v : Nat) (k g : Int) (hv : v ≤ 10) (hk0 : -9223372036854775808 ≤ k) (hk1 : k ≤ 9223372036854775807) (hg0 : -9223372036854775808 ≤ bits .andNot .i64 (2 ^ v - 1) g) (hg1 : bits .andNot .i64 (2 ^ v - 1) g ≤ 9223372036854775807) (w : World) :
    Calls Tryz.prog 30 #[.int .i64 (v : Int), .int .i64 k, .int .i64 g] w fun e w' => e = .returned (.int .i64 (selS v k g)) ∧ Upd NoF w w' := by
  have m1 : max (v : Int) 0 = v := by omega
  have m2 : min (v : Int) 10 = v := by omega
  obtain ⟨p1, p2⟩ := pow_ten ⟨v, by omega⟩
  have p3 : wrap64 ((2 : Int) ^ v) = 2 ^ v := by rw [← IntWalk.i64_left]; exact p1
  have p4 : wrap64 ((2 : Int) ^ v - 1) = 2 ^ v - 1 := by rw [← IntWalk.i64_left]; exact p2
  have HL := Lib.hid (Lowest_any (bits .andNot .i64 (2 ^ v - 1) g) k hg0 hg1 hk0 hk1 w)
  have v0 : (0 : Int) ≤ (v : Int) := by omega
  have v1 : (v : Int) ≤ 10 := by omega
  dsimp only at p1 p2
  clear hg0 hg1
  go_enter Tryz.func30, Tryz.ntmps30
  go_wp2_with fail
  refine HL.out.mono ?_
  rintro e w' ⟨rfl, hu⟩
  go_wp2
  go_ret
  exact ⟨rfl, hu⟩
end

section
open Go.RowKit

/-- The first place at which p holds, or -1. -/
def firstI (p : Nat → Bool) (n : Nat) : Int := match (List.range n).find? p with | some i => (i : Int) | none => -1
theorem firstI_hit {p : Nat → Bool} {n i : Nat} (hi : i < n) (hp : p i = true) (hb : ∀ j, j < i → p j = false) : firstI p n = (i : Int) := by
  have h : (List.range n).find? p = some i := by
    rw [List.find?_eq_some_iff_append]
    refine ⟨hp, List.range i, (List.range (n - i - 1)).map (· + (i + 1)), ?_, fun a ha => by rw [hb a (List.mem_range.1 ha)]; rfl⟩
    apply List.ext_getElem
    · simp; omega
    · intro k h1 h2
      rcases Nat.lt_trichotomy k i with hk | hk | hk
      · rw [List.getElem_append_left (by simpa using hk)]; simp
      · subst hk; rw [List.getElem_append_right (by simp)]; simp
      · rw [List.getElem_append_right (by simp; omega)]
        simp only [List.length_range, List.getElem_range]
        obtain ⟨d, hd⟩ : ∃ d, k - i = d + 1 := ⟨k - i - 1, by omega⟩
        simp only [hd, List.getElem_cons_succ, List.getElem_map, List.getElem_range]
        omega
  unfold firstI
  rw [h]
theorem firstI_no {p : Nat → Bool} {n : Nat} (hb : ∀ j, j < n → p j = false) : firstI p n = -1 := by
  have h : (List.range n).find? p = none := by
    rw [List.find?_eq_none]
    intro x hx
    rw [hb x (List.mem_range.1 hx)]
    decide
  unfold firstI
  rw [h]
theorem wpList_load_row {P : Program} {o : Oper} {w : World} {ops : Array Oper} {rest : List Oper} {a : Act} {Q : Exit → Act → World → Prop} (hgd : o.guard = none) (ty : TypeId) (x : Operand) (ho : o.op = .load ty x) (b off : Nat) (hx : a.eval x = .pointer (some ⟨b, off, none⟩)) (cs : List Value) (d : TypeDesc) (hc : w.rangeAt b off cs) (hu : P.underlying ty = some d) (hd : d.isRow = true) (hi : (P.info? ty).map (·.size) = some cs.length) (v : Array Value) (hv : cs.toArray = v)
    (hk : wpList P ops Q rest (a.put o.dst (.agg v)) w) : wpList P ops Q (o :: rest) a w := by
  subst hv
  exact wpList_od (post := fun v w' => wpList P ops Q rest (a.put o.dst v) w') hgd (od_load_row ty x ho b off hx cs d hc hu hd hi hk) (fun _ _ h => h)
theorem rows_at {w : World} {K n c : Nat} {A : Option Addr} {rows : List (List Value)} (hk : ∀ r ∈ rows, r.length = K) (hr : Rd w K (.slice A n c) n rows.flatten) {i : Nat} {r : List Value} (hi : rows[i]? = some r) (hn : i < n) : ∃ g o, A = some ⟨g, o, none⟩ ∧ w.rangeAt g (o + i * K) r := by
  obtain ⟨A', c', e, h1, h2, h3, h4⟩ := hr
  injection e with e1 e2 e3
  subst e1
  obtain ⟨g, o, rfl, hc⟩ := h4 (by omega)
  refine ⟨g, o, rfl, fun j v hj => ?_⟩
  have hjK : j < K := by have := (List.getElem?_eq_some_iff.1 hj).1; rw [hk r (List.mem_of_getElem? hi)] at this; exact this
  have := flatten_at hk hi hjK
  rw [Nat.add_assoc]
  exact hc _ v (by rw [this]; exact hj)
theorem none_next {p : Nat → Bool} {k : Nat} (h : ∀ j, j < k → p j = false) (hk : p k = false) : ∀ j, j < k + 1 → p j = false := fun j hj => by
  rcases Nat.lt_or_ge j k with h1 | h1
  · exact h j h1
  · rw [show j = k by omega]; exact hk
theorem item_size : (Tryz.prog.info? 38).map (·.size) = some 28 := by kernel_rfl
set_option maxRecDepth 100000 in
set_option maxHeartbeats 4000000 in
theorem IndexItem_any {w : World} {A : Option Addr} {n c : Nat} {rows : List (List Value)} (hn : rows.length = n) (hk : ∀ r ∈ rows, r.length = 28) (hr : Rd w 28 (.slice A n c) n rows.flatten) (g : FuncId) (cap : Array Value) (hg : ∀ r W, (callFunc g (#[.agg r] ++ cap)).run Tryz.prog W = .ok (.enter g (#[.agg r] ++ cap)) W)
    (p : Nat → Bool) (hp : ∀ W, Upd NoF w W → ∀ i (r : List Value), rows[i]? = some r → Calls Tryz.prog g (#[.agg r.toArray] ++ cap) W fun e W' => e = .returned (.bool (p i)) ∧ Upd NoF W W') :
    Calls Tryz.prog 42 #[.slice A n c, .func (.func g) #[] cap] w fun e w' => e = .returned (.int .i64 (firstI p n)) ∧ Upd NoF w w' := by
  have hnm : n ≤ maxLen := hr.le
  unfold maxLen at hnm
  have HR := Lib.hid hr
  have HKR := Lib.hid hk
  have HP := Lib.hid hp
  have HN := Lib.hid hn
  have HG := Lib.hid hg
  obtain ⟨kk, hkk⟩ : ∃ k, k = 28 := ⟨_, rfl⟩
  have HK := Lib.hid hkk
  have aE : ∀ w, (isAgg 38).run Tryz.prog w = .ok true w := fun w => by kernel_rfl
  have zE : ∀ w, (Go.sizeOf 38).run Tryz.prog w = .ok 28 w := fun w => by kernel_rfl
  rw [← hkk] at zE
  clear hr hk hp hn hkk hg
  go_enter Tryz.func42, Tryz.ntmps42
  go_wp2
  go_loopg [8] n (fun kx s8 wr => ∃ k : Nat, s8 = .int .i64 (k : Int) ∧ k ≤ n ∧ n - k ≤ kx ∧ Hid (∀ j, j < k → p j = false) ∧ Hid (Upd NoF w wr))
  case atStart => exact ⟨0, rfl, by omega, by omega, Lib.hid (fun j hj => by omega), Lib.hid (Upd.refl _ _)⟩
  case round =>
    obtain ⟨k, rfl, hkn, hkx, HF, HU⟩ := hrel
    by_cases hlt : k < n
    · have hltz : (k : Int) < (n : Int) := by omega
      obtain ⟨r, hri⟩ : ∃ r, rows[k]? = some r := ⟨_, List.getElem?_eq_getElem (by have := HN.out; omega)⟩
      obtain ⟨g0, o0, rfl, hrg⟩ := rows_at HKR.out (HR.out.keep HU.out) hri hlt
      rw [← HK.out] at hrg
      have HRG := Lib.hid hrg
      have HL := Lib.hid (HKR.out r (List.mem_of_getElem? hri))
      have CP := Lib.hid (HP.out wr HU.out k r hri)
      obtain ⟨ra, hra⟩ : ∃ x, r.toArray = x := ⟨_, rfl⟩
      rw [hra] at CP
      have HRA := Lib.hid hra
      have e1 : ((k : Int)).toNat = k := by omega
      have hgr := HG.out ra
      clear hri hrg hra
      cases hb : p k with
      | true =>
        have HB := Lib.hid hb
        rw [hb] at CP
        clear hb
        go_wp2_with (first
          | (refine wpList_load_row rfl 38 (.tmp 14) rfl g0 (o0 + k * kk) rfl r _ HRG.out Tryz.underlying38 rfl (by rw [item_size, HL.out]) ra HRA.out ?_)
          | (refine CP.out.mono ?_; rintro e w' ⟨rfl, hu'⟩; have HU' := Lib.hid (HU.out.trans hu' (fun _ _ f => f)); clear hu'))
        go_ret
        exact ⟨by rw [firstI_hit hlt HB.out HF.out]; rfl, HU'.out⟩
      | false =>
        have HB := Lib.hid hb
        rw [hb] at CP
        clear hb
        go_wp2_with (first
          | (refine wpList_load_row rfl 38 (.tmp 14) rfl g0 (o0 + k * kk) rfl r _ HRG.out Tryz.underlying38 rfl (by rw [item_size, HL.out]) ra HRA.out ?_)
          | (refine CP.out.mono ?_; rintro e w' ⟨rfl, hu'⟩; have HU' := Lib.hid (HU.out.trans hu' (fun _ _ f => f)); clear hu'))
        go_roundg (n - (k + 1))
        case measure => omega
        case rel => exact ⟨k + 1, by first | rfl | go_num, by omega, by omega, Lib.hid (none_next HF.out HB.out), HU'⟩
    · have hltz : ¬ (k : Int) < (n : Int) := by omega
      obtain rfl : k = n := by omega
      go_wp2
      go_ret
      exact ⟨by rw [firstI_no HF.out]; rfl, HU.out⟩

/-! ### items -/
/-- An item's cells: its name, the rest. -/
def itemC (nm : List UInt8) (rest : List Value) : List Value := nm.map byteV ++ rest
/-- Items in memory: the names, and the rest of each row. -/
structure ItR (w : World) (v : Value) (l : List (List UInt8 × List Value)) : Prop where
  nm : ∀ x ∈ l, x.1.length = 8 ∧ x.2.length = 20
  rd : Rd w 28 v l.length ((l.map (fun x => itemC x.1 x.2)).flatten)
theorem ItR.keep {w w' : World} {v : Value} {l : List (List UInt8 × List Value)} (h : ItR w v l) (hu : Upd NoF w w') : ItR w' v l := ⟨h.nm, h.rd.keep hu⟩
theorem eql_name' {a b : List UInt8} (ha : a.length = 8) (hb : b.length = 8) (w : World) : (binOp .eql 28 (nameV a) (nameV b)).run Tryz.prog w = .ok (.bool (decide (a = b))) w := by
  rw [name_eql a b ha hb, show (a == b) = decide (a = b) from by by_cases h : a = b <;> simp [h]]
set_option maxRecDepth 100000 in
set_option maxHeartbeats 4000000 in
theorem Find1_any {W : World} {B : Nat} {n : List UInt8} (hb : Blk W B 28 (n.map byteV).toArray) (hn : n.length = 8) (x : List UInt8 × List Value) (hx : x.1.length = 8 ∧ x.2.length = 20) :
    Calls Tryz.prog 43 #[.agg (itemC x.1 x.2).toArray, .pointer (some ⟨B, 0, none⟩)] W fun e W' => e = .returned (.bool (decide (x.1 = n))) ∧ Upd NoF W W' := by
  have he := eql_name' hx.1 hn
  obtain ⟨d, hd⟩ : ∃ d, d = decide (x.1 = n) := ⟨_, rfl⟩
  rw [← hd] at he ⊢
  have HX := Lib.hid hx
  have HE := Lib.hid he
  obtain ⟨za, hza⟩ : ∃ z, (x.1.map byteV).toArray = z := ⟨_, rfl⟩
  obtain ⟨zb, hzb⟩ : ∃ z, (n.map byteV).toArray = z := ⟨_, rfl⟩
  obtain ⟨ra, hra⟩ : ∃ z, (itemC x.1 x.2).toArray = z := ⟨_, rfl⟩
  have BA := Lib.hid (show Blk (W.alloc (.cells ra 38)) W.heap.size 38 ra from Blk.new W _ _)
  have BB := Lib.hid (hb.alloc (.cells ra 38))
  have hz : ∀ w, (binOp .eql 28 (.agg za) (.agg zb)).run Tryz.prog w = .ok (.bool d) w := fun w => by rw [← hza, ← hzb]; exact HE.out w
  have RA := Lib.hid (show (W.alloc (.cells ra 38)).rangeAt W.heap.size 0 (x.1.map byteV) from fun j v hj => by
    have h1 := BA.out.cell (0 + j)
    rw [h1, ← hra]
    unfold itemC
    rw [Nat.zero_add, List.getElem?_toArray, List.getElem?_append_left (List.getElem?_eq_some_iff.1 hj).1]
    exact hj)
  have RB := Lib.hid (show (W.alloc (.cells ra 38)).rangeAt B 0 (n.map byteV) from fun j v hj => by
    have h1 := BB.out.cell (0 + j)
    rw [h1, Nat.zero_add, List.getElem?_toArray]
    exact hj)
  have HZA := Lib.hid hza
  have HZB := Lib.hid hzb
  have HN := Lib.hid hn
  rw [hra]
  clear hx hd hza hzb hra hb hn he
  go_enter Tryz.func43, Tryz.ntmps43
  go_wp2_with (first
    | (refine wpList_load_row rfl 28 (.tmp 4) rfl W.heap.size 0 rfl (x.1.map byteV) _ RA.out Tryz.underlying28 rfl (by rw [show (Tryz.prog.info? 28).map (·.size) = some 8 from by kernel_rfl]; simp [HX.out.1]) za HZA.out ?_)
    | (refine wpList_load_row rfl 28 (.tmp 1) rfl B 0 rfl (n.map byteV) _ RB.out Tryz.underlying28 rfl (by rw [show (Tryz.prog.info? 28).map (·.size) = some 8 from by kernel_rfl]; simp [HN.out]) zb HZB.out ?_))
  go_ret
  exact ⟨rfl, (Upd.refl NoF W).alloc _⟩
/-- items.Find on plain data. -/
def findS (l : List (List UInt8)) (n : List UInt8) : Int := firstI (fun i => decide (l[i]? = some n)) l.length
set_option maxRecDepth 100000 in
set_option maxHeartbeats 4000000 in
theorem Find_any {w : World} {v : Value} {l : List (List UInt8 × List Value)} (h : ItR w v l) (n : List UInt8) (hn : n.length = 8) :
    Calls Tryz.prog 14 #[v, nameV n] w fun e w' => e = .returned (.int .i64 (findS (l.map (·.1)) n)) ∧ Upd NoF w w' := by
  obtain ⟨A, c, rfl, hlc, hcm, -⟩ := id h.rd
  have UW := Lib.hid ((Upd.refl NoF w).alloc (.cells (n.map byteV).toArray 28))
  have BN := Lib.hid (Blk.new w 28 (n.map byteV).toArray)
  have CI := Lib.hid (IndexItem_any (w := w.alloc (.cells (n.map byteV).toArray 28)) (rows := l.map (fun x => itemC x.1 x.2)) (n := l.length) (c := c) (A := A) (by simp) (fun r hr => by
    obtain ⟨x, hx, rfl⟩ := List.mem_map.1 hr
    have := h.nm x hx
    simp [itemC, this.1, this.2]) (h.keep UW.out).rd 43 #[.pointer (some ⟨w.heap.size, 0, none⟩)] (fun r W => by kernel_rfl) (fun i => decide ((l.map (·.1))[i]? = some n)) (fun W hu i r hr => by
    rw [List.getElem?_map] at hr
    obtain ⟨x, hx, rfl⟩ := Option.map_eq_some_iff.1 hr
    have hd : decide ((l.map (·.1))[i]? = some n) = decide (x.1 = n) := by rw [List.getElem?_map, hx]; simp
    simp only [hd]
    exact Find1_any (hu.blk BN.out (fun f => f)) hn x (h.nm x (List.mem_of_getElem? hx))))
  have HF := Lib.hid (show firstI (fun i => decide ((l.map (·.1))[i]? = some n)) l.length = findS (l.map (·.1)) n from by unfold findS; rw [List.length_map])
  obtain ⟨z, hz⟩ : ∃ z, (n.map byteV).toArray = z := ⟨_, rfl⟩
  have hz' : nameV n = .agg z := by rw [← hz]
  rw [hz'] 
  rw [hz] at UW CI
  obtain ⟨m, hm⟩ : ∃ m, l.length = m := ⟨_, rfl⟩
  rw [hm] at CI HF ⊢
  clear h hz hz' BN hm hlc hcm
  go_enter Tryz.func14, Tryz.ntmps14
  go_wp2_with fail
  refine CI.out.mono ?_
  rintro e w' ⟨rfl, hu⟩
  rw [HF.out]
  have U := Lib.hid (UW.out.trans hu (fun _ _ f => f))
  clear hu
  go_wp2
  go_ret
  exact ⟨rfl, U.out⟩
end

section
open Go.RowKit

theorem isNaNInt_no (x : Int) (w : World) : Calls Tryz.prog 222 #[.int .i64 x] w fun e w' => e = .returned (.bool false) ∧ w' = w := by
  go_enter Tryz.func222, Tryz.ntmps222
  go_wp2
  go_ret
  exact ⟨rfl, rfl⟩

theorem isNaNU64_no (x : Int) (w : World) : Calls Tryz.prog 125 #[u64V x] w fun e w' => e = .returned (.bool false) ∧ w' = w := by
  go_enter Tryz.func125, Tryz.ntmps125
  go_wp2
  go_ret
  exact ⟨rfl, rfl⟩

set_option maxRecDepth 100000 in
set_option maxHeartbeats 2000000 in
theorem cmpInt_any (a b : Int) (w : World) : Calls Tryz.prog 188 #[.int .i64 a, .int .i64 b] w fun e w' => e = .returned (.int .i64 (cmp3 a b)) ∧ w' = w := by
  have NA := Lib.hid (fun W => isNaNInt_no a W)
  have NB := Lib.hid (fun W => isNaNInt_no b W)
  by_cases h1 : a < b
  · have t1 : decide (a < b) = true := by simpa using h1
    have E := Lib.hid (show cmp3 a b = -1 by unfold cmp3; rw [if_pos (by omega)])
    generalize cmp3 a b = z at E ⊢
    go_enter Tryz.func188, Tryz.ntmps188
    go_wp2_with (first
      | (refine (NA.out _).mono ?_; rintro e w5 ⟨rfl, rfl⟩)
      | (refine (NB.out _).mono ?_; rintro e w5 ⟨rfl, rfl⟩))
    go_ret
    exact ⟨congrArg (fun z => Ending.returned (.int .i64 z)) E.out.symm, rfl⟩
  · by_cases h2 : b < a
    · have t1 : decide (a < b) = false := by simpa using h1
      have t2 : decide (b < a) = true := by simpa using h2
      have E := Lib.hid (show cmp3 a b = 1 by unfold cmp3; rw [if_neg (by omega), if_pos (by omega)])
      generalize cmp3 a b = z at E ⊢
      go_enter Tryz.func188, Tryz.ntmps188
      go_wp2_with (first
        | (refine (NA.out _).mono ?_; rintro e w5 ⟨rfl, rfl⟩)
        | (refine (NB.out _).mono ?_; rintro e w5 ⟨rfl, rfl⟩))
      go_ret
      exact ⟨congrArg (fun z => Ending.returned (.int .i64 z)) E.out.symm, rfl⟩
    · have t1 : decide (a < b) = false := by simpa using h1
      have t2 : decide (b < a) = false := by simpa using h2
      have E := Lib.hid (show cmp3 a b = 0 by unfold cmp3; rw [if_neg (by omega), if_neg (by omega)])
      generalize cmp3 a b = z at E ⊢
      go_enter Tryz.func188, Tryz.ntmps188
      go_wp2_with (first
        | (refine (NA.out _).mono ?_; rintro e w5 ⟨rfl, rfl⟩)
        | (refine (NB.out _).mono ?_; rintro e w5 ⟨rfl, rfl⟩))
      go_ret
      exact ⟨congrArg (fun z => Ending.returned (.int .i64 z)) E.out.symm, rfl⟩

set_option maxRecDepth 100000 in
set_option maxHeartbeats 2000000 in
theorem cmpU64_any (a b : Int) (w : World) : Calls Tryz.prog 76 #[u64V a, u64V b] w fun e w' => e = .returned (.int .i64 (cmp3 a b)) ∧ w' = w := by
  have NA := Lib.hid (fun W => isNaNU64_no a W)
  have NB := Lib.hid (fun W => isNaNU64_no b W)
  by_cases h1 : a < b
  · have t1 : decide (a < b) = true := by simpa using h1
    have E := Lib.hid (show cmp3 a b = -1 by unfold cmp3; rw [if_pos (by omega)])
    generalize cmp3 a b = z at E ⊢
    go_enter Tryz.func76, Tryz.ntmps76
    go_wp2_with (first
      | (refine (NA.out _).mono ?_; rintro e w5 ⟨rfl, rfl⟩)
      | (refine (NB.out _).mono ?_; rintro e w5 ⟨rfl, rfl⟩))
    go_ret
    exact ⟨congrArg (fun z => Ending.returned (.int .i64 z)) E.out.symm, rfl⟩
  · by_cases h2 : b < a
    · have t1 : decide (a < b) = false := by simpa using h1
      have t2 : decide (b < a) = true := by simpa using h2
      have E := Lib.hid (show cmp3 a b = 1 by unfold cmp3; rw [if_neg (by omega), if_pos (by omega)])
      generalize cmp3 a b = z at E ⊢
      go_enter Tryz.func76, Tryz.ntmps76
      go_wp2_with (first
        | (refine (NA.out _).mono ?_; rintro e w5 ⟨rfl, rfl⟩)
        | (refine (NB.out _).mono ?_; rintro e w5 ⟨rfl, rfl⟩))
      go_ret
      exact ⟨congrArg (fun z => Ending.returned (.int .i64 z)) E.out.symm, rfl⟩
    · have t1 : decide (a < b) = false := by simpa using h1
      have t2 : decide (b < a) = false := by simpa using h2
      have E := Lib.hid (show cmp3 a b = 0 by unfold cmp3; rw [if_neg (by omega), if_neg (by omega)])
      generalize cmp3 a b = z at E ⊢
      go_enter Tryz.func76, Tryz.ntmps76
      go_wp2_with (first
        | (refine (NA.out _).mono ?_; rintro e w5 ⟨rfl, rfl⟩)
        | (refine (NB.out _).mono ?_; rintro e w5 ⟨rfl, rfl⟩))
      go_ret
      exact ⟨congrArg (fun z => Ending.returned (.int .i64 z)) E.out.symm, rfl⟩

set_option maxRecDepth 100000 in
set_option maxHeartbeats 8000000 in
theorem stCompareNames_any {a b : List UInt8} (ha : a.length = 8) (hb : b.length = 8) (w : World) : Calls Tryz.prog 189 #[nameV a, nameV b] w fun e w' => e = .returned (.int .i64 (cmp3 (be a) (be b))) ∧ Upd NoF w w' := by
  have HLN := Lib.hid (And.intro ha hb)
  obtain ⟨za, hza⟩ : ∃ x, (a.map byteV).toArray = x := ⟨_, rfl⟩
  obtain ⟨zb, hzb⟩ : ∃ x, (b.map byteV).toArray = x := ⟨_, rfl⟩
  have HZa := Lib.hid hza
  have HZb := Lib.hid hzb
  rw [show nameV a = .agg za from congrArg Value.agg hza, show nameV b = .agg zb from congrArg Value.agg hzb]
  obtain ⟨W1, hW1⟩ : ∃ x, x = (w.alloc (.cells za 28)).alloc (.cells zb 28) := ⟨_, rfl⟩
  have UW := Lib.hid (show Upd NoF w W1 from by rw [hW1]; exact ((Upd.refl NoF w).alloc _).alloc _)
  have BA := Lib.hid (show Blk W1 w.heap.size 28 za from by rw [hW1]; exact (Blk.new w _ _).alloc _)
  have BB := Lib.hid (show Blk W1 (w.heap.size + 1) 28 zb from by rw [hW1]; have := Blk.new (w.alloc (.cells za 28)) 28 zb; rw [World.size_alloc] at this; exact this)
  have RA := Lib.hid (fun w' (hu : Upd NoF W1.drew w') => show w'.rangeAt w.heap.size 0 (a.map byteV) from by have hb2 := ((Upd.refl NoF W1).drew.trans hu (fun _ _ f => f)).blk BA.out (fun f => f); rw [← HZa.out] at hb2; exact range_blk hb2)
  have RB := Lib.hid (fun w' (hu : Upd NoF W1.drew w') => show w'.rangeAt (w.heap.size + 1) 0 (b.map byteV) from by have hb2 := ((Upd.refl NoF W1).drew.trans hu (fun _ _ f => f)).blk BB.out (fun f => f); rw [← HZb.out] at hb2; exact range_blk hb2)
  clear ha hb hza hzb
  go_enter Tryz.func189, Tryz.ntmps189
  go_wp2_with fail
  rw [← hW1]
  obtain ⟨X, hX⟩ : ∃ x, w.heap.size = x := ⟨_, rfl⟩
  rw [hX] at RA RB ⊢
  clear hW1 hX
  refine wp_region_rgw (rgR [isV (.agg za), isV (u64V (be a : Int)), isV (.agg zb), isV (u64V (be b : Int)), isV (.int .i64 (cmp3 (be a) (be b))), isV (.int .i64 (cmp3 (be a) (be b)))]) (fun w w' => Upd NoF w w') (fun _ wq => Upd NoF W1.drew wq) (by kernel_rfl) (by kernel_rfl) (by kernel_rfl) (by rfl) (fun w => Upd.refl _ _) (rgR_keep (by
    intro p hp; simp only [List.mem_cons, List.not_mem_nil, or_false] at hp; rcases hp with rfl | rfl | rfl | rfl | rfl | rfl <;> first | exact stb_isV _ | exact stb_any)) (Upd.refl _ _) ?_ ?_
  · refine ⟨?_, ?_, ?_, ?_, ?_, ?_, trivial⟩
    · refine fun ρ w' L hW hLi hcl hd hdep hext hc hg hf => ?_
      rw [if_pos (show wantedR _ _ _ = true from rfl)]
      have e2 : ρ (.tmp 2) = .pointer (some ⟨X, 0, none⟩) := hext 2 (by kernel_rfl)
      clear hdep hext
      refine od_load_row 28 (.tmp 2) rfl (X) 0 e2 (a.map byteV) _ (RA.out w' hW) Tryz.underlying28 rfl (by rw [show (Tryz.prog.info? 28).map (·.size) = some 8 from by kernel_rfl]; simp [HLN.out.1]) ?_
      rw [HZa.out]
      exact ⟨rfl, Upd.refl _ _, hW⟩
    · refine fun ρ w' L hW hLi hcl hd hdep hext hc hg hf => ?_
      rw [if_pos (show wantedR _ _ _ = true from rfl)]
      have e5 : ρ (.tmp 5) = .agg za := hdep 0 _ rfl (by kernel_rfl)
      clear hdep hext
      have CL := Lib.hid (show Calls Tryz.prog 77 #[.agg za] w' _ from by rw [← HZa.out]; exact hNumber_any a HLN.out.1 w')
      have HW := Lib.hid hW
      clear hW hcl hd hLi
      unfold OpDone
      go_simp
      refine CL.out.mono ?_
      rintro e w2 ⟨rfl, hu⟩
      exact ⟨_, rfl, rfl, hu, HW.out.trans hu (fun _ _ f => f)⟩
    · refine fun ρ w' L hW hLi hcl hd hdep hext hc hg hf => ?_
      rw [if_pos (show wantedR _ _ _ = true from rfl)]
      have e3 : ρ (.tmp 3) = .pointer (some ⟨X + 1, 0, none⟩) := hext 3 (by kernel_rfl)
      clear hdep hext
      refine od_load_row 28 (.tmp 3) rfl (X + 1) 0 e3 (b.map byteV) _ (RB.out w' hW) Tryz.underlying28 rfl (by rw [show (Tryz.prog.info? 28).map (·.size) = some 8 from by kernel_rfl]; simp [HLN.out.2]) ?_
      rw [HZb.out]
      exact ⟨rfl, Upd.refl _ _, hW⟩
    · refine fun ρ w' L hW hLi hcl hd hdep hext hc hg hf => ?_
      rw [if_pos (show wantedR _ _ _ = true from rfl)]
      have e7 : ρ (.tmp 7) = .agg zb := hdep 2 _ rfl (by kernel_rfl)
      clear hdep hext
      have CL := Lib.hid (show Calls Tryz.prog 77 #[.agg zb] w' _ from by rw [← HZb.out]; exact hNumber_any b HLN.out.2 w')
      have HW := Lib.hid hW
      clear hW hcl hd hLi
      unfold OpDone
      go_simp
      refine CL.out.mono ?_
      rintro e w2 ⟨rfl, hu⟩
      exact ⟨_, rfl, rfl, hu, HW.out.trans hu (fun _ _ f => f)⟩
    · refine fun ρ w' L hW hLi hcl hd hdep hext hc hg hf => ?_
      rw [if_pos (show wantedR _ _ _ = true from rfl)]
      have e6 : ρ (.tmp 6) = u64V (be a : Int) := hdep 1 _ rfl (by kernel_rfl)
      have e8 : ρ (.tmp 8) = u64V (be b : Int) := hdep 3 _ rfl (by kernel_rfl)
      clear hdep hext
      have CL := Lib.hid (cmpU64_any (be a : Int) (be b : Int) w')
      have HW := Lib.hid hW
      clear hW hcl hd hLi
      unfold OpDone
      go_simp
      refine CL.out.mono ?_
      rintro e w2 ⟨rfl, hu⟩
      exact ⟨_, rfl, rfl, by rw [hu]; exact Upd.refl _ _, by rw [hu]; exact HW.out⟩
    · refine fun ρ w' L hW hLi hcl hd hdep hext hc hg hf => ?_
      rw [if_pos (show wantedR _ _ _ = true from rfl)]
      have e9 : ρ (.tmp 9) = .int .i64 (cmp3 (be a) (be b)) := hdep 4 _ rfl (by kernel_rfl)
      clear hdep hext hcl
      have HW := Lib.hid hW
      clear hW
      unfold OpDone
      go_simp
      exact ⟨rfl, Upd.refl _ _, HW.out⟩
  intro vs W3 L3 hL3 hW3 hR
  have hv0 : vs 0 = .agg za := hR 0 _ rfl
  have hv1 : vs 1 = u64V (be a : Int) := hR 1 _ rfl
  have hv2 : vs 2 = .agg zb := hR 2 _ rfl
  have hv3 : vs 3 = u64V (be b : Int) := hR 3 _ rfl
  have hv4 : vs 4 = .int .i64 (cmp3 (be a) (be b)) := hR 4 _ rfl
  have hv5 : vs 5 = .int .i64 (cmp3 (be a) (be b)) := hR 5 _ rfl
  simp only [putAll, Act.put, List.setIfInBounds_toArray, List.set_cons_zero, List.set_cons_succ, hv0, hv1, hv2, hv3, hv4, hv5]
  clear hR hv0 hv1 hv2 hv3 hv4 hv5
  go_wp2_with fail
  go_ret
  exact ⟨rfl, UW.out.trans ((Upd.refl NoF W1).drew.trans hW3 (fun _ _ f => f)) (fun _ _ f => f)⟩
end
end Go.Proofs.YtengcmfdfmnacaaGreat
