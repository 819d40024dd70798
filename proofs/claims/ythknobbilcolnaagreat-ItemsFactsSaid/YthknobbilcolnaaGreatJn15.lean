/- One-time keys of the implementation, by abstract values: walk, public, Digits, Recover. Conditions: lengths. merkle.computed and Follow of trees of 2 ^ d leaves, by abstract values. Conditions: sizes. The codec of the implementation, by abstract values. No condition. Keys of many uses of the implementation, by abstract values: names, climbed, Leaf, Capacity, Size, Verify. Conditions: sizes. Cursors, by abstract values. No condition. The codec's writers, by abstract values. No condition. Masks of ten bits. No condition. Votes of the implementation, by abstract values: between, Valid. Conditions: what memory can hold. vote.Valid of the implementation at prevotes and precommits, by abstract values. No condition. vote.Valid of the implementation at prevotes and precommits, by abstract values. No condition. vote.Valid of the implementation at prevotes and precommits, by abstract values. No condition. vote.Valid of the implementation, by abstract values. No condition. Literal slices of five and of seven elements. No condition. The orders of votes and of signed votes are strict and total on votes that fit. No condition. -/
import Derived.Test.YthknobbilcolnaaGreatJn14
import Derived.Test.YthknobbilcolnaaGreatJn13
import Derived.Laws.Closers25
namespace Go.Proofs.YthknobbilcolnaaGreat
section
open Go.RowKit
set_option maxRecDepth 10000
attribute [-simp] List.map_take List.map_drop UInt8.ofNat_add List.map_flatten

theorem byte_ofNat (n : Nat) (h : n < 256) : AV.c (.int .u8 (n : Int)) = byteA (UInt8.ofNat n) := by
  unfold byteA
  rw [UInt8.toNat_ofNat_of_lt' h]
/-- A slice of bytes in two parts, frozen. -/
theorem Fz_app {id n : Nat} {l m : List UInt8} (h : (l ++ m).length = n) : Fz id (l.map byteA ++ m.map byteA) (.own id 0 n 1) (bytesA (l ++ m)) := by
  rw [← List.map_append]
  exact Fz_bytes h
/-- onetime.walk. -/
theorem walk_any (v : List UInt8) (hv : v.length = 8) (c p q : Nat) (hc : c < 256) (hp : p ≤ q) (hq : q < 256) : PCall Tryz.prog 296 [nmA v, .c (.int .i64 c), .c (.int .i64 p), .c (.int .i64 q)] [] (fun x _ => Bd 0 x ∧ x = nmA (walkS c (q - p) p v)) := by
  refine PCall.enter mixed Tryz.func296 rfl Tryz.ntmps296 Tryz.results296 (by simp) (by kernel_rfl) ?_
  simp [List.replicate]
  refine ⟨by omega, ?_⟩
  refine W_loop (fun m env H => ∃ i : Nat, m = q - p - i ∧ i ≤ q - p ∧ env = [.any, .c (.int .i64 c), .c (.int .i64 p), .any, .ptr 0 0, .any, .any, .any, .ptr 1 0, .any, .any, .any, .c (.int .i64 ((q - p : Nat) : Int)), .c (.int .i64 i)] ++ List.replicate 14 .any ∧ H = [.row 1000034 false ((walkS c i p v).map byteA), .row 1000034 false ((List.replicate 8 (0 : UInt8)).map byteA)]) (q - p) ?_ ?_
  · refine ⟨_, _, ?_, 0, by simp, by simp, rfl, rfl⟩
    refine View.renum [0, 1] (by simp) (by simp [walkS]) ?_
    simp [List.replicate]
    rw [show (q : Int) - p = ((q - p : Nat) : Int) by omega]
    exact .c _
  · rintro m env H ⟨i, rfl, hi, rfl, rfl⟩
    have hl : (walkS c i p v).length = 8 := walkS_len hv
    have w1 : AV.c (.int .u8 (IntKind.u8.wrap (c : Int))) = byteA (UInt8.ofNat c) := by rw [wrap_u8, Int.emod_eq_of_lt (by omega) (by omega), byte_ofNat c hc]
    have w2 : i < q - p → AV.c (.int .u8 (IntKind.u8.wrap ((p : Int) + i))) = byteA (UInt8.ofNat (p + i)) := fun h => by rw [wrap_u8, Int.emod_eq_of_lt (by omega) (by omega), ← Int.natCast_add, byte_ofNat _ (by omega)]
    simp [List.replicate, hl]
    refine ⟨fun hlt => ?_, fun hge => ?_⟩
    · simp only [w1, w2 hlt, flat_cons, AV.cells]
      refine ⟨by decide, by omega, PCall.freeze (id := 3) (args' := [byteA 33, bytesA (walkS c i p v ++ [UInt8.ofNat c, UInt8.ofNat (p + i)])]) rfl ?_ ?_⟩
      · simp [flat]
        exact ⟨.same _, Fz_app (m := [_, _]) (by simp [hl])⟩
      refine (Tagged_any 33 _ (by simp [hl])).use (by simp) ?_
      simp [hl]
      refine ⟨by omega, q - p - (i + 1), by omega, _, _, ?_, i + 1, rfl, by omega, rfl, rfl⟩
      refine View.renum [0, 1] (by simp) (by simp [walkS_snoc, stepS]) ?_
      simp
    · obtain rfl : i = q - p := by omega
      simp [hl, List.take_of_length_le]
theorem flatten_len {l : List (List UInt8)} (h8 : ∀ x ∈ l, x.length = 8) : l.flatten.length = 8 * l.length := by
  induction l with
  | nil => rfl
  | cons x l ih =>
    rw [List.flatten_cons, List.length_append, ih (fun y hy => h8 y (List.mem_cons_of_mem _ hy)), h8 x (List.mem_cons_self ..), List.length_cons]
    omega
theorem take_flat_len {l : List (List UInt8)} (h8 : ∀ x ∈ l, x.length = 8) {i : Nat} (hi : i ≤ l.length) : (l.take i).flatten.length = 8 * i := by
  rw [flatten_len (fun x hx => h8 x (List.mem_of_mem_take hx)), List.length_take, Nat.min_eq_left hi]
theorem take_flat_succ {l : List (List UInt8)} {i : Nat} {x : List UInt8} (hx : l[i]? = some x) : (l.take (i + 1)).flatten = (l.take i).flatten ++ x := by
  rw [List.take_add_one, hx]; simp
/-- onetime.public. -/
theorem public_any (l : List (List UInt8)) (hl : l.length ≤ 1000) (h8 : ∀ x ∈ l, x.length = 8) : PCall Tryz.prog 297 [namesA l] [] (fun x _ => Bd 0 x ∧ x = nmA (endsS l)) := by
  refine PCall.enter mixed Tryz.func297 rfl Tryz.ntmps297 Tryz.results297 (by simp) (by kernel_rfl) ?_
  simp [List.replicate]
  refine W_loop (fun m env H => ∃ (i : Nat) (ext : List AV), m = l.length - i ∧ i ≤ l.length ∧ (∀ a ∈ ext, Bd 0 a) ∧ env = [namesA l, .any, .ptr 0 0, .own 1 0 (8 * i) 1, .any, .any, .any, namesA l, .c (.int .i64 l.length), .c (.int .i64 i)] ++ List.replicate 9 .any ∧ H = [.row 1000034 false ((List.replicate 8 (0 : UInt8)).map byteA), .row 5 false ((l.take i).flatten.map byteA ++ ext)]) l.length ?_ ?_
  · refine ⟨_, _, ?_, 0, reps 144 [.c (.int .u8 0)], by simp, by simp, by simp [reps], rfl, rfl⟩
    refine View.renum [0, 1] (by simp) (by simp [reps]) ?_
    simp
  · rintro m env H ⟨i, ext, rfl, hi, he, rfl, rfl⟩
    simp [List.replicate]
    refine ⟨fun hlt => ?_, fun hge => ?_⟩
    · obtain ⟨x, hx⟩ : ∃ x, l[i]? = some x := ⟨_, List.getElem?_eq_getElem hlt⟩
      have hx8 := h8 x (List.mem_of_getElem? hx)
      simp [hx, hx8]
      have hfl := take_flat_len h8 hi
      refine ⟨by decide, by omega, by omega, l.length - (i + 1), by omega, _, _, ?_, i + 1, rfl, by omega, [], by simp, rfl, rfl⟩
      refine View.renum [0, 3] (by simp) ?_ ?_
      · simp [take_flat_succ hx, hfl, hx8, List.take_of_length_le]
        rintro a (⟨b, -, rfl⟩ | ⟨b, -, rfl⟩) <;> exact .c _
      · simp [Nat.mul_add]
    · obtain rfl : i = l.length := by omega
      have hfl := take_flat_len h8 (Nat.le_refl l.length)
      rw [List.take_length] at hfl
      refine PCall.freeze (id := 1) (args' := [byteA 34, bytesA l.flatten]) rfl ?_ ?_
      · simp
        refine ⟨.same _, .own (fun e he => ?_) (by simpa using hfl) ?_⟩
        · obtain ⟨x, -, rfl⟩ := List.mem_map.1 he; rfl
        · rw [flat_bytes]
          simp [hfl]
      refine (Tagged_any 34 _ (by omega)).use (by simp) ?_
      simp [endsS, List.take_of_length_le]
theorem halfSum_snoc (l : List UInt8) (c : UInt8) : halfSum (l ++ [c]) = halfSum l + (c.toNat / 16 + c.toNat % 16) := by
  unfold halfSum
  rw [List.foldl_append]
  rfl
theorem halfSum_le (l : List UInt8) : halfSum l ≤ 30 * l.length := by
  rcases List.eq_nil_or_concat l with rfl | ⟨l', c, rfl⟩
  · simp [halfSum]
  · have ih := halfSum_le l'
    have := c.toNat_lt
    simp only [List.concat_eq_append, halfSum_snoc, List.length_append, List.length_singleton]
    omega
termination_by l.length
decreasing_by subst_vars; simp
theorem halvesB_len (l : List UInt8) : ((l.map halvesB).flatten).length = 2 * l.length := by
  induction l with
  | nil => rfl
  | cons a l ih => simp only [List.map_cons, List.flatten_cons, List.length_append, ih, List.length_cons, halvesB, List.length_nil]; omega
def dA (n : Nat) : AV := .c (.int .i64 n)
@[simp] theorem dA_cells (n : Nat) : (dA n).cells = [dA n] := rfl
@[simp] theorem bd_dA (k n : Nat) : Bd k (dA n) := .c _
theorem nib_hi : ∀ n : Fin 256, IntKind.i64.wrap ((n.1 : Int) / 16) = ((n.1 / 16 : Nat) : Int) := by decide +kernel
theorem nib_lo : ∀ n : Fin 256, IntKind.i64.wrap (bits .and .u8 (n.1 : Int) 15) = ((n.1 % 16 : Nat) : Int) := by decide +kernel
theorem nib_s : ∀ n : Fin 241, bits .and .i64 (n.1 : Int) 15 = ((n.1 % 16 : Nat) : Int) := by decide +kernel
/-- onetime.Digits. -/
theorem Digits_any (m : List UInt8) (hm : m.length = 8) : PCall Tryz.prog 295 [nmA m] [] (fun x _ => Bd 0 x ∧ x = .ls 1 ((digitsS m).map dA)) := by
  refine PCall.viewR (PCall.enter mixed Tryz.func295 rfl Tryz.ntmps295 Tryz.results295 (by simp) (by kernel_rfl) ?_)
  simp [List.replicate, hm, List.take_of_length_le]
  refine W_loop (fun k env H => ∃ (i : Nat) (ext : List AV), k = 8 - i ∧ i ≤ 8 ∧ (∀ a ∈ ext, Bd 0 a) ∧ env = [.any, .any, .any, .own 1 0 (2 * i) 1, .c (.int .i64 ((240 - halfSum (m.take i) : Nat) : Int)), .any, .any, .any, .any, .any, nmA m, .c (.int .i64 i)] ++ List.replicate 26 .any ∧ H = [.row 1000034 false (m.map byteA), .row 3 false (((m.take i).map halvesB).flatten.map dA ++ ext)]) 8 ?_ ?_
  · refine ⟨_, _, ?_, 0, reps 18 [.c (.int .i64 0)], by simp, by simp, by simp [reps], rfl, rfl⟩
    refine View.renum [0, 1] (by simp) (by simp [reps]) ?_
    simp [halfSum]
  · rintro k env H ⟨i, ext, rfl, hi, he, rfl, rfl⟩
    have hs := halfSum_le (m.take i)
    have hml : (m.take i).length = i := by rw [List.length_take]; omega
    have hl : ((m.take i).map halvesB).flatten.length = 2 * i := by rw [halvesB_len, hml]
    simp [List.replicate]
    refine ⟨fun hlt => ?_, fun hge => ?_⟩
    · obtain ⟨c, hc⟩ : ∃ c, m[i]? = some c := ⟨_, List.getElem?_eq_getElem (by omega)⟩
      have n1 := nib_hi ⟨c.toNat, c.toNat_lt⟩
      have n2 := nib_lo ⟨c.toNat, c.toNat_lt⟩
      simp only at n1 n2
      have hs1 : halfSum (m.take (i + 1)) = halfSum (m.take i) + (c.toNat / 16 + c.toNat % 16) := by rw [List.take_add_one, hc]; exact halfSum_snoc _ _
      have hcl := c.toNat_lt
      have e : ((240 - halfSum (m.take i) : Nat) : Int) - ((c.toNat : Int) / 16 + (c.toNat : Int) % 16) = ((240 - halfSum (m.take (i + 1)) : Nat) : Int) := by rw [hs1]; omega
      simp [hc, n1, n2, e]
      refine ⟨by omega, by omega, by omega, by omega, by omega, 8 - (i + 1), by omega, _, _, ?_, i + 1, rfl, by omega, [], by simp, rfl, rfl⟩
      refine View.renum [0, 3] (by simp) ?_ ?_
      · rw [show m.take (i + 1) = m.take i ++ [c] by rw [List.take_add_one, hc]; rfl]
        simp [hl, halvesB, dA, flat]
        rintro a (⟨b, -, rfl⟩ | rfl | rfl) <;> exact .c _
      · simp [Nat.mul_add]
    · obtain rfl : i = 8 := by omega
      have hq := nib_s ⟨240 - halfSum (m.take 8), by omega⟩
      simp only at hq
      rw [List.take_of_length_le (by omega)] at hl hq
      simp [hq, List.take_of_length_le, hm]
      refine ⟨_, View.fz1 (id := 3) rfl (.own (fun e he => ?_) ?_ ?_)⟩
      · obtain ⟨x, -, rfl⟩ := List.mem_map.1 he; rfl
      · simp [digitsS_len hm]
      · rw [flat_ones (by simp [dA, AV.isAgg])]
        simp [flat, digitsS, hl, dA, List.take_of_length_le]
theorem recTo_8 : ∀ {c : Nat} {ds : List Nat} {vs : List (List UInt8)}, (∀ x ∈ vs, x.length = 8) → (∀ x ∈ recTo c ds vs, x.length = 8)
  | _, [], _, _ => by intro x hx; simp [recTo] at hx
  | _, _ :: _, [], _ => by intro x hx; simp [recTo] at hx
  | c, d :: ds, v :: vs, h => by
    intro x hx
    rcases List.mem_cons.1 (show x ∈ walkS c (15 - d) d v :: recTo (c + 1) ds vs from hx) with rfl | hx
    · exact walkS_len (h v (by simp))
    · exact recTo_8 (fun y hy => h y (by simp [hy])) x hx
theorem digits_le (m : List UInt8) : ∀ d ∈ digitsS m, d ≤ 15 := by
  intro d hd
  unfold digitsS at hd
  rcases List.mem_append.1 hd with hd | hd
  · obtain ⟨x, hx, hd⟩ := List.mem_flatten.1 hd
    obtain ⟨c, -, rfl⟩ := List.mem_map.1 hx
    have := c.toNat_lt
    simp only [halvesB, List.mem_cons, List.not_mem_nil, or_false] at hd
    rcases hd with rfl | rfl <;> omega
  · simp only [List.mem_cons, List.not_mem_nil, or_false] at hd
    rcases hd with rfl | rfl <;> omega
theorem recTo_snoc : ∀ {k c d : Nat} {ds : List Nat} {vs : List (List UInt8)} {v : List UInt8}, ds[k]? = some d → vs[k]? = some v → recTo c (ds.take (k + 1)) vs = recTo c (ds.take k) vs ++ [walkS (c + k) (15 - d) d v]
  | 0, c, d, ds, vs, v, hd, hv => by
    match ds, vs, hd, hv with
    | _ :: _, _ :: _, hd, hv => simp at hd hv; subst hd; subst hv; simp [recTo]
  | k + 1, c, d, ds, vs, v, hd, hv => by
    match ds, vs, hd, hv with
    | e :: ds, u :: vs, hd, hv =>
      simp only [List.take_succ_cons, recTo]
      rw [recTo_snoc (by simpa using hd) (by simpa using hv), show c + 1 + k = c + (k + 1) from by omega]
      rfl
theorem recTo_cnt : ∀ {c : Nat} {ds : List Nat} {vs : List (List UInt8)}, ds.length ≤ vs.length → (recTo c ds vs).length = ds.length
  | _, [], _, _ => by simp [recTo]
  | _, _ :: _, [], h => by simp at h
  | c, d :: ds, v :: vs, h => by simp only [recTo, List.length_cons]; rw [recTo_cnt (by simpa using h)]
@[simp] theorem endsS_len (l : List (List UInt8)) : (endsS l).length = 8 := rfl
theorem flat_nms (l : List (List UInt8)) : flat (l.map nmA) = l.flatten.map byteA := by
  induction l with
  | nil => rfl
  | cons x l ih => rw [List.map_cons, flat_cons, ih, List.flatten_cons, List.map_append]; rfl
theorem Fz_nms {id n : Nat} {l : List (List UInt8)} {ext : List AV} (hn : l.length = n) (h8 : ∀ x ∈ l, x.length = 8) : Fz id (l.flatten.map byteA ++ ext) (.own id 0 n 8) (namesA l) := by
  refine .own (fun e he => ?_) (by simpa using hn) ?_
  · obtain ⟨x, hx, rfl⟩ := List.mem_map.1 he
    simpa using h8 x hx
  · rw [flat_nms, List.drop_zero, List.take_append_of_le_length (by rw [List.length_map, flatten_len h8, hn]; omega), List.take_of_length_le (by rw [List.length_map, flatten_len h8, hn]; omega)]
/-- onetime.Recover. -/
theorem Recover_any (m : List UInt8) (hm : m.length = 8) (sig : List (List UInt8)) (hs : sig.length = 18) (h8 : ∀ x ∈ sig, x.length = 8) : PCall Tryz.prog 249 [nmA m, namesA sig] [] (fun x _ => Bd 0 x ∧ x = .tup [nmA (recoverS m sig), .c (.bool true)]) := by
  refine PCall.enter mixed Tryz.func249 rfl Tryz.ntmps249 Tryz.results249 (by simp) (by kernel_rfl) ?_
  simp [List.replicate, hm, hs, List.take_of_length_le]
  refine (Digits_any m hm).use (by simp) ?_
  simp [digitsS_len hm]
  refine W_loop (fun k env H => ∃ i : Nat, k = 18 - i ∧ i ≤ 18 ∧ env = [nmA m, namesA sig, .any, .any, .ptr 0 0, .any, .own 1 0 18 8, .any, .any, .any, .any, .any, .any, .any, .any, .ls 1 ((digitsS m).map dA), .c (.int .i64 18), .c (.int .i64 i)] ++ List.replicate 17 .any ∧ H = [.row 1000034 false ((List.replicate 8 (0 : UInt8)).map byteA), .row 34 false ((recTo 0 ((digitsS m).take i) sig).flatten.map byteA ++ (List.replicate (144 - 8 * i) (0 : UInt8)).map byteA)]) 18 ?_ ?_
  · refine ⟨_, _, ?_, 0, by simp, by simp, rfl, rfl⟩
    refine View.renum [1, 2] (by simp) (by simp [reps, recTo, byteA]) ?_
    simp
  · rintro k env H ⟨i, rfl, hi, rfl, rfl⟩
    have hds := digitsS_len hm
    have hcn : (recTo 0 ((digitsS m).take i) sig).length = i := by rw [recTo_cnt (by rw [List.length_take]; omega), List.length_take]; omega
    have hfl : (recTo 0 ((digitsS m).take i) sig).flatten.length = 8 * i := by rw [flatten_len (recTo_8 h8), hcn]
    simp [List.replicate]
    refine ⟨fun hlt => ?_, fun hge => ?_⟩
    · obtain ⟨d, hd⟩ : ∃ d, (digitsS m)[i]? = some d := ⟨_, List.getElem?_eq_getElem (by omega)⟩
      obtain ⟨v, hv⟩ : ∃ v, sig[i]? = some v := ⟨_, List.getElem?_eq_getElem (by omega)⟩
      have hv8 := h8 v (List.mem_of_getElem? hv)
      have hd15 := digits_le m d (List.mem_of_getElem? hd)
      simp [hd, hv, hv8]
      refine (walk_any v hv8 i d 15 (by omega) hd15 (by decide)).use (by simp) ?_
      have hw8 : (walkS i (15 - d) d v).length = 8 := walkS_len hv8
      simp [hw8, hfl]
      refine ⟨by omega, by omega, by omega, 18 - (i + 1), by omega, _, _, ?_, i + 1, rfl, by omega, rfl, rfl⟩
      refine View.renum [0, 1] (by simp) ?_ (by simp [dA])
      rw [recTo_snoc hd hv]
      simp [splice, hfl, hw8, Nat.mul_comm i 8]
      refine ⟨?_, ?_⟩
      · rw [List.drop_append, List.drop_of_length_le (by rw [List.length_map, hfl]; omega), List.length_map, hfl, List.nil_append, List.drop_replicate]
        congr 1
        omega
      · rintro a (⟨b, -, rfl⟩ | ⟨b, -, rfl⟩ | ⟨-, rfl⟩) <;> exact .c _
    · obtain rfl : i = 18 := by omega
      rw [List.take_of_length_le (Nat.le_of_eq hds)] at hcn hfl ⊢
      refine PCall.freeze (id := 1) (args' := [namesA (recTo 0 (digitsS m) sig)]) rfl ?_ ?_
      · simp
        have := Fz_nms (id := 1) (ext := []) hcn (recTo_8 h8)
        rwa [List.append_nil] at this
      refine (public_any _ (by omega) (recTo_8 h8)).use (by simp) ?_
      simp [recoverS, List.take_of_length_le]
end

section
open Go.RowKit
set_option maxRecDepth 10000
attribute [-simp] List.map_take List.map_drop UInt8.ofNat_add List.map_flatten

theorem fol_left {leaf : List UInt8} {d i : Nat} {p : List (List UInt8)} {q : List UInt8} (h : i < 2 ^ d) : followS leaf (d + 1) i (p ++ [q]) = tagged 0x12 (followS leaf d i p ++ q) := by
  simp [followS, h]
theorem fol_right {leaf : List UInt8} {d i : Nat} {p : List (List UInt8)} {q : List UInt8} (h : ¬ i < 2 ^ d) : followS leaf (d + 1) i (p ++ [q]) = tagged 0x12 (q ++ followS leaf d (i - 2 ^ d) p) := by
  simp [followS, h]
/-- merkle.computed. -/
theorem computed_any : ∀ (d : Nat), d ≤ 20 → ∀ (leaf : List UInt8) (i : Nat) (p : List (List UInt8)), leaf.length = 8 → i < 2 ^ d → p.length = d → (∀ x ∈ p, x.length = 8) → PCall Tryz.prog 299 [nmA leaf, .c (.int .i64 i), .c (.int .i64 ((2 ^ d : Nat) : Int)), namesA p] [] (fun x _ => Bd 0 x ∧ x = nmA (followS leaf d i p))
  | 0, _, leaf, i, p, hl, hi, hp, h8 => by
    refine PCall.enter mixed Tryz.func299 rfl Tryz.ntmps299 Tryz.results299 (by simp) (by kernel_rfl) ?_
    simp [List.replicate, hl, List.take_of_length_le]
    refine (single_any leaf hl).use (by simp) ?_
    simp [followS, List.take_of_length_le]
  | d + 1, hd, leaf, i, p, hl, hi, hp, h8 => by
    have ih := computed_any d (by omega)
    obtain ⟨q, s, rfl⟩ : ∃ q s, p = q ++ [s] := ⟨p.dropLast, p.getLast (by rintro rfl; simp at hp), (List.dropLast_concat_getLast _).symm⟩
    have hq : q.length = d := by simpa using hp
    have h8q : ∀ x ∈ q, x.length = 8 := fun x hx => h8 x (by simp [hx])
    have hs8 : s.length = 8 := h8 s (by simp)
    have hb : 2 ^ d ≤ 2 ^ 20 := Nat.pow_le_pow_right (by decide) (by omega)
    have hsp := split_any d (by omega)
    have hM : 2 ^ (d + 1) = 2 * 2 ^ d := by rw [Nat.pow_succ]; omega
    refine PCall.enter mixed Tryz.func299 rfl Tryz.ntmps299 Tryz.results299 (by simp) (by kernel_rfl) ?_
    rw [hM] at hi hsp ⊢
    have h1 : (1 : Int) ≤ ((2 ^ d : Nat) : Int) := by have := Nat.two_pow_pos d; omega
    by_cases hlt : i < 2 ^ d
    · rw [fol_left hlt]
      generalize 2 ^ d = M at *
      simp only [Int.natCast_mul, Int.cast_ofNat_Int] at hsp
      simp [List.replicate, hl, List.take_of_length_le]
      refine ⟨fun e => by omega, fun _ => hsp.use (by simp) ?_⟩
      simp [hq, hlt]
      refine ⟨by omega, ?_⟩
      simp (decide := true) [hq, hl, List.take_of_length_le]
      refine ⟨by omega, nextDC.use (ih leaf i q hl hlt hq h8q) (by simp) ?_⟩
      have hf := followS_len leaf d i q
      simp [hq, hs8]
      refine nextDC.use (Pair_any 18 _ s hf hs8) (by simp) ?_
      simp [List.take_of_length_le]
    · rw [fol_right hlt]
      generalize 2 ^ d = M at *
      simp only [Int.natCast_mul, Int.cast_ofNat_Int] at hsp
      simp [List.replicate, hl, List.take_of_length_le]
      refine ⟨fun e => by omega, fun _ => hsp.use (by simp) ?_⟩
      simp [hq, hlt]
      refine ⟨by omega, ?_⟩
      simp (decide := true) [hq, hl, hs8, List.take_of_length_le]
      have e1 : (i : Int) - M = ((i - M : Nat) : Int) := by omega
      have e2 : 2 * (M : Int) - M = M := by omega
      rw [e1, e2]
      refine ⟨by omega, by omega, by omega, nextDC.use (ih leaf (i - M) q hl (by omega) hq h8q) (by simp) ?_⟩
      have hf := followS_len leaf d (i - M) q
      simp
      refine nextDC.use (Pair_any 18 s _ hs8 hf) (by simp) ?_
      simp [List.take_of_length_le]
/-- merkle.Follow. -/
theorem Follow_any (d : Nat) (hd : d ≤ 20) (leaf : List UInt8) (i : Nat) (p : List (List UInt8)) (hl : leaf.length = 8) (hi : i < 2 ^ d) (hp : p.length = d) (h8 : ∀ x ∈ p, x.length = 8) : PCall Tryz.prog 251 [nmA leaf, .c (.int .i64 i), .c (.int .i64 ((2 ^ d : Nat) : Int)), namesA p] [] (fun x _ => Bd 0 x ∧ x = .tup [nmA (followS leaf d i p), .c (.bool true)]) := by
  have hD := Depth_any d (by omega) i
  have hC := computed_any d hd leaf i p hl hi hp h8
  refine PCall.enter mixed Tryz.func251 rfl Tryz.ntmps251 Tryz.results251 (by simp) (by kernel_rfl) ?_
  generalize 2 ^ d = M at *
  rw [if_pos ⟨by omega, by omega⟩] at hD
  simp [List.replicate]
  refine hD.use (by simp) ?_
  have hf := followS_len leaf d i p
  simp (decide := true) [hp, hl, List.take_of_length_le]
  refine hC.use (by simp) ?_
  simp [hf, List.take_of_length_le]
end

section
open Go.RowKit
set_option maxRecDepth 10000
attribute [-simp] List.map_take List.map_drop

/-- n bytes follow at off. -/
def fol (bs : List UInt8) (off n : Int) : Bool := decide (0 ≤ off ∧ off ≤ bs.length ∧ n ≤ bs.length - off)
theorem follow_any (bs : List UInt8) (off n : Int) (hb : bs.length < 100000000000) : PCall Tryz.prog 220 [bytesA bs, .c (.int .i64 off), .c (.int .i64 n)] [] (fun x _ => Bd 0 x ∧ x = .c (.bool (fol bs off n))) := by
  refine PCall.enter mixed Tryz.func220 rfl Tryz.ntmps220 Tryz.results220 (by simp) (by kernel_rfl) ?_
  simp [List.replicate]
  refine ⟨fun h1 => ⟨fun h2 => ⟨by omega, by simp [fol, h1, h2]⟩, fun h2 => by simp [fol]; omega⟩, fun h1 => by simp [fol]; omega⟩
/-- codec.Uint: the number of n bytes at off, and whether there are such. -/
def uintS (bs : List UInt8) (off n : Int) : Int × Bool := if 1 ≤ n ∧ n ≤ 8 ∧ fol bs off n = true then (be ((bs.drop off.toNat).take n.toNat), true) else (0, false)
theorem Uint_any (bs : List UInt8) (off n : Int) (hb : bs.length < 100000000000) : PCall Tryz.prog 157 [bytesA bs, .c (.int .i64 off), .c (.int .i64 n)] [] (fun x _ => Bd 0 x ∧ x = .tup [.c (.int .u64 (uintS bs off n).1), .c (.bool (uintS bs off n).2)]) := by
  refine PCall.enter mixed Tryz.func157 rfl Tryz.ntmps157 Tryz.results157 (by simp) (by kernel_rfl) ?_
  simp [List.replicate]
  refine ⟨fun h1 => ⟨fun h2 => ?_, fun h2 => ?_⟩, fun h1 => ?_⟩
  · refine (follow_any bs off n hb).use (by simp) ?_
    simp
    refine ⟨fun hf => by simp [uintS, hf], fun hf => ?_⟩
    have hf' := hf
    simp only [fol, decide_eq_true_eq] at hf'
    obtain ⟨g1, g2, g3⟩ := hf'
    have he : (off + n).toNat - off.toNat = n.toNat := by omega
    have hu : uintS bs off n = ((be ((bs.drop off.toNat).take n.toNat) : Int), true) := by simp [uintS, h1, h2, hf]
    obtain ⟨l, hl, hll⟩ : ∃ l, l = (bs.drop off.toNat).take n.toNat ∧ l.length = n.toNat := ⟨_, rfl, by simp; omega⟩
    rw [hu, ← hl]
    simp [he, ← hl]
    refine ⟨by omega, by omega, ?_⟩
    refine W_loop (fun m env H => ∃ i : Nat, m = l.length - i ∧ i ≤ l.length ∧ env = [.any, .any, .any, .any, .any, .any, .any, .any, .c (.int .u64 (be (l.take i)))] ++ List.replicate 20 .any ++ [bytesA l, .c (.int .i64 l.length), .c (.int .i64 i)] ++ List.replicate 10 .any ∧ H = []) l.length ?_ ?_
    · refine ⟨_, _, ?_, 0, by simp, by simp, rfl, rfl⟩
      refine View.renum [] (by simp) (by simp) ?_
      have hmin : min n.toNat (bs.length - off.toNat) = l.length := by omega
      simp [be, List.replicate, hmin]
    · rintro m env H ⟨i, rfl, hi, rfl, rfl⟩
      simp [List.replicate]
      refine ⟨fun hlt => ?_, fun hge => ?_⟩
      · obtain ⟨c, hc⟩ : ∃ c, l[i]? = some c := ⟨_, List.getElem?_eq_getElem (by omega)⟩
        have hb := be_take_lt l i
        have hb2 : be (l.take i) < 72057594037927936 := Nat.lt_of_lt_of_le hb (Nat.pow_le_pow_right (n := 256) (by decide) (show i ≤ 7 by omega))
        have hw : IntKind.u64.wrap (c.toNat : Int) = (c.toNat : Int) := wrap_u64_nat _ (by have := c.toNat_lt; omega)
        simp [hc, hw, or_byte _ _ hb2]
        refine ⟨by omega, l.length - (i + 1), by omega, _, _, View.renum [] (by simp) (by simp) ?_, i + 1, rfl, by omega, rfl, rfl⟩
        simp [be_take_succ _ _ _ hc]
      · obtain rfl : i = l.length := by omega
        simp [List.take_of_length_le]
  · have : ¬ n ≤ 8 := by omega
    simp [uintS, this]
  · have : ¬ 1 ≤ n := by omega
    simp [uintS, this]
/-- codec.Bytes: a run of bytes behind its length, and where it ends. -/
def runS (bs : List UInt8) (off : Int) : Option (List UInt8 × Int) := if (uintS bs off 2).2 = true ∧ fol bs (off + 2) (uintS bs off 2).1 = true then some ((bs.drop (off + 2).toNat).take (uintS bs off 2).1.toNat, off + 2 + (uintS bs off 2).1) else none
def runA : Option (List UInt8 × Int) → AV
  | some (l, z) => .tup [bytesA l, .c (.int .i64 z), .c (.bool true)]
  | none => .tup [.c (.slice none 0 0), .c (.int .i64 0), .c (.bool false)]
end

section
open Go.RowKit
set_option maxRecDepth 10000
attribute [-simp] List.map_take List.map_drop UInt8.ofNat_add List.map_flatten

theorem namesS_len (b : List UInt8) (o n : Nat) : (namesS b o n).length = n := by simp [namesS]
theorem namesS_8 {b : List UInt8} {o n : Nat} (h : o + 8 * n ≤ b.length) : ∀ x ∈ namesS b o n, x.length = 8 := by
  intro x hx
  simp only [namesS, List.mem_map, List.mem_range] at hx
  obtain ⟨i, hi, rfl⟩ := hx
  simp; omega
theorem namesS_succ (b : List UInt8) (o n : Nat) : namesS b o (n + 1) = namesS b o n ++ [(b.drop (o + 8 * n)).take 8] := by
  simp [namesS, List.range_succ]
/-- manytime.names. -/
theorem mnames_any (b : List UInt8) (o n : Nat) (hb : b.length ≤ 100000) (hn : n ≤ 1000) (h : o + 8 * n ≤ b.length) : PCall Tryz.prog 250 [bytesA b, .c (.int .i64 o), .c (.int .i64 n)] [] (fun x _ => Bd 0 x ∧ x = namesA (namesS b o n)) := by
  refine PCall.viewR (PCall.enter mixed Tryz.func250 rfl Tryz.ntmps250 Tryz.results250 (by simp) (by kernel_rfl) ?_)
  simp [List.replicate]
  refine ⟨⟨by omega, by omega⟩, ?_⟩
  refine W_loop (fun k env H => ∃ i : Nat, k = n - i ∧ i ≤ n ∧ env = [bytesA b, .c (.int .i64 o), .any, .any, .any, .any, .any, .own 0 0 n 8, .any, .any, .any, .any, .c (.int .i64 n), .c (.int .i64 i)] ++ List.replicate 15 .any ∧ H = [.row 34 false ((namesS b o i).flatten.map byteA ++ (List.replicate (8 * (n - i)) (0 : UInt8)).map byteA)]) n ?_ ?_
  · refine ⟨_, _, ?_, 0, by simp, by simp, rfl, rfl⟩
    refine View.renum [0] (by simp) ?_ (by simp)
    simp [namesS]
    show (List.replicate n (List.replicate 8 (byteA 0))).flatten = _
    rw [List.flatten_replicate_replicate, Nat.mul_comm]
  · rintro k env H ⟨i, rfl, hi, rfl, rfl⟩
    have hfl : (namesS b o i).flatten.length = 8 * i := by rw [flatten_len (namesS_8 (by omega)), namesS_len]
    simp [List.replicate]
    refine ⟨fun hlt => ?_, fun hge => ?_⟩
    · have e8 : ((o : Int) + i * 8).toNat = o + 8 * i := by omega
      have em : (b.length - (o + 8 * i)).min 8 = 8 := Nat.min_eq_right (by omega)
      simp (decide := true) [hfl, e8, em]
      refine ⟨hlt, by omega, by omega, by omega, by omega, by omega, by omega, n - (i + 1), by omega, _, _, ?_, i + 1, rfl, by omega, rfl, rfl⟩
      refine View.renum [0] (by simp) ?_ (by simp)
      rw [namesS_succ]
      have hw8 : ((b.drop (o + 8 * i)).take 8).length = 8 := by simp; omega
      generalize (b.drop (o + 8 * i)).take 8 = v at *
      simp [splice, hfl, hw8, Nat.mul_comm i 8]
      refine ⟨?_, ?_⟩
      · rw [List.drop_append, List.drop_of_length_le (by rw [List.length_map, hfl]; omega), List.length_map, hfl, List.nil_append, List.drop_replicate]
        congr 1
        omega
      · rintro a (⟨b, -, rfl⟩ | ⟨b, -, rfl⟩ | ⟨-, rfl⟩) <;> exact .c _
    · obtain rfl : i = n := by omega
      simp
      refine ⟨_, View.fz1 (id := 0) rfl ?_⟩
      have := Fz_nms (id := 0) (ext := []) (namesS_len b o i) (namesS_8 h)
      rwa [List.append_nil] at this
/-- manytime.climbed. -/
theorem climbed_any (b m : List UInt8) (o j : Nat) (hb : b.length ≤ 100000) (hm : m.length = 8) (ho : o + 184 ≤ b.length) (hj : j < 32) : PCall Tryz.prog 204 [bytesA b, .c (.int .i64 o), .c (.int .i64 j), nmA m] [] (fun x _ => Bd 0 x ∧ x = nmA (climbS b o j m)) := by
  have hN := mnames_any b o 18 hb (by decide) (by omega)
  have hN2 := mnames_any b (o + 144) 5 hb (by decide) (by omega)
  have hR := Recover_any m hm (namesS b o 18) (namesS_len _ _ _) (namesS_8 (by omega))
  have hF := Follow_any 5 (by decide) (recoverS m (namesS b o 18)) j (namesS b (o + 144) 5) (recoverS_len _ _) hj (namesS_len _ _ _) (namesS_8 (by omega))
  refine PCall.enter mixed Tryz.func204 rfl Tryz.ntmps204 Tryz.results204 (by simp) (by kernel_rfl) ?_
  simp (decide := true) [List.replicate, hm, List.take_of_length_le]
  refine nextNC.use hN (by simp) ?_
  simp (decide := true)
  refine nextNC.use hR (by simp) ?_
  have hr8 := recoverS_len m (namesS b o 18)
  simp only [Int.natCast_add, Int.cast_ofNat_Int] at hN2
  rw [show ((2 ^ 5 : Nat) : Int) = 32 from rfl] at hF
  have hf8 := followS_len (recoverS m (namesS b o 18)) 5 j (namesS b (o + 144) 5)
  simp (decide := true) [hr8, hm, List.take_of_length_le]
  refine ⟨by omega, nextNC.use hN2 (by simp) ?_⟩
  simp (decide := true)
  refine nextNC.use hF (by simp) ?_
  simp (decide := true) [hf8, hr8, climbS, List.take_of_length_le]
  omega
/-- manytime.Leaf. -/
theorem Leaf_any (b : List UInt8) (hb : b.length ≤ 100000) : PCall Tryz.prog 202 [bytesA b] [] (fun x _ => Bd 0 x ∧ x = .tup [.c (.int .i64 (if 2 ≤ b.length then (leafS b : Int) else 0)), .c (.bool (decide (2 ≤ b.length)))]) := by
  refine PCall.enter mixed Tryz.func202 rfl Tryz.ntmps202 Tryz.results202 (by simp) (by kernel_rfl) ?_
  simp [List.replicate]
  refine (Uint_any b 0 2 (by omega)).use (by simp) ?_
  simp
  by_cases h2 : 2 ≤ b.length
  · have hf : fol b 0 2 = true := by simp [fol]; omega
    have hlt := be_lt (b.take 2)
    have h65 : be (b.take 2) < 65536 := Nat.lt_of_lt_of_le hlt (by rw [List.length_take, Nat.min_eq_left h2]; decide)
    rw [uintS, if_pos ⟨by decide, by decide, hf⟩, if_pos h2, decide_eq_true h2]
    refine ⟨?_, rfl⟩
    show IntKind.i64.wrap ((be (b.take 2) : Nat) : Int) = _
    rw [leafS, inr64_wrap (by simp [inr64]; omega)]
  · have hf : fol b 0 2 = false := by simp [fol]; omega
    rw [uintS, if_neg (by simp [hf]), if_neg h2, decide_eq_false h2]
    exact ⟨rfl, rfl⟩
/-- manytime.Capacity of two levels. -/
theorem Capacity_2 : PCall Tryz.prog 203 [.c (.int .i64 2)] [] (fun x _ => Bd 0 x ∧ x = .c (.int .i64 1024)) := by
  refine PCall.enter mixed Tryz.func203 rfl Tryz.ntmps203 Tryz.results203 (by simp) (by kernel_rfl) ?_
  simp [List.replicate]
/-- manytime.Size of two levels. -/
theorem Size_2 : PCall Tryz.prog 171 [.c (.int .i64 2)] [] (fun x _ => Bd 0 x ∧ x = .c (.int .i64 370)) := by
  refine PCall.enter mixed Tryz.func171 rfl Tryz.ntmps171 Tryz.results171 (by simp) (by kernel_rfl) ?_
  simp [List.replicate]
/-- manytime.Verify at two levels. -/
theorem mVerify_any (pub m b : List UInt8) (hp : pub.length = 8) (hm : m.length = 8) (hb : b.length ≤ 100000) : PCall Tryz.prog 130 [nmA pub, .c (.int .i64 2), nmA m, bytesA b] [] (fun x _ => Bd 0 x ∧ x = .c (.bool (verS pub m b))) := by
  refine PCall.enter mixed Tryz.func130 rfl Tryz.ntmps130 Tryz.results130 (by simp) (by kernel_rfl) ?_
  simp [List.replicate]
  refine (Leaf_any b hb).use (by simp) ?_
  simp
  by_cases h2 : 2 ≤ b.length
  · rw [if_pos h2, decide_eq_true h2]
    have hl : leafS b < 65536 := Nat.lt_of_lt_of_le (be_lt (b.take 2)) (by rw [List.length_take, Nat.min_eq_left h2]; decide)
    have hs : ¬ b.length = 370 → verS pub m b = false := fun h => by simp [verS, h]
    have hq : ¬ leafS b < 1024 → verS pub m b = false := fun h => by simp [verS, h]
    simp
    refine ⟨fun _ => Size_2.use (by simp) ?_, fun h => hs (by omega)⟩
    simp
    refine ⟨fun h3 => Capacity_2.use (by simp) ?_, fun h3 => hs (by omega)⟩
    simp
    refine ⟨fun h4 => hq (by omega), fun h4 => ?_⟩
    have c1 := climbed_any b m 2 (leafS b % 32) hb hm (by omega) (by omega)
    have hc := climbS_len b 2 (leafS b % 32) m
    have c2 := climbed_any b _ 186 (leafS b / 32) hb hc (by omega) (by omega)
    have e1 : (leafS b : Int).tmod 32 = ((leafS b % 32 : Nat) : Int) := by rw [Int.tmod_eq_emod_of_nonneg (by omega)]; omega
    have e2 : (leafS b : Int).tdiv 32 = ((leafS b / 32 : Nat) : Int) := by rw [Int.tdiv_eq_ediv_of_nonneg (by omega)]; omega
    have hv : verS pub m b = decide (climbS b 186 (leafS b / 32) (climbS b 2 (leafS b % 32) m) = pub) := by
      have h3' : b.length = 370 := by omega
      have h4' : leafS b < 1024 := by omega
      simp [verS, h3', h4']
    obtain ⟨j, hj⟩ : ∃ j, leafS b % 32 = j := ⟨_, rfl⟩
    obtain ⟨k, hk⟩ : ∃ k, leafS b / 32 = k := ⟨_, rfl⟩
    rw [hj] at e1 c1 hc c2 hv
    rw [hk] at e2 c2 hv
    have hc2 := climbS_len b 186 k (climbS b 2 j m)
    have hw : IntKind.i64.wrap (k : Int) = k := inr64_wrap (by simp [inr64]; omega)
    simp [e1, hm, List.take_of_length_le]
    refine c1.use (by simp) ?_
    simp [hc, e2, hw, List.take_of_length_le]
    refine c2.use (by simp) ?_
    simp [hc, hc2, hp, hv, List.take_of_length_le]
  · have : ¬ b.length = 370 := by omega
    rw [decide_eq_false h2]
    simp
    exact ⟨fun h => absurd h h2, fun _ => by simp [verS, this]⟩
end

section
open Go.RowKit
set_option maxRecDepth 10000
attribute [-simp] List.map_take List.map_drop

/-- A cursor's cells. -/
abbrev curC (d : List UInt8) (off : Int) (bad : Bool) : List AV := [bytesA d, .c (.int .i64 off), .c (.bool bad)]
/-- What a cursor reads as a number: the number, where it stands then, whether it failed. -/
def curU (d : List UInt8) (off : Int) (bad : Bool) (n : Int) : Int × Int × Bool := if bad = true ∨ (uintS d off n).2 = false then (0, off, true) else (IntKind.i64.wrap (uintS d off n).1, off + n, false)
/-- What a cursor reads as a name. -/
def curN (d : List UInt8) (off : Int) (bad : Bool) : List UInt8 × Int × Bool := if bad = true ∨ d.length - off < 8 then (List.replicate 8 0, off, true) else ((d.drop off.toNat).take 8, off + 8, false)
/-- What a cursor reads as a run. -/
def curB (d : List UInt8) (off : Int) (bad : Bool) : Option (List UInt8) × Int × Bool := match bad, runS d off with
  | false, some (l, z) => (some l, z, false)
  | _, _ => (none, off, true)
def optB : Option (List UInt8) → AV
  | some l => bytesA l
  | none => .c (.slice none 0 0)
end

section
open Go.RowKit
set_option maxRecDepth 10000
attribute [-simp] List.map_take List.map_drop

theorem reps_bytes (n : Nat) : reps n [AV.c (.int .u8 0)] = (List.replicate n (0 : UInt8)).map byteA := by
  induction n with
  | zero => rfl
  | succ n ih => simp [reps, List.replicate_succ, byteA]
theorem extended_any (b : List UInt8) (n : Nat) (hb : b.length < 10000000000) (hn : n ≤ 10000) : PCall Tryz.prog 98 [bytesA b, .c (.int .i64 n)] [] (fun x H1 => x = .own 0 0 b.length 1 ∧ ∃ junk, H1 = .row 5 false ((b ++ List.replicate n 0).map byteA) :: junk) := by
  refine PCall.enter mixed Tryz.func98 rfl Tryz.ntmps98 Tryz.results98 (by simp) (by kernel_rfl) ?_
  simp [List.replicate]
  have e : ((b.length : Int) + n).toNat = b.length + n := by omega
  rw [e, reps_bytes, splice_bytes]
  refine ⟨by omega, by omega, by simp, ?_⟩
  rw [List.drop_replicate]
  simp
theorem beB_get : ∀ (v : Int) (n j : Nat), j < n → (beB v n)[j]? = some (byteAt v (n - 1 - j))
  | v, 0, j, h => by omega
  | v, n + 1, 0, _ => rfl
  | v, n + 1, j + 1, h => by
    rw [beB, List.getElem?_cons_succ, beB_get v n j (by omega)]
    congr 2
    omega
theorem bdB (xs : List UInt8) : ∀ a ∈ xs.map byteA, Bd 0 a := fun a ha => by obtain ⟨x, -, rfl⟩ := List.mem_map.1 ha; exact .c _
theorem fdiv_pow (y : Int) (n : Nat) : y.fdiv (2 ^ n) = y / 2 ^ n := Int.fdiv_eq_ediv_of_nonneg _ (Int.pow_nonneg (by decide))
theorem byteAt_of (v : Int) (i : Nat) : AV.c (.int .u8 (v / 2 ^ (8 * i) % 256)) = byteA (byteAt v i) := byte_of _
/-- codec.AppendUint. -/
theorem AppendUint_any (b : List UInt8) (v : Int) (n : Nat) (hb : b.length < 1000000000) (hn : n ≤ 8) : PCall Tryz.prog 56 [bytesA b, .c (.int .u64 v), .c (.int .i64 n)] [] (fun x H1 => x = .own 0 0 (b.length + n) 1 ∧ ∃ junk, H1 = .row 5 false ((b ++ beB v n).map byteA) :: junk) := by
  refine PCall.viewR (PCall.enter mixed Tryz.func56 rfl Tryz.ntmps56 Tryz.results56 (by simp) (by kernel_rfl) ?_)
  have e1 : ¬ ((n : Int) < 0) := by omega
  have e2 : ¬ (8 < (n : Int)) := by omega
  simp [List.replicate, e1, e2]
  refine (PCall.fresh (extended_any b n (by omega) (by omega)) (by simp) (bdB _) (.own 0 _ 1)).goes ?_
  simp
  refine ⟨by omega, ?_⟩
  refine W_loop (fun m env H => ∃ (j : Nat) (ext : List AV), m = n - j ∧ j ≤ n ∧ (j = n → ext = []) ∧ (∀ a ∈ ext, Bd 0 a) ∧ env = [.any, .c (.int .u64 v), .any, .any, .any, .any, .any, .own 0 0 (b.length + j) 1, .c (.int .i64 ((n : Int) - 1 - j))] ++ List.replicate 21 .any ∧ H = [.row 5 false ((b ++ (beB v n).take j).map byteA ++ ext)]) n ?_ ?_
  · refine ⟨_, _, ?_, 0, (List.replicate n (0 : UInt8)).map byteA, by simp, by simp, fun h => by rw [← h]; rfl, bdB _, rfl, rfl⟩
    refine View.renum [0] (by simp) (by simp [or_imp, forall_and]) ?_
    simp [List.replicate]
  · rintro m env H ⟨j, ext, rfl, hj, hex, hext, rfl, rfl⟩
    simp [List.replicate]
    refine ⟨fun hlt => ?_, fun hge => ?_⟩
    · have hz : (8 * ((n : Int) - 1 - j)).toNat = 8 * (n - 1 - j) := by omega
      have hm : min (8 * (n - 1 - j)) 64 = 8 * (n - 1 - j) := by omega
      have ht : (beB v n).take (j + 1) = (beB v n).take j ++ [byteAt v (n - 1 - j)] := take_succ_map (beB_get v n j (by omega))
      simp only [hz, hm, fdiv_pow, wrap_u8, byteAt_of]
      refine ⟨by omega, by omega, by omega, by omega, n - (j + 1), by omega, _, _, ?_, j + 1, rfl, by omega, [], by simp, by simp, rfl, rfl⟩
      have hmj : min j n = j := by omega
      have e3 : (n : Int) - 1 - j - 1 = n - 1 - (j + 1) := by omega
      refine View.renum [2] (by simp) ?_ ?_
      · simp [ht, List.take_append, List.take_of_length_le, beB_len, or_imp, forall_and, hmj]
      · simp [e3, Nat.add_assoc]
    · obtain rfl : j = n := by omega
      obtain rfl : ext = [] := hex rfl
      refine ⟨_, _, View.refl _ _ _, rfl, [], ?_⟩
      rw [List.take_of_length_le (by rw [beB_len]; exact Nat.le_refl _)]
      simp
end

section
open Go
theorem bv_split (x m : BitVec 64) : (x &&& m) ||| (x &&& ~~~m) = x := by
  rw [← BitVec.and_or_distrib_left, BitVec.or_not_self, BitVec.and_allOnes]
theorem andNot_mask (x : Int) (h : in64 x) : (bits .andNot .i64 x 1023 == 0) = decide (0 ≤ x ∧ x ≤ 1023) := by
  obtain ⟨h1, h2⟩ := h
  have hm : (BitVec.ofInt 64 1023).toNat = 2 ^ 10 - 1 := by decide
  have key : (BitVec.ofInt 64 x &&& BitVec.ofInt 64 1023).toNat = (x % ((2 ^ 64 : Nat) : Int)).toNat % 2 ^ 10 := by
    rw [BitVec.toNat_and, BitVec.toNat_ofInt, hm, Nat.and_two_pow_sub_one_eq_mod]
  have hx : (BitVec.ofInt 64 x).toNat = (x % ((2 ^ 64 : Nat) : Int)).toNat := BitVec.toNat_ofInt ..
  have hlt := (BitVec.ofInt 64 x &&& ~~~ BitVec.ofInt 64 1023).isLt
  have e : bits .andNot .i64 x 1023 = IntKind.i64.wrap ((BitVec.ofInt 64 x &&& ~~~ BitVec.ofInt 64 1023).toNat : Nat) := rfl
  rw [Bool.eq_iff_iff, beq_iff_eq, decide_eq_true_eq, e, IntKind.wrap_i64]
  have hs := bv_split (BitVec.ofInt 64 x) (BitVec.ofInt 64 1023)
  constructor
  · intro hz
    have h0 : (BitVec.ofInt 64 x &&& ~~~ BitVec.ofInt 64 1023).toNat = 0 := by omega
    have h0' : (BitVec.ofInt 64 x &&& ~~~ BitVec.ofInt 64 1023) = 0#64 := BitVec.eq_of_toNat_eq h0
    rw [h0', BitVec.or_zero] at hs
    have := congrArg BitVec.toNat hs
    rw [key, hx] at this
    omega
  · rintro ⟨h3, h4⟩
    have e1 : BitVec.ofInt 64 x &&& BitVec.ofInt 64 1023 = BitVec.ofInt 64 x := by
      apply BitVec.eq_of_toNat_eq
      rw [key, hx]
      omega
    have e2 : (BitVec.ofInt 64 x &&& ~~~ BitVec.ofInt 64 1023) = 0#64 := by
      rw [← e1, BitVec.and_assoc, BitVec.and_not_self]; exact BitVec.and_zero
    rw [e2]
    decide
end

section
open Go.RowKit
set_option maxRecDepth 10000
attribute [-simp] List.map_take List.map_drop UInt8.ofNat_add List.map_flatten

/-- A vote's cells. -/
def vC (v : VoteS) : List AV := .c (.int .i64 v.kind) :: .c (.int .i64 v.slot) :: .c (.int .i64 v.round) :: .c (.int .i64 v.choice) :: .c (.int .i64 v.signer) :: .c (.int .i64 v.support) :: (v.parent.map byteA ++ v.value.map byteA)
def vA (v : VoteS) : AV := .agg (vC v)
@[simp] theorem vA_cells (v : VoteS) : (vA v).cells = vC v := rfl
theorem vC_len {v : VoteS} (h : v.Fit) : (vC v).length = 22 := by simp [vC, h.parent, h.value]
@[simp] theorem bd_vA (n : Nat) (v : VoteS) : Bd n (vA v) := by
  refine .agg (fun a ha => ?_)
  simp only [vC, List.mem_cons, List.mem_append, List.mem_map] at ha
  rcases ha with rfl | rfl | rfl | rfl | rfl | rfl | ⟨x, -, rfl⟩ | ⟨x, -, rfl⟩ <;> exact .c _
/-- vote.between. -/
theorem between_any (a b c : Int) : PCall Tryz.prog 201 [.c (.int .i64 a), .c (.int .i64 b), .c (.int .i64 c)] [] (fun x _ => Bd 0 x ∧ x = .c (.bool (decide (b ≤ a ∧ a ≤ c)))) := by
  refine PCall.enter mixed Tryz.func201 rfl Tryz.ntmps201 Tryz.results201 (by simp) (by kernel_rfl) ?_
  simp [List.replicate]
  refine ⟨fun h => by simp [h], fun h => by omega⟩
@[simp] theorem eql_b (ox oy : Operand) (a b : Bool) : binA Tryz.prog .eql 4 ox oy (.c (.bool a)) (.c (.bool b)) = some (.c (.bool (a == b))) := by cases a <;> cases b <;> kernel_rfl
@[simp] theorem neq_b (ox oy : Operand) (a b : Bool) : binA Tryz.prog .neq 4 ox oy (.c (.bool a)) (.c (.bool b)) = some (.c (.bool (!(a == b)))) := by cases a <;> cases b <;> kernel_rfl
theorem validB_no {v : VoteS} (h : ¬ ValidP v) : validB v = false := by simp [validB, h]
end

section
open Go.RowKit
set_option maxRecDepth 10000
attribute [-simp] List.map_take List.map_drop UInt8.ofNat_add List.map_flatten

theorem sup_iff {v : VoteS} (u0 : in64 v.support) : bits .andNot .i64 v.support 1023 = 0 ↔ 0 ≤ v.support ∧ v.support ≤ 1023 := by
  have := andNot_mask v.support u0
  rw [Bool.eq_iff_iff, beq_iff_eq, decide_eq_true_eq] at this
  exact this
theorem z8A : AV.agg [.c (.int .u8 0), .c (.int .u8 0), .c (.int .u8 0), .c (.int .u8 0), .c (.int .u8 0), .c (.int .u8 0), .c (.int .u8 0), .c (.int .u8 0)] = nmA zero8 := rfl
theorem z8B : bld (some (nmA zero8)) (some (.elems 1)) [] = some (nmA zero8) := rfl
set_option maxHeartbeats 4000000 in
theorem Valid_4 (v : VoteS) (h : v.Fit) (hk : v.kind = 4) (hg : 0 ≤ v.signer ∧ v.signer ≤ 9) (hcv : v.choice = 1 ↔ v.value ≠ zero8) (hu : bits .andNot .i64 v.support 1023 = 0) : PCall Tryz.prog 129 [vA v] [] (fun x _ => Bd 0 x ∧ x = .c (.bool (validB v))) := by
  obtain ⟨k0, s0, r0, c0, g0, u0, p8, x8⟩ := h
  have hm := (sup_iff u0).1 hu
  have hd : (decide (v.choice = 1) == decide (v.value = zero8)) = false := by by_cases a : v.choice = 1 <;> by_cases b : v.value = zero8 <;> simp_all
  refine PCall.enter mixed Tryz.func129 rfl Tryz.ntmps129 Tryz.results129 (by simp) (by kernel_rfl) ?_
  simp [List.replicate, vA, vC, p8, x8, hk]
  refine (between_any _ _ _).use (by simp) ?_
  simp
  refine (between_any _ _ _).use (by simp) ?_
  rw [decide_eq_true hg]
  simp (decide := true) [p8, x8, z8A, z8B, hu, hd, List.take_of_length_le]
  have hV : validB v = decide ((0 ≤ v.slot ∧ v.slot ≤ 9) ∧ (1 ≤ v.round ∧ v.round ≤ 12) ∧ 0 ≤ v.choice ∧ v.choice ≤ 2) := by
    simp only [validB]
    refine decide_eq_decide.2 ?_
    simp only [ValidP, roundsOk, slotsOf, hk]
    constructor
    · rintro ⟨-, -, -, -, -, -, -, a, b, c⟩; exact ⟨⟨a, by simpa using b⟩, by simpa [and_assoc] using c⟩
    · rintro ⟨a, b, c⟩; exact ⟨by decide, by decide, hg.1, hg.2, hm.1, hm.2, hcv, a.1, by simpa using a.2, by simp [b.1, b.2, c.1, c.2]⟩
  rw [hV]
  refine ⟨fun hr => ?_, fun hr => ?_⟩
  all_goals
    refine nextDC.use (between_any _ _ _) (by simp) ?_
    simp (decide := true)
    refine nextDC.use (between_any _ _ _) (by simp) ?_
    simp (decide := true)
    refine (between_any _ _ _).use (by simp) ?_
    simp (decide := true)
    exact ⟨fun a b => ⟨fun c d => by simp [a, b, c, d], fun c _ _ d e => absurd e (by have := c d; omega)⟩, fun c d e => absurd e (by have := c d; omega)⟩
end

section
open Go.RowKit
set_option maxRecDepth 10000
attribute [-simp] List.map_take List.map_drop UInt8.ofNat_add List.map_flatten

set_option maxHeartbeats 4000000 in
theorem Valid_3 (v : VoteS) (h : v.Fit) (hk : v.kind = 3) (hg : 0 ≤ v.signer ∧ v.signer ≤ 9) (hcv : v.choice = 1 ↔ v.value ≠ zero8) (hu : bits .andNot .i64 v.support 1023 = 0) : PCall Tryz.prog 129 [vA v] [] (fun x _ => Bd 0 x ∧ x = .c (.bool (validB v))) := by
  obtain ⟨k0, s0, r0, c0, g0, u0, p8, x8⟩ := h
  have hm := (sup_iff u0).1 hu
  have hd : (decide (v.choice = 1) == decide (v.value = zero8)) = false := by by_cases a : v.choice = 1 <;> by_cases b : v.value = zero8 <;> simp_all
  refine PCall.enter mixed Tryz.func129 rfl Tryz.ntmps129 Tryz.results129 (by simp) (by kernel_rfl) ?_
  simp [List.replicate, vA, vC, p8, x8, hk]
  refine (between_any _ _ _).use (by simp) ?_
  simp
  refine (between_any _ _ _).use (by simp) ?_
  rw [decide_eq_true hg]
  simp (decide := true) [p8, x8, z8A, z8B, hu, hd, List.take_of_length_le]
  have hV : validB v = decide ((0 ≤ v.slot ∧ v.slot ≤ 9) ∧ (1 ≤ v.round ∧ v.round ≤ 12) ∧ (0 ≤ v.choice ∧ v.choice ≤ 1) ∧ (v.round ≠ 1 ∨ v.choice ≠ 0 ∨ v.support = 0)) := by
    simp only [validB]
    refine decide_eq_decide.2 ?_
    simp only [ValidP, roundsOk, slotsOf, hk]
    constructor
    · rintro ⟨-, -, -, -, -, -, -, a, b, c⟩; exact ⟨⟨a, by simpa using b⟩, ⟨c.1, c.2.1⟩, ⟨c.2.2.1, c.2.2.2.1⟩, c.2.2.2.2⟩
    · rintro ⟨a, b, c⟩; exact ⟨by decide, by decide, hg.1, hg.2, hm.1, hm.2, hcv, a.1, by simpa using a.2, ⟨b.1, b.2, c.1.1, c.1.2, c.2⟩⟩
  rw [hV]
  refine ⟨fun hr => ?_, fun hr => ?_⟩
  all_goals
    refine nextDC.use (between_any _ _ _) (by simp) ?_
    simp (decide := true)
    refine nextDC.use (between_any _ _ _) (by simp) ?_
    simp (decide := true)
    refine ⟨fun a b => ⟨fun r1 => ⟨fun c0 => ?_, fun c1 => ?_⟩, fun r2 => ?_⟩, fun n => ?_⟩
    all_goals
      refine (between_any _ _ _).use (by simp) ?_
      simp (decide := true) [*]
  all_goals first
    | exact ⟨fun a b _ => ⟨a, b⟩, fun c a b => absurd b (by have := c a; omega)⟩
    | exact ⟨fun a b => ⟨fun c d => ⟨⟨a, b⟩, c, d⟩, fun c _ _ e => c e⟩, fun c a b => absurd b (by have := c a; omega)⟩
    | exact ⟨fun a b => ⟨fun _ _ _ _ _ _ e f => absurd f (by have := n e; omega), fun c _ _ d e => absurd e (by have := c d; omega)⟩, fun c a b => absurd b (by have := c a; omega)⟩
end

section
open Go.RowKit
set_option maxRecDepth 10000
attribute [-simp] List.map_take List.map_drop UInt8.ofNat_add List.map_flatten

set_option maxHeartbeats 4000000 in
theorem Valid_o (v : VoteS) (h : v.Fit) (hr : 1 ≤ v.kind ∧ v.kind ≤ 7) (hk : v.kind ≠ 3 ∧ v.kind ≠ 4) (hg : 0 ≤ v.signer ∧ v.signer ≤ 9) (hcv : v.choice = 1 ↔ v.value ≠ zero8) (hu : bits .andNot .i64 v.support 1023 = 0) : PCall Tryz.prog 129 [vA v] [] (fun x _ => Bd 0 x ∧ x = .c (.bool (validB v))) := by
  obtain ⟨k0, s0, r0, c0, g0, u0, p8, x8⟩ := h
  have hm := (sup_iff u0).1 hu
  have hd : (decide (v.choice = 1) == decide (v.value = zero8)) = false := by by_cases a : v.choice = 1 <;> by_cases b : v.value = zero8 <;> simp_all
  refine PCall.enter mixed Tryz.func129 rfl Tryz.ntmps129 Tryz.results129 (by simp) (by kernel_rfl) ?_
  have hV : validB v = decide ((0 ≤ v.slot ∧ v.slot ≤ slotsOf v.kind) ∧ v.round = 0 ∧ v.support = 0 ∧ v.choice = 1) := by
    simp only [validB]
    refine decide_eq_decide.2 ?_
    simp only [ValidP, roundsOk, if_neg hk.1, if_neg hk.2]
    constructor
    · rintro ⟨-, -, -, -, -, -, -, a, b, c⟩; exact ⟨⟨a, b⟩, c⟩
    · rintro ⟨a, c⟩; exact ⟨hr.1, hr.2, hg.1, hg.2, hm.1, hm.2, hcv, a.1, a.2, c⟩
  simp [List.replicate, vA, vC, p8, x8]
  refine (between_any _ _ _).use (by simp) ?_
  rw [decide_eq_true hr]
  simp
  refine (between_any _ _ _).use (by simp) ?_
  rw [decide_eq_true hg]
  rcases (show (v.kind = 1 ∨ v.kind = 2) ∨ (v.kind ≠ 1 ∧ v.kind ≠ 2 ∧ ¬ v.kind ≤ 4) by omega) with (h1 | h1) | h1
  all_goals
    simp (decide := true) [p8, x8, z8A, z8B, hu, hd, hk.1, hk.2, h1, List.take_of_length_le]
    refine ⟨fun hr0 => (between_any _ _ _).use (by simp) ?_, fun hr0 => (between_any _ _ _).use (by simp) ?_⟩
    all_goals simp [hV, slotsOf, h1, hr0]
  all_goals exact ⟨fun a b => ⟨fun c => by simp [a, b, c], fun c _ _ d => absurd d c⟩, fun c a b => absurd b (by have := c a; omega)⟩
end

section
open Go.RowKit
set_option maxRecDepth 10000
attribute [-simp] List.map_take List.map_drop UInt8.ofNat_add List.map_flatten

set_option maxHeartbeats 4000000 in
/-- vote.Valid. -/
theorem Valid_any (v : VoteS) (h : v.Fit) : PCall Tryz.prog 129 [vA v] [] (fun x _ => Bd 0 x ∧ x = .c (.bool (validB v))) := by
  by_cases hk : 1 ≤ v.kind ∧ v.kind ≤ 7
  · by_cases hg : 0 ≤ v.signer ∧ v.signer ≤ 9
    · by_cases hcv : v.choice = 1 ↔ v.value ≠ zero8
      · by_cases hu : bits .andNot .i64 v.support 1023 = 0
        · by_cases h3 : v.kind = 3
          · exact Valid_3 v h h3 hg hcv hu
          · by_cases h4 : v.kind = 4
            · exact Valid_4 v h h4 hg hcv hu
            · exact Valid_o v h hk ⟨h3, h4⟩ hg hcv hu
        · have hf : validB v = false := validB_no fun hv => hu ((sup_iff h.support).2 ⟨hv.2.2.2.2.1, hv.2.2.2.2.2.1⟩)
          have hd : (decide (v.choice = 1) == decide (v.value = zero8)) = false := by by_cases a : v.choice = 1 <;> by_cases b : v.value = zero8 <;> simp_all
          obtain ⟨-, -, -, -, -, -, p8, x8⟩ := h
          refine PCall.enter mixed Tryz.func129 rfl Tryz.ntmps129 Tryz.results129 (by simp) (by kernel_rfl) ?_
          simp [List.replicate, vA, vC, p8, x8]
          refine (between_any _ _ _).use (by simp) ?_
          rw [decide_eq_true hk]
          simp
          refine (between_any _ _ _).use (by simp) ?_
          rw [decide_eq_true hg]
          simp (decide := true) [p8, x8, z8A, z8B, hu, hf, hd, List.take_of_length_le]
      · have hf : validB v = false := validB_no fun hv => hcv hv.2.2.2.2.2.2.1
        have hd : (decide (v.choice = 1) == decide (v.value = zero8)) = true := by by_cases a : v.choice = 1 <;> by_cases b : v.value = zero8 <;> simp_all
        obtain ⟨-, -, -, -, -, -, p8, x8⟩ := h
        refine PCall.enter mixed Tryz.func129 rfl Tryz.ntmps129 Tryz.results129 (by simp) (by kernel_rfl) ?_
        simp [List.replicate, vA, vC, p8, x8]
        refine (between_any _ _ _).use (by simp) ?_
        rw [decide_eq_true hk]
        simp
        refine (between_any _ _ _).use (by simp) ?_
        rw [decide_eq_true hg]
        simp (decide := true) [p8, x8, z8A, z8B, hf, hd, List.take_of_length_le]
    · have hf : validB v = false := validB_no fun hv => hg ⟨hv.2.2.1, hv.2.2.2.1⟩
      refine PCall.enter mixed Tryz.func129 rfl Tryz.ntmps129 Tryz.results129 (by simp) (by kernel_rfl) ?_
      simp [List.replicate, vA]
      refine (between_any _ _ _).use (by simp) ?_
      rw [decide_eq_true hk]
      simp [vC]
      refine (between_any _ _ _).use (by simp) ?_
      rw [decide_eq_false hg, hf]
      simp
  · have hf : validB v = false := validB_no fun hv => hk ⟨hv.1, hv.2.1⟩
    refine PCall.enter mixed Tryz.func129 rfl Tryz.ntmps129 Tryz.results129 (by simp) (by kernel_rfl) ?_
    simp [List.replicate, vA, vC]
    refine (between_any _ _ _).use (by simp) ?_
    rw [decide_eq_false hk, hf]
    simp
end

section
open Go.RowKit
section
variable {P : Program} {t : TypeId} {H : List AObj}
@[simp] theorem buildSlice_5 {a b c d e : AV} : buildSliceA P H t 5 [(0, a), (1, b), (2, c), (3, d), (4, e)] = bnA (elT P t) ((elT P t).bind fun p => zlT P p.1) H [a, b, c, d, e] := buildSlice_n (az := [a, b, c, d, e]) (Nat.succ_pos _)
@[simp] theorem buildSlice_7 {a b c d e f g : AV} : buildSliceA P H t 7 [(0, a), (1, b), (2, c), (3, d), (4, e), (5, f), (6, g)] = bnA (elT P t) ((elT P t).bind fun p => zlT P p.1) H [a, b, c, d, e, f, g] := buildSlice_n (az := [a, b, c, d, e, f, g]) (Nat.succ_pos _)
end
end

section
theorem be_injN : ∀ (n : Nat) {a b : List UInt8}, a.length = n → b.length = n → be a = be b → a = b
  | 0, a, b, ha, hb, _ => by rw [List.eq_nil_of_length_eq_zero ha, List.eq_nil_of_length_eq_zero hb]
  | n + 1, a, b, ha, hb, h => by
    have hane : a ≠ [] := by rintro rfl; simp at ha
    have hbne : b ≠ [] := by rintro rfl; simp at hb
    rw [← List.dropLast_concat_getLast hane, ← List.dropLast_concat_getLast hbne, be_snoc, be_snoc] at h
    have c1 := (a.getLast hane).toNat_lt
    have c2 := (b.getLast hbne).toNat_lt
    have e1 : be a.dropLast = be b.dropLast := by omega
    have e2 : (a.getLast hane).toNat = (b.getLast hbne).toNat := by omega
    have e3 := be_injN n (a := a.dropLast) (b := b.dropLast) (by simp [ha]) (by simp [hb]) e1
    rw [← List.dropLast_concat_getLast hane, ← List.dropLast_concat_getLast hbne, e3, UInt8.toNat.inj e2]

def lexZ : List Int → List Int → Bool
  | x :: l, y :: m => if x = y then lexZ l m else decide (x < y)
  | _, _ => false
theorem lexZ_irrefl : ∀ l, lexZ l l = false
  | [] => rfl
  | x :: l => by simp [lexZ, lexZ_irrefl l]
theorem lexZ_trans : ∀ {l m n : List Int}, lexZ l m = true → lexZ m n = true → lexZ l n = true
  | [], _, _, h, _ => by simp [lexZ] at h
  | _ :: _, [], _, h, _ => by simp [lexZ] at h
  | _ :: _, _ :: _, [], _, h => by simp [lexZ] at h
  | x :: l, y :: m, z :: n, h1, h2 => by
    simp only [lexZ] at *
    by_cases a : x = y
    · rw [if_pos a] at h1
      by_cases b : y = z
      · rw [if_pos b] at h2
        rw [if_pos (a.trans b)]
        exact lexZ_trans h1 h2
      · rw [if_neg b] at h2
        rw [if_neg (by omega)]
        simp at *
        omega
    · rw [if_neg a] at h1
      by_cases b : y = z
      · rw [if_neg (by omega)]
        simp at *
        omega
      · rw [if_neg b] at h2
        simp at h1 h2
        rw [if_neg (by omega)]
        simp
        omega
theorem lexZ_total : ∀ {l m : List Int}, l.length = m.length → lexZ l m = false → lexZ m l = false → l = m
  | [], [], _, _, _ => rfl
  | [], _ :: _, h, _, _ => by simp at h
  | _ :: _, [], h, _, _ => by simp at h
  | x :: l, y :: m, h, h1, h2 => by
    simp only [lexZ] at h1 h2
    by_cases a : x = y
    · rw [if_pos a] at h1
      rw [if_pos a.symm] at h2
      rw [a, lexZ_total (by simpa using h) h1 h2]
    · rw [if_neg a] at h1
      rw [if_neg (fun e => a e.symm)] at h2
      simp at h1 h2
      omega

def keyV (a : VoteS) : List Int := [(be a.parent : Nat), a.slot, a.round, a.kind, a.signer, a.choice, (be a.value : Nat), a.support]
theorem lessV_key {a b : VoteS} (ha : a.Fit) (hb : b.Fit) : lessV a b = lexZ (keyV a) (keyV b) := by
  have hp : ((be a.parent : Nat) : Int) = (be b.parent : Nat) ↔ a.parent = b.parent := ⟨fun h => be_injN 8 ha.parent hb.parent (by omega), fun h => by rw [h]⟩
  have hv : ((be a.value : Nat) : Int) = (be b.value : Nat) ↔ a.value = b.value := ⟨fun h => be_injN 8 ha.value hb.value (by omega), fun h => by rw [h]⟩
  unfold lessV keyV lessN
  simp only [lexZ, hp, hv, Int.ofNat_lt]
  repeat' split
  all_goals simp_all
theorem key_inj {a b : VoteS} (ha : a.Fit) (hb : b.Fit) (h : keyV a = keyV b) : a = b := by
  unfold keyV at h
  simp only [List.cons.injEq, and_true] at h
  obtain ⟨h1, h2, h3, h4, h5, h6, h7, h8⟩ := h
  exact VoteS.ext' h4 h2 h3 h6 h5 h8 (be_injN 8 ha.parent hb.parent (by omega)) (be_injN 8 ha.value hb.value (by omega))
theorem lessV_total {a b : VoteS} (ha : a.Fit) (hb : b.Fit) (h1 : lessV a b = false) (h2 : lessV b a = false) : a = b := by
  rw [lessV_key ha hb] at h1
  rw [lessV_key hb ha] at h2
  exact key_inj ha hb (lexZ_total rfl h1 h2)
theorem lessV_irrefl (a : VoteS) (ha : a.Fit) : lessV a a = false := by rw [lessV_key ha ha]; exact lexZ_irrefl _
theorem lessV_trans {a b c : VoteS} (ha : a.Fit) (hb : b.Fit) (hc : c.Fit) (h1 : lessV a b = true) (h2 : lessV b c = true) : lessV a c = true := by
  rw [lessV_key ha hb] at h1
  rw [lessV_key hb hc] at h2
  rw [lessV_key ha hc]
  exact lexZ_trans h1 h2

theorem lessS_irrefl (s : SignedS) : lessS s s = false := by unfold lessS; rw [if_pos rfl]; exact lessT_irrefl _
theorem lessS_trans {s t u : SignedS} (hs : s.vote.Fit) (ht : t.vote.Fit) (hu : u.vote.Fit) (h1 : lessS s t = true) (h2 : lessS t u = true) : lessS s u = true := by
  unfold lessS at *
  by_cases a : s.vote = t.vote
  · rw [if_pos a] at h1
    by_cases b : t.vote = u.vote
    · rw [if_pos b] at h2
      rw [if_pos (a.trans b)]
      exact lessT_trans _ _ _ h1 h2
    · rw [if_neg b] at h2
      rw [if_neg (by rw [a]; exact b), a]
      exact h2
  · rw [if_neg a] at h1
    by_cases b : t.vote = u.vote
    · rw [if_neg (by rw [← b]; exact a), ← b]
      exact h1
    · rw [if_neg b] at h2
      have h3 := lessV_trans hs ht hu h1 h2
      by_cases c : s.vote = u.vote
      · rw [c, lessV_irrefl _ hu] at h3
        cases h3
      · rw [if_neg c]
        exact h3
theorem lessS_total {s t : SignedS} (hs : s.vote.Fit) (ht : t.vote.Fit) (h1 : lessS s t = false) (h2 : lessS t s = false) : s = t := by
  unfold lessS at *
  by_cases a : s.vote = t.vote
  · rw [if_pos a] at h1
    rw [if_pos a.symm] at h2
    exact SignedS.ext' a (lessT_total _ _ h1 h2)
  · rw [if_neg a] at h1
    rw [if_neg (fun e => a e.symm)] at h2
    exact absurd (lessV_total hs ht h1 h2) a
theorem lessS_ntrans {s t u : SignedS} (hs : s.vote.Fit) (ht : t.vote.Fit) (hu : u.vote.Fit) (h1 : lessS s t = false) (h2 : lessS t u = false) : lessS s u = false := by
  cases h : lessS s u with
  | false => rfl
  | true =>
    cases h3 : lessS t s with
    | true => rw [lessS_trans ht hs hu h3 h] at h2; cases h2
    | false => rw [lessS_total hs ht h1 h3, h2] at h; cases h
theorem lessS_asymm {s t : SignedS} (hs : s.vote.Fit) (ht : t.vote.Fit) (h : lessS s t = true) : lessS t s = false := by
  cases h1 : lessS t s with
  | false => rfl
  | true => have := lessS_trans hs ht hs h h1; rw [lessS_irrefl] at this; cases this
end
end Go.Proofs.YthknobbilcolnaaGreat
