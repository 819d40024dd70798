/- Order of signed votes; sorting by insertion, exchange of two runs, rotation, by abstract values. Conditions: sizes. sort.symMerge_func, by abstract values. Conditions: sizes. sort.symMerge_func in the main case, sort.stable_func, by abstract values. Conditions: sizes. sort.stable_func at 39 elements or less, sort.SliceStable, by abstract values. Conditions: sizes. Objects whose cells are handles, under other numbers. No condition. -/
import Derived.Test.YthknobbilcolnaaGreatJn16
namespace Go.Proofs.YthknobbilcolnaaGreat
section
open Go.RowKit Go.Sort Go.Shelf
set_option maxRecDepth 10000
attribute [-simp] List.map_take List.map_drop UInt8.ofNat_add List.map_flatten

set_option maxHeartbeats 1000000 in
/-- signed.Less. -/
theorem sLess_any (a b : SignedS) (ha : a.vote.Fit) (hb : b.vote.Fit) : PCall Tryz.prog 78 [sA a, sA b] [] (fun x _ => Bd 0 x ∧ x = .c (.bool (lessS a b))) := by
  have la := sC_len ha
  have lb := sC_len hb
  have ta := take_sv ha
  have tb := take_sv hb
  have ga := get_sig ha
  have gb := get_sig hb
  have hc := cmpB_lt a.sig b.sig
  refine PCall.enter mixed Tryz.func78 rfl Tryz.ntmps78 Tryz.results78 (by simp) (by kernel_rfl) ?_
  simp [List.replicate, la, lb, ta, tb, ga, gb, ha, hb, agg_vC]
  refine ⟨fun hne => (vLess_any _ _ ha hb).use (by simp) ?_, fun he => (Compare_any _ _).use (by simp) ?_⟩
  · simp [lessS, hne]
  · simp [lessS, he, hc]
theorem part_F {d : Array FS} {i : Nat} (hi : i < d.size) : ((flat (esF d)).drop (i * 23)).take 23 = sC d[i]!.1 := flat_partK (esF_23 d) (esF_get hi)
theorem lenF (d : Array FS) : (flat (esF d)).length = d.size * 23 := by rw [flat_lenK (esF_23 d), esF_len]
set_option maxHeartbeats 1000000 in
theorem canLess_any {d : Array FS} {n i j : Nat} (hn : d.size = n) (_hb : n ≤ 100000) (hi : i < n) (hj : j < n) : PCall Tryz.prog 77 [.c (.int .i64 i), .c (.int .i64 j), .ptr 1 0] (HF d n) (fun x H' => x = .c (.bool (ltF d[i]! d[j]!)) ∧ H' = HF d n) := by
  have hl := lenF d
  have p1 := part_F (d := d) (i := i) (by omega)
  have p2 := part_F (d := d) (i := j) (by omega)
  refine PCall.viewR (PCall.enter mixed Tryz.func77 rfl Tryz.ntmps77 Tryz.results77 (by simp) (by kernel_rfl) ?_)
  simp (decide := true) [List.replicate, HF, rowF, hl, hn, p1, p2, agg_sC, hi, hj]
  refine ⟨by omega, by omega, nextDC.use (sLess_any _ _ (d[i]'(by omega)).2 (d[j]'(by omega)).2) (by simp) ?_⟩
  simp
  exact View.refl _ _ _
@[simp] theorem bdOwn {n id off m k : Nat} (h : id < n) : Bd n (.own id off m k) := .own h
@[simp] theorem bdPtr {n id off : Nat} (h : id < n) : Bd n (.ptr id off) := .ptr h
@[simp] theorem bdFn {n f : Nat} {cs : List AV} (h : ∀ a ∈ cs, Bd n a) : Bd n (.fn f cs) := .fn h
@[simp] theorem extS_sw : extS Tryz.prog 198 = true := by kernel_rfl
@[simp] theorem rowT_f1 : rowT Tryz.prog 152 = some (false, 1) := by kernel_rfl
@[simp] theorem rowT_f2 : rowT Tryz.prog 224 = some (false, 1) := by kernel_rfl
noncomputable abbrev cloR (n : Nat) : AObj := .row 1000228 false [.fn 77 [.ptr 1 0], .fn 198 [.own 0 0 n 23, hdl]]
theorem rowF_bd (d : Array FS) : ∀ a ∈ flat (esF d), Bd 2 a := Bd.flat (fun e he => by obtain ⟨x, -, rfl⟩ := List.mem_map.1 he; exact bd_sA 2 x.1)
theorem HF_in (d : Array FS) (n : Nat) : InB 2 (HF d n) := by
  intro j t fz cs h
  match j with
  | 0 => cases h; exact rowF_bd d
  | 1 => cases h; simp
  | j + 2 => simp at h
/-- A contract on the row and the variable of the slice. -/
abbrev CF (f : FuncId) (args : List AV) (d : Array FS) (n : Nat) (R : AV → Array FS → Prop) : Prop := PCall Tryz.prog f args (HF d n) (fun x H' => ∃ d' junk, R x d' ∧ H' = HF d' n ++ junk)
/-- A call on the row and the variable of the slice, among other objects. -/
theorem CF.at_ {f : FuncId} {args : List AV} {d : Array FS} {n : Nat} {R : AV → Array FS → Prop} {Q : AV → List AObj → Prop} (h : CF f args d n R) (ha : ∀ a ∈ args, Bd 2 a) (hR : ∀ x d', R x d' → Bd 2 x) (H1 : List AObj) (hq : ∀ x d', R x d' → Q x (HF d' n ++ H1)) : PCall Tryz.prog f args (HF d n ++ H1) Q := by
  refine (PCall.frame (H0 := HF d n) (Q := fun x G => ∃ d', R x d' ∧ G = HF d' n) ha (HF_in d n) (h.mono fun x H' ⟨d', junk, h1, h2⟩ => ⟨HF d' n, junk, h2, rfl, hR x d' h1, HF_in d' n, d', h1, rfl⟩)).mono ?_
  rintro x H' ⟨G, rfl, -, d', h1, rfl⟩
  exact hq x d' h1
theorem less_at {d : Array FS} {n i j : Nat} (hn : d.size = n) (hb : n ≤ 100000) (hi : i < n) (hj : j < n) {H1 : List AObj} {Q : AV → List AObj → Prop} (hq : Q (.c (.bool (ltF d[i]! d[j]!))) (HF d n ++ H1)) : PCall Tryz.prog 77 [.c (.int .i64 i), .c (.int .i64 j), .ptr 1 0] (HF d n ++ H1) Q :=
  CF.at_ (R := fun x d' => x = .c (.bool (ltF d[i]! d[j]!)) ∧ d' = d) ((canLess_any hn hb hi hj).mono fun x H' ⟨h1, h2⟩ => ⟨d, [], ⟨h1, rfl⟩, h2⟩) (by simp) (fun x d' ⟨h, _⟩ => by rw [h]; simp) H1 (fun x d' ⟨h1, h2⟩ => by rw [h1, h2]; exact hq)
theorem swap_at {d : Array FS} {n i j : Nat} (hn : d.size = n) (hi : i < n) (hj : j < n) {H1 : List AObj} {Q : AV → List AObj → Prop} (hq : Q (.tup []) (HF (swp d i j) n ++ H1)) : PCall Tryz.prog 198 [.c (.int .i64 i), .c (.int .i64 j), .own 0 0 n 23, hdl] (HF d n ++ H1) Q :=
  CF.at_ (R := fun x d' => x = .tup [] ∧ d' = swp d i j) ((swapF hn hi hj).mono fun x H' ⟨h1, h2⟩ => ⟨_, [], ⟨h1, rfl⟩, h2⟩) (by simp) (fun x d' ⟨h, _⟩ => by rw [h]; simp) H1 (fun x d' ⟨h1, h2⟩ => by rw [h1, h2]; exact hq)
inductive InsO (d : Array FS) (n a b : Nat) : Nat → List AV → List AObj → Prop
  | mk (i : Nat) (dk : Array FS) (h1 : a < i) (h2 : i ≤ b + 1) (hs : dk.size = n) (he : insOuter ltF a b i dk = insOuter ltF a b (a + 1) d) (m : Nat) (hm : m = b + 1 - i) : InsO d n a b m ([cloF n, .c (.int .i64 a), .c (.int .i64 b), .ptr 2 0, .any, .any, .c (.int .i64 i)] ++ List.replicate 28 .any) (HF dk n ++ [cloR n])
inductive InsI (dk : Array FS) (n a b i : Nat) : Nat → List AV → List AObj → Prop
  | mk (j : Nat) (dj : Array FS) (h1 : a ≤ j) (h2 : j ≤ i) (hs : dj.size = n) (he : insInner ltF a j dj = insInner ltF a i dk) (m : Nat) (hm : m = j) : InsI dk n a b i m ([cloF n, .c (.int .i64 a), .c (.int .i64 b), .ptr 2 0, .any, .any, .c (.int .i64 i), .c (.int .i64 j)] ++ List.replicate 27 .any) (HF dj n ++ [cloR n])
set_option maxHeartbeats 1000000 in
/-- sort.insertionSort_func. -/
theorem insF_any {d : Array FS} {n a b : Nat} (hn : d.size = n) (hb : n ≤ 100000) (hab : a ≤ b) (hbn : b ≤ n) : CF 199 [cloF n, .c (.int .i64 a), .c (.int .i64 b)] d n (fun x d' => x = .tup [] ∧ d' = insertionSort ltF d a b) := by
  refine PCall.enter mixed Tryz.func199 rfl Tryz.ntmps199 Tryz.results199 (by simp) (by kernel_rfl) ?_
  simp [List.replicate, HF]
  refine ⟨by omega, ?_⟩
  refine W_loop (InsO d n a b) (b + 1 - (a + 1)) ?_ ?_
  · exact ⟨_, _, View.forget (by simp), .mk (a + 1) d (by omega) (by omega) hn rfl _ rfl⟩
  · rintro _ _ _ ⟨i, dk, h1, h2, hs, he, _, rfl⟩
    simp [List.replicate]
    refine ⟨fun hlt => ?_, fun hge => ?_⟩
    · refine W_loop (InsI dk n a b i) i ?_ ?_
      · exact ⟨_, _, View.forget (by simp), .mk i dk (by omega) (by omega) hs rfl _ rfl⟩
      · rintro _ _ _ ⟨j, dj, k1, k2, ks, ke, m, hm⟩
        have out : (j ≤ a ∨ ltF dj[j]! dj[j - 1]! = false) → insOuter ltF a b (i + 1) dj = insOuter ltF a b (a + 1) d := fun hq => by
          rw [← he, insOuter_go _ _ _ _ _ hlt, ← ke, insInner_stop _ _ _ _ hq]
        simp [List.replicate]
        refine ⟨fun hlt2 => ?_, fun hge2 => ?_⟩
        · obtain ⟨q, rfl⟩ : ∃ q, j = q + 1 := ⟨j - 1, by omega⟩
          have e1 : ((q + 1 : Nat) : Int) - 1 = (q : Nat) := by omega
          rw [e1]
          refine ⟨by omega, less_at (H1 := [cloR n]) ks hb (i := q + 1) (j := q) (by omega) (by omega) ?_⟩
          simp
          refine ⟨fun hl => ⟨by omega, ?_⟩, fun hl => ⟨by omega, _, ?_, _, _, View.forget (by simp), .mk (i + 1) dj (by omega) (by omega) ks (out (.inr hl)) _ rfl⟩⟩
          · rw [show (q : Int) + 1 = ((q + 1 : Nat) : Int) by omega]
            refine swap_at (H1 := [cloR n]) ks (i := q + 1) (j := q) (by omega) (by omega) ?_
            simp
            refine ⟨by omega, q, by omega, _, _, View.forget (by simp), .mk q (swp dj (q + 1) q) (by omega) (by omega) (by rw [swp_size]; exact ks) ?_ _ rfl⟩
            rw [← ke, insInner_go ltF a (q + 1) dj (by omega) hl]
            rfl
          · omega
        · refine ⟨by omega, _, ?_, _, _, View.forget (by simp), .mk (i + 1) dj (by omega) (by omega) ks (out (.inl hge2)) _ rfl⟩
          omega
    · have e : dk = insertionSort ltF d a b := by
        unfold insertionSort
        rw [← he, insOuter, if_neg (by omega)]
      simp [e]
inductive SwrI (d : Array FS) (n x y k : Nat) : Nat → List AV → List AObj → Prop
  | mk (i : Nat) (h1 : i ≤ k) (m : Nat) (hm : m = k - i) : SwrI d n x y k m ([cloF n, .c (.int .i64 x), .c (.int .i64 y), .c (.int .i64 k), .ptr 2 0, .any, .any, .any, .c (.int .i64 i)] ++ List.replicate 14 .any) (HF (swpR d x y i) n ++ [cloR n])
set_option maxHeartbeats 1000000 in
/-- sort.swapRange_func. -/
theorem swrF_any {d : Array FS} {n x y k : Nat} (hn : d.size = n) (hb : n ≤ 100000) (hx : x + k ≤ n) (hy : y + k ≤ n) : CF 294 [cloF n, .c (.int .i64 x), .c (.int .i64 y), .c (.int .i64 k)] d n (fun r d' => r = .tup [] ∧ d' = swpR d x y k) := by
  refine PCall.enter mixed Tryz.func294 rfl Tryz.ntmps294 Tryz.results294 (by simp) (by kernel_rfl) ?_
  simp [List.replicate, HF]
  refine W_loop (SwrI d n x y k) k ?_ ?_
  · exact ⟨_, _, View.forget (by simp), .mk 0 (by omega) _ (by omega)⟩
  · rintro _ _ _ ⟨i, h1, m, hm⟩
    simp [List.replicate]
    refine ⟨fun hlt => ?_, fun hge => ?_⟩
    · rw [show (x : Int) + i = ((x + i : Nat) : Int) by omega, show (y : Int) + i = ((y + i : Nat) : Int) by omega]
      refine ⟨by omega, by omega, swap_at (H1 := [cloR n]) (by rw [swpR_size]; exact hn) (i := x + i) (j := y + i) (by omega) (by omega) ?_⟩
      simp
      exact ⟨by omega, _, by omega, _, _, View.forget (by simp), .mk (i + 1) (by omega) _ rfl⟩
    · obtain rfl : i = k := by omega
      simp
theorem swr_at {d : Array FS} {n x y k : Nat} (hn : d.size = n) (hb : n ≤ 100000) (hx : x + k ≤ n) (hy : y + k ≤ n) {H1 : List AObj} {Q : AV → List AObj → Prop} (hq : Q (.tup []) (HF (swpR d x y k) n ++ H1)) : PCall Tryz.prog 294 [cloF n, .c (.int .i64 x), .c (.int .i64 y), .c (.int .i64 k)] (HF d n ++ H1) Q :=
  CF.at_ (swrF_any hn hb hx hy) (by simp) (fun x d' ⟨h, _⟩ => by rw [h]; simp) H1 (fun x d' ⟨h1, h2⟩ => by rw [h1, h2]; exact hq)
inductive RotI (d : Array FS) (n a m b : Nat) : Nat → List AV → List AObj → Prop
  | mk (i j : Nat) (dk : Array FS) (h1 : 0 < i) (h2 : 0 < j) (h3 : a + i ≤ m) (h4 : m + j ≤ b) (hp : PermIn a b d dk) (hr : ∀ t, rotAt dk (m - i) m (m + j) t = rotAt d a m b t) (q : Nat) (hq : q = i + j) : RotI d n a m b q ([cloF n, .c (.int .i64 a), .c (.int .i64 m), .c (.int .i64 b), .ptr 2 0, .any, .any, .any, .c (.int .i64 i), .c (.int .i64 j)] ++ List.replicate 43 .any) (HF dk n ++ [cloR n])
set_option maxHeartbeats 1000000 in
/-- sort.rotate_func. -/
theorem rotF_any {d : Array FS} {n a m b : Nat} (hn : d.size = n) (hb : n ≤ 100000) (ham : a < m) (hmb : m < b) (hbn : b ≤ n) : CF 248 [cloF n, .c (.int .i64 a), .c (.int .i64 m), .c (.int .i64 b)] d n (fun r d' => r = .tup [] ∧ PermIn a b d d' ∧ ∀ t, d'[t]! = rotAt d a m b t) := by
  refine PCall.enter mixed Tryz.func248 rfl Tryz.ntmps248 Tryz.results248 (by simp) (by kernel_rfl) ?_
  simp [List.replicate, HF]
  refine ⟨by omega, by omega, ?_⟩
  refine W_loop (RotI d n a m b) (b - a) ?_ ?_
  · exact ⟨_, _, View.forget (by simp; omega), .mk (m - a) (b - m) d (by omega) (by omega) (by omega) (by omega) (permIn_refl d a b) (fun t => by rw [show m - (m - a) = a by omega, show m + (b - m) = b by omega]) _ (by omega)⟩
  · rintro _ _ _ ⟨i, j, dk, h1, h2, h3, h4, hp, hr, q, hq⟩
    have hk : dk.size = n := by rw [hp.1]; exact hn
    simp [List.replicate]
    refine ⟨fun hne => ⟨fun hlt => ?_, fun hge => ?_⟩, fun he => ?_⟩
    · rw [show (m : Int) - i = ((m - i : Nat) : Int) by omega]
      refine ⟨by omega, swr_at (H1 := [cloR n]) hk hb (x := m - i) (y := m) (k := j) (by omega) (by omega) ?_⟩
      simp
      refine ⟨by omega, i - j + j, by omega, _, _, View.forget (by simp; omega), .mk (i - j) j _ (by omega) h2 (by omega) h4 (permIn_trans _ _ _ _ _ hp (swpR_perm dk (m - i) m a b j (by omega) (by omega) (by omega) (by omega) (by omega))) (fun t => by rw [rot_step1 (by omega) hlt (by omega) t]; exact hr t) _ rfl⟩
    · rw [show (m : Int) - i = ((m - i : Nat) : Int) by omega, show (m : Int) + j - i = ((m + j - i : Nat) : Int) by omega]
      refine ⟨by omega, by omega, by omega, swr_at (H1 := [cloR n]) hk hb (x := m - i) (y := m + j - i) (k := i) (by omega) (by omega) ?_⟩
      simp
      refine ⟨by omega, i + (j - i), by omega, _, _, View.forget (by simp; omega), .mk i (j - i) _ h1 (by omega) h3 (by omega) (permIn_trans _ _ _ _ _ hp (swpR_perm dk (m - i) (m + j - i) a b i (by omega) (by omega) (by omega) (by omega) (by omega))) (fun t => by rw [rot_step2 (by omega) (by omega) (by omega) t]; exact hr t) _ rfl⟩
    · obtain rfl : i = j := by omega
      rw [show (m : Int) - i = ((m - i : Nat) : Int) by omega]
      refine ⟨by omega, swr_at (H1 := [cloR n]) hk hb (x := m - i) (y := m) (k := i) (by omega) (by omega) ?_⟩
      simp
      exact ⟨_, ⟨permIn_trans _ _ _ _ _ hp (swpR_perm dk (m - i) m a b i (by omega) (by omega) (by omega) (by omega) (by omega)), fun t => by rw [rot_end (by omega) (by omega) t]; exact hr t⟩, rfl⟩
theorem rot_at {d : Array FS} {n a m b : Nat} (hn : d.size = n) (hb : n ≤ 100000) (ham : a < m) (hmb : m < b) (hbn : b ≤ n) {H1 : List AObj} {Q : AV → List AObj → Prop} (hq : ∀ d', PermIn a b d d' → (∀ t, d'[t]! = rotAt d a m b t) → Q (.tup []) (HF d' n ++ H1)) : PCall Tryz.prog 248 [cloF n, .c (.int .i64 a), .c (.int .i64 m), .c (.int .i64 b)] (HF d n ++ H1) Q :=
  CF.at_ (rotF_any hn hb ham hmb hbn) (by simp) (fun x d' ⟨h, _⟩ => by rw [h]; simp) H1 (fun x d' ⟨h1, h2, h3⟩ => by rw [h1]; exact hq d' h2 h3)
theorem ins_at {d : Array FS} {n a b : Nat} (hn : d.size = n) (hb : n ≤ 100000) (hab : a ≤ b) (hbn : b ≤ n) {H1 : List AObj} {Q : AV → List AObj → Prop} (hq : ∀ d', PermIn a b d d' → SortedIn ltF a b d' → Q (.tup []) (HF d' n ++ H1)) : PCall Tryz.prog 199 [cloF n, .c (.int .i64 a), .c (.int .i64 b)] (HF d n ++ H1) Q :=
  CF.at_ (insF_any hn hb hab hbn) (by simp) (fun x d' ⟨h, _⟩ => by rw [h]; simp) H1 (fun x d' ⟨h1, h2⟩ => by
    have h := insertionSort_holds swoF d a b hab (by omega)
    rw [h1, h2]
    exact hq _ h.1 h.2)
end

section
open Go.RowKit Go.Sort Go.Shelf
set_option maxRecDepth 10000
attribute [-simp] List.map_take List.map_drop UInt8.ofNat_add List.map_flatten

inductive SrA (d : Array FS) (n a m b : Nat) : Nat → List AV → List AObj → Prop
  | mk (i j : Nat) (h1 : m ≤ i) (h2 : i ≤ j) (h3 : j ≤ b) (hI : i = m ∨ ltF d[i - 1]! d[a]! = true) (hJ : j = b ∨ ltF d[j]! d[a]! = false) (q : Nat) (hq : q = j - i) : SrA d n a m b q ([cloF n, .c (.int .i64 a), .c (.int .i64 m), .c (.int .i64 b), .ptr 2 0, .any, .any, .any, .c (.int .i64 i), .c (.int .i64 j)] ++ List.replicate 167 .any) (HF d n ++ [cloR n])
inductive SkA (d : Array FS) (n a m b i : Nat) : Nat → List AV → List AObj → Prop
  | mk (k : Nat) (dk : Array FS) (h1 : a ≤ k) (h2 : k + 1 ≤ i) (hp : PermIn a b d dk) (hu : ∀ t, dk[t]! = upAt d a k t) (q : Nat) (hq : q = i - k) : SkA d n a m b i q ([cloF n, .c (.int .i64 a), .c (.int .i64 m), .c (.int .i64 b), .ptr 2 0, .any, .any, .any, .c (.int .i64 i), .any, .any, .c (.int .i64 k)] ++ List.replicate 165 .any) (HF dk n ++ [cloR n])
inductive SrB (d : Array FS) (n a m b : Nat) : Nat → List AV → List AObj → Prop
  | mk (i j : Nat) (h1 : a ≤ i) (h2 : i ≤ j) (h3 : j ≤ m) (hI : i = a ∨ ltF d[m]! d[i - 1]! = false) (hJ : j = m ∨ ltF d[m]! d[j]! = true) (q : Nat) (hq : q = j - i) : SrB d n a m b q ([cloF n, .c (.int .i64 a), .c (.int .i64 m), .c (.int .i64 b), .ptr 2 0, .any, .any, .any, .any, .any, .any, .any, .c (.int .i64 i), .c (.int .i64 j)] ++ List.replicate 163 .any) (HF d n ++ [cloR n])
inductive SkB (d : Array FS) (n a m b i : Nat) : Nat → List AV → List AObj → Prop
  | mk (k : Nat) (dk : Array FS) (h1 : i ≤ k) (h2 : k ≤ m) (hp : PermIn a b d dk) (hu : ∀ t, dk[t]! = downAt d m k t) (q : Nat) (hq : q = k - i) : SkB d n a m b i q ([cloF n, .c (.int .i64 a), .c (.int .i64 m), .c (.int .i64 b), .ptr 2 0, .any, .any, .any, .any, .any, .any, .any, .c (.int .i64 i), .any, .any, .c (.int .i64 k)] ++ List.replicate 161 .any) (HF dk n ++ [cloR n])
inductive SrC (d : Array FS) (n a m b mid : Nat) : Nat → List AV → List AObj → Prop
  | mk (lo hi i j : Nat) (hlh : (mid < m ∧ lo + b = mid + m ∧ hi = mid) ∨ (m ≤ mid ∧ lo = a ∧ hi = m)) (h1 : lo ≤ i) (h2 : i ≤ j) (h3 : j ≤ hi) (hI : i = lo ∨ ltF d[mid + m - i]! d[i - 1]! = false) (hJ : j = hi ∨ ltF d[mid + m - 1 - j]! d[j]! = true) (q : Nat) (hq : q = j - i) : SrC d n a m b mid q ([cloF n, .c (.int .i64 a), .c (.int .i64 m), .c (.int .i64 b), .ptr 2 0] ++ List.replicate 11 .any ++ [.c (.int .i64 mid), .c (.int .i64 ((mid + m : Nat) : Int)), .c (.int .i64 i), .c (.int .i64 j), .c (.int .i64 ((mid + m - 1 : Nat) : Int))] ++ List.replicate 156 .any) (HF d n ++ [cloR n])
/-- The middle of two places. -/
theorem half_u {x y : Nat} (h : x + y ≤ 1000000) : IntKind.i64.wrap (IntKind.u64.wrap ((x : Int) + y) / 2) = (((x + y) / 2 : Nat) : Int) := by
  have e : IntKind.u64.wrap ((x : Int) + y) = ((x + y : Nat) : Int) := by rw [← Int.natCast_add]; exact wrap_u64_nat _ (by omega)
  rw [e, inr64_wrap (by simp [inr64]; omega)]
  omega
abbrev SymC (n a m b : Nat) (d : Array FS) : Prop := CF 200 [cloF n, .c (.int .i64 a), .c (.int .i64 m), .c (.int .i64 b)] d n (fun r d' => r = .tup [] ∧ PermIn a b d d' ∧ SortedIn ltF a b d')
set_option maxHeartbeats 1000000 in
theorem symA_any {d : Array FS} {n a m b : Nat} (hn : d.size = n) (hb : n ≤ 100000) (ham : m = a + 1) (hmb : m < b) (hbn : b ≤ n) (hs2 : SortedIn ltF m b d) : SymC n a m b d := by
  refine PCall.enter mixed Tryz.func200 rfl Tryz.ntmps200 Tryz.results200 (by simp) (by kernel_rfl) ?_
  have e1 : (m : Int) - a = 1 := by omega
  simp [List.replicate, HF, e1]
  refine W_loop (SrA d n a m b) (b - m) ?_ ?_
  · exact ⟨_, _, View.forget (by simp), .mk m b (by omega) (by omega) (by omega) (.inl rfl) (.inl rfl) _ rfl⟩
  rintro _ _ _ ⟨i, j, h1, h2, h3, hI, hJ, q, hq⟩
  have hh := half_u (x := i) (y := j) (by omega)
  simp [List.replicate, hh]
  refine ⟨fun hlt => ?_, fun hge => ?_⟩
  · refine ⟨by omega, less_at (H1 := [cloR n]) hn hb (i := (i + j) / 2) (j := a) (by omega) (by omega) ?_⟩
    simp
    refine ⟨fun hl => ⟨by omega, _, ?_, _, _, View.forget (by simp), .mk ((i + j) / 2 + 1) j (by omega) (by omega) h3 (.inr (by rw [Nat.add_sub_cancel]; exact hl)) hJ _ rfl⟩, fun hl => ⟨_, ?_, _, _, View.forget (by simp), .mk i ((i + j) / 2) h1 (by omega) (by omega) hI (.inr hl) _ rfl⟩⟩
    · omega
    · omega
  · obtain rfl : j = i := by omega
    refine W_loop (SkA d n a m b j) (j - a) ?_ ?_
    · exact ⟨_, _, View.forget (by simp), .mk a d (Nat.le_refl _) (by omega) (permIn_refl d a b) (fun t => up_start d a t) _ rfl⟩
    rintro _ _ _ ⟨k, dk, k1, k2, hp, hu, q, hq⟩
    have hk : dk.size = n := by rw [hp.1]; exact hn
    simp [List.replicate]
    refine ⟨by omega, fun hlt => ?_, fun hge => ?_⟩
    · rw [show (k : Int) + 1 = ((k + 1 : Nat) : Int) by omega]
      refine ⟨by omega, swap_at (H1 := [cloR n]) hk (i := k) (j := k + 1) (by omega) (by omega) ?_⟩
      simp
      exact ⟨by omega, _, by omega, _, _, View.forget (by simp), .mk (k + 1) _ (by omega) (by omega) (permIn_trans _ _ _ _ _ hp (swp_permIn dk a b k (k + 1) k1 (by omega) (by omega) (by omega) (by omega))) (up_step k1 (by omega) hu) _ rfl⟩
    · obtain rfl : k = j - 1 := by omega
      refine ⟨dk, ⟨hp, ?_⟩, rfl⟩
      subst ham
      exact up_sorted swoF hs2 (by omega) (by omega) hI hJ hu
set_option maxHeartbeats 1000000 in
theorem symB_any {d : Array FS} {n a m b : Nat} (hn : d.size = n) (hb : n ≤ 100000) (ham : a < m) (ha1 : m ≠ a + 1) (hmb : b = m + 1) (hbn : b ≤ n) (hs1 : SortedIn ltF a m d) : SymC n a m b d := by
  refine PCall.enter mixed Tryz.func200 rfl Tryz.ntmps200 Tryz.results200 (by simp) (by kernel_rfl) ?_
  have e1 : ¬ (m : Int) - a = 1 := by omega
  have e2 : (b : Int) - m = 1 := by omega
  simp [List.replicate, HF, e1, e2]
  refine ⟨by omega, ?_⟩
  refine W_loop (SrB d n a m b) (m - a) ?_ ?_
  · exact ⟨_, _, View.forget (by simp), .mk a m (by omega) (by omega) (by omega) (.inl rfl) (.inl rfl) _ rfl⟩
  rintro _ _ _ ⟨i, j, h1, h2, h3, hI, hJ, q, hq⟩
  have hh := half_u (x := i) (y := j) (by omega)
  simp [List.replicate, hh]
  refine ⟨fun hlt => ?_, fun hge => ?_⟩
  · refine ⟨by omega, less_at (H1 := [cloR n]) hn hb (i := m) (j := (i + j) / 2) (by omega) (by omega) ?_⟩
    simp
    refine ⟨fun hl => ⟨by omega, _, ?_, _, _, View.forget (by simp), .mk ((i + j) / 2 + 1) j (by omega) (by omega) h3 (.inr (by rw [Nat.add_sub_cancel]; exact hl)) hJ _ rfl⟩, fun hl => ⟨_, ?_, _, _, View.forget (by simp), .mk i ((i + j) / 2) h1 (by omega) (by omega) hI (.inr hl) _ rfl⟩⟩
    · omega
    · omega
  · obtain rfl : j = i := by omega
    refine W_loop (SkB d n a m b j) (m - j) ?_ ?_
    · exact ⟨_, _, View.forget (by simp), .mk m d (by omega) (Nat.le_refl _) (permIn_refl d a b) (fun t => down_start d m t) _ rfl⟩
    rintro _ _ _ ⟨k, dk, k1, k2, hp, hu, q, hq⟩
    have hk : dk.size = n := by rw [hp.1]; exact hn
    simp [List.replicate]
    refine ⟨fun hlt => ?_, fun hge => ?_⟩
    · obtain ⟨r, rfl⟩ : ∃ r, k = r + 1 := ⟨k - 1, by omega⟩
      rw [show ((r + 1 : Nat) : Int) - 1 = (r : Int) by omega]
      refine ⟨by omega, swap_at (H1 := [cloR n]) hk (i := r + 1) (j := r) (by omega) (by omega) ?_⟩
      simp
      exact ⟨by omega, _, by omega, _, _, View.forget (by simp), .mk r _ (by omega) (by omega) (permIn_trans _ _ _ _ _ hp (swp_permIn dk a b (r + 1) r (by omega) (by omega) (by omega) (by omega) (by omega))) (down_step (by omega) (by omega) hu) _ rfl⟩
    · obtain rfl : k = j := by omega
      refine ⟨dk, ⟨hp, ?_⟩, rfl⟩
      subst hmb
      exact down_sorted swoF hs1 (by omega) (by omega) hI hJ hu
end

section
open Go.RowKit Go.Sort Go.Shelf
set_option maxRecDepth 10000
attribute [-simp] List.map_take List.map_drop UInt8.ofNat_add List.map_flatten

theorem W_loop2 {P : Program} {L n1 n2 : Nat} {p q : Prop} {c : Code} {Q : Exit → Env → List AObj → Prop} {e1 e2 : Env} {H1 H2 : List AObj} (I : Nat → Env → List AObj → Prop) (h1 : p → VI L I n1 e1 H1) (h2 : q → VI L I n2 e2 H2) (h : ∀ n env H, I n env H → W P L c (thenA (fun env' H' => ∃ m, m < n ∧ VI L I m env' H') Q) env H) : (p → W P L (.loop c) Q e1 H1) ∧ (q → W P L (.loop c) Q e2 H2) := ⟨fun hp => W_loop I n1 (h1 hp) h, fun hq => W_loop I n2 (h2 hq) h⟩
theorem sym_at {d : Array FS} {n a m b : Nat} (h : SymC n a m b d) {H1 : List AObj} {Q : AV → List AObj → Prop} (hq : ∀ d', PermIn a b d d' → SortedIn ltF a b d' → Q (.tup []) (HF d' n ++ H1)) : PCall Tryz.prog 200 [cloF n, .c (.int .i64 a), .c (.int .i64 m), .c (.int .i64 b)] (HF d n ++ H1) Q :=
  CF.at_ h (by simp) (fun x d' ⟨h, _⟩ => by rw [h]; simp) H1 (fun x d' ⟨h1, h2, h3⟩ => by rw [h1]; exact hq d' h2 h3)
theorem and3 {p q A1 A2 A3 X Y : Prop} (hA : p → A1 ∧ A2) (hB : q → A3) (h : (p → X) ∧ (q → Y)) : (p → A1 ∧ A2 ∧ X) ∧ (q → A3 ∧ Y) := ⟨fun hp => ⟨(hA hp).1, (hA hp).2, h.1 hp⟩, fun hq => ⟨hB hq, h.2 hq⟩⟩
set_option maxHeartbeats 2000000 in
theorem symC_any {d : Array FS} {n a m b : Nat} (hn : d.size = n) (hb : n ≤ 100000) (ham : a < m) (hmb : m < b) (ha1 : m ≠ a + 1) (hb1 : b ≠ m + 1) (hbn : b ≤ n) (hs1 : SortedIn ltF a m d) (hs2 : SortedIn ltF m b d) (ih : ∀ (a' m' b' : Nat), b' - a' < b - a → ∀ {d : Array FS}, d.size = n → a' < m' → m' < b' → b' ≤ n → SortedIn ltF a' m' d → SortedIn ltF m' b' d → SymC n a' m' b' d) : SymC n a m b d := by
  obtain ⟨mid, hmid⟩ : ∃ mid, mid = (a + b) / 2 := ⟨_, rfl⟩
  have hh := half_u (x := a) (y := b) (by omega)
  rw [← hmid] at hh
  refine PCall.enter mixed Tryz.func200 rfl Tryz.ntmps200 Tryz.results200 (by simp) (by kernel_rfl) ?_
  have e1 : ¬ (m : Int) - a = 1 := by omega
  have e2 : ¬ (b : Int) - m = 1 := by omega
  simp [List.replicate, HF, e1, e2, hh]
  refine ⟨by omega, by omega, by omega, by omega, and3 (fun h => ⟨by omega, by omega⟩) (fun h => by omega) ?_⟩
  refine W_loop2 (SrC d n a m b mid) (n1 := mid - (mid + m - b)) (n2 := m - a) (fun h => ?_) (fun h => ?_) ?_
  · exact ⟨_, _, View.forget (by simp; omega), .mk (mid + m - b) mid (mid + m - b) mid (.inl ⟨h, by omega, rfl⟩) (Nat.le_refl _) (by omega) (Nat.le_refl _) (.inl rfl) (.inl rfl) _ rfl⟩
  · exact ⟨_, _, View.forget (by simp; omega), .mk a m a m (.inr ⟨h, rfl, rfl⟩) (Nat.le_refl _) (by omega) (Nat.le_refl _) (.inl rfl) (.inl rfl) _ rfl⟩
  rintro _ _ _ ⟨lo, hi, i, j, hlh, h1, h2, h3, hI, hJ, q, hq⟩
  have hh2 := half_u (x := i) (y := j) (by omega)
  have hlo : a ≤ lo ∧ mid + m ≤ lo + b ∧ hi ≤ m ∧ hi ≤ mid := by omega
  obtain ⟨c, hc⟩ : ∃ c, (i + j) / 2 = c := ⟨_, rfl⟩
  rw [hc] at hh2
  by_cases hlt : i < j
  · simp [List.replicate, hlt, -W_cond]
    refine W_ifT (by simp) ?_
    simp [hh2, -W_cond]
    rw [show (((mid + m - 1 : Nat) : Int)) - c = ((mid + m - 1 - c : Nat) : Int) by omega]
    refine ⟨by omega, by omega, less_at (H1 := [cloR n]) hn hb (i := mid + m - 1 - c) (j := c) (by omega) (by omega) ?_⟩
    simp [-W_cond]
    rw [W_cond]
    simp
    refine ⟨fun hl => ⟨by omega, _, ?_, _, _, View.forget (by simp), .mk lo hi (c + 1) j hlh (by omega) (by omega) h3 (.inr (by rw [Nat.add_sub_cancel, show mid + m - (c + 1) = mid + m - 1 - c by omega]; exact hl)) hJ _ rfl⟩, fun hl => ⟨_, ?_, _, _, View.forget (by simp), .mk lo hi i c hlh h1 (by omega) (by omega) hI (.inr hl) _ rfl⟩⟩
    · omega
    · omega
  · obtain rfl : j = i := by omega
    obtain ⟨en, hen⟩ : ∃ en, mid + m - j = en := ⟨_, rfl⟩
    have hE : (mid : Int) + m - j = (en : Int) := by omega
    have hen9 : (en : Int) ≤ 9223372036854775807 := by omega
    have hb1' : a ≤ j ∧ j ≤ m ∧ m ≤ en ∧ en ≤ b ∧ j ≤ mid ∧ mid ≤ en := by omega
    have q1 : j = a ∨ en = b ∨ ltF d[en]! d[j - 1]! = false := by
      rcases hI with h | h
      · omega
      · exact .inr (.inr (by rw [← hen]; exact h))
    have q2 : j = m ∨ en = m ∨ ltF d[j]! d[en - 1]! = false := by
      rcases hJ with h | h
      · omega
      · exact .inr (.inr (swoF.asymmA (by rw [show en - 1 = mid + m - 1 - j by omega]; exact h)))
    simp [List.replicate, -W_cond]
    refine W_ifF (by simp) ?_
    have fin : ∀ d1, PermIn a b d d1 → (∀ t, d1[t]! = rotAt d j m en t) → Halves ltF a j mid en b d1 := fun d1 _ hr => halves swoF hs1 hs2 hb1'.1 hb1'.2.1 hb1'.2.2.1 hb1'.2.2.2.1 (by omega) q1 q2 hr
    by_cases hA : j < m ∧ m < en
    · obtain ⟨hA1, hA2⟩ := hA
      simp [-W_cond, hE, hen9, hA1, hA2]
      refine W_ifT (by simp) ?_
      simp [-W_cond]
      refine rot_at hn hb hA1 hA2 (by omega) (H1 := [cloR n]) (fun d1 hp1 hr => ?_)
      have hp0 := permIn_mono d d1 j en a b hb1'.1 hb1'.2.2.2.1 (by omega) hp1
      have HH := fin d1 hp0 hr
      have hk1 : d1.size = n := by rw [hp1.1]; exact hn
      by_cases hB : a < j ∧ j < mid
      · obtain ⟨hB1, hB2⟩ := hB
        simp [-W_cond, hB1, hB2]
        refine W_ifT (by simp) ?_
        simp [-W_cond]
        refine sym_at (ih a j mid (by omega) hk1 hB1 hB2 (by omega) HH.s1 HH.s2) (H1 := [cloR n]) (fun d2 hp2 hs2' => ?_)
        have hk2 : d2.size = n := by rw [hp2.1]; exact hk1
        have z3 := sorted_perm_out HH.s3 hp2 (.inr (Nat.le_refl _))
        have z4 := sorted_perm_out HH.s4 hp2 (.inr (by omega))
        by_cases hC1 : mid < en
        · by_cases hC2 : en < b
          · simp [-W_cond, hC1, hC2]
            refine W_ifT (by simp) ?_
            simp [-W_cond]
            refine sym_at (ih mid en b (by omega) hk2 hC1 hC2 hbn z3 z4) (H1 := [cloR n]) (fun d3 hp3 hs3 => ?_)
            simp [-W_cond]
            have h := Halves.done swoF HH (by omega) (by omega) (by omega) hp2 hs2' hp3 hs3
            exact ⟨d3, ⟨permIn_trans _ _ _ _ _ hp0 h.1, h.2⟩, rfl⟩
          · simp [-W_cond, hC1, hC2]
            refine W_ifF (by simp) ?_
            simp [-W_cond]
            obtain rfl : en = b := by omega
            have h := Halves.done swoF HH (by omega) (by omega) (by omega) hp2 hs2' (permIn_refl _ _ _) z3
            exact ⟨_, ⟨permIn_trans _ _ _ _ _ hp0 h.1, h.2⟩, rfl⟩
        · simp [-W_cond, hC1]
          refine W_ifF (by simp) ?_
          simp [-W_cond]
          obtain rfl : en = mid := by omega
          have h := Halves.done swoF HH (by omega) (by omega) (by omega) hp2 hs2' (permIn_refl _ _ _) z4
          exact ⟨_, ⟨permIn_trans _ _ _ _ _ hp0 h.1, h.2⟩, rfl⟩
      · have hs2' : SortedIn ltF a mid d1 := by
          rcases (show j = a ∨ j = mid by omega) with h | h
          · have := HH.s2
            rwa [h] at this
          · have := HH.s1
            rwa [h] at this
        have hp2 := permIn_refl d1 a mid
        have hk2 := hk1
        have z3 := HH.s3
        have z4 := HH.s4
        by_cases hB1 : a < j
        · have hB2 : ¬ j < mid := fun h => hB ⟨hB1, h⟩
          simp [-W_cond, hB1, hB2]
          refine W_ifF (by simp) ?_
          by_cases hC1 : mid < en
          · by_cases hC2 : en < b
            · simp [-W_cond, hC1, hC2]
              refine W_ifT (by simp) ?_
              simp [-W_cond]
              refine sym_at (ih mid en b (by omega) hk2 hC1 hC2 hbn z3 z4) (H1 := [cloR n]) (fun d3 hp3 hs3 => ?_)
              simp [-W_cond]
              have h := Halves.done swoF HH (by omega) (by omega) (by omega) hp2 hs2' hp3 hs3
              exact ⟨d3, ⟨permIn_trans _ _ _ _ _ hp0 h.1, h.2⟩, rfl⟩
            · simp [-W_cond, hC1, hC2]
              refine W_ifF (by simp) ?_
              simp [-W_cond]
              obtain rfl : en = b := by omega
              have h := Halves.done swoF HH (by omega) (by omega) (by omega) hp2 hs2' (permIn_refl _ _ _) z3
              exact ⟨_, ⟨permIn_trans _ _ _ _ _ hp0 h.1, h.2⟩, rfl⟩
          · simp [-W_cond, hC1]
            refine W_ifF (by simp) ?_
            simp [-W_cond]
            obtain rfl : en = mid := by omega
            have h := Halves.done swoF HH (by omega) (by omega) (by omega) hp2 hs2' (permIn_refl _ _ _) z4
            exact ⟨_, ⟨permIn_trans _ _ _ _ _ hp0 h.1, h.2⟩, rfl⟩
        · simp [-W_cond, hB1]
          refine W_ifF (by simp) ?_
          by_cases hC1 : mid < en
          · by_cases hC2 : en < b
            · simp [-W_cond, hC1, hC2]
              refine W_ifT (by simp) ?_
              simp [-W_cond]
              refine sym_at (ih mid en b (by omega) hk2 hC1 hC2 hbn z3 z4) (H1 := [cloR n]) (fun d3 hp3 hs3 => ?_)
              simp [-W_cond]
              have h := Halves.done swoF HH (by omega) (by omega) (by omega) hp2 hs2' hp3 hs3
              exact ⟨d3, ⟨permIn_trans _ _ _ _ _ hp0 h.1, h.2⟩, rfl⟩
            · simp [-W_cond, hC1, hC2]
              refine W_ifF (by simp) ?_
              simp [-W_cond]
              obtain rfl : en = b := by omega
              have h := Halves.done swoF HH (by omega) (by omega) (by omega) hp2 hs2' (permIn_refl _ _ _) z3
              exact ⟨_, ⟨permIn_trans _ _ _ _ _ hp0 h.1, h.2⟩, rfl⟩
          · simp [-W_cond, hC1]
            refine W_ifF (by simp) ?_
            simp [-W_cond]
            obtain rfl : en = mid := by omega
            have h := Halves.done swoF HH (by omega) (by omega) (by omega) hp2 hs2' (permIn_refl _ _ _) z4
            exact ⟨_, ⟨permIn_trans _ _ _ _ _ hp0 h.1, h.2⟩, rfl⟩
    · obtain ⟨d1, hd1, hr⟩ : ∃ d1, d1 = d ∧ ∀ t, d1[t]! = rotAt d j m en t := ⟨d, rfl, fun t => (rot_none hb1'.2.1 hb1'.2.2.1 (by omega) t).symm⟩
      have HH := fin d1 (by rw [hd1]; exact permIn_refl _ _ _) hr
      have hp0 := permIn_refl d1 a b
      have hk1 : d1.size = n := by rw [hd1]; exact hn
      rw [← hd1]
      by_cases hA1 : j < m
      · have hA2 : ¬ m < en := fun h => hA ⟨hA1, h⟩
        simp [-W_cond, hE, hen9, hA1, hA2]
        refine W_ifF (by simp) ?_
        by_cases hB : a < j ∧ j < mid
        · obtain ⟨hB1, hB2⟩ := hB
          simp [-W_cond, hB1, hB2]
          refine W_ifT (by simp) ?_
          simp [-W_cond]
          refine sym_at (ih a j mid (by omega) hk1 hB1 hB2 (by omega) HH.s1 HH.s2) (H1 := [cloR n]) (fun d2 hp2 hs2' => ?_)
          have hk2 : d2.size = n := by rw [hp2.1]; exact hk1
          have z3 := sorted_perm_out HH.s3 hp2 (.inr (Nat.le_refl _))
          have z4 := sorted_perm_out HH.s4 hp2 (.inr (by omega))
          by_cases hC1 : mid < en
          · by_cases hC2 : en < b
            · simp [-W_cond, hC1, hC2]
              refine W_ifT (by simp) ?_
              simp [-W_cond]
              refine sym_at (ih mid en b (by omega) hk2 hC1 hC2 hbn z3 z4) (H1 := [cloR n]) (fun d3 hp3 hs3 => ?_)
              simp [-W_cond]
              have h := Halves.done swoF HH (by omega) (by omega) (by omega) hp2 hs2' hp3 hs3
              exact ⟨d3, ⟨permIn_trans _ _ _ _ _ hp0 h.1, h.2⟩, rfl⟩
            · simp [-W_cond, hC1, hC2]
              refine W_ifF (by simp) ?_
              simp [-W_cond]
              obtain rfl : en = b := by omega
              have h := Halves.done swoF HH (by omega) (by omega) (by omega) hp2 hs2' (permIn_refl _ _ _) z3
              exact ⟨_, ⟨permIn_trans _ _ _ _ _ hp0 h.1, h.2⟩, rfl⟩
          · simp [-W_cond, hC1]
            refine W_ifF (by simp) ?_
            simp [-W_cond]
            obtain rfl : en = mid := by omega
            have h := Halves.done swoF HH (by omega) (by omega) (by omega) hp2 hs2' (permIn_refl _ _ _) z4
            exact ⟨_, ⟨permIn_trans _ _ _ _ _ hp0 h.1, h.2⟩, rfl⟩
        · have hs2' : SortedIn ltF a mid d1 := by
            rcases (show j = a ∨ j = mid by omega) with h | h
            · have := HH.s2
              rwa [h] at this
            · have := HH.s1
              rwa [h] at this
          have hp2 := permIn_refl d1 a mid
          have hk2 := hk1
          have z3 := HH.s3
          have z4 := HH.s4
          by_cases hB1 : a < j
          · have hB2 : ¬ j < mid := fun h => hB ⟨hB1, h⟩
            simp [-W_cond, hB1, hB2]
            refine W_ifF (by simp) ?_
            by_cases hC1 : mid < en
            · by_cases hC2 : en < b
              · simp [-W_cond, hC1, hC2]
                refine W_ifT (by simp) ?_
                simp [-W_cond]
                refine sym_at (ih mid en b (by omega) hk2 hC1 hC2 hbn z3 z4) (H1 := [cloR n]) (fun d3 hp3 hs3 => ?_)
                simp [-W_cond]
                have h := Halves.done swoF HH (by omega) (by omega) (by omega) hp2 hs2' hp3 hs3
                exact ⟨d3, ⟨permIn_trans _ _ _ _ _ hp0 h.1, h.2⟩, rfl⟩
              · simp [-W_cond, hC1, hC2]
                refine W_ifF (by simp) ?_
                simp [-W_cond]
                obtain rfl : en = b := by omega
                have h := Halves.done swoF HH (by omega) (by omega) (by omega) hp2 hs2' (permIn_refl _ _ _) z3
                exact ⟨_, ⟨permIn_trans _ _ _ _ _ hp0 h.1, h.2⟩, rfl⟩
            · simp [-W_cond, hC1]
              refine W_ifF (by simp) ?_
              simp [-W_cond]
              obtain rfl : en = mid := by omega
              have h := Halves.done swoF HH (by omega) (by omega) (by omega) hp2 hs2' (permIn_refl _ _ _) z4
              exact ⟨_, ⟨permIn_trans _ _ _ _ _ hp0 h.1, h.2⟩, rfl⟩
          · simp [-W_cond, hB1]
            refine W_ifF (by simp) ?_
            by_cases hC1 : mid < en
            · by_cases hC2 : en < b
              · simp [-W_cond, hC1, hC2]
                refine W_ifT (by simp) ?_
                simp [-W_cond]
                refine sym_at (ih mid en b (by omega) hk2 hC1 hC2 hbn z3 z4) (H1 := [cloR n]) (fun d3 hp3 hs3 => ?_)
                simp [-W_cond]
                have h := Halves.done swoF HH (by omega) (by omega) (by omega) hp2 hs2' hp3 hs3
                exact ⟨d3, ⟨permIn_trans _ _ _ _ _ hp0 h.1, h.2⟩, rfl⟩
              · simp [-W_cond, hC1, hC2]
                refine W_ifF (by simp) ?_
                simp [-W_cond]
                obtain rfl : en = b := by omega
                have h := Halves.done swoF HH (by omega) (by omega) (by omega) hp2 hs2' (permIn_refl _ _ _) z3
                exact ⟨_, ⟨permIn_trans _ _ _ _ _ hp0 h.1, h.2⟩, rfl⟩
            · simp [-W_cond, hC1]
              refine W_ifF (by simp) ?_
              simp [-W_cond]
              obtain rfl : en = mid := by omega
              have h := Halves.done swoF HH (by omega) (by omega) (by omega) hp2 hs2' (permIn_refl _ _ _) z4
              exact ⟨_, ⟨permIn_trans _ _ _ _ _ hp0 h.1, h.2⟩, rfl⟩
      · simp [-W_cond, hE, hen9, hA1]
        refine W_ifF (by simp) ?_
        by_cases hB : a < j ∧ j < mid
        · obtain ⟨hB1, hB2⟩ := hB
          simp [-W_cond, hB1, hB2]
          refine W_ifT (by simp) ?_
          simp [-W_cond]
          refine sym_at (ih a j mid (by omega) hk1 hB1 hB2 (by omega) HH.s1 HH.s2) (H1 := [cloR n]) (fun d2 hp2 hs2' => ?_)
          have hk2 : d2.size = n := by rw [hp2.1]; exact hk1
          have z3 := sorted_perm_out HH.s3 hp2 (.inr (Nat.le_refl _))
          have z4 := sorted_perm_out HH.s4 hp2 (.inr (by omega))
          by_cases hC1 : mid < en
          · by_cases hC2 : en < b
            · simp [-W_cond, hC1, hC2]
              refine W_ifT (by simp) ?_
              simp [-W_cond]
              refine sym_at (ih mid en b (by omega) hk2 hC1 hC2 hbn z3 z4) (H1 := [cloR n]) (fun d3 hp3 hs3 => ?_)
              simp [-W_cond]
              have h := Halves.done swoF HH (by omega) (by omega) (by omega) hp2 hs2' hp3 hs3
              exact ⟨d3, ⟨permIn_trans _ _ _ _ _ hp0 h.1, h.2⟩, rfl⟩
            · simp [-W_cond, hC1, hC2]
              refine W_ifF (by simp) ?_
              simp [-W_cond]
              obtain rfl : en = b := by omega
              have h := Halves.done swoF HH (by omega) (by omega) (by omega) hp2 hs2' (permIn_refl _ _ _) z3
              exact ⟨_, ⟨permIn_trans _ _ _ _ _ hp0 h.1, h.2⟩, rfl⟩
          · simp [-W_cond, hC1]
            refine W_ifF (by simp) ?_
            simp [-W_cond]
            obtain rfl : en = mid := by omega
            have h := Halves.done swoF HH (by omega) (by omega) (by omega) hp2 hs2' (permIn_refl _ _ _) z4
            exact ⟨_, ⟨permIn_trans _ _ _ _ _ hp0 h.1, h.2⟩, rfl⟩
        · have hs2' : SortedIn ltF a mid d1 := by
            rcases (show j = a ∨ j = mid by omega) with h | h
            · have := HH.s2
              rwa [h] at this
            · have := HH.s1
              rwa [h] at this
          have hp2 := permIn_refl d1 a mid
          have hk2 := hk1
          have z3 := HH.s3
          have z4 := HH.s4
          by_cases hB1 : a < j
          · have hB2 : ¬ j < mid := fun h => hB ⟨hB1, h⟩
            simp [-W_cond, hB1, hB2]
            refine W_ifF (by simp) ?_
            by_cases hC1 : mid < en
            · by_cases hC2 : en < b
              · simp [-W_cond, hC1, hC2]
                refine W_ifT (by simp) ?_
                simp [-W_cond]
                refine sym_at (ih mid en b (by omega) hk2 hC1 hC2 hbn z3 z4) (H1 := [cloR n]) (fun d3 hp3 hs3 => ?_)
                simp [-W_cond]
                have h := Halves.done swoF HH (by omega) (by omega) (by omega) hp2 hs2' hp3 hs3
                exact ⟨d3, ⟨permIn_trans _ _ _ _ _ hp0 h.1, h.2⟩, rfl⟩
              · simp [-W_cond, hC1, hC2]
                refine W_ifF (by simp) ?_
                simp [-W_cond]
                obtain rfl : en = b := by omega
                have h := Halves.done swoF HH (by omega) (by omega) (by omega) hp2 hs2' (permIn_refl _ _ _) z3
                exact ⟨_, ⟨permIn_trans _ _ _ _ _ hp0 h.1, h.2⟩, rfl⟩
            · simp [-W_cond, hC1]
              refine W_ifF (by simp) ?_
              simp [-W_cond]
              obtain rfl : en = mid := by omega
              have h := Halves.done swoF HH (by omega) (by omega) (by omega) hp2 hs2' (permIn_refl _ _ _) z4
              exact ⟨_, ⟨permIn_trans _ _ _ _ _ hp0 h.1, h.2⟩, rfl⟩
          · simp [-W_cond, hB1]
            refine W_ifF (by simp) ?_
            by_cases hC1 : mid < en
            · by_cases hC2 : en < b
              · simp [-W_cond, hC1, hC2]
                refine W_ifT (by simp) ?_
                simp [-W_cond]
                refine sym_at (ih mid en b (by omega) hk2 hC1 hC2 hbn z3 z4) (H1 := [cloR n]) (fun d3 hp3 hs3 => ?_)
                simp [-W_cond]
                have h := Halves.done swoF HH (by omega) (by omega) (by omega) hp2 hs2' hp3 hs3
                exact ⟨d3, ⟨permIn_trans _ _ _ _ _ hp0 h.1, h.2⟩, rfl⟩
              · simp [-W_cond, hC1, hC2]
                refine W_ifF (by simp) ?_
                simp [-W_cond]
                obtain rfl : en = b := by omega
                have h := Halves.done swoF HH (by omega) (by omega) (by omega) hp2 hs2' (permIn_refl _ _ _) z3
                exact ⟨_, ⟨permIn_trans _ _ _ _ _ hp0 h.1, h.2⟩, rfl⟩
            · simp [-W_cond, hC1]
              refine W_ifF (by simp) ?_
              simp [-W_cond]
              obtain rfl : en = mid := by omega
              have h := Halves.done swoF HH (by omega) (by omega) (by omega) hp2 hs2' (permIn_refl _ _ _) z4
              exact ⟨_, ⟨permIn_trans _ _ _ _ _ hp0 h.1, h.2⟩, rfl⟩
end

section
open Go.RowKit Go.Sort Go.Shelf
set_option maxRecDepth 10000
attribute [-simp] List.map_take List.map_drop UInt8.ofNat_add List.map_flatten

/-- sort.symMerge_func. -/
theorem sym_any (n : Nat) (hb : n ≤ 100000) : ∀ (q a m b : Nat), b - a ≤ q → ∀ {d : Array FS}, d.size = n → a < m → m < b → b ≤ n → SortedIn ltF a m d → SortedIn ltF m b d → SymC n a m b d
  | 0, a, m, b, h, d, hn, h1, h2, h3, s1, s2 => by omega
  | q + 1, a, m, b, h, d, hn, h1, h2, h3, s1, s2 => by
    by_cases e1 : m = a + 1
    · exact symA_any hn hb e1 h2 h3 s2
    by_cases e2 : b = m + 1
    · exact symB_any hn hb h1 e1 e2 h3 s1
    exact symC_any hn hb h1 h2 e1 e2 h3 s1 s2 (fun a' m' b' h' => sym_any n hb q a' m' b' (by omega))
inductive StA (d : Array FS) (n : Nat) : Nat → List AV → List AObj → Prop
  | s0 : StA d n 1 ([cloF n, .c (.int .i64 n), .ptr 2 0, .any, .c (.int .i64 20), .c (.int .i64 0), .c (.int .i64 20)] ++ List.replicate 50 .any) (HF d n ++ [cloR n])
  | s1 (d' : Array FS) (h : 20 ≤ n) (hp : PermIn 0 20 d d') (hs : SortedIn ltF 0 20 d') : StA d n 0 ([cloF n, .c (.int .i64 n), .ptr 2 0, .any, .c (.int .i64 20), .c (.int .i64 20), .c (.int .i64 40)] ++ List.replicate 50 .any) (HF d' n ++ [cloR n])
inductive StB (d : Array FS) (n : Nat) : Nat → List AV → List AObj → Prop
  | s0 (d' : Array FS) (hp : PermIn 0 n d d') (hs : n ≤ 20 → SortedIn ltF 0 n d') (h1 : 20 < n → SortedIn ltF 0 20 d') (h2 : 20 < n → SortedIn ltF 20 n d') : StB d n 1 ([cloF n, .c (.int .i64 n), .ptr 2 0, .any, .c (.int .i64 20)] ++ List.replicate 52 .any) (HF d' n ++ [cloR n])
  | s1 (d' : Array FS) (hp : PermIn 0 n d d') (hs : SortedIn ltF 0 n d') : StB d n 0 ([cloF n, .c (.int .i64 n), .ptr 2 0, .any, .c (.int .i64 40)] ++ List.replicate 52 .any) (HF d' n ++ [cloR n])
inductive StI (d : Array FS) (n : Nat) : Nat → List AV → List AObj → Prop
  | s0 : StI d n 0 ([cloF n, .c (.int .i64 n), .ptr 2 0, .any, .c (.int .i64 20), .c (.int .i64 0), .c (.int .i64 40)] ++ List.replicate 50 .any) (HF d n ++ [cloR n])
set_option maxHeartbeats 2000000 in
/-- sort.stable_func. -/
theorem stable_any {d : Array FS} {n : Nat} (hn : d.size = n) (h39 : n ≤ 39) : CF 127 [cloF n, .c (.int .i64 n)] d n (fun r d' => r = .tup [] ∧ PermIn 0 n d d' ∧ SortedIn ltF 0 n d') := by
  refine PCall.enter mixed Tryz.func127 rfl Tryz.ntmps127 Tryz.results127 (by simp) (by kernel_rfl) ?_
  simp [List.replicate, HF]
  refine W_loop (StA d n) 1 ⟨_, _, View.forget (by simp), .s0⟩ ?_
  rintro _ _ _ (_ | ⟨d', h, hp, hs⟩)
  · simp [List.replicate, -W_cond]
    by_cases h20 : 20 ≤ n
    · refine W_ifT (by simp; omega) ?_
      simp [-W_cond]
      refine ins_at (d := d) (n := n) (a := 0) (b := 20) hn (by omega) (by omega) h20 (H1 := [cloR n]) (fun d2 hp hs => ?_)
      simp [-W_cond]
      exact ⟨_, _, View.forget (by simp [List.replicate]), StA.s1 d2 h20 hp hs⟩
    · refine W_ifF (by simp; omega) ?_
      simp [-W_cond]
      refine ins_at (d := d) (n := n) (a := 0) (b := n) hn (by omega) (by omega) (Nat.le_refl _) (H1 := [cloR n]) (fun d2 q1 q2 => ?_)
      simp [-W_cond]
      have q2 := fun _ : n ≤ 20 => q2
      have q3 : 20 < n → SortedIn ltF 0 20 d2 := fun h => absurd h (by omega)
      have q4 : 20 < n → SortedIn ltF 20 n d2 := fun h => absurd h (by omega)
      refine W_loop (StB d n) 1 ⟨_, _, View.forget (by simp [List.replicate]), StB.s0 d2 q1 q2 q3 q4⟩ ?_
      rintro _ _ _ (⟨d3, r1, r2, r3, r4⟩ | ⟨d3, r1, r2⟩)
      · have hn3 : d3.size = n := by rw [r1.1]; exact hn
        simp [List.replicate, -W_cond]
        by_cases h20 : 20 < n
        · refine W_ifT (by simp; omega) ?_
          simp [-W_cond]
          refine W_loop (StI d3 n) 0 ⟨_, _, View.forget (by simp [List.replicate]), .s0⟩ ?_
          rintro _ _ _ ⟨⟩
          simp [List.replicate, -W_cond]
          refine W_ifF (by simp; omega) ?_
          simp [-W_cond]
          refine W_ifT (by simp; omega) ?_
          simp [-W_cond]
          refine sym_at (n := n) (a := 0) (m := 20) (b := n) (sym_any n (by omega) n 0 20 n (by omega) hn3 (by omega) h20 (Nat.le_refl _) (r3 h20) (r4 h20)) (H1 := [cloR n]) (fun d4 hp4 hs4 => ?_)
          simp [-W_cond]
          exact ⟨_, _, View.forget (by simp [List.replicate]), StB.s1 d4 (permIn_trans _ _ _ _ _ r1 hp4) hs4⟩
        · refine W_ifF (by simp; omega) ?_
          simp [-W_cond]
          first | exact ⟨d3, ⟨r1, r2 (by omega)⟩, rfl⟩ | exact ⟨d3, ⟨r1, r2 (by omega)⟩, _, rfl⟩
      · simp [List.replicate, -W_cond]
        refine W_ifF (by simp; omega) ?_
        simp [-W_cond]
        first | exact ⟨d3, ⟨r1, r2⟩, rfl⟩ | exact ⟨d3, ⟨r1, r2⟩, _, rfl⟩
  · have hn' : d'.size = n := by rw [hp.1]; exact hn
    simp [List.replicate, -W_cond]
    refine W_ifF (by simp; omega) ?_
    simp [-W_cond]
    refine ins_at (d := d') (n := n) (a := 20) (b := n) hn' (by omega) h (Nat.le_refl _) (H1 := [cloR n]) (fun d2 p1 p2 => ?_)
    simp [-W_cond]
    have q1 : PermIn 0 n d d2 := permIn_trans _ _ _ _ _ (permIn_mono d d' 0 20 0 n (Nat.le_refl _) h (by omega) hp) (permIn_mono d' d2 20 n 0 n (by omega) (Nat.le_refl _) (by omega) p1)
    have q5 : SortedIn ltF 0 20 d2 := sorted_perm_out hs p1 (.inl (Nat.le_refl _))
    have q2 : n ≤ 20 → SortedIn ltF 0 n d2 := fun h' => by rwa [show n = 20 by omega]
    have q3 := fun _ : 20 < n => q5
    have q4 := fun _ : 20 < n => p2
    refine W_loop (StB d n) 1 ⟨_, _, View.forget (by simp [List.replicate]), StB.s0 d2 q1 q2 q3 q4⟩ ?_
    rintro _ _ _ (⟨d3, r1, r2, r3, r4⟩ | ⟨d3, r1, r2⟩)
    · have hn3 : d3.size = n := by rw [r1.1]; exact hn
      simp [List.replicate, -W_cond]
      by_cases h20 : 20 < n
      · refine W_ifT (by simp; omega) ?_
        simp [-W_cond]
        refine W_loop (StI d3 n) 0 ⟨_, _, View.forget (by simp [List.replicate]), .s0⟩ ?_
        rintro _ _ _ ⟨⟩
        simp [List.replicate, -W_cond]
        refine W_ifF (by simp; omega) ?_
        simp [-W_cond]
        refine W_ifT (by simp; omega) ?_
        simp [-W_cond]
        refine sym_at (n := n) (a := 0) (m := 20) (b := n) (sym_any n (by omega) n 0 20 n (by omega) hn3 (by omega) h20 (Nat.le_refl _) (r3 h20) (r4 h20)) (H1 := [cloR n]) (fun d4 hp4 hs4 => ?_)
        simp [-W_cond]
        exact ⟨_, _, View.forget (by simp [List.replicate]), StB.s1 d4 (permIn_trans _ _ _ _ _ r1 hp4) hs4⟩
      · refine W_ifF (by simp; omega) ?_
        simp [-W_cond]
        first | exact ⟨d3, ⟨r1, r2 (by omega)⟩, rfl⟩ | exact ⟨d3, ⟨r1, r2 (by omega)⟩, _, rfl⟩
    · simp [List.replicate, -W_cond]
      refine W_ifF (by simp; omega) ?_
      simp [-W_cond]
      first | exact ⟨d3, ⟨r1, r2⟩, rfl⟩ | exact ⟨d3, ⟨r1, r2⟩, _, rfl⟩
/-- sort.SliceStable. -/
theorem SliceStable_any (d : Array FS) (n : Nat) (hn : d.size = n) (h39 : n ≤ 39) : PCall Tryz.prog 76 [.ifc 26 (.own 0 0 n 23), .fn 77 [.ptr 1 0]] (HF d n) (SymQ n 0 n d) :=
  SliceStable_of hn (by omega) (fun _ => (stable_any hn h39).mono fun x H' ⟨d', junk, ⟨h1, h2, h3⟩, h4⟩ => ⟨h1, d', junk, h2, h3, h4⟩)
end

section
open Go.RowKit
/-- Objects kept under other numbers; their cells may be handles. -/
def gcS (L M : Nat) (src : Nat → Nat) (H : List AObj) : List Nat → List AObj → Prop
  | [], [] => True
  | _ :: l, .dead :: m => gcS L M src H l m
  | s :: l, .row t fz cs :: m => H[s]? = some (.row t fz cs) ∧ (∀ a ∈ cs, Rn L M src a a) ∧ gcS L M src H l m
  | _, _ => False
section
variable {L M : Nat} {src : Nat → Nat} {H : List AObj}
@[simp] theorem gcS_nil : gcS L M src H [] [] = True := _root_.id rfl
@[simp] theorem gcS_row (s : Nat) (l : List Nat) (t : TypeId) (fz : Bool) (cs : List AV) (m : List AObj) : gcS L M src H (s :: l) (.row t fz cs :: m) = (H[s]? = some (.row t fz cs) ∧ (∀ a ∈ cs, Rn L M src a a) ∧ gcS L M src H l m) := _root_.id rfl
@[simp] theorem gcS_dead (s : Nat) (l : List Nat) (m : List AObj) : gcS L M src H (s :: l) (.dead :: m) = gcS L M src H l m := _root_.id rfl
theorem gcS_at : ∀ {l : List Nat} {m : List AObj}, gcS L M src H l m → m.length = l.length ∧ ∀ (i : Nat) (t : TypeId) (fz : Bool) (cs : List AV), m[i]? = some (.row t fz cs) → ∃ s, l[i]? = some s ∧ H[s]? = some (.row t fz cs) ∧ ∀ a ∈ cs, Rn L M src a a
  | [], [], _ => ⟨rfl, fun i t fz cs h => by simp at h⟩
  | s :: l, .dead :: m, h => by
    obtain ⟨h1, h2⟩ := gcS_at (l := l) (m := m) h
    refine ⟨by simp [h1], fun i t fz cs hi => ?_⟩
    cases i with
    | zero => simp at hi
    | succ i => exact h2 i t fz cs (by simpa using hi)
  | s :: l, .row t fz cs :: m, h => by
    obtain ⟨e1, e2, e3⟩ := h
    obtain ⟨h1, h2⟩ := gcS_at (l := l) (m := m) e3
    refine ⟨by simp [h1], fun i t' fz' cs' hi => ?_⟩
    cases i with
    | zero => simp at hi; obtain ⟨rfl, rfl, rfl⟩ := hi; exact ⟨s, rfl, e1, e2⟩
    | succ i => exact h2 i t' fz' cs' (by simpa using hi)
  | [], .dead :: _, h => h.elim
  | [], .row _ _ _ :: _, h => h.elim
  | _ :: _, [], h => h.elim
theorem View.renumS {env env' : List AV} {H' : List AObj} (srcs : List Nat) (hn : srcs.Nodup) (hL : L ≤ srcs.length) (hlow : ∀ i, i < L → srcs.getD i 0 = i) (hH : gcS L H'.length (fun i => srcs.getD i 0) H srcs H') (he : Pw (Rn L H'.length (fun i => srcs.getD i 0)) env env') : View L env H env' H' := by
  obtain ⟨h1, h2⟩ := gcS_at hH
  obtain ⟨h3, h4⟩ := he.at_
  refine View.gc (fun i => srcs.getD i 0) ⟨hlow, fun i j hi hj e => ?_, by omega, fun i t fz cs hi => ?_⟩ h3 h4
  · rw [h1] at hi hj
    simp only [List.getD_eq_getElem?_getD, List.getElem?_eq_getElem hi, List.getElem?_eq_getElem hj, Option.getD_some] at e
    rcases Nat.lt_trichotomy i j with h | h | h
    · exact absurd e (List.pairwise_iff_getElem.1 hn i j hi hj h)
    · exact h
    · exact absurd e.symm (List.pairwise_iff_getElem.1 hn j i hj hi h)
  · obtain ⟨s, e1, e2, e3⟩ := h2 i t fz cs hi
    refine ⟨cs, by simp only [List.getD_eq_getElem?_getD, e1, Option.getD_some]; exact e2, rfl, fun j a b ha hb => ?_⟩
    rw [ha] at hb
    cases hb
    exact e3 a (List.mem_of_getElem? ha)
end
end
end Go.Proofs.YthknobbilcolnaaGreat
