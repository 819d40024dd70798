/- What is known of calls by other ways than by running them: the lowest members of a committee, its members, sorts of no elements. No condition. The sanity check of law 25 answers true: reckoned by the kernel. No condition. ItemsFacts returns true, by abstract values. No condition. A genesis and a view among a statement's arguments, as abstract values. No condition. ItemsFacts: the closed facts of its row. No condition. -/
import Derived.Test.YthknobbilcolnaaGreatJn24
import Derived.Test.YthknobbilcolnaaGreatJn14
import Derived.Test.YthknobbilcolnaaGreatJn11
import Derived.Test.YthknobbilcolnaaGreatJn23
import Derived.Test.YthknobbilcolnaaGreatJn1
import Derived.Deep.Slices
import Derived.Deep.Fields
import Derived.Lib.SmallJoins
import Derived.JoinedOf
namespace Go.Proofs.YthknobbilcolnaaGreat
section
open Go.RowKit

section
variable {P : Program}
theorem PCall.calls0 {f : FuncId} {v : Value} (hv : plainV v = true) (h : PCall P f [] [] (fun x _ => x = .c v)) (hb : hasBody P f) (w : World) : Calls P f #[] w fun e w' => e = .returned v ∧ Upd NoF w w' := by
  have hr : Rep (fun _ => False) (fun _ => none) [] w := ⟨fun b hb => hb.elim, fun id t fz cs hi => by simp at hi, fun i j ⟨t, fz, cs, hi⟩ => by simp at hi⟩
  rcases h _ _ w [] hr ⟨rfl, fun i a v h => by simp at h⟩ with ⟨-, h⟩ | ⟨h, -⟩
  · refine Calls.mono h (fun e w' ⟨r, H', β', u, h1, h2, h3, h4, h5⟩ => ?_)
    subst h2
    obtain rfl := V.lit h5
    exact ⟨h1, h4.upd.mono (fun k _ ⟨id, s, ⟨t, cs, hi⟩, _⟩ => by simp at hi)⟩
  · exact (extS_body h hb).elim
end
def awI : CallF := fun f args H =>
  if f = 59 then (match args with | [.c (.int .i64 m), .c (.int .i64 k)] => if inr64 m && inr64 k then some (.c (.int .i64 (lowF (idsF m) 0 k)), H) else none | _ => none)
  else if f = 61 then (match args with | [.c (.int .i64 m)] => if inr64 m then some (.ls 1 ((idsF m).map fun i => .c (.int .i64 (i.1 : Int))), H) else none | _ => none)
  else if f = 163 then (match args with | [.ifc t (.c (.slice none 0 0)), .fn _ _] => if t = 40 ∨ t = 194 then some (.tup [], H) else none | _ => none)
  else none
theorem body_coLowest : hasBody Tryz.prog 59 := ⟨_, _, Tryz.func59, rfl⟩
theorem body_coIDs : hasBody Tryz.prog 61 := ⟨_, _, Tryz.func61, rfl⟩
theorem body_sortSlice : hasBody Tryz.prog 163 := ⟨_, _, Tryz.func163, rfl⟩
theorem sort_nil {t : TypeId} (ht : t = 40 ∨ t = 194) {g : FuncId} {caps : List AV} {H : List AObj} : PCall Tryz.prog 163 [.ifc t (.c (.slice none 0 0)), .fn g caps] H (fun x H' => x = .tup [] ∧ H' = H) := by
  intro F β w vs hr hvl
  obtain ⟨hl, hv⟩ := hvl
  match vs, hl with
  | [a, b], _ =>
    have ha := hv 0 _ a rfl rfl
    have hb := hv 1 _ b rfl rfl
    cases ha with
    | leaf h => exact h.elim
    | ifc ha =>
      obtain rfl := V.lit ha
      cases hb with
      | leaf h => exact h.elim
      | @fn _ _ us hl hb =>
        have key : ∀ w, Calls Tryz.prog 163 #[.iface t (.slice none 0 0), .func (.func g) #[] us.toArray] w fun e w' => e = .returned (.tuple #[]) ∧ Upd NoF w w' := fun w => by
          rcases ht with rfl | rfl
          · exact sort_nil_votes _ _ _ w
          · exact sort_nil_outs _ _ _ w
        refine CallsX.mono (.inl ⟨body_sortSlice, key w⟩) (fun e w' ⟨h1, h2⟩ => ?_)
        exact ⟨_, H, β, _, h1, ⟨rfl, rfl⟩, hr.upd h2, Ext.of_upd h2 hr, .tup (vs := []) rfl (fun i a v h => by simp at h)⟩
theorem ids_ok {m : Int} (h0 : -9223372036854775808 ≤ m) (h1 : m ≤ 9223372036854775807) (H : List AObj) : PCall Tryz.prog 61 [.c (.int .i64 m)] H (fun x H' => x = .ls 1 ((idsF m).map fun i => .c (.int .i64 (i.1 : Int))) ∧ H' = H) := by
  refine PCall.newRow (us := [.int .i64 m]) (xs := idsV (idsF m)) (ty := 3) (fun e he => ?_) ?_ (fun x hx => ?_) body_coIDs (fun w => ?_) H
  · obtain ⟨i, -, rfl⟩ := List.mem_map.1 he; rfl
  · unfold flat idsV
    rw [List.flatMap_map, List.map_map]
    induction idsF m with
    | nil => rfl
    | cons a l ih => rw [List.flatMap_cons, ih]; rfl
  · obtain ⟨i, -, rfl⟩ := List.mem_map.1 hx; rfl
  · rw [List.length_map]
    exact IDs_any m h0 h1 w
theorem inr_ok {m : Int} (h : inr64 m = true) : -9223372036854775808 ≤ m ∧ m ≤ 9223372036854775807 := by simpa [inr64] using h
theorem awI_ok : CallOk Tryz.prog awI := by
  intro f args H r H' h
  unfold awI at h
  split at h
  · rename_i hf
    subst hf
    split at h
    · rename_i m k
      split at h
      · rename_i hc
        simp only [Bool.and_eq_true] at hc
        cases h
        obtain ⟨m0, m1⟩ := inr_ok hc.1
        obtain ⟨k0, k1⟩ := inr_ok hc.2
        exact PCall.lits (us := [.int .i64 m, .int .i64 k]) rfl body_coLowest (fun w => Lowest_any m k m0 m1 k0 k1 w) _
      · cases h
    · cases h
  · split at h
    · rename_i hf
      subst hf
      split at h
      · rename_i m
        split at h
        · rename_i hc
          cases h
          obtain ⟨m0, m1⟩ := inr_ok hc
          exact ids_ok m0 m1 _
        · cases h
      · cases h
    · split at h
      · rename_i hf
        subst hf
        split at h
        · split at h
          · rename_i hc
            cases h
            exact sort_nil hc
          · cases h
        · cases h
      · cases h
end

section
open Go.RowKit

set_option maxRecDepth 1000000 in
theorem awake25_run : (exCall Tryz.prog awI 500 60 4 [] []).map (·.1) = some (.c (.bool true)) := by kernel_rfl
theorem awake25_ok (w : World) : Calls Tryz.prog 4 #[] w fun e w' => e = .returned (.bool true) ∧ Upd NoF w w' := by
  obtain ⟨⟨r, H'⟩, h1, h2⟩ := Option.map_eq_some_iff.1 awake25_run
  exact PCall.calls0 rfl ((exCall_ok mixed awI_ok _ _ _ _ _ _ h1).mono (fun x H ⟨e, _⟩ => e.trans h2)) ⟨_, _, Tryz.func4, rfl⟩ w
end

section
open Go.RowKit
set_option maxRecDepth 10000
attribute [-simp] List.map_take List.map_drop UInt8.ofNat_add List.map_flatten

theorem awake_any (H : List AObj) : PCall Tryz.prog 4 [] H (fun x H' => x = .c (.bool true) ∧ H' = H) :=
  PCall.lits (us := []) rfl ⟨_, _, Tryz.func4, rfl⟩ (fun w => awake25_ok w) H
/-- The two sides' votes are the same. -/
theorem votes_same {C : List SignedS} (hf : Fits C) : (canS C).map (·.vote) = srtV (C.map (·.vote)) := by
  have hv : FitsV (C.map (·.vote)) := fun v h => by
    obtain ⟨s, hs, rfl⟩ := List.mem_map.1 h
    exact hf s hs
  exact vt_unique hv (can_vt (canS_is hf)) (srtV_is hv)
section
variable (K : List (List UInt8)) (l : List SignedS) (T : List (List UInt8))
abbrev lwH : List AObj := [.row 1000025 false [.any, .any, namesA K, .any, .any], .row 1000029 false [.ls 23 (l.map sA), tsA T]]
abbrev lwE (i : Nat) : List AV := [.any, .any, .ptr 0 0, .ptr 1 0, .c (.bool false), .c (.int .i64 i)] ++ List.replicate 59 .any
abbrev lwF (i : Nat) : List AV := [.any, .any, .ptr 0 0, .ptr 1 0, .c (.bool false), .any, .c (.int .i64 i)] ++ List.replicate 58 .any
inductive LtI : Nat → List AV → List AObj → Prop
  | ok (i : Nat) (t : List UInt8) (ht : T[i]? = some t) (hs : t.length ≤ 3000) (hp : ∀ x ∈ T.take i, x.length ≤ 3000) (m : Nat) (hm : m = T.length - i) : LtI m (lwE i) (lwH K l T)
  | bad (i : Nat) (t : List UInt8) (ht : T[i]? = some t) (hs : 3000 < t.length) (m : Nat) (hm : m = T.length - i) : LtI m (lwE i) (lwH K l T)
  | en (hp : ∀ x ∈ T, x.length ≤ 3000) (m : Nat) (hm : m = T.length - T.length) : LtI m (lwE T.length) (lwH K l T)
inductive LsI : Nat → List AV → List AObj → Prop
  | ok (i : Nat) (s : SignedS) (ht : l[i]? = some s) (hs : s.sig.length ≤ 3000) (hp : ∀ x ∈ l.take i, x.sig.length ≤ 3000) (m : Nat) (hm : m = l.length - i) : LsI m (lwF i) (lwH K l T)
  | bad (i : Nat) (s : SignedS) (ht : l[i]? = some s) (hs : 3000 < s.sig.length) (m : Nat) (hm : m = l.length - i) : LsI m (lwF i) (lwH K l T)
  | en (hp : ∀ x ∈ l, x.sig.length ≤ 3000) (m : Nat) (hm : m = l.length - l.length) : LsI m (lwF l.length) (lwH K l T)
variable {K l T}
theorem LtI.of {i : Nat} (hi : i ≤ T.length) (hp : ∀ x ∈ T.take i, x.length ≤ 3000) {m : Nat} (hm : m = T.length - i) : LtI K l T m (lwE i) (lwH K l T) := by
  rcases Nat.lt_or_ge i T.length with h | h
  · rcases Nat.lt_or_ge 3000 (T[i].length) with hs | hs
    · exact .bad i _ (List.getElem?_eq_getElem h) hs m hm
    · exact .ok i _ (List.getElem?_eq_getElem h) hs hp m hm
  · obtain rfl : i = T.length := Nat.le_antisymm hi h
    rw [List.take_length] at hp
    exact .en hp m hm
theorem LsI.of {i : Nat} (hi : i ≤ l.length) (hp : ∀ x ∈ l.take i, x.sig.length ≤ 3000) {m : Nat} (hm : m = l.length - i) : LsI K l T m (lwF i) (lwH K l T) := by
  rcases Nat.lt_or_ge i l.length with h | h
  · rcases Nat.lt_or_ge 3000 (l[i].sig.length) with hs | hs
    · exact .bad i _ (List.getElem?_eq_getElem h) hs m hm
    · exact .ok i _ (List.getElem?_eq_getElem h) hs hp m hm
  · obtain rfl : i = l.length := Nat.le_antisymm hi h
    rw [List.take_length] at hp
    exact .en hp m hm
end
theorem take_all {α : Type} {p : α → Prop} {l : List α} {i : Nat} {x : α} (h : ∀ y ∈ l.take i, p y) (hx : l[i]? = some x) (hp : p x) : ∀ y ∈ l.take (i + 1), p y := by
  rw [List.take_add_one, hx]
  intro y hy
  rcases List.mem_append.1 hy with hy | hy
  · exact h y hy
  · have : y = x := by simpa using hy
    rw [this]; exact hp
/-- ItemsFacts. -/
theorem facts_any (K : List (List UInt8)) (hK : ∀ k ∈ K, k.length = 8) (l : List SignedS) (hf : Fits l) (T : List (List UInt8)) :
    PCall Tryz.prog 3 [gnA K, vwA l T] [] (fun x _ => Bd 0 x ∧ x = .c (.bool true)) := by
  by_cases h1 : (50 : Int) < K.length
  · refine PCall.enter mixed Tryz.func3 rfl Tryz.ntmps3 Tryz.results3 (by simp) (by kernel_rfl) ?_
    simp [List.replicate, gnA, vwA, h1]
    refine (awake_any _).to ?_
    simp
  by_cases h2 : (30 : Int) < l.length
  · refine PCall.enter mixed Tryz.func3 rfl Tryz.ntmps3 Tryz.results3 (by simp) (by kernel_rfl) ?_
    simp [List.replicate, gnA, vwA, h1, h2]
    refine (awake_any _).to ?_
    simp
  by_cases h3 : (60 : Int) < T.length
  · refine PCall.enter mixed Tryz.func3 rfl Tryz.ntmps3 Tryz.results3 (by simp) (by kernel_rfl) ?_
    simp [List.replicate, gnA, vwA, h1, h2, h3]
    refine (awake_any _).to ?_
    simp
  refine PCall.enter mixed Tryz.func3 rfl Tryz.ntmps3 Tryz.results3 (by simp) (by kernel_rfl) ?_
  simp [List.replicate, gnA, vwA, h1, h2, h3]
  refine W_loop (LtI K l T) T.length ?_ ?_
  · exact ⟨_, _, View.forget (by simp [List.replicate]), LtI.of (i := 0) (by omega) (by simp) rfl⟩
  rintro _ _ _ (⟨i, t, ht, hs, hp, m, hm⟩ | ⟨i, t, ht, hs, m, hm⟩ | ⟨hp, m, hm⟩)
  · have hlt := (List.getElem?_eq_some_iff.1 ht).1
    have hsz : (t.length : Int) ≤ 3000 := by omega
    simp [List.replicate, -W_cond]
    refine W_ifT (by simp [hlt]) ?_
    simp [ht, -W_cond]
    refine W_ifF (by simp [hsz]) ?_
    simp
    refine ⟨by omega, _, ?_, _, _, View.forget (by simp [List.replicate]), LtI.of (i := i + 1) (by omega) (take_all hp ht hs) rfl⟩
    omega
  · have hlt := (List.getElem?_eq_some_iff.1 ht).1
    have hsz : 3000 < (t.length : Int) := by omega
    simp [List.replicate, -W_cond]
    refine W_ifT (by simp [hlt]) ?_
    simp [ht, -W_cond]
    refine W_ifT (by simp [hsz]) ?_
    simp
    refine (awake_any _).to ?_
    simp
  · simp [List.replicate, -W_cond]
    refine W_ifF (by simp) ?_
    simp
    refine W_loop (LsI K l T) l.length ?_ ?_
    · exact ⟨_, _, View.forget (by simp [List.replicate]), LsI.of (i := 0) (by omega) (by simp) rfl⟩
    rintro _ _ _ (⟨i, t, ht, hs, hq, m, hm⟩ | ⟨i, t, ht, hs, m, hm⟩ | ⟨hq, m, hm⟩)
    · have hlt := (List.getElem?_eq_some_iff.1 ht).1
      have hft := hf t (List.mem_of_getElem? ht)
      have hsz : (t.sig.length : Int) ≤ 3000 := by omega
      have a1 := sC_len hft
      have hg : ∀ h, (sC t)[22]'h = bytesA t.sig := get_sig hft
      simp [List.replicate, -W_cond]
      refine W_ifT (by simp [hlt]) ?_
      simp [ht, a1, hg, -W_cond]
      refine W_ifF (by simp [hsz]) ?_
      simp
      refine ⟨by omega, _, ?_, _, _, View.forget (by simp [List.replicate]), LsI.of (i := i + 1) (by omega) (take_all (p := fun s : SignedS => s.sig.length ≤ 3000) hq ht hs) rfl⟩
      omega
    · have hlt := (List.getElem?_eq_some_iff.1 ht).1
      have hft := hf t (List.mem_of_getElem? ht)
      have hsz : 3000 < (t.sig.length : Int) := by omega
      have a1 := sC_len hft
      have hg : ∀ h, (sC t)[22]'h = bytesA t.sig := get_sig hft
      simp [List.replicate, -W_cond]
      refine W_ifT (by simp [hlt]) ?_
      simp [ht, a1, hg, -W_cond]
      refine W_ifT (by simp [hsz]) ?_
      simp
      refine (awake_any _).to ?_
      simp
    · simp [List.replicate, -W_cond]
      refine W_ifF (by simp) ?_
      simp (decide := true)
      have hvf := vfd_fit K hf
      have hs : ∀ s ∈ l, s.sig.length ≤ 100000 := fun s h => Nat.le_trans (hq s h) (by decide)
      have hT : ∀ t ∈ T, t.length ≤ 100000 := fun t h => Nat.le_trans (hp t h) (by decide)
      have hF := Facts_any K hK (by omega) l hf (by omega) hs T (by omega) hT
      have hR := r25FactsOf_any K hK (by omega) l hf (by omega) hs T (by omega) hT
      rw [votes_same hvf, ← ft_ref] at hF
      have hW : FitsV (srtV ((vfdS K l).map (·.vote))) ∧ (srtV ((vfdS K l).map (·.vote))).length ≤ 1000 := by
        rw [← votes_same hvf]
        refine ⟨fun v h => ?_, ?_⟩
        · obtain ⟨s, hs, rfl⟩ := List.mem_map.1 h
          exact canS_fit hvf s hs
        · rw [List.length_map]
          have := canS_len (vfdS K l)
          have := vfd_len K l
          omega
      have hZ : (refL lessT T).length ≤ 1000 := by
        have := ref_take_len (lt := lessT) T T.length
        rw [List.take_length] at this
        omega
      have hS := r25SameFacts_any _ (maskN (sgsP (evsP (vfdS K l) 10))) _ hW.1 hW.2 hZ
      have hB : ∀ a ∈ (srtV ((vfdS K l).map (·.vote))).map vA, Bd 0 a := fun a ha => by
        obtain ⟨v, -, rfl⟩ := List.mem_map.1 ha
        exact bd_vA 0 v
      have hb := ft_bd hB (maskN (sgsP (evsP (vfdS K l) 10))) (refL lessT T)
      unfold gnA vwA at hR
      generalize ftA (srtV ((vfdS K l).map (·.vote))) (maskN (sgsP (evsP (vfdS K l) 10))) (refL lessT T) = X at *
      refine nextDC.use hF (by simp) ?_
      simp (decide := true)
      refine nextDC.use hR (by simp) ?_
      simp (decide := true)
      refine nextDC.use hS (by simp [hb]) ?_
      simp (decide := true)
      refine nextDC.use (r := .c (.bool true)) ((awake_any []).mono (fun x H' h => ⟨by rw [h.1]; exact .c _, h.1⟩)) (by simp) ?_
      simp (decide := true)
end

section
open Go.ChangeShapes Go.WideShapes Go.ChangeAt Go.RowKit

theorem spot_of_cell {w : World} {a : Addr} {v : Value} (h : w.cell? a = some v) : a.spot = none := by
  unfold World.cell? at h
  split at h
  · split at h
    · cases h
    · rename_i hs; simpa using hs
  · cases h
theorem add_form {a : Addr} (hs : a.spot = none) (i : Nat) : a.add i = ⟨a.block, a.off + i, none⟩ := by
  obtain ⟨b, o, s⟩ := a
  simp only at hs
  subst hs
  unfold Addr.add
  split <;> simp_all
theorem lt_of_cell {w : World} {a : Addr} {v : Value} (h : w.cell? a = some v) : a.block < w.heap.size := by
  rcases Nat.lt_or_ge a.block w.heap.size with h' | h'
  · exact h'
  · simp [World.cell?, Array.getElem?_eq_none h'] at h
/-- What an abstract value says of a value at the outset. -/
abbrev Vo (W : World) (a : AV) (v : Value) : Prop := V (fun _ => False) (fun _ => none) [] W a v
/-- The same cell by cell. -/
def Pr (W : World) (xs : List AV) (vs : List Value) : Prop := vs.length = xs.length ∧ Ones vs ∧ ∀ (i : Nat) (a : AV) (v : Value), xs[i]? = some a → vs[i]? = some v → Vo W a v
section
variable {W : World}
theorem Pr.nil : Pr W [] [] := ⟨rfl, fun u h => (by cases h), fun i a v h => by simp at h⟩
theorem Pr.one {a : AV} {v : Value} (h : Vo W a v) (h1 : v.oneCell' = true) : Pr W [a] [v] := ⟨rfl, fun u hu => by rw [List.mem_singleton.1 hu]; exact h1, fun i x y hx hy => by
  cases i with
  | zero => simp at hx hy; subst hx hy; exact h
  | succ i => simp at hx⟩
theorem Pr.app {xs bs : List AV} {us vs : List Value} (h : Pr W xs us) (k : Pr W bs vs) : Pr W (xs ++ bs) (us ++ vs) := by
  obtain ⟨h1, h2, h3⟩ := h
  obtain ⟨k1, k2, k3⟩ := k
  refine ⟨by simp [h1, k1], fun u hu => (List.mem_append.1 hu).elim (h2 u) (k2 u), fun i a v ha hv => ?_⟩
  rcases Nat.lt_or_ge i xs.length with hi | hi
  · rw [List.getElem?_append_left hi] at ha
    rw [List.getElem?_append_left (by omega)] at hv
    exact h3 i a v ha hv
  · rw [List.getElem?_append_right hi] at ha
    rw [List.getElem?_append_right (by omega), h1] at hv
    exact k3 _ a v ha hv
theorem Pr.cons {a : AV} {v : Value} {xs : List AV} {vs : List Value} (h : Vo W a v) (h1 : v.oneCell' = true) (k : Pr W xs vs) : Pr W (a :: xs) (v :: vs) := Pr.app (Pr.one h h1) k
theorem Pr.plain : ∀ {vs : List Value}, (∀ v ∈ vs, plainV v = true) → Pr W (vs.map .c) vs
  | [], _ => Pr.nil
  | v :: _vs, h => Pr.cons (.c (h v List.mem_cons_self)) (plain_one (h v List.mem_cons_self)) (Pr.plain fun x hx => h x (List.mem_cons_of_mem _ hx))
theorem Pr.agg {xs : List AV} {vs : List Value} (h : Pr W xs vs) : Vo W (.agg xs) (.agg vs.toArray) := .agg h.1 h.2.1 h.2.2
/-- Rows one behind the other. -/
theorem Pr.rows {α : Type} {enc : α → AV} : ∀ {l : List α} {rows : List (List Value)}, rows.length = l.length → (∀ (i : Nat) x row, l[i]? = some x → rows[i]? = some row → Pr W (enc x).cells row) → Pr W (flat (l.map enc)) rows.flatten
  | [], [], _, _ => Pr.nil
  | x :: l, r :: rows, hl, h => Pr.app (h 0 x r rfl rfl) (Pr.rows (by simpa using hl) (fun i y s hy hs => h (i + 1) y s (by simpa using hy) (by simpa using hs)))
  | [], _ :: _, hl, _ => by simp at hl
  | _ :: _, [], hl, _ => by simp at hl
end
theorem flatR_at {rows : List (List Value)} {k : Nat} (hk : ∀ r ∈ rows, r.length = k) {i j : Nat} {r : List Value} (hr : rows[i]? = some r) (hj : j < k) : rows.flatten[i * k + j]? = r[j]? := by
  induction rows generalizing i with
  | nil => cases hr
  | cons y l ih =>
    have hy := hk y (by simp)
    rw [List.flatten_cons]
    cases i with
    | zero =>
      simp at hr
      subst hr
      rw [List.getElem?_append_left (by omega)]
      simp
    | succ i =>
      rw [List.getElem?_append_right (by rw [hy, Nat.succ_mul]; omega), hy, show (i + 1) * k + j - k = i * k + j by rw [Nat.succ_mul]; omega]
      exact ih (fun r hr => hk r (by simp [hr])) (by simpa using hr)
theorem flatR_len {rows : List (List Value)} {k : Nat} (hk : ∀ r ∈ rows, r.length = k) : rows.flatten.length = rows.length * k := by
  induction rows with
  | nil => simp
  | cons y l ih =>
    rw [List.flatten_cons, List.length_append, ih (fun r hr => hk r (by simp [hr])), hk y (by simp), List.length_cons, Nat.succ_mul]
    omega
section
variable {H : Type} {enc : TypeId × Value → H} {W : World} {v : Value} {d : DataW H} {p : List MemPlace} {base : Nat} {spare : Nat → Bool} {held : Bool} {fuel : Nat}
/-- A slice of values, row by row. -/
theorem open_slice_rows {t e : TypeId} (ht : Tryz.prog.underlying t = some (.slice e)) (hpos : 0 < Tryz.prog.cellsOf e) {x : DataW H × List MemPlace} (h : DataW.trod enc Tryz.prog W base spare held fuel t [v] = some x) :
    ∃ rows : List (List Value), Rd W (Tryz.prog.cellsOf e) v rows.length rows.flatten ∧ ∀ row ∈ rows, row.length = Tryz.prog.cellsOf e ∧ ∃ n y, DataW.trod enc Tryz.prog W base spare held n e row = some y := by
  generalize hk : Tryz.prog.cellsOf e = k at hpos ⊢
  rcases Go.Deep.open_slice ht h with ⟨hcs, hx⟩ | ⟨a, len, cap, m, n, D, Pl, hcs, _, hl, hm, hz, hx, hi⟩
  · injection hcs with hcs
    subst hcs
    exact ⟨[], Rd.nil W _, by simp⟩
  · injection hcs with hcs
    subst hcs
    rw [hk] at hi
    have hlm : len ≤ m := by split at hz <;> omega
    have hex : ∀ i, i < len → ∃ cs' : List Value, cs'.length = k ∧ (∀ j, j < k → W.cell? (a.add (i * k + j)) = cs'[j]?) ∧ ∃ n y, DataW.trod enc Tryz.prog W base spare held n e cs' = some y := by
      intro i hilt
      obtain ⟨cs', h1, h2⟩ := hi i (by omega)
      obtain ⟨_, hcl, hat⟩ := World.cells?_some h1
      exact ⟨cs', hcl, fun j hj => by rw [← Go.Deep.add_add]; exact hat j hj, n, _, h2⟩
    obtain ⟨rows, hrl, hr⟩ := list_pick (R := fun (i : Nat) (cs' : List Value) => cs'.length = k ∧ (∀ j, j < k → W.cell? (a.add (i * k + j)) = cs'[j]?) ∧ ∃ n y, DataW.trod enc Tryz.prog W base spare held n e cs' = some y) (List.range len) (fun i hi => hex i (List.mem_range.1 hi))
    rw [List.length_range] at hrl
    have hr' : ∀ i row, rows[i]? = some row → row.length = k ∧ (∀ j, j < k → W.cell? (a.add (i * k + j)) = row[j]?) ∧ ∃ n y, DataW.trod enc Tryz.prog W base spare held n e row = some y := fun i row hrow => by
      have hi : i < len := by rw [← hrl]; exact (List.getElem?_eq_some_iff.1 hrow).1
      obtain ⟨z, hz1, hz2⟩ := hr i i (List.getElem?_range hi)
      rw [hrow] at hz1
      rw [Option.some.inj hz1]
      exact hz2
    have hall : ∀ row ∈ rows, row.length = k ∧ ∃ n y, DataW.trod enc Tryz.prog W base spare held n e row = some y := fun row hrow => by
      obtain ⟨i, hi⟩ := List.getElem?_of_mem hrow
      obtain ⟨e1, -, e3⟩ := hr' i row hi
      exact ⟨e1, e3⟩
    have hlen : ∀ row ∈ rows, row.length = k := fun row hrow => (hall row hrow).1
    refine ⟨rows, ⟨some a, cap, by rw [hrl], by omega, hm, flatR_len hlen, fun h0 => ?_⟩, hall⟩
    have hs : a.spot = none := by
      obtain ⟨e2, e3, -⟩ := hr' 0 _ (List.getElem?_eq_getElem h0)
      have := e3 0 hpos
      rw [List.getElem?_eq_getElem (by omega)] at this
      have := spot_of_cell this
      revert this
      unfold Addr.add
      simp
    refine ⟨a.block, a.off, by cases a; simp_all, fun j u hj => ?_⟩
    have hjl : j < len * k := by
      have := (List.getElem?_eq_some_iff.1 hj).1
      rw [flatR_len hlen, hrl] at this
      exact this
    have hdm : j / k < len := by rw [Nat.div_lt_iff_lt_mul hpos]; exact hjl
    have hmod := Nat.mod_lt j hpos
    obtain ⟨row, hrow⟩ : ∃ row, rows[j / k]? = some row := ⟨_, List.getElem?_eq_getElem (by omega)⟩
    obtain ⟨e2, e3, -⟩ := hr' (j / k) row hrow
    have e4 := flatR_at hlen hrow hmod
    have e5 : j / k * k + j % k = j := Nat.div_add_mod' j k
    rw [e5, hj] at e4
    have := e3 (j % k) hmod
    rw [e5, ← e4, add_form hs] at this
    exact this
/-- A slice as an immutable one. -/
theorem open_ls {t e : TypeId} {k : Nat} (ht : Tryz.prog.underlying t = some (.slice e)) (hk : Tryz.prog.cellsOf e = k) (hpos : 0 < k) {α : Type} (en : α → AV) (Q : α → Prop) (hen : ∀ x, Q x → (en x).cells.length = k) (hrow : ∀ row n y, row.length = k → DataW.trod enc Tryz.prog W base spare held n e row = some y → ∃ x, Q x ∧ Pr W (en x).cells row) {x : DataW H × List MemPlace} (h : DataW.trod enc Tryz.prog W base spare held fuel t [v] = some x) :
    ∃ l : List α, (∀ x ∈ l, Q x) ∧ Vo W (.ls k (l.map en)) v ∧ v.oneCell' = true := by
  obtain ⟨rows, h1, h2⟩ := open_slice_rows ht (by rw [hk]; exact hpos) h
  rw [hk] at h1 h2
  obtain ⟨l, hl, hx⟩ := list_pick (R := fun (row : List Value) (x : α) => Q x ∧ Pr W (en x).cells row) rows (fun row hr => by
    obtain ⟨a1, n, y, a2⟩ := h2 row hr
    exact hrow row n y a1 a2)
  have hx' : ∀ (i : Nat) x row, l[i]? = some x → rows[i]? = some row → Q x ∧ Pr W (en x).cells row := fun i x row h1 h2 => by
    obtain ⟨y, e1, e2⟩ := hx i row h2
    rw [h1] at e1
    rw [Option.some.inj e1]
    exact e2
  have hQ : ∀ x ∈ l, Q x := fun x hxl => by
    obtain ⟨i, hi⟩ := List.getElem?_of_mem hxl
    have hil := (List.getElem?_eq_some_iff.1 hi).1
    exact (hx' i x _ hi (List.getElem?_eq_getElem (by omega))).1
  have hp := Pr.rows (enc := en) hl.symm (fun i x row a b => (hx' i x row a b).2)
  obtain ⟨A, c, rfl, hn, hc, hfl, hA⟩ := h1
  refine ⟨l, hQ, ?_, rfl⟩
  rcases Nat.eq_zero_or_pos rows.length with h0 | h0
  · obtain rfl : l = [] := List.eq_nil_of_length_eq_zero (by omega)
    rw [h0]
    exact .ls0 A hc
  · obtain ⟨g, o, rfl, hcell⟩ := hA h0
    have hne : 0 < rows.flatten.length := by rw [hfl]; exact Nat.mul_pos h0 hpos
    have hlt := lt_of_cell (hcell 0 _ (List.getElem?_eq_getElem hne))
    rw [show rows.length = (l.map en).length by rw [List.length_map, hl]]
    refine .ls ⟨hlt, id, fun ⟨i, s, ⟨t, cs, hi⟩, _⟩ => by simp at hi⟩ (fun e he => ?_) (by rw [List.length_map, hl]; exact hn) hc hp.1 hp.2.1 (fun j u hu => hcell j u hu) hp.2.2
    obtain ⟨x, hx, rfl⟩ := List.mem_map.1 he
    exact hen x (hQ x hx)
theorem cells_u8 : Tryz.prog.cellsOf 5 = 1 := by kernel_rfl
theorem cells_int : Tryz.prog.cellsOf 3 = 1 := by kernel_rfl
theorem cells_mask : Tryz.prog.cellsOf 32 = 1 := by kernel_rfl
theorem cells_bytes : Tryz.prog.cellsOf 31 = 1 := by kernel_rfl
theorem cells_name : Tryz.prog.cellsOf 34 = 8 := by kernel_rfl
theorem cells_vote : Tryz.prog.cellsOf 36 = 22 := by kernel_rfl
theorem cells_signed : Tryz.prog.cellsOf 38 = 23 := by kernel_rfl
theorem cells_view : Tryz.prog.cellsOf 29 = 2 := by kernel_rfl
theorem cells_gen : Tryz.prog.cellsOf 25 = 5 := by kernel_rfl
theorem open_byte {c : Value} {x : DataW H × List MemPlace} (h : DataW.trod enc Tryz.prog W base spare held fuel 5 [c] = some x) : ∃ b : UInt8, c = .int .u8 b.toNat := by
  obtain ⟨z, e, _, hw⟩ := DataW.trod_int Tryz.underlying5 h
  injection e with e
  have := bounds_u8 hw
  refine ⟨UInt8.ofNat z.toNat, ?_⟩
  rw [e]
  congr 1
  simp
  omega
theorem open_int1 {t : TypeId} (ht : Tryz.prog.underlying t = some (.int .i64)) {c : Value} {x : DataW H × List MemPlace} (h : DataW.trod enc Tryz.prog W base spare held fuel t [c] = some x) : ∃ z : Int, c = .int .i64 z ∧ in64 z := by
  obtain ⟨z, e, _, hw⟩ := DataW.trod_int ht h
  injection e with e
  have := bounds_i64 hw
  exact ⟨z, e, by unfold in64; omega⟩
theorem open_bytes {x : DataW H × List MemPlace} (h : DataW.trod enc Tryz.prog W base spare held fuel 31 [v] = some x) : ∃ l : List UInt8, Vo W (bytesA l) v ∧ v.oneCell' = true := by
  obtain ⟨l, -, h1⟩ := open_ls Tryz.underlying31 cells_u8 (by decide) byteA (fun _ => True) (fun _ _ => rfl) (fun row n y hl hy => by
    match row, hl with
    | [c], _ =>
      obtain ⟨b, rfl⟩ := open_byte hy
      exact ⟨b, trivial, Pr.one (.c rfl) rfl⟩) h
  exact ⟨l, h1⟩
theorem open_texts {x : DataW H × List MemPlace} (h : DataW.trod enc Tryz.prog W base spare held fuel 27 [v] = some x) : ∃ l : List (List UInt8), Vo W (tsA l) v ∧ v.oneCell' = true := by
  obtain ⟨l, -, h1⟩ := open_ls Tryz.underlying27 cells_bytes (by decide) bytesA (fun _ => True) (fun _ _ => rfl) (fun row n y hl hy => by
    match row, hl with
    | [c], _ =>
      obtain ⟨b, h1, h2⟩ := open_bytes hy
      exact ⟨b, trivial, Pr.one h1 h2⟩) h
  exact ⟨l, h1⟩
theorem open_name {l : List Value} (hl : l.length = 8) {x : DataW H × List MemPlace} (h : DataW.trod enc Tryz.prog W base spare held fuel 34 l = some x) : ∃ n : List UInt8, n.length = 8 ∧ Pr W (n.map byteA) l := by
  obtain ⟨xs, m, _, _, _, hxl, hi⟩ := DataW.trod_array Tryz.underlying34 h
  rw [cells_u8] at hi
  obtain ⟨r, hr, hx⟩ := list_pick (R := fun (i : Nat) (b : UInt8) => l[i]? = some (.int .u8 b.toNat)) (List.range 8) (fun i hr => by
    have h8 := List.mem_range.1 hr
    have := hi i h8
    rw [List.getElem?_eq_getElem (by omega), Nat.mul_one, List.drop_eq_getElem_cons (by omega), show ∀ (q : Value) (l : List Value), (q :: l).take 1 = [q] from fun _ _ => rfl] at this
    obtain ⟨b, hb⟩ := open_byte this
    exact ⟨b, by rw [List.getElem?_eq_getElem (by omega), hb]⟩)
  rw [List.length_range] at hr
  have e : l = r.map (fun b => Value.int .u8 b.toNat) := by
    apply List.ext_getElem?
    intro i
    rw [List.getElem?_map]
    rcases Nat.lt_or_ge i 8 with h8 | h8
    · obtain ⟨b, h1, h2⟩ := hx i i (List.getElem?_range h8)
      rw [h2, h1]
      rfl
    · rw [List.getElem?_eq_none (by omega), List.getElem?_eq_none (by omega)]
      rfl
  refine ⟨r, hr, ?_⟩
  rw [e]
  have := Pr.plain (W := W) (vs := r.map (fun b => Value.int .u8 b.toNat)) (fun v hv => by obtain ⟨b, -, rfl⟩ := List.mem_map.1 hv; rfl)
  rw [List.map_map] at this
  exact this
theorem open_names {x : DataW H × List MemPlace} (h : DataW.trod enc Tryz.prog W base spare held fuel 22 [v] = some x) : ∃ l : List (List UInt8), (∀ n ∈ l, n.length = 8) ∧ Vo W (namesA l) v ∧ v.oneCell' = true :=
  open_ls Tryz.underlying22 cells_name (by decide) nmA (fun n => n.length = 8) (fun n h => by simp [h]) (fun row n y hl hy => open_name hl hy) h
/-- The cells of a struct's field. -/
theorem fld_of {t : TypeId} (hS : Tryz.prog.underlying t = some (.struct (Tryz.prog.fieldsOf t))) {cs : List Value} {x : DataW H × List MemPlace} (h : DataW.trod enc Tryz.prog W base spare held fuel t cs = some x) : cs.length = Tryz.prog.cellsOf t ∧ ∃ n, ∀ (i u o : Nat), ((Tryz.prog.fieldsOf t).toList.map (fun f => (f.type, f.offset)))[i]? = some (u, o) → ∃ y, DataW.trod enc Tryz.prog W base spare held n u ((cs.drop o).take (Tryz.prog.cellsOf u)) = some y := by
  obtain ⟨xs, n, _, _, hcl, hxl, hf⟩ := DataW.trod_struct hS h
  refine ⟨hcl, n, fun i u o hi => ?_⟩
  rw [List.getElem?_map] at hi
  obtain ⟨f, hf1, hf2⟩ := Option.map_eq_some_iff.1 hi
  have hf3 : (Tryz.prog.fieldsOf t)[i]? = some f := by simpa using hf1
  have := hf i f hf3
  obtain ⟨e1, e2⟩ := Prod.mk.inj hf2
  rw [e1, e2] at this
  have hlt : i < xs.length := by rw [hxl]; exact (Array.getElem?_eq_some_iff.1 hf3).1
  exact ⟨xs[i], this.trans (List.getElem?_eq_getElem hlt)⟩
set_option maxRecDepth 100000 in
theorem open_vote {cs : List Value} {x : DataW H × List MemPlace} (h : DataW.trod enc Tryz.prog W base spare held fuel 36 cs = some x) : ∃ s : VoteS, s.Fit ∧ Pr W (vC s) cs := by
  obtain ⟨hcl, n, fld⟩ := fld_of (t := 36) (by kernel_rfl) h
  have hfs : (Tryz.prog.fieldsOf 36).toList.map (fun f => (f.type, f.offset)) = [(3, 0), (3, 1), (3, 2), (3, 3), (3, 4), (32, 5), (34, 6), (34, 14)] := by kernel_rfl
  rw [hfs] at fld
  rw [cells_vote] at hcl
  match cs, hcl with
  | c0 :: c1 :: c2 :: c3 :: c4 :: c5 :: r, hcl =>
    have hr : r.length = 16 := by simpa using hcl
    obtain ⟨y0, f0⟩ := fld 0 3 0 rfl
    obtain ⟨y1, f1⟩ := fld 1 3 1 rfl
    obtain ⟨y2, f2⟩ := fld 2 3 2 rfl
    obtain ⟨y3, f3⟩ := fld 3 3 3 rfl
    obtain ⟨y4, f4⟩ := fld 4 3 4 rfl
    obtain ⟨y5, f5⟩ := fld 5 32 5 rfl
    obtain ⟨y6, f6⟩ := fld 6 34 6 rfl
    obtain ⟨y7, f7⟩ := fld 7 34 14 rfl
    rw [cells_int] at f0 f1 f2 f3 f4
    rw [cells_mask] at f5
    rw [cells_name] at f6 f7
    obtain ⟨z0, rfl, h0⟩ := open_int1 Tryz.underlying3 f0
    obtain ⟨z1, rfl, h1⟩ := open_int1 Tryz.underlying3 f1
    obtain ⟨z2, rfl, h2⟩ := open_int1 Tryz.underlying3 f2
    obtain ⟨z3, rfl, h3⟩ := open_int1 Tryz.underlying3 f3
    obtain ⟨z4, rfl, h4⟩ := open_int1 Tryz.underlying3 f4
    obtain ⟨z5, rfl, h5⟩ := open_int1 Tryz.underlying32 f5
    have e6 : ((Value.int .i64 z0 :: .int .i64 z1 :: .int .i64 z2 :: .int .i64 z3 :: .int .i64 z4 :: .int .i64 z5 :: r).drop 6).take 8 = r.take 8 := rfl
    have e7 : ((Value.int .i64 z0 :: .int .i64 z1 :: .int .i64 z2 :: .int .i64 z3 :: .int .i64 z4 :: .int .i64 z5 :: r).drop 14).take 8 = (r.drop 8).take 8 := rfl
    rw [e6] at f6
    rw [e7] at f7
    obtain ⟨l6, k6, p6⟩ := open_name (W := W) (by rw [List.length_take]; omega) f6
    obtain ⟨l7, k7, p7⟩ := open_name (W := W) (by rw [List.length_take, List.length_drop]; omega) f7
    refine ⟨⟨z0, z1, z2, z3, z4, z5, l6, l7⟩, ⟨h0, h1, h2, h3, h4, h5, k6, k7⟩, ?_⟩
    have er : r = r.take 8 ++ (r.drop 8).take 8 := by rw [List.take_of_length_le (l := r.drop 8) (by rw [List.length_drop]; omega), List.take_append_drop]
    rw [er]
    exact Pr.cons (.c rfl) rfl (Pr.cons (.c rfl) rfl (Pr.cons (.c rfl) rfl (Pr.cons (.c rfl) rfl (Pr.cons (.c rfl) rfl (Pr.cons (.c rfl) rfl (p6.app p7))))))
set_option maxRecDepth 100000 in
theorem open_signed {cs : List Value} {x : DataW H × List MemPlace} (h : DataW.trod enc Tryz.prog W base spare held fuel 38 cs = some x) : ∃ s : SignedS, s.vote.Fit ∧ Pr W (sA s).cells cs := by
  obtain ⟨hcl, n, fld⟩ := fld_of (t := 38) (by kernel_rfl) h
  have hfs : (Tryz.prog.fieldsOf 38).toList.map (fun f => (f.type, f.offset)) = [(36, 0), (31, 22)] := by kernel_rfl
  rw [hfs] at fld
  rw [cells_signed] at hcl
  obtain ⟨y0, f0⟩ := fld 0 36 0 rfl
  obtain ⟨y1, f1⟩ := fld 1 31 22 rfl
  rw [cells_vote, List.drop_zero] at f0
  rw [cells_bytes] at f1
  obtain ⟨s, hs, p0⟩ := open_vote (W := W) f0
  obtain ⟨u, hu⟩ : ∃ u, cs.drop 22 = [u] := by
    have hl : (cs.drop 22).length = 1 := by simp; omega
    match h : cs.drop 22, hl with
    | [u], _ => exact ⟨u, rfl⟩
  rw [hu] at f1
  obtain ⟨bs, p1, o1⟩ := open_bytes (v := u) f1
  refine ⟨⟨s, bs⟩, hs, ?_⟩
  have e : cs = cs.take 22 ++ [u] := by rw [← hu, List.take_append_drop]
  rw [e]
  exact p0.app (Pr.one p1 o1)
theorem open_signeds {x : DataW H × List MemPlace} (h : DataW.trod enc Tryz.prog W base spare held fuel 26 [v] = some x) : ∃ l : List SignedS, (∀ s ∈ l, s.vote.Fit) ∧ Vo W (.ls 23 (l.map sA)) v ∧ v.oneCell' = true :=
  open_ls Tryz.underlying26 cells_signed (by decide) sA (fun s => s.vote.Fit) (fun s h => sC_len h) (fun row n y _ hy => open_signed hy) h
set_option maxRecDepth 100000 in
theorem open_one {t e : TypeId} (ht : Tryz.prog.underlying t = some (.slice e)) {c : Value} {x : DataW H × List MemPlace} (h : DataW.trod enc Tryz.prog W base spare held fuel t [c] = some x) : c.oneCell' = true := by
  rcases Go.Deep.open_slice ht h with ⟨hcs, hx⟩ | ⟨a, len, cap, m, n, D, Pl, hcs, _⟩
  · injection hcs with hcs
    subst hcs
    rfl
  · injection hcs with hcs
    subst hcs
    rfl
set_option maxRecDepth 100000 in
theorem open_view {base0 : Nat} (hok : Value.okWide Tryz.prog W .any base0 29 v) (h : DataW.Trod enc Tryz.prog W 0 (fun _ => true) true 29 v d p) : ∃ (l : List SignedS) (T : List (List UInt8)), Fits l ∧ Vo W (vwA l T) v := by
  obtain ⟨v0, v1, y0, y1, n, rfl, _, _, h0, h1⟩ := Go.Joins.open_agg2 Tryz.underlying29 (by kernel_rfl) cells_view hok h
  obtain ⟨l, hf, p0, o0⟩ := open_signeds h0
  obtain ⟨T, p1, o1⟩ := open_texts h1
  exact ⟨l, T, hf, (Pr.cons p0 o0 (Pr.one p1 o1)).agg⟩
set_option maxRecDepth 100000 in
/-- A genesis among the arguments. -/
theorem open_genesis {base0 : Nat} (hok : Value.okWide Tryz.prog W .any base0 25 v) (h : DataW.Trod enc Tryz.prog W 0 (fun _ => true) true 25 v d p) : ∃ K : List (List UInt8), (∀ k ∈ K, k.length = 8) ∧ Vo W (gnA K) v := by
  unfold Value.okWide at hok
  rw [Tryz.underlying25] at hok
  obtain ⟨cs, rfl, hsz, -⟩ := hok
  rw [cells_gen] at hsz
  obtain ⟨l⟩ := cs
  match l, hsz with
  | [c0, c1, c2, c3, c4], _ =>
    obtain ⟨fuel, hf⟩ := h
    obtain ⟨-, n, fld⟩ := fld_of (t := 25) (cs := [c0, c1, c2, c3, c4]) (by kernel_rfl) hf
    have hfs : (Tryz.prog.fieldsOf 25).toList.map (fun f => (f.type, f.offset)) = [(3, 0), (3, 1), (22, 2), (22, 3), (23, 4)] := by kernel_rfl
    rw [hfs] at fld
    obtain ⟨y0, f0⟩ := fld 0 3 0 rfl
    obtain ⟨y1, f1⟩ := fld 1 3 1 rfl
    obtain ⟨y2, f2⟩ := fld 2 22 2 rfl
    obtain ⟨y3, f3⟩ := fld 3 22 3 rfl
    obtain ⟨y4, f4⟩ := fld 4 23 4 rfl
    rw [cells_int] at f0 f1
    rw [show Tryz.prog.cellsOf 22 = 1 from by kernel_rfl] at f2 f3
    rw [show Tryz.prog.cellsOf 23 = 1 from by kernel_rfl] at f4
    obtain ⟨z0, rfl, h0⟩ := open_int1 Tryz.underlying3 f0
    obtain ⟨z1, rfl, h1⟩ := open_int1 Tryz.underlying3 f1
    obtain ⟨K, hK, p2, o2⟩ := open_names (v := c2) f2
    have o3 := open_one (c := c3) Tryz.underlying22 f3
    have o4 := open_one (c := c4) Tryz.underlying23 f4
    exact ⟨K, hK, (Pr.cons (.any _) rfl (Pr.cons (.any _) rfl (Pr.cons p2 o2 (Pr.cons (.any _) o3 (Pr.one (.any _) o4))))).agg⟩
end
/-- The law in memory. -/
theorem facts_calls {W : World} {v0 v1 : Value} {K : List (List UInt8)} {l : List SignedS} {T : List (List UInt8)} (hK : ∀ k ∈ K, k.length = 8) (hf : Fits l) (h0 : Vo W (gnA K) v0) (h1 : Vo W (vwA l T) v1) : Calls Tryz.prog 3 #[v0, v1] W fun e w' => e = .returned (.bool true) ∧ Upd NoF W w' := by
  have hr : Rep (fun _ => False) (fun _ => none) [] W := ⟨fun b hb => hb.elim, fun id t fz cs hi => by simp at hi, fun i j ⟨t, fz, cs, hi⟩ => by simp at hi⟩
  have hv : VL (fun _ => False) (fun _ => none) [] W [gnA K, vwA l T] [v0, v1] := ⟨rfl, fun i a v ha hv => by
    match i with
    | 0 => cases ha; cases hv; exact h0
    | 1 => cases ha; cases hv; exact h1
    | i + 2 => simp at ha⟩
  have hb : hasBody Tryz.prog 3 := ⟨_, _, Tryz.func3, rfl⟩
  rcases facts_any K hK l hf T _ _ W _ hr hv with ⟨-, h⟩ | ⟨h, -⟩
  · refine Calls.mono h (fun e w' ⟨r, H', β', u, e1, ⟨_, e2⟩, _, e4, e5⟩ => ?_)
    subst e2
    obtain rfl := V.lit e5
    exact ⟨e1, e4.upd.mono (fun k _ ⟨id, s, ⟨t, cs, hi⟩, _⟩ => by simp at hi)⟩
  · exact (extS_body h hb).elim
end

section
open Go

theorem and2 {a b : Bool} (h : a = true) (k : b = true) : (a && b) = true := by rw [h, k]; rfl
theorem itemsFacts_fact0 : (Rows.itemsFactsRow.wf (OpenSpec.ofChange Rows.itemsFactsSpec) : Bool) = true := by kernel_rfl
theorem itemsFacts_fact1 : (laidOutB Tryz.prog : Bool) = true := by kernel_rfl
theorem itemsFacts_fact2 : (mapsRowed Tryz.prog : Bool) = true := by kernel_rfl
theorem itemsFacts_fact3 : (Tryz.f3.params.all (Tryz.prog.readableRec ·) : Bool) = true := by kernel_rfl
theorem itemsFacts_fact4 : (namedTie Tryz.prog Rows.itemsFactsRow.named Rows.itemsFactsSpec.vars : Bool) = true := by kernel_rfl
theorem itemsFacts_fact5 : ((Rows.itemsFactsRow.stops == []) : Bool) = true := by kernel_rfl
theorem itemsFacts_fact6 : ((Tryz.prog.stops == []) : Bool) = true := by kernel_rfl
theorem itemsFacts_fact7 : ((Rows.itemsFactsRow.knobs == []) : Bool) = true := by kernel_rfl
theorem itemsFacts_fact8 : ((Tryz.prog.stopKnobs == []) : Bool) = true := by kernel_rfl
theorem itemsFacts_fact9 : ((Rows.itemsFactsRow.inPlace == Tryz.prog.inPlace 3) : Bool) = true := by kernel_rfl
theorem itemsFacts_fact10 : ((Rows.itemsFactsRow.unfollowed == Tryz.prog.unfollowed 3) : Bool) = true := by kernel_rfl
theorem itemsFacts_fact11 : ((Rows.itemsFactsRow.recurses == Tryz.prog.recurses 3) : Bool) = true := by kernel_rfl
theorem itemsFacts_fact12 : ((Rows.itemsFactsRow.named == Tryz.prog.varsNamed 3) : Bool) = true := by kernel_rfl
theorem itemsFacts_fact13 : ((Rows.itemsFactsRow.maps == (Tryz.f3.params.toList ++ Rows.itemsFactsSpec.plain.varTypes Tryz.prog).any (Tryz.prog.mapsRec ·)) : Bool) = true := by kernel_rfl
theorem itemsFacts_fact14 : ((Rows.itemsFactsRow.ifaces == (Tryz.f3.params.toList ++ Rows.itemsFactsSpec.plain.varTypes Tryz.prog).any (Tryz.prog.ifacesRec ·)) : Bool) = true := by kernel_rfl
theorem itemsFacts_fact15 : ((Rows.itemsFactsRow.mapsOut == Tryz.prog.mapsAmong Tryz.f3.resultTypes.toList) : Bool) = true := by kernel_rfl
theorem itemsFacts_fact16 : ((Rows.itemsFactsRow.loops == (Tryz.f3.params.toList ++ Rows.itemsFactsSpec.plain.varTypes Tryz.prog).any (Tryz.prog.loopsFrom ·)) : Bool) = true := by kernel_rfl
theorem itemsFacts_fact17 : ((Rows.itemsFactsRow.wideKeys == (Tryz.f3.params.toList ++ Rows.itemsFactsSpec.plain.varTypes Tryz.prog ++ Tryz.f3.resultTypes.toList).any (Tryz.prog.wideKeysFrom ·)) : Bool) = true := by kernel_rfl
theorem itemsFacts_fact18 : (Rows.itemsFactsSpec.vars.all (Tryz.prog.varReadable ·) : Bool) = true := by kernel_rfl
theorem itemsFacts_fact19 : (Tryz.f3.resultTypes.all (fun t => Tryz.prog.readableRec t && decide (t < Tryz.prog.types.size)) : Bool) = true := by kernel_rfl
theorem itemsFacts_fact20 : ((Rows.itemsFactsRow.ifacesOut == Tryz.f3.resultTypes.toList.any (Tryz.prog.ifacesRec ·)) : Bool) = true := by kernel_rfl
theorem itemsFacts_fact21 : ((Rows.itemsFactsRow.loopsOut == Tryz.f3.resultTypes.toList.any (Tryz.prog.loopsFrom ·)) : Bool) = true := by kernel_rfl
theorem itemsFacts_fact22 : ((Rows.itemsFactsRow.plainKeys == Tryz.prog.plainKeys) : Bool) = true := by kernel_rfl
theorem itemsFacts_fact23 : (Rows.itemsFactsRow.shortTexts.isNone : Bool) = true := by kernel_rfl
theorem itemsFacts_fact24 : (Tryz.prog.stopsHeard : Bool) = true := by kernel_rfl
theorem itemsFacts_fact25 : (Tryz.prog.mayEnter : Bool) = true := by kernel_rfl
theorem itemsFacts_fact26 : ((Rows.itemsFactsRow.lifted == Tryz.prog.liftsFinal) : Bool) = true := by kernel_rfl
theorem itemsFacts_fact27 : ((Tryz.prog.make == some Rows.itemsFactsRow.make) : Bool) = true := by kernel_rfl
theorem itemsFacts_fact28 : ((Rows.itemsFactsRow.kinds == (if Rows.itemsFactsRow.domain.isEmpty then [] else Tryz.f3.params.toList.map fun t => match Tryz.prog.underlying t with | some (.int k) => some k | _ => none)) : Bool) = true := by kernel_rfl
theorem itemsFacts_fact29 : ((Rows.itemsFactsRow.pinned == Rows.itemsFactsRow.pinnedBy) : Bool) = true := by kernel_rfl
theorem itemsFacts_fact30 : ((Rows.itemsFactsRow.veiled == (Tryz.f3.params.toList ++ Rows.itemsFactsSpec.plain.varTypes Tryz.prog ++ Tryz.f3.resultTypes.toList).any (Tryz.prog.veiledRec ·)) : Bool) = true := by kernel_rfl
theorem itemsFacts_fact31 : (Rows.itemsFactsRow.veiledFits Tryz.prog Tryz.f3.params.toList (Tryz.f3.params.toList ++ Rows.itemsFactsSpec.plain.varTypes Tryz.prog ++ Tryz.f3.resultTypes.toList) : Bool) = true := by kernel_rfl
set_option maxRecDepth 100000 in
theorem itemsFacts_facts : joinedFacts Tryz.prog 3 Tryz.f3 Rows.itemsFactsSpec Rows.itemsFactsRow = true := by
  unfold joinedFacts
  exact and2 (and2 (and2 (and2 (and2 (and2 (and2 (and2 (and2 (and2 (and2 (and2 (and2 (and2 (and2 (and2 (and2 (and2 (and2 (and2 (and2 (and2 (and2 (and2 (and2 (and2 (and2 (and2 (and2 (and2 (and2 (itemsFacts_fact0) itemsFacts_fact1) itemsFacts_fact2) itemsFacts_fact3) itemsFacts_fact4) itemsFacts_fact5) itemsFacts_fact6) itemsFacts_fact7) itemsFacts_fact8) itemsFacts_fact9) itemsFacts_fact10) itemsFacts_fact11) itemsFacts_fact12) itemsFacts_fact13) itemsFacts_fact14) itemsFacts_fact15) itemsFacts_fact16) itemsFacts_fact17) itemsFacts_fact18) itemsFacts_fact19) itemsFacts_fact20) itemsFacts_fact21) itemsFacts_fact22) itemsFacts_fact23) itemsFacts_fact24) itemsFacts_fact25) itemsFacts_fact26) itemsFacts_fact27) itemsFacts_fact28) itemsFacts_fact29) itemsFacts_fact30) itemsFacts_fact31
end
end Go.Proofs.YthknobbilcolnaaGreat
