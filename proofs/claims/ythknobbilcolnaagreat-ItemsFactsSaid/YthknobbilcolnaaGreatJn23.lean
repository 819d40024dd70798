/- bytes.Clone, bytes.Equal and slices.CompactFunc of texts, by abstract values. Conditions: sizes. slices.CompactFunc of texts, by abstract values. Conditions: sizes. Equal votes, texts and facts of the reference, by abstract values. Conditions: sizes. items.Facts, by abstract values. Conditions: sizes. Verified votes of the reference, by abstract values. Conditions: sizes. Texts sorted by the reference, and its facts, by abstract values. Conditions: sizes. Facts of the reference, by abstract values. Conditions: sizes. -/
import Derived.Test.YthknobbilcolnaaGreatJn22
import Derived.Lib.SliceRun
import Derived.Test.YthknobbilcolnaaGreatJn17
import Derived.Test.YthknobbilcolnaaGreatJn21
namespace Go.Proofs.YthknobbilcolnaaGreat
section
open Go.RowKit

set_option maxRecDepth 100000 in
theorem clone_nil (c : Nat) (w : World) : Calls Tryz.prog 19 #[.slice none 0 c] w fun e w' => e = .returned (.slice none 0 0) ∧ w = w' := by
  have hE := fun w a n c c' => Lib.run_eql_slice_nil (P := Tryz.prog) w 31 _ a n c 0 c' Tryz.underlying31
  go_enter Tryz.func19, Tryz.ntmps19
  go_wp2
  go_ret
  exact ⟨rfl, rfl⟩
set_option maxRecDepth 100000 in
theorem clone_some (a : Addr) (c : Nat) (w : World) : Calls Tryz.prog 19 #[.slice (some a) 0 c] w fun e w' => ∃ A, e = .returned (.slice A 0 0) ∧ Upd NoF w w' := by
  have hE := fun w a n c c' => Lib.run_eql_slice_nil (P := Tryz.prog) w 31 _ a n c 0 c' Tryz.underlying31
  go_enter Tryz.func19, Tryz.ntmps19
  go_wp2
  go_ret
  exact ⟨_, rfl, (Upd.refl _ _).alloc _⟩
set_option maxRecDepth 10000
attribute [-simp] List.map_take List.map_drop UInt8.ofNat_add List.map_flatten
theorem tyK_bytes : tyK Tryz.prog 31 = 1 := by kernel_rfl
theorem eql_nil {ox oy : Operand} (a : UInt8) (r : List UInt8) : orA (binA Tryz.prog .eql 31 ox oy (bytesA (a :: r)) (.c (.slice none 0 0))) (nlA Tryz.prog .eql 31 (bytesA (a :: r)) (.c (.slice none 0 0))) = some (.c (.bool false)) := by
  have h1 : binA Tryz.prog .eql 31 ox oy (bytesA (a :: r)) (.c (.slice none 0 0)) = none := by simp [binA, isNilV, isPtrA, toV]
  rw [h1]
  have e : someK (bytesA (a :: r)) = 1 := rfl
  simp [orA, nlA, nilK, e, tyK_bytes]
/-- bytes.Clone. -/
theorem Clone_any (l : List UInt8) (hl : l.length ≤ 100000) : PCall Tryz.prog 19 [bytesA l] [] (fun x _ => Bd 0 x ∧ x = bytesA l) := by
  by_cases h0 : l.length = 0
  · obtain rfl := List.eq_nil_of_length_eq_zero h0
    intro F β w vs hr hvl
    have hlen := hvl.1
    match vs, hlen with
    | [v], _ =>
      have h := hvl.2 0 _ _ rfl rfl
      obtain ⟨A, c, rfl⟩ : ∃ A c, v = .slice A 0 c := by
        obtain ⟨A, c, e, -⟩ := h.rdB
        exact ⟨A, c, e⟩
      refine .inl ⟨⟨_, _, Tryz.func19, rfl⟩, ?_⟩
      cases A with
      | none =>
        refine Calls.mono (clone_nil c w) ?_
        rintro e w' ⟨rfl, rfl⟩
        exact ⟨bytesA [], [], β, _, rfl, ⟨by simp, rfl⟩, hr, Ext.refl _ _ _, .ls0 none (Nat.zero_le _)⟩
      | some a =>
        refine Calls.mono (clone_some a c w) ?_
        rintro e w' ⟨A, rfl, hu⟩
        exact ⟨bytesA [], [], β, _, rfl, ⟨by simp, rfl⟩, hr.upd hu, Ext.of_upd hu hr, .ls0 A (Nat.zero_le _)⟩
  · have hp : 0 < l.length := Nat.pos_of_ne_zero h0
    refine PCall.viewR (PCall.enter mixed Tryz.func19 rfl Tryz.ntmps19 Tryz.results19 (by simp) (by kernel_rfl) ?_)
    obtain ⟨a, r, rfl⟩ : ∃ a r, l = a :: r := by
      cases l with
      | nil => exact absurd rfl h0
      | cons a r => exact ⟨a, r, rfl⟩
    simp only [List.length_cons] at hl
    simp [List.replicate, eql_nil]
    refine ⟨by omega, _, View.fz1 (id := 0) rfl (show Fz 0 (flat (byteA a :: r.map byteA)) (.own 0 0 (r.length + 1) 1) (bytesA (a :: r)) from ?_)⟩
    rw [show flat (byteA a :: r.map byteA) = (a :: r).map byteA from flat_bytes (a :: r)]
    exact Fz_bytes rfl
/-- bytes.Equal. -/
theorem Equal_any (a b : List UInt8) : PCall Tryz.prog 23 [bytesA a, bytesA b] [] (fun x _ => Bd 0 x ∧ x = .c (.bool (decide (a = b)))) := by
  refine PCall.enter mixed Tryz.func23 rfl Tryz.ntmps23 Tryz.results23 (by simp) (by kernel_rfl) ?_
  simp [List.replicate]
end

section
open Go.RowKit
set_option maxRecDepth 10000
attribute [-simp] List.map_take List.map_drop UInt8.ofNat_add List.map_flatten

abbrev nilT : AV := .c (.slice none 0 0)
abbrev trow (L : List (List UInt8)) : AObj := .row 31 false (L.map bytesA)
theorem clearA_ts {H : List AObj} {id off n : Nat} {cs : List AV} (hi : H[id]? = some (.row 31 false cs)) (h : off + n ≤ cs.length) : clearA Tryz.prog H 27 (.own id off n 1) = some (.tup [], H.set id (.row 31 false (splice cs off (List.replicate n nilT)))) := by
  unfold clearA
  rw [Tryz.underlying27]
  simp only [ze_bytes, hi]
  rw [if_pos ⟨trivial, h⟩]
theorem splice_at (A B : List AV) (x : AV) : splice (A ++ B) A.length [x] = A ++ [x] ++ B.drop 1 := by
  unfold splice
  rw [List.take_left, List.length_singleton, ← List.drop_drop, List.drop_left]
inductive CmI (l : List (List UInt8)) (id : Nat) (H : List AObj) : Nat → List AV → List AObj → Prop
  | go (i : Nat) (h1 : 1 ≤ i) (hi : i < l.length) (a b : List UInt8) (ha : l[i - 1]? = some a) (hb : l[i]? = some b) (hn : b ≠ a) (hc : compL (l.take i) = l.take i) (m : Nat) (hm : m = l.length - i) : CmI l id H m ([.own id 0 l.length 1, .fn 23 [], .any, .any, .any, .c (.int .i64 i)] ++ List.replicate 60 .any) H
  | eq (i : Nat) (h1 : 1 ≤ i) (hi : i < l.length) (a : List UInt8) (ha : l[i - 1]? = some a) (hb : l[i]? = some a) (hc : compL (l.take i) = l.take i) (m : Nat) (hm : m = l.length - i) : CmI l id H m ([.own id 0 l.length 1, .fn 23 [], .any, .any, .any, .c (.int .i64 i)] ++ List.replicate 60 .any) H
  | en (hc : compL l = l) (m : Nat) (hm : m = l.length - l.length) : CmI l id H m ([.own id 0 l.length 1, .fn 23 [], .any, .any, .any, .c (.int .i64 l.length)] ++ List.replicate 60 .any) H
theorem CmI.of {l : List (List UInt8)} {id : Nat} {H : List AObj} {i : Nat} (h1 : 1 ≤ i) (hi : i ≤ l.length) (hc : compL (l.take i) = l.take i) {m : Nat} (hm : m = l.length - i) : CmI l id H m ([.own id 0 l.length 1, .fn 23 [], .any, .any, .any, .c (.int .i64 i)] ++ List.replicate 60 .any) H := by
  rcases Nat.lt_or_ge i l.length with h | h
  · obtain ⟨a, ha⟩ : ∃ a, l[i - 1]? = some a := ⟨_, List.getElem?_eq_getElem (by omega)⟩
    obtain ⟨b, hb⟩ : ∃ b, l[i]? = some b := ⟨_, List.getElem?_eq_getElem h⟩
    by_cases e : b = a
    · subst e; exact .eq i h1 h b ha hb hc m hm
    · exact .go i h1 h a b ha hb e hc m hm
  · obtain rfl : i = l.length := Nat.le_antisymm hi h
    rw [List.take_length] at hc
    exact .en hc m hm
abbrev cnE (l : List (List UInt8)) (id i0 p k : Nat) : List AV := [.own id 0 l.length 1, .fn 23 [], .any, .any, .any, .c (.int .i64 p), .own id i0 (l.length - i0) 1, .c (.int .i64 k)] ++ List.replicate 58 .any
/-- What is known while repetitions are struck out. -/
structure CnK (l : List (List UInt8)) (i0 k : Nat) (P : List (List UInt8)) : Prop where
  k1 : 1 ≤ k
  le : i0 + k ≤ l.length
  eq : P = compL (l.take (i0 + k))
  lt : P.length + 1 ≤ i0 + k
theorem CnK.at_ {l P : List (List UInt8)} {i0 k : Nat} (_h : CnK l i0 k P) {j : Nat} (hj : P.length ≤ j) : (P ++ l.drop P.length)[j]? = l[j]? := by
  rw [List.getElem?_append_right hj, List.getElem?_drop]
  congr 1
  omega
inductive CnI (l : List (List UInt8)) (id : Nat) (H : List AObj) (i0 : Nat) : Nat → List AV → List AObj → Prop
  | go (k : Nat) (P R : List (List UInt8)) (h : CnK l i0 k P) (hR : R = P ++ l.drop P.length) (hk : i0 + k < l.length) (a b : List UInt8) (ha : R[i0 + (k - 1)]? = some a) (hb : R[i0 + k]? = some b) (hn : b ≠ a) (m : Nat) (hm : m = l.length - i0 - k) : CnI l id H i0 m (cnE l id i0 P.length k) (H.set id (trow R))
  | eq (k : Nat) (P R : List (List UInt8)) (h : CnK l i0 k P) (hR : R = P ++ l.drop P.length) (hk : i0 + k < l.length) (a : List UInt8) (ha : R[i0 + (k - 1)]? = some a) (hb : R[i0 + k]? = some a) (m : Nat) (hm : m = l.length - i0 - k) : CnI l id H i0 m (cnE l id i0 P.length k) (H.set id (trow R))
  | en (k : Nat) (P R : List (List UInt8)) (h : CnK l i0 k P) (hR : R = P ++ l.drop P.length) (hk : i0 + k = l.length) (m : Nat) (hm : m = l.length - i0 - k) : CnI l id H i0 m (cnE l id i0 P.length k) (H.set id (trow R))
theorem CnI.of {l : List (List UInt8)} {id : Nat} {H : List AObj} {i0 k : Nat} {P R : List (List UInt8)} (h : CnK l i0 k P) (hR : R = P ++ l.drop P.length) {m : Nat} (hm : m = l.length - i0 - k) : CnI l id H i0 m (cnE l id i0 P.length k) (H.set id (trow R)) := by
  have h1 := h.k1
  have h2 := h.lt
  rcases Nat.lt_or_ge (i0 + k) l.length with hk | hk
  · obtain ⟨a, ha⟩ : ∃ a, l[i0 + (k - 1)]? = some a := ⟨_, List.getElem?_eq_getElem (by omega)⟩
    obtain ⟨b, hb⟩ : ∃ b, l[i0 + k]? = some b := ⟨_, List.getElem?_eq_getElem hk⟩
    rw [← h.at_ (by omega), ← hR] at ha hb
    by_cases e : b = a
    · subst e; exact .eq k P R h hR hk b ha hb m hm
    · exact .go k P R h hR hk a b ha hb e m hm
  · exact .en k P R h hR (Nat.le_antisymm h.le hk) m hm
theorem CnK.next {l P : List (List UInt8)} {i0 k : Nat} (h : CnK l i0 k P) {a b : List UInt8} (_hk : i0 + k < l.length) (ha : l[i0 + (k - 1)]? = some a) (hb : l[i0 + k]? = some b) : compL (l.take (i0 + (k + 1))) = if a = b then P else P ++ [b] := by
  have h1 := h.k1
  have := comp_next (l := l) (k := i0 + (k - 1)) (a := a) (b := b) ha (by rw [show i0 + (k - 1) + 1 = i0 + k by omega]; exact hb)
  rw [show i0 + (k - 1) + 1 + 1 = i0 + (k + 1) by omega, show i0 + (k - 1) + 1 = i0 + k by omega, ← h.eq] at this
  exact this
/-- slices.CompactFunc of texts in an own row. -/
theorem CompactT_any {H : List AObj} {id : Nat} {l : List (List UInt8)} (hi : H[id]? = some (trow l)) (hs : l.length ≤ 100000) : PCall Tryz.prog 22 [.own id 0 l.length 1, .fn 23 []] H (fun x H' => x = .own id 0 (compL l).length 1 ∧ H' = H.set id (.row 31 false ((compL l).map bytesA ++ List.replicate (l.length - (compL l).length) nilT))) := by
  have hid := (List.getElem?_eq_some_iff.1 hi).1
  refine PCall.enter mixed Tryz.func22 rfl Tryz.ntmps22 Tryz.results22 (by simp) (by kernel_rfl) ?_
  simp [List.replicate, hi, -W_cond]
  by_cases h2 : l.length < 2
  · refine W_ifT (by simp; omega) ?_
    have e := comp_small h2
    simp [e, set_same hi]
  refine W_ifF (by simp; omega) ?_
  simp
  refine W_loop (CmI l id H) (l.length - 1) ?_ ?_
  · exact ⟨_, _, View.forget (by simp), CmI.of (i := 1) (by omega) (by omega) (by rw [comp_one]) rfl⟩
  rintro _ _ _ (⟨i, h1, hil, a, b, ha, hb, hn, hc, m, hm⟩ | ⟨i, h1, hil, a, ha, hb, hc, m, hm⟩ | ⟨hc, m, hm⟩)
  · simp [List.replicate, hi, -W_cond]
    refine W_ifT (by simp; omega) ?_
    have e1 : ((i : Int) - 1).toNat = i - 1 := by omega
    simp (decide := true) [hi, ha, hb, e1, -W_cond]
    refine ⟨by omega, by omega, by omega, nextDC.use (Equal_any b a) (by simp) ?_⟩
    simp (decide := true) [hn, -W_cond]
    refine W_ifF (by simp) ?_
    simp
    have hc2 : compL (l.take (i + 1)) = l.take (i + 1) := by
      have := comp_two (l := l) (k := i - 1) (by rw [ha]) (by rw [show i - 1 + 1 = i by omega]; exact hb) (fun e => hn e.symm) (by rw [show i - 1 + 1 = i by omega]; exact hc)
      rwa [show i - 1 + 1 = i by omega] at this
    refine ⟨by omega, _, ?_, _, _, View.forget (by simp [List.replicate]), CmI.of (by omega) (by omega) hc2 rfl⟩
    omega
  · simp [List.replicate, hi, -W_cond]
    refine W_ifT (by simp; omega) ?_
    have e1 : ((i : Int) - 1).toNat = i - 1 := by omega
    simp (decide := true) [hi, ha, hb, e1, -W_cond]
    refine ⟨by omega, by omega, by omega, nextDC.use (Equal_any a a) (by simp) ?_⟩
    simp (decide := true) [-W_cond]
    refine W_ifT (by simp) ?_
    simp [hi]
    refine ⟨by omega, W_loop (CnI l id H i) (l.length - i - 1) ?_ ?_⟩
    · have hK : CnK l i 1 (l.take i) := ⟨Nat.le_refl _, by omega, by
        have := comp_next (l := l) (k := i - 1) ha (by rw [show i - 1 + 1 = i by omega]; exact hb)
        rw [show i - 1 + 1 + 1 = i + 1 by omega, show i - 1 + 1 = i by omega, if_pos rfl, hc] at this
        exact this.symm, by rw [List.length_take]; omega⟩
      have := CnI.of (id := id) (H := H) hK (R := l) (by rw [List.length_take, Nat.min_eq_left (by omega), List.take_append_drop]) rfl
      rw [set_same hi, List.length_take, Nat.min_eq_left (by omega)] at this
      exact ⟨_, _, View.forget (by simp [List.replicate]), this⟩
    rintro _ _ _ (⟨k, P, R, h, hR, hk, a, b, ha, hb, hn, m2, hm2⟩ | ⟨k, P, R, h, hR, hk, a, ha, hb, m2, hm2⟩ | ⟨k, P, R, h, hR, hk, m2, hm2⟩)
    · have k1 := h.k1
      have k2 := h.lt
      have e2 : ((k : Int) - 1).toNat = k - 1 := by omega
      simp [List.replicate, hid, -W_cond]
      refine W_ifT (by simp; omega) ?_
      simp (decide := true) [hid, ha, hb, e2, -W_cond]
      refine ⟨by omega, by omega, by omega, nextDC.use (Equal_any b a) (by simp) ?_⟩
      simp (decide := true) [hn, -W_cond]
      refine W_ifT (by simp) ?_
      simp [hid, hb]
      have hRl : R.length = l.length := by rw [hR, List.length_append, List.length_drop]; omega
      have la : l[i + (k - 1)]? = some a := by rw [← h.at_ (by omega), ← hR]; exact ha
      have lb : l[i + k]? = some b := by rw [← h.at_ (by omega), ← hR]; exact hb
      have hP := h.next hk la lb
      rw [if_neg (fun e => hn e.symm)] at hP
      have eR : splice (R.map bytesA) P.length [bytesA b] = ((P ++ [b]) ++ l.drop (P.length + 1)).map bytesA := by
        have := splice_at (P.map bytesA) ((l.drop P.length).map bytesA) (bytesA b)
        rw [List.length_map] at this
        rw [hR, List.map_append, this, ← List.map_drop, List.drop_drop, List.map_append, List.map_append]
        rfl
      rw [eR]
      have := CnI.of (id := id) (H := H) (l := l) (i0 := i) (k := k + 1) (P := P ++ [b]) ⟨by omega, by omega, hP.symm, by simp; omega⟩ rfl rfl
      rw [List.length_append, List.length_singleton] at this
      refine ⟨by omega, by omega, by omega, by omega, by omega, _, ?_, _, _, ?_, this⟩
      · omega
      · exact View.forget (by simp [List.replicate])
    · have k1 := h.k1
      have k2 := h.lt
      have e2 : ((k : Int) - 1).toNat = k - 1 := by omega
      simp [List.replicate, hid, -W_cond]
      refine W_ifT (by simp; omega) ?_
      simp (decide := true) [hid, ha, hb, e2, -W_cond]
      refine ⟨by omega, by omega, by omega, nextDC.use (Equal_any a a) (by simp) ?_⟩
      simp (decide := true) [-W_cond]
      refine W_ifF (by simp) ?_
      simp
      have la : l[i + (k - 1)]? = some a := by rw [← h.at_ (by omega), ← hR]; exact ha
      have lb : l[i + k]? = some a := by rw [← h.at_ (by omega), ← hR]; exact hb
      have hn := h.next hk la lb
      rw [if_pos rfl] at hn
      refine ⟨by omega, _, ?_, _, _, View.forget (by simp [List.replicate]), CnI.of ⟨by omega, by omega, hn.symm, by omega⟩ hR rfl⟩
      omega
    · have k1 := h.k1
      have k2 := h.lt
      have hRl : R.length = l.length := by rw [hR, List.length_append, List.length_drop]; omega
      have hcl := clearA_ts (H := H.set id (trow R)) (id := id) (off := P.length) (n := l.length - P.length) (cs := R.map bytesA) (by simp [hid]) (by rw [List.length_map]; omega)
      simp [List.replicate, hid, -W_cond]
      refine W_ifF (by simp; omega) ?_
      simp [hid, hcl]
      have hPl : P = compL l := by rw [h.eq, hk, List.take_length]
      refine ⟨by omega, by rw [hPl], ?_⟩
      rw [← hPl]
      congr 3
      rw [hR]
      simp [splice]
  · simp [List.replicate, hi, -W_cond]
    refine W_ifF (by simp) ?_
    simp [hc, set_same hi]
end

section
open Go.RowKit
set_option maxRecDepth 10000
attribute [-simp] List.map_take List.map_drop UInt8.ofNat_add List.map_flatten

inductive SvI (l : List VoteS) : Nat → List AV → List AObj → Prop
  | mk (i : Nat) (hi : i ≤ l.length) (m : Nat) (hm : m = l.length - i) : SvI l m ([.ls 22 (l.map vA), .ls 22 (l.map vA), .any, .any, .c (.bool false), .c (.int .i64 i)] ++ List.replicate 20 .any) []
/-- SameVotes of a list and itself. -/
theorem r25SameVotes_any (l : List VoteS) (hf : FitsV l) (hl : l.length ≤ 1000) : PCall Tryz.prog 14 [.ls 22 (l.map vA), .ls 22 (l.map vA)] [] (fun x _ => Bd 0 x ∧ x = .c (.bool true)) := by
  refine PCall.enter mixed Tryz.func14 rfl Tryz.ntmps14 Tryz.results14 (by simp) (by kernel_rfl) ?_
  simp [List.replicate]
  refine W_loop (SvI l) l.length ?_ ?_
  · exact ⟨_, _, View.forget (by simp), .mk 0 (by omega) _ rfl⟩
  rintro _ _ _ ⟨i, hi, m, hm⟩
  simp [List.replicate, -W_cond]
  by_cases hlt : i < l.length
  · obtain ⟨v, hx⟩ : ∃ s, l[i]? = some s := ⟨_, List.getElem?_eq_getElem hlt⟩
    have hfv := hf v (List.mem_of_getElem? hx)
    have a1 := vC_len hfv
    have a2 := take_vC hfv
    refine W_ifT (by simp [hlt]) ?_
    simp (decide := true) [hx, a1, a2, agg_vC, hfv]
    refine ⟨by omega, _, ?_, _, _, View.forget (by simp), .mk (i + 1) (by omega) _ rfl⟩
    omega
  · obtain rfl : i = l.length := by omega
    refine W_ifF (by simp) ?_
    simp
inductive TtI (l : List (List UInt8)) : Nat → List AV → List AObj → Prop
  | mk (i : Nat) (hi : i ≤ l.length) (m : Nat) (hm : m = l.length - i) : TtI l m ([tsA l, tsA l, .any, .any, .c (.bool false), .c (.int .i64 i)] ++ List.replicate 22 .any) []
/-- SameTexts of a list and itself. -/
theorem r25SameTexts_any (l : List (List UInt8)) (hl : l.length ≤ 1000) : PCall Tryz.prog 15 [tsA l, tsA l] [] (fun x _ => Bd 0 x ∧ x = .c (.bool true)) := by
  refine PCall.enter mixed Tryz.func15 rfl Tryz.ntmps15 Tryz.results15 (by simp) (by kernel_rfl) ?_
  simp [List.replicate]
  refine W_loop (TtI l) l.length ?_ ?_
  · exact ⟨_, _, View.forget (by simp), .mk 0 (by omega) _ rfl⟩
  rintro _ _ _ ⟨i, hi, m, hm⟩
  simp [List.replicate, -W_cond]
  by_cases hlt : i < l.length
  · obtain ⟨v, hx⟩ : ∃ s, l[i]? = some s := ⟨_, List.getElem?_eq_getElem hlt⟩
    refine W_ifT (by simp [hlt]) ?_
    simp (decide := true) [hx]
    refine ⟨by omega, _, ?_, _, _, View.forget (by simp), .mk (i + 1) (by omega) _ rfl⟩
    omega
  · obtain rfl : i = l.length := by omega
    refine W_ifF (by simp) ?_
    simp
/-- Facts in items: votes, signers, texts. -/
def ftA (vs : List VoteS) (g : Int) (ts : List (List UInt8)) : AV := .agg [.ls 22 (vs.map vA), .c (.int .i64 g), tsA ts]
/-- SameFacts of facts and themselves. -/
theorem r25SameFacts_any (vs : List VoteS) (g : Int) (ts : List (List UInt8)) (hf : FitsV vs) (hl : vs.length ≤ 1000) (hl2 : ts.length ≤ 1000) : PCall Tryz.prog 5 [ftA vs g ts, ftA vs g ts] [] (fun x _ => Bd 0 x ∧ x = .c (.bool true)) := by
  refine PCall.enter mixed Tryz.func5 rfl Tryz.ntmps5 Tryz.results5 (by simp) (by kernel_rfl) ?_
  simp [List.replicate, ftA]
  refine (r25SameVotes_any vs hf hl).use (by simp) ?_
  simp
  refine (r25SameTexts_any ts hl2).use (by simp) ?_
  simp
end

section
open Go.RowKit
set_option maxRecDepth 10000
attribute [-simp] List.map_take List.map_drop UInt8.ofNat_add List.map_flatten

/-- Objects kept under other numbers; the handles in their cells follow. -/
theorem View.renumT {L : Nat} {env env' : List AV} {H H' : List AObj} (srcs : List Nat) (hn : srcs.Nodup) (hL : L ≤ srcs.length) (hlow : ∀ i, i < L → srcs.getD i 0 = i) (hl : H'.length = srcs.length) (hH : ∀ (i : Nat) (t : TypeId) (fz : Bool) (cs' : List AV), H'[i]? = some (.row t fz cs') → ∃ cs, H[srcs.getD i 0]? = some (.row t fz cs) ∧ Pw (Rn L H'.length (fun i => srcs.getD i 0)) cs cs') (he : Pw (Rn L H'.length (fun i => srcs.getD i 0)) env env') : View L env H env' H' := by
  obtain ⟨h3, h4⟩ := he.at_
  refine View.gc (fun i => srcs.getD i 0) ⟨hlow, fun i j hi hj e => ?_, by omega, fun i t fz cs' hi => ?_⟩ h3 h4
  · rw [hl] at hi hj
    simp only [List.getD_eq_getElem?_getD, List.getElem?_eq_getElem hi, List.getElem?_eq_getElem hj, Option.getD_some] at e
    rcases Nat.lt_trichotomy i j with h | h | h
    · exact absurd e (List.pairwise_iff_getElem.1 hn i j hi hj h)
    · exact h
    · exact absurd e.symm (List.pairwise_iff_getElem.1 hn j i hj hi h)
  · obtain ⟨cs, h1, h2⟩ := hH i t fz cs' hi
    exact ⟨cs, h1, h2.at_.1, h2.at_.2⟩
/-- A nil slice in a struct is an empty one. -/
theorem View.nil3 {L : Nat} {H : List AObj} {a b : AV} {k : Nat} : View L [.agg [a, b, .c (.slice none 0 0)]] H [.agg [a, b, .ls k []]] H :=
  ⟨rfl, _root_.id, fun F β0 H0 w0 β w _ _ hr he => ⟨β, hr, he, fun i x y v h1 h2 hv => by
    cases i with
    | succ i => simp at h1
    | zero =>
      simp at h1 h2
      subst h1 h2
      cases hv with
      | leaf h => exact h.elim
      | agg hl ho h =>
        refine .agg hl ho (fun i c u hc hu => ?_)
        match i with
        | 0 => exact h 0 c u hc hu
        | 1 => exact h 1 c u hc hu
        | 2 =>
          have := V.lit (h 2 _ u rfl hu)
          subst this
          cases hc
          exact .ls0 none (Nat.zero_le _)
        | i + 3 => simp at hc⟩⟩
/-- slices.SortFunc of a nil slice of texts. -/
theorem SortT_nil (H : List AObj) : PCall Tryz.prog 20 [.c (.slice none 0 0), .fn 21 []] H (fun x H' => x = .tup [] ∧ H' = H) := by
  intro F β w vs hr hvl
  have hlen := hvl.1
  match vs, hlen with
  | [v0, v1], _ =>
    have h0 := (hvl.2 0 _ _ rfl rfl).lit
    have h1 := hvl.2 1 _ _ rfl rfl
    have e1 : v1 = .func (.func 21) #[] #[] := by
      cases h1 with
      | leaf h => exact h.elim
      | fn hl h => obtain rfl := List.eq_nil_of_length_eq_zero hl; rfl
    subst e1 h0
    have hc := AnyF.slices_SortFunc_none (P := Tryz.prog) (ρ := Tryz.sortTexts_ren) { Tryz.sortTexts with } none 0 (.func (.func 21) #[] #[]) w
    refine .inl ⟨⟨_, _, Tryz.func20, rfl⟩, Calls.mono (show Calls Tryz.prog 20 _ _ _ from hc) ?_⟩
    rintro e w' ⟨rfl, rfl⟩
    exact ⟨.tup [], H, β, _, rfl, ⟨rfl, rfl⟩, hr, Ext.refl _ _ _, VR.undef⟩
theorem CompactT_nil (H : List AObj) : PCall Tryz.prog 22 [.c (.slice none 0 0), .fn 23 []] H (fun x H' => x = .c (.slice none 0 0) ∧ H' = H) := by
  refine PCall.enter mixed Tryz.func22 rfl Tryz.ntmps22 Tryz.results22 (by simp) (by kernel_rfl) ?_
  simp [List.replicate]
section
variable (A : AV) (g : Int) (T : List (List UInt8))
abbrev zF : AObj := .row 1000042 false [.c (.slice none 0 0), .c (.int .i64 0), .c (.slice none 0 0)]
abbrev fkE (i : Nat) : List AV := List.replicate 4 .any ++ [.ptr 0 0, .ptr 1 0] ++ List.replicate 15 .any ++ [tsA T, .c (.int .i64 T.length), .c (.int .i64 i)] ++ List.replicate 19 .any
abbrev fkH0 : List AObj := [zF, .row 1000042 false [A, .c (.int .i64 g), .c (.slice none 0 0)]]
abbrev fkH (i : Nat) : List AObj := [zF, .row 1000042 false [A, .c (.int .i64 g), .own 2 0 i 1], trow (T.take i)]
inductive FkI : Nat → List AV → List AObj → Prop
  | zg (x : List UInt8) (hx : T[0]? = some x) (m : Nat) (hm : m = T.length - 0) : FkI m (fkE T 0) (fkH0 A g)
  | ze (h : T.length = 0) (m : Nat) (hm : m = T.length - 0) : FkI m (fkE T 0) (fkH0 A g)
  | sg (i : Nat) (hi0 : 0 < i) (x : List UInt8) (hx : T[i]? = some x) (m : Nat) (hm : m = T.length - i) : FkI m (fkE T i) (fkH A g T i)
  | se (h : 0 < T.length) (m : Nat) (hm : m = T.length - T.length) : FkI m (fkE T T.length) (fkH A g T T.length)
variable {A g T}
theorem FkI.of0 {m : Nat} (hm : m = T.length - 0) : FkI A g T m (fkE T 0) (fkH0 A g) := by
  cases h : T[0]? with
  | none =>
    rw [List.getElem?_eq_none_iff] at h
    exact .ze (by omega) m hm
  | some x => exact .zg x h m hm
theorem FkI.of {i : Nat} (h0 : 0 < i) (hi : i ≤ T.length) {m : Nat} (hm : m = T.length - i) : FkI A g T m (fkE T i) (fkH A g T i) := by
  rcases Nat.lt_or_ge i T.length with h | h
  · exact .sg i h0 _ (List.getElem?_eq_getElem h) m hm
  · obtain rfl : i = T.length := Nat.le_antisymm hi h
    exact .se h0 m hm
theorem fk_view {env env' : List AV} {H : List AObj} (hA : Bd 0 A) {n k : Nat} {X : List (List UInt8)} (hn : 1 < n) (h0 : H[0]? = some zF) (h1 : H[1]? = some (.row 1000042 false [A, .c (.int .i64 g), .own n 0 k 1])) (h2 : H[n]? = some (trow X)) (he : Pw (Rn 0 3 (fun i => [0, 1, n].getD i 0)) env env') : View 0 env H env' [zF, .row 1000042 false [A, .c (.int .i64 g), .own 2 0 k 1], trow X] := by
  refine View.renumT [0, 1, n] (by simp; omega) (Nat.zero_le _) (fun i hi => by omega) rfl (fun i t fz cs' hi => ?_) he
  match i with
  | 0 =>
    cases hi
    exact ⟨_, h0, .c _, .c _, .c _, trivial⟩
  | 1 =>
    cases hi
    exact ⟨_, h1, .bd hA, .c _, .own 2 0 k 1 (show 2 < 3 by decide), trivial⟩
  | 2 =>
    cases hi
    exact ⟨_, h2, Pw.of_at rfl (fun j a b ha hb => by
      rw [ha] at hb
      cases hb
      exact .bd (ts_bd 0 X a (List.mem_of_getElem? ha)))⟩
  | i + 3 => simp at hi
end
theorem ft_bd {W : List VoteS} (hB : ∀ a ∈ W.map vA, Bd 0 a) (g : Int) (Z : List (List UInt8)) : Bd 0 (ftA W g Z) := by
  refine .agg (fun a ha => ?_)
  simp only [List.mem_cons, List.not_mem_nil, or_false] at ha
  rcases ha with rfl | rfl | rfl
  · exact .ls hB
  · exact .c _
  · exact .ls (ts_bd 0 Z)
/-- items.Facts. -/
theorem Facts_any (K : List (List UInt8)) (hK : ∀ k ∈ K, k.length = 8) (hKl : K.length ≤ 100000) (l : List SignedS) (hf : Fits l) (hl : l.length ≤ 39) (hs : ∀ s ∈ l, s.sig.length ≤ 100000) (T : List (List UInt8)) (hT : T.length ≤ 1000) (hTb : ∀ t ∈ T, t.length ≤ 100000) :
    PCall Tryz.prog 6 [.agg [.any, .any, namesA K, .any, .any], .agg [.ls 23 (l.map sA), tsA T]] [] (fun x _ => Bd 0 x ∧ x = ftA ((canS (vfdS K l)).map (·.vote)) (maskN (sgsP (evsP (vfdS K l) 10))) (canL lessT T)) := by
  have hvf := vfd_fit K hf
  have hvl := Nat.le_trans (vfd_len K l) hl
  refine PCall.viewR (PCall.enter mixed Tryz.func6 rfl Tryz.ntmps6 Tryz.results6 (by simp) (by kernel_rfl) ?_)
  simp (decide := true) [List.replicate]
  refine nextNC.use (Verified_any K hK hKl l hf hl hs) (by simp) ?_
  simp (decide := true)
  refine nextNC.use (sVotes_any _ hvf hvl (fun s h => hs s (vfd_mem hf h).1)) (by simp) ?_
  simp (decide := true) [-List.map_map]
  refine nextNC.use (Guilty_any K hK hKl l hf hl hs) (by simp) ?_
  simp (decide := true) [-List.map_map]
  generalize (canS (vfdS K l)).map (·.vote) = W
  generalize maskN (sgsP (evsP (vfdS K l) 10)) = g
  have hB : ∀ a ∈ W.map vA, Bd 0 a := fun a ha => by
    obtain ⟨v, -, rfl⟩ := List.mem_map.1 ha
    exact bd_vA 0 v
  clear hvf hvl hf hs hl
  refine W_loop (FkI (.ls 22 (W.map vA)) g T) T.length ?_ ?_
  · exact ⟨_, _, View.renum [2, 3] (by simp) (by simp) (by simp [List.replicate]), FkI.of0 rfl⟩
  rintro _ _ _ (⟨x, hx, m, hm⟩ | ⟨h, m, hm⟩ | ⟨i, hi0, x, hx, m, hm⟩ | ⟨h, m, hm⟩)
  · have hlt := (List.getElem?_eq_some_iff.1 hx).1
    have hxb := hTb x (List.mem_of_getElem? hx)
    simp [List.replicate, -W_cond]
    refine W_ifT (by simp [hlt]) ?_
    simp (decide := true) [hx]
    refine nextNC.use (Clone_any x hxb) (by simp) ?_
    simp (decide := true)
    have e : T.take 1 = [x] := by
      have := List.take_add_one (l := T) (i := 0)
      rw [hx] at this
      simpa using this
    have := FkI.of (A := .ls 22 (W.map vA)) (g := g) (T := T) (i := 1) (by omega) (by omega) rfl
    unfold fkH at this
    rw [e] at this
    refine ⟨_, ?_, _, _, fk_view (.ls hB) (n := 3) (by decide) rfl rfl rfl (by simp [List.replicate]), this⟩
    omega
  · simp [List.replicate, h, -W_cond]
    refine W_ifF (by simp) ?_
    simp
    refine (SortT_nil _).goes ?_
    simp
    refine (CompactT_nil _).goes ?_
    simp
    obtain rfl : T = [] := List.eq_nil_of_length_eq_zero h
    exact ⟨⟨_, View.nil3⟩, ft_bd hB g _⟩
  · obtain ⟨hlt, hxe⟩ := List.getElem?_eq_some_iff.1 hx
    have hxb := hTb x (List.mem_of_getElem? hx)
    have hil : min i T.length = i := Nat.min_eq_left (by omega)
    simp [List.replicate, -W_cond]
    refine W_ifT (by simp [hlt]) ?_
    simp (decide := true) [hx]
    refine nextNC.use (Clone_any x hxb) (by simp) ?_
    simp (decide := true) [hil]
    have e := List.take_add_one (l := T) (i := i)
    rw [hx] at e
    have := FkI.of (A := .ls 22 (W.map vA)) (g := g) (T := T) (i := i + 1) (by omega) (by omega) rfl
    unfold fkH at this
    rw [e] at this
    rw [List.take_take, Nat.min_self]
    refine ⟨by omega, by omega, _, ?_, _, _, fk_view (.ls hB) (n := 4) (by decide) rfl rfl (by simp [trow]) (by simp [List.replicate]), this⟩
    omega
  · simp [List.replicate, -W_cond]
    refine W_ifF (by simp) ?_
    have e : T.take T.length = T := List.take_length
    simp
    refine (SortT_any (id := 2) (l := T) (by simp) (by omega)).goes ?_
    simp
    have hsl : (sortL lessT T).length = T.length := (sortL_perm T).length_eq
    have hc := CompactT_any (H := [zF, .row 1000042 false [.ls 22 (W.map vA), .c (.int .i64 g), .own 2 0 T.length 1], trow (sortL lessT T)]) (id := 2) (l := sortL lessT T) (by simp) (by omega)
    rw [hsl] at hc
    refine hc.goes ?_
    simp
    refine ⟨⟨_, View.fz1 (id := 2) rfl (Fz.aggP ⟨.same _, .same _, .own (ts_1 _) (by simp; rfl) ?_, trivial⟩)⟩, ft_bd hB g _⟩
    rw [flat_ts, List.drop_zero, Nat.mul_one]
    exact (List.take_left' (by simp; rfl)).symm
end

section
open Go.RowKit
set_option maxRecDepth 10000
attribute [-simp] List.map_take List.map_drop UInt8.ofNat_add List.map_flatten

inductive RfI (K : List (List UInt8)) (l : List SignedS) : Nat → List AV → List AObj → Prop
  | mk (i : Nat) (h : i ≤ l.length) (C : List SignedS) (hC : C = (l.take i).filter (vfy K)) (m : Nat) (hm : m = l.length - i) : RfI K l m ([namesA K, .ls 23 (l.map sA), .any, .any, .any, .own 0 0 C.length 23, .c (.int .i64 i)] ++ List.replicate 21 .any) [.row 38 false (flat (C.map sA))]
set_option maxHeartbeats 1000000 in
/-- Verified. -/
theorem r6Verified_any (K : List (List UInt8)) (hK : ∀ k ∈ K, k.length = 8) (hKl : K.length ≤ 100000) (l : List SignedS) (hf : Fits l) (hl : l.length ≤ 39) (hs : ∀ s ∈ l, s.sig.length ≤ 100000) : PCall Tryz.prog 24 [namesA K, .ls 23 (l.map sA)] [] (fun x _ => Bd 0 x ∧ x = .ls 23 ((vfdS K l).map sA)) := by
  refine PCall.enter mixed Tryz.func24 rfl Tryz.ntmps24 Tryz.results24 (by simp) (by kernel_rfl) ?_
  simp [List.replicate]
  refine W_loop (RfI K l) l.length ?_ ?_
  · refine ⟨_, _, ?_, .mk 0 (by omega) [] (by simp) _ rfl⟩
    exact View.virt 38 rfl (Pw.at_ (by simp [List.replicate])).2
  rintro _ _ _ ⟨i, hi, C, hC, m, hm⟩
  have hCf : Fits C := fun x hx => by rw [hC] at hx; exact hf x (List.mem_of_mem_take (List.mem_filter.1 hx).1)
  have hCl : C.length ≤ 39 := by
    have := List.length_filter_le (vfy K) (l.take i)
    rw [← hC, List.length_take] at this
    omega
  have hfl := flS_len hCf
  simp [List.replicate, -W_cond]
  by_cases hlt : i < l.length
  · obtain ⟨s, hx⟩ : ∃ s, l[i]? = some s := ⟨_, List.getElem?_eq_getElem hlt⟩
    have hfs := hf s (List.mem_of_getElem? hx)
    have hss := hs s (List.mem_of_getElem? hx)
    have a1 := sC_len hfs
    have a4 := take_sC hfs
    refine W_ifT (by simp [hlt]) ?_
    simp [hx, a1, a4, agg_sC, -W_cond]
    refine (r6verify_any K s hK hKl hfs hss).use (by simp) ?_
    simp [-W_cond]
    by_cases hv : vfy K s = true
    · refine W_ifT (by simp [hv]) ?_
      have hgi : l[i] = s := by rw [List.getElem?_eq_getElem hlt] at hx; simpa using hx
      simp [hlt, hgi, a1, a4, agg_sC, hfl]
      have h1 : (l.take (i + 1)).filter (vfy K) = C ++ [s] := by rw [List.take_add_one, hx, List.filter_append, ← hC]; simp [hv]
      have := RfI.mk (K := K) (l := l) (i + 1) (by omega) (C ++ [s]) h1.symm _ rfl
      rw [show flat ((C ++ [s]).map sA) = flat (C.map sA) ++ sC s by simp [flat], List.length_append, List.length_singleton] at this
      refine ⟨by omega, by omega, _, ?_, _, _, View.renum [2] (by simp) ?_ ?_, this⟩
      · omega
      · simp [List.take_of_length_le (Nat.le_of_eq hfl)]
        rintro a (h | h)
        · exact flS_bd C a h
        · exact sC_bd s a h
      · simp [List.replicate]
    · refine W_ifF (by simp [hv]) ?_
      simp
      have h1 : (l.take (i + 1)).filter (vfy K) = C := by rw [List.take_add_one, hx, List.filter_append, ← hC]; simp [hv]
      refine ⟨by omega, _, ?_, _, _, View.renum [0] (by simp) ?_ ?_, RfI.mk (K := K) (l := l) (i + 1) (by omega) C h1.symm _ rfl⟩
      · omega
      · simp
        exact flS_bd C
      · simp [List.replicate]
  · obtain rfl : i = l.length := by omega
    refine W_ifF (by simp) ?_
    simp
    refine PCall.freeze (id := 0) (args' := [.ls 23 (C.map sA)]) rfl ?_ ?_
    · simp
      refine .own (fun e he => by obtain ⟨x, h, rfl⟩ := List.mem_map.1 he; exact sC_len (hCf x h)) (by simp) ?_
      rw [List.drop_zero, List.take_of_length_le (Nat.le_of_eq hfl)]
    rw [List.take_length] at hC
    have hsC : ∀ s ∈ C, s.sig.length ≤ 100000 := fun x hx => by rw [hC] at hx; exact hs x (List.mem_filter.1 hx).1
    refine (r6Canonical_any 1000 C (by omega) (by omega) hCf hsC).use (by simp) ?_
    simp [vfdS, hC]
end

section
open Go.RowKit
set_option maxRecDepth 10000
attribute [-simp] List.map_take List.map_drop UInt8.ofNat_add List.map_flatten

abbrev txO (R : List (List UInt8)) : List AObj := [.row 31 false (R.map bytesA)]
inductive TxO (l : List (List UInt8)) : Nat → List AV → List AObj → Prop
  | mk (i : Nat) (hi : i ≤ l.length) (R : List (List UInt8)) (hR : R = refL lessT (l.take i)) (m : Nat) (hm : m = l.length - i) : TxO l m ([tsA l, .any, .any, .own 0 0 R.length 1, .c (.int .i64 i)] ++ List.replicate 64 .any) (txO R)
abbrev txE (l R : List (List UInt8)) (i j : Nat) : List AV := [tsA l, .any, .any, .own 0 0 R.length 1, .c (.int .i64 i), .c (.int .i64 j)] ++ List.replicate 63 .any
inductive TxJ (l R : List (List UInt8)) (i : Nat) (x : List UInt8) : Nat → List AV → List AObj → Prop
  | go (j : Nat) (h : PosI x R j) (y : List UInt8) (hy : R[j]? = some y) (hl : lessT y x = true) (m : Nat) (hm : m = R.length - j) : TxJ l R i x m (txE l R i j) (txO R)
  | eq (j : Nat) (h : PosI x R j) (hy : R[j]? = some x) (m : Nat) (hm : m = R.length - j) : TxJ l R i x m (txE l R i j) (txO R)
  | gt (j : Nat) (h : PosI x R j) (y : List UInt8) (hy : R[j]? = some y) (hl : lessT y x = false) (hn : y ≠ x) (m : Nat) (hm : m = R.length - j) : TxJ l R i x m (txE l R i j) (txO R)
  | en (h : PosI x R R.length) (m : Nat) (hm : m = R.length - R.length) : TxJ l R i x m (txE l R i R.length) (txO R)
theorem TxJ.of {l R : List (List UInt8)} {i j : Nat} {x : List UInt8} (h : PosI x R j) {m : Nat} (hm : m = R.length - j) : TxJ l R i x m (txE l R i j) (txO R) := by
  rcases Nat.lt_or_ge j R.length with hj | hj
  · obtain ⟨y, hy⟩ : ∃ y, R[j]? = some y := ⟨_, List.getElem?_eq_getElem hj⟩
    cases hc : lessT y x with
    | true => exact .go j h y hy hc m hm
    | false =>
      by_cases e : y = x
      · subst e; exact .eq j h hy m hm
      · exact .gt j h y hy hc e m hm
  · obtain rfl : j = R.length := Nat.le_antisymm h.1 hj
    exact .en h m hm
/-- The new text is an immutable one; its row comes to the front. -/
theorem tx_view {env env' : List AV} {R R1 R2 : List (List UInt8)} {x : List UInt8} {J : AObj} (h : Pw (fun a b => b = .any ∨ (a = b ∧ Bd 0 a) ∨ ∃ n, a = .own 5 0 n 1 ∧ b = .own 0 0 n 1) env env') : View 0 env [.row 31 false (R.map bytesA), .dead, .row 5 false (x.map byteA), J, .dead, .row 31 false (R1.map bytesA ++ [.own 2 0 x.length 1] ++ R2.map bytesA)] env' (txO (R1 ++ [x] ++ R2)) := by
  refine View.trans (e2 := List.zipWith (fun a b => if b matches .any then .any else a) env env') (H2 := [.dead, .dead, .dead, .dead, .dead, .row 31 false ((R1 ++ [x] ++ R2).map bytesA)]) (View.freeze (id := 2) (cs := x.map byteA) rfl ⟨rfl, rfl, ?_⟩ ?_ ?_) (View.renum [5] (by simp) ?_ ?_)
  · intro j t fz cs' hj
    match j with
    | 0 => simp at hj
    | 1 => simp at hj
    | 2 => simp at hj
    | 3 => simp at hj
    | 4 => simp at hj
    | 5 =>
      cases hj
      refine ⟨_, rfl, by simp, ?_⟩
      rw [List.map_append, List.map_append]
      exact (Pw.app (R := Fz 2 (x.map byteA)) (Pw.app (Pw.self .same _) (show Pw _ [_] [_] from ⟨Fz_bytes rfl, trivial⟩)) (Pw.self .same _)).at_.2
    | j + 6 => simp at hj
  · simp [h.at_.1]
  · intro i a b ha hb
    rw [List.getElem?_zipWith, ha] at hb
    cases hc : env'[i]? with
    | none => rw [hc] at hb; cases hb
    | some y =>
      rw [hc] at hb
      cases hb
      show Fz _ _ a (if _ then _ else _)
      split
      · exact .any a
      · exact .same a
  · simp only [gcL_row, gcL_nil, and_true]
    exact ⟨rfl, ts_bd _ _⟩
  · refine Pw.of_at (by simp [h.at_.1]) (fun i a b ha hb => ?_)
    rw [List.getElem?_zipWith, hb] at ha
    cases hc : env[i]? with
    | none => rw [hc] at ha; cases ha
    | some y =>
      rw [hc] at ha
      cases ha
      show Rn _ _ _ (if _ then _ else _) _
      rcases h.at_.2 i y b hc hb with rfl | ⟨rfl, hB⟩ | ⟨n, rfl, rfl⟩
      · simp
      · split
        · simp
        · simp [hB]
      · simp
/-- SortedTexts. -/
theorem r25SortedTexts_any (l : List (List UInt8)) (hl : l.length ≤ 1000) (hb : ∀ t ∈ l, t.length ≤ 100000) : PCall Tryz.prog 28 [tsA l] [] (fun x _ => Bd 0 x ∧ x = tsA (refL lessT l)) := by
  refine PCall.viewR (PCall.enter mixed Tryz.func28 rfl Tryz.ntmps28 Tryz.results28 (by simp) (by kernel_rfl) ?_)
  simp [List.replicate]
  refine W_loop (TxO l) l.length ?_ ?_
  · refine ⟨_, _, ?_, .mk 0 (by omega) _ rfl _ rfl⟩
    exact View.virt (H := []) 31 rfl (Pw.at_ (by simp [List.replicate, refL])).2
  rintro _ _ _ ⟨i, hi, R, hR, m, hm⟩
  have hRl : R.length ≤ i := by rw [hR]; exact ref_take_len l i
  simp [List.replicate, -W_cond]
  by_cases hlt : i < l.length
  · obtain ⟨x, hx⟩ : ∃ s, l[i]? = some s := ⟨_, List.getElem?_eq_getElem hlt⟩
    have hxb := hb x (List.mem_of_getElem? hx)
    refine W_ifT (by simp [hlt]) ?_
    simp
    refine W_loop (TxJ l R i x) R.length ?_ ?_
    · refine ⟨_, _, ?_, TxJ.of (PosI.zero x R) rfl⟩
      exact View.renum [0] (by simp) (by simp) (by simp [List.replicate])
    rintro _ _ _ (⟨j, h, y, hy, hc, m2, hm2⟩ | ⟨j, h, hy, m2, hm2⟩ | ⟨j, h, y, hy, hc, hn, m2, hm2⟩ | ⟨h, m2, hm2⟩)
    · obtain ⟨hj, hg⟩ := List.getElem?_eq_some_iff.1 hy
      simp (decide := true) [List.replicate, hx, hj, hg, hc, -W_cond]
      refine W_ifT (by simp) ?_
      simp
      refine ⟨by omega, _, ?_, _, _, View.renum [0] (by simp) (by simp) (by simp [List.replicate]), TxJ.of (h.next hy hc) rfl⟩
      omega
    · obtain ⟨hj, hg⟩ := List.getElem?_eq_some_iff.1 hy
      simp (decide := true) [List.replicate, hx, hj, hg, lessT_irrefl, -W_cond]
      refine W_ifF (by simp) ?_
      simp (decide := true) [hx, hj, hg, -W_cond]
      refine W_ifT (by simp) ?_
      simp
      have e := ref_next (lt := lessT) hx
      rw [← hR, rIns_same (h.here (.inr ⟨x, hy, lessT_irrefl x⟩)) hy] at e
      refine ⟨by omega, _, ?_, _, _, View.renum [0] (by simp) (by simp) (by simp [List.replicate]), .mk (i + 1) (by omega) R e.symm _ rfl⟩
      omega
    · obtain ⟨hj, hg⟩ := List.getElem?_eq_some_iff.1 hy
      simp (decide := true) [List.replicate, hx, hj, hg, hc, -W_cond]
      refine W_ifF (by simp) ?_
      simp (decide := true) [hx, hj, hg, hn, -W_cond]
      refine W_ifF (by simp) ?_
      have e := ref_next (lt := lessT) hx
      rw [← hR, rIns_new (h.here (.inr ⟨y, hy, hc⟩)) (by rw [hy]; simpa using hn)] at e
      simp [hx]
      obtain ⟨R', hR'⟩ : ∃ R', R' = R.take j ++ [x] ++ R.drop j := ⟨_, rfl⟩
      rw [List.take_take, Nat.min_self, List.take_of_length_le (by simp; omega)]
      have hv := TxO.mk (l := l) (i + 1) (by omega) R' (by rw [hR', e]) _ rfl
      refine ⟨by omega, by omega, by omega, by omega, by omega, by omega, by omega, _, ?_, _, _, ?_, hv⟩
      · omega
      · rw [hR']
        exact tx_view (by simp [List.replicate]; omega)
    · simp (decide := true) [List.replicate, -W_cond]
      refine W_ifF (by simp) ?_
      simp (decide := true) [-W_cond]
      refine W_ifF (by simp) ?_
      have e := ref_next (lt := lessT) hx
      rw [← hR, rIns_new (h.here (.inl rfl)) (by rw [List.getElem?_eq_none (Nat.le_refl _)]; simp)] at e
      simp [hx]
      obtain ⟨R', hR'⟩ : ∃ R', R' = R.take R.length ++ [x] ++ R.drop R.length := ⟨_, rfl⟩
      rw [List.take_of_length_le (by simp)]
      have hv := TxO.mk (l := l) (i + 1) (by omega) R' (by rw [hR', e]) _ rfl
      refine ⟨by omega, by omega, by omega, by omega, _, ?_, _, _, ?_, hv⟩
      · omega
      · rw [hR', List.take_length, List.drop_length]
        have := fun env env' h => tx_view (env := env) (env' := env') (R := R) (R1 := R) (R2 := []) (x := x) (J := .row 31 false [.own 2 0 x.length 1]) h
        rw [List.map_nil, List.append_nil] at this
        exact this _ _ (by simp [List.replicate])
  · obtain rfl : i = l.length := by omega
    refine W_ifF (by simp) ?_
    simp
    rw [List.take_of_length_le (Nat.le_refl _)] at hR
    rw [← hR]
    refine ⟨_, View.fz1 (id := 0) rfl (.own (ts_1 _) (by simp) ?_)⟩
    rw [List.drop_zero, List.take_of_length_le (by simp), flat_ts]
end

section
open Go.RowKit
set_option maxRecDepth 10000
attribute [-simp] List.map_take List.map_drop UInt8.ofNat_add List.map_flatten

/-- A genesis of which the validators' keys are known; facts that were seen. -/
def gnA (K : List (List UInt8)) : AV := .agg [.any, .any, namesA K, .any, .any]
def vwA (l : List SignedS) (T : List (List UInt8)) : AV := .agg [.ls 23 (l.map sA), tsA T]
theorem signer_of {K : List (List UInt8)} {l : List SignedS} (q : Nat) : ∀ p ∈ evsP (vfdS K l) q, ∃ j : Nat, j < q ∧ p.1.vote.signer = (j : Int) := by
  intro p hp
  obtain ⟨s, hs, h⟩ := List.mem_filterMap.1 hp
  exact ⟨s, List.mem_range.1 hs, (frP_mem h).2.2⟩
/-- FactsOf. -/
theorem r25FactsOf_any (K : List (List UInt8)) (hK : ∀ k ∈ K, k.length = 8) (hKl : K.length ≤ 100000) (l : List SignedS) (hf : Fits l) (hl : l.length ≤ 39) (hs : ∀ s ∈ l, s.sig.length ≤ 100000) (T : List (List UInt8)) (hT : T.length ≤ 1000) (hTb : ∀ t ∈ T, t.length ≤ 100000) :
    PCall Tryz.prog 7 [gnA K, vwA l T] [] (fun x _ => Bd 0 x ∧ x = ftA (srtV ((vfdS K l).map (·.vote))) (maskN (sgsP (evsP (vfdS K l) 10))) (refL lessT T)) := by
  have hvf : Fits (vfdS K l) := vfd_fit K hf
  have hvl : (vfdS K l).length ≤ 39 := Nat.le_trans (vfd_len K l) hl
  refine PCall.enter mixed Tryz.func7 rfl Tryz.ntmps7 Tryz.results7 (by simp) (by kernel_rfl) ?_
  simp [List.replicate, gnA, vwA]
  refine (r6Verified_any K hK hKl l hf hl hs).use (by simp) ?_
  simp (decide := true)
  refine nextDC.use (r6Votes_any _ hvf (by omega)) (by simp) ?_
  simp (decide := true)
  refine nextDC.use (r6FindIn_any _ hvf (by omega)) (by simp) ?_
  simp (decide := true)
  refine nextDC.use (r6Signers_any _ (evsP_fit hvf 10) (by have := evsP_len (vfdS K l) 10; omega) (signer_of 10)) (by simp) ?_
  simp (decide := true)
  refine nextDC.use (r25SortedTexts_any T hT hTb) (by simp) ?_
  simp (decide := true)
  rfl
end
end Go.Proofs.YthknobbilcolnaaGreat
