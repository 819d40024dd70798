/- Parse of package journal and of the reference. Conditions: those that each theorem states. -/
import Derived.Test.YtmapijpphnlcmaaMj1
import Derived.Test.YtmapijpphnlcmaaLaw30a
import Derived.Deep.QuietTactic
import Derived.BigQuiet
import Derived.IntWalk
namespace Go.Proofs.Ytmapijpphnlcmaa
section
open Go.RowKit

def parseStep (bs : List UInt8) (a idx : Nat) : Option (List UInt8 × Nat) :=
  if a + 12 ≤ bs.length then
    if be ((bs.drop a).take 4) ≤ 65536 ∧ a + 12 + be ((bs.drop a).take 4) ≤ bs.length then
      if (bs.drop (a + 4)).take 8 = jsumS idx ((bs.drop (a + 12)).take (be ((bs.drop a).take 4))) then some ((bs.drop (a + 12)).take (be ((bs.drop a).take 4)), a + 12 + be ((bs.drop a).take 4)) else none
    else none
  else none
def parseF (bs : List UInt8) : Nat → List (List UInt8) → Nat → List (List UInt8) × Nat
  | 0, l, a => (l, a)
  | f + 1, l, a => match parseStep bs a l.length with
    | none => (l, a)
    | some (r, a') => parseF bs f (l ++ [r]) a'
def parseS (bs : List UInt8) : List (List UInt8) × Nat := parseF bs (bs.length + 1) [] 0

theorem parseStep_le {bs : List UInt8} {a idx : Nat} {r : List UInt8} {a' : Nat} (h : parseStep bs a idx = some (r, a')) : a + 12 ≤ a' ∧ a' ≤ bs.length ∧ r.length ≤ 65536 ∧ a' = a + 12 + r.length := by
  unfold parseStep at h
  split at h
  · split at h
    · split at h
      · injection h with h
        injection h with h1 h2
        subst h1 h2
        simp
        omega
      · cases h
    · cases h
  · cases h

/-- Where the parse stands. -/
def PAt (bs : List UInt8) (l : List (List UInt8)) (a : Nat) : Prop := ∃ f, parseF bs f l a = parseS bs ∧ bs.length < f + a ∧ a ≤ bs.length ∧ l.length * 12 ≤ a
theorem PAt.start (bs : List UInt8) : PAt bs [] 0 := ⟨bs.length + 1, rfl, by omega, by omega, by simp⟩
theorem PAt.stop {bs : List UInt8} {l : List (List UInt8)} {a : Nat} (h : PAt bs l a) (hs : parseStep bs a l.length = none) : parseS bs = (l, a) := by
  obtain ⟨f, h1, h2, h3, _⟩ := h
  obtain ⟨f, rfl⟩ : ∃ k, f = k + 1 := ⟨f - 1, by omega⟩
  rw [← h1, parseF, hs]
theorem PAt.next {bs : List UInt8} {l : List (List UInt8)} {a a' : Nat} {r : List UInt8} (h : PAt bs l a) (hs : parseStep bs a l.length = some (r, a')) : PAt bs (l ++ [r]) a' := by
  obtain ⟨f, h1, h2, h3, h4⟩ := h
  obtain ⟨f, rfl⟩ : ∃ k, f = k + 1 := ⟨f - 1, by omega⟩
  rw [parseF, hs] at h1
  obtain ⟨e1, e2, _⟩ := parseStep_le hs
  exact ⟨f, h1, by omega, e2, by simp; omega⟩

/-! ### lists of records in memory -/
def RecsV (w : World) (v : Value) (l : List (List UInt8)) (vs : List Value) : Prop :=
  Own w 27 1 v l.length vs ∧ ∀ (i : Nat) b, l[i]? = some b → ∃ u, vs[i]? = some u ∧ Own w 5 1 u b.length (b.map byteV)
def RecsF (v : Value) (vs : List Value) : Nat → Prop := fun k => OwnB v k ∨ ∃ u ∈ vs, OwnB u k
def RecsAt (w : World) (v : Value) (l : List (List UInt8)) (F : Nat → Prop) : Prop := ∃ vs : List Value, RecsV w v l vs ∧ F = RecsF v vs

section
variable {w w' : World} {v : Value} {l : List (List UInt8)} {F G : Nat → Prop}
theorem RecsAt.nil (w : World) : RecsAt w (.slice none 0 0) [] NoF := by
  refine ⟨[], ⟨Own.nil _ _ _, fun i b h => (by cases h)⟩, ?_⟩
  funext k
  simp [NoF, RecsF, OwnB, Value.ownBlock]
theorem RecsAt.upd (h : RecsAt w v l F) (hu : Upd G w w') (hG : ∀ k, F k → ¬ G k) : RecsAt w' v l F := by
  obtain ⟨vs, ⟨h1, h2⟩, rfl⟩ := h
  refine ⟨vs, ⟨h1.upd hu (fun k hk => hG k (.inl hk)), fun i b hb => ?_⟩, rfl⟩
  obtain ⟨u, e1, e2⟩ := h2 i b hb
  exact ⟨u, e1, e2.upd hu (fun k hk => hG k (.inr ⟨u, List.mem_of_getElem? e1, hk⟩))⟩
theorem RecsAt.lt (h : RecsAt w v l F) {k : Nat} (hk : F k) : k < w.heap.size := by
  obtain ⟨vs, ⟨h1, h2⟩, rfl⟩ := h
  rcases hk with hk | ⟨u, hu, hk⟩
  · exact h1.lt hk
  · obtain ⟨i, hi, rfl⟩ := List.mem_iff_getElem.1 hu
    have hl := h1.1
    obtain ⟨u', e1, e2⟩ := h2 i _ (List.getElem?_eq_getElem (by omega))
    rw [List.getElem?_eq_getElem hi] at e1
    injection e1 with e1
    rw [e1] at hk
    exact e2.lt hk
theorem RecsAt.form (h : RecsAt w v l F) : ∃ A c, v = .slice A l.length c ∧ l.length ≤ c ∧ c ≤ maxLen := by
  obtain ⟨vs, ⟨h1, h2⟩, rfl⟩ := h
  obtain ⟨A, c, e, h3, h4, _⟩ := h1.rd
  exact ⟨A, c, e, h3, h4⟩
theorem RecsAt.own (h : RecsAt w v l F) : ∃ vs, Own w 27 1 v l.length vs := by
  obtain ⟨vs, ⟨h1, _⟩, _⟩ := h
  exact ⟨vs, h1⟩
/-- One record. -/
theorem RecsAt.get {A : Option Addr} {n c : Nat} (h : RecsAt w (.slice A n c) l F) {i : Nat} {b : List UInt8} (hb : l[i]? = some b) : ∃ g Au cu, A = some ⟨g, 0, none⟩ ∧ w.cell? ⟨g, i, none⟩ = some (.slice Au b.length cu) ∧ Own w 5 1 (.slice Au b.length cu) b.length (b.map byteV) := by
  obtain ⟨vs, ⟨h1, h2⟩, rfl⟩ := h
  have hlt : i < l.length := (List.getElem?_eq_some_iff.1 hb).1
  obtain ⟨u, e1, e2⟩ := h2 i b hb
  obtain ⟨Au, cu, rfl⟩ := e2.form
  rcases h1.2 with ⟨_, e⟩ | ⟨g, cap, cur, e, _⟩
  · omega
  · injection e with e
    subst e
    obtain ⟨A', c', e, _, _, _, hx⟩ := h1.rd
    obtain ⟨g', o, e', hx⟩ := hx (by omega)
    injection e with e
    rw [← e] at e'
    injection e' with e'
    injection e' with e1' e2'
    subst e1' e2'
    exact ⟨g, Au, cu, rfl, by have := hx i _ e1; simpa using this, e2⟩
end

theorem bytes_info : (Try.prog.info? 27).map (fun i => (i.zero, i.size, i.bytes)) = some (some (.slice none 0 0), 1, 24) := by kernel_rfl

/-- One more record. -/
theorem RecsV.push {w w0 w1 : World} {A A' Au : Option Addr} {c c' cu : Nat} {l : List (List UInt8)} {vs : List Value} {b : List UInt8} (h : RecsV w (.slice A l.length c) l vs) (h0 : Upd NoF w w0) (hu : Own w0 5 1 (.slice Au b.length cu) b.length (b.map byteV))
    (ho : Own w1 27 1 (.slice A' (l.length + 1) c') (l.length + 1) (vs ++ [.slice Au b.length cu])) (hup : Upd (OwnB (.slice A l.length c)) w0 w1) (hn : ∀ k, OwnB (.slice A' (l.length + 1) c') k → OwnB (.slice A l.length c) k ∨ w0.heap.size ≤ k) :
    RecsV w1 (.slice A' (l.length + 1) c') (l ++ [b]) (vs ++ [.slice Au b.length cu]) ∧ ∀ k, RecsF (.slice A' (l.length + 1) c') (vs ++ [.slice Au b.length cu]) k → RecsF (.slice A l.length c) vs k ∨ OwnB (.slice Au b.length cu) k ∨ w0.heap.size ≤ k := by
  obtain ⟨h1, h2⟩ := h
  have hO := h1.upd h0 (fun _ _ h => h)
  have keep : ∀ {u : Value} {n : Nat} {xs : List Value}, Own w0 5 1 u n xs → Own w1 5 1 u n xs := fun {u n xs} hx => hx.upd hup (fun k hk e => by
    rcases hO.2 with ⟨e1, _⟩ | ⟨g', cap, cur, e1, hb, _⟩
    · rw [e1] at e; simp [OwnB, Value.ownBlock] at e
    · rw [e1] at e
      simp [OwnB, Value.ownBlock] at e
      subst e
      exact hx.blk_ne hb (by decide) hk)
  refine ⟨⟨by rw [List.length_append, List.length_singleton]; exact ho, fun i x hx => ?_⟩, fun k hk => ?_⟩
  · have hl := h1.1
    rcases Nat.lt_or_ge i l.length with hlt | hge
    · rw [List.getElem?_append_left hlt] at hx
      obtain ⟨u, e1, e2⟩ := h2 i x hx
      exact ⟨u, by rw [List.getElem?_append_left (by omega)]; exact e1, keep (e2.upd h0 (fun _ _ h => h))⟩
    · rw [List.getElem?_append_right hge] at hx
      have hi0 : i - l.length = 0 := by
        have := (List.getElem?_eq_some_iff.1 hx).1
        simp at this
        omega
      rw [hi0] at hx
      simp at hx
      subst hx
      exact ⟨_, by rw [List.getElem?_append_right (by omega)]; simp [show i - vs.length = 0 by omega], keep hu⟩
  · rcases hk with hk | ⟨u, hu', hk⟩
    · rcases hn k hk with e | e
      · exact .inl (.inl e)
      · exact .inr (.inr e)
    · rcases List.mem_append.1 hu' with e | e
      · exact .inl (.inr ⟨u, e, hk⟩)
      · simp at e
        subst e
        exact .inr (.inl hk)

theorem RecsV.oneCell {w : World} {v : Value} {l : List (List UInt8)} {vs : List Value} (h : RecsV w v l vs) : ∀ u ∈ vs, u.oneCell' = true := by
  intro u hu
  obtain ⟨i, hi, rfl⟩ := List.mem_iff_getElem.1 hu
  have hl := h.1.1
  obtain ⟨u', e1, e2⟩ := h.2 i _ (List.getElem?_eq_getElem (by omega))
  rw [List.getElem?_eq_getElem hi] at e1
  injection e1 with e1
  obtain ⟨Au, cu, e3⟩ := e2.form
  rw [e1, e3]
  rfl

/-- bytes.Equal. -/
theorem bEqual_any {w : World} {v1 v2 : Value} {a b : List UInt8} (h1 : Rd w 1 v1 a.length (a.map byteV)) (h2 : Rd w 1 v2 b.length (b.map byteV)) : Calls Try.prog 59 #[v1, v2] w fun e w' => e = .returned (.bool (a == b)) ∧ w' = w := by
  have hs : ∀ l : List UInt8, strV l = .string (strOfNums (l.map fun x => (x.toNat : Int))) := fun l => by
    congr 1
    simp [Function.comp_def]
  have hb : ∀ l : List UInt8, Lib.bytesOf (l.map fun x => (x.toNat : Int)) = l := fun l => by
    simp [Lib.bytesOf, Function.comp_def]
  have := Try.bytes_Equal v1 v2 (a.map fun x => (x.toNat : Int)) (b.map fun x => (x.toNat : Int)) w (by rw [← hs]; exact run_str h1) (by rw [← hs]; exact run_str h2)
  rw [hb, hb] at this
  exact this
end

section
open Go.RowKit

def ParsePost (w : World) (bs : List UInt8) (e : Ending) (w' : World) : Prop :=
  ∃ v F, e = .returned (.tuple #[v, .int .i64 ((parseS bs).2 : Int)]) ∧ RecsAt w' v (parseS bs).1 F ∧ (∀ k, F k → w.heap.size ≤ k) ∧ Upd NoF w w'
def PRel (w : World) (bs : List UInt8) (out at_ : Value) (wr : World) : Prop :=
  ∃ (l : List (List UInt8)) (a : Nat) (A : Option Addr) (c : Nat) (vs : List Value), out = .slice A l.length c ∧ at_ = .int .i64 a ∧ PAt bs l a ∧ RecsV wr (.slice A l.length c) l vs ∧ (∀ k, RecsF (.slice A l.length c) vs k → w.heap.size ≤ k) ∧ Upd NoF w wr
theorem ParsePost.mk {w wr w' : World} {bs : List UInt8} {l : List (List UInt8)} {a : Nat} {A : Option Addr} {c : Nat} {vs : List Value} (hP : PAt bs l a) (hs : parseStep bs a l.length = none) (hV : RecsV wr (.slice A l.length c) l vs) (hF : ∀ k, RecsF (.slice A l.length c) vs k → w.heap.size ≤ k) (hU : Upd NoF w wr) (hu : Upd NoF wr w') :
    ParsePost w bs (.returned (.tuple #[.slice A l.length c, .int .i64 (a : Int)])) w' := by
  unfold ParsePost
  rw [hP.stop hs]
  exact ⟨_, _, rfl, RecsAt.upd ⟨vs, hV, rfl⟩ hu (fun _ _ h => h), hF, hU.trans hu (fun _ _ h => h)⟩

theorem ps_short {bs : List UInt8} {a idx : Nat} (h : bs.length < a + 12) : parseStep bs a idx = none := by unfold parseStep; rw [if_neg (by omega)]
theorem ps_big {bs : List UInt8} {a idx : Nat} (h : ¬ (be ((bs.drop a).take 4) ≤ 65536 ∧ a + 12 + be ((bs.drop a).take 4) ≤ bs.length)) : parseStep bs a idx = none := by
  unfold parseStep
  split
  · first | rfl | rw [if_neg h]
  · rfl
theorem ps_sum {bs : List UInt8} {a idx : Nat} (h : ¬ (bs.drop (a + 4)).take 8 = jsumS idx ((bs.drop (a + 12)).take (be ((bs.drop a).take 4)))) : parseStep bs a idx = none := by
  unfold parseStep
  split
  · split
    · first | rfl | rw [if_neg h]
    · rfl
  · rfl
theorem ps_yes {bs : List UInt8} {a idx : Nat} (h1 : a + 12 ≤ bs.length) (h2 : be ((bs.drop a).take 4) ≤ 65536 ∧ a + 12 + be ((bs.drop a).take 4) ≤ bs.length) (h : (bs.drop (a + 4)).take 8 = jsumS idx ((bs.drop (a + 12)).take (be ((bs.drop a).take 4)))) :
    parseStep bs a idx = some ((bs.drop (a + 12)).take (be ((bs.drop a).take 4)), a + 12 + be ((bs.drop a).take 4)) := by
  unfold parseStep
  rw [if_pos h1, if_pos h2, if_pos h]

/-- A part of a slice of bytes. -/
theorem rd_part {w : World} {g o n c lo k m : Nat} {bs : List UInt8} (h : Rd w 1 (.slice (some ⟨g, o, none⟩) n c) n (bs.map byteV)) (hl : bs.length = n) (hk : lo + k ≤ n) (hm : k ≤ m) (hm2 : m ≤ maxLen) (A' : Option Addr) (hA : 0 < k → A' = some ⟨g, o + lo, none⟩) : Rd w 1 (.slice A' k m) ((bs.drop lo).take k).length (((bs.drop lo).take k).map byteV) := by
  have hlen : ((bs.drop lo).take k).length = k := by simp; omega
  obtain ⟨A, c', e, h1, h2, h3, hx⟩ := h
  rw [hlen]
  refine ⟨A', m, rfl, hm, hm2, by simp; omega, fun h0 => ?_⟩
  obtain ⟨g', o', e', hc⟩ := hx (by omega)
  injection e with e1
  rw [← e1] at e'
  injection e' with e'
  injection e' with e2 e3
  subst e2 e3
  refine ⟨g, o + lo, hA h0, fun j u hu => ?_⟩
  rw [Nat.add_assoc]
  refine hc (lo + j) u ?_
  rw [List.getElem?_map, List.getElem?_take] at hu
  split at hu
  · rw [List.getElem?_drop] at hu
    rw [List.getElem?_map]
    exact hu
  · cases hu

set_option maxRecDepth 100000 in
set_option maxHeartbeats 8000000 in
theorem jParse_any {w : World} {v : Value} {bs : List UInt8} (h : Rd w 1 v bs.length (bs.map byteV)) (hbl : bs.length ≤ 549755813888) : Calls Try.prog 25 #[v] w (ParsePost w bs) := by
  obtain ⟨A0, c0, rfl, hlc, hcm, _⟩ := id h
  have H := Lib.hid h
  obtain ⟨i0, hi0, hz0, hz1, hz2⟩ := info_parts bytes_info
  have hcm' : c0 ≤ 9223372036854775807 := by unfold maxLen at hcm; omega
  clear h hcm
  go_enter Try.func25, Try.ntmps25
  go_wp2
  go_loopw [4, 5] (fun out i wr => PRel w bs out i wr) (fun _ i _ => bs.length + 1 - (intOf i).toNat)
  case atStart =>
    obtain ⟨vs, hv, e⟩ := RecsAt.nil w
    refine ⟨[], 0, none, 0, [], rfl, rfl, PAt.start bs, ⟨Own.nil _ _ _, fun i b h => (by cases h)⟩, fun k hk => ?_, Upd.refl _ _⟩
    simp [RecsF, OwnB, Value.ownBlock] at hk
  case round =>
    obtain ⟨l, a, A, c, vs, rfl, rfl, hP, hV, hF, hU⟩ := hrel
    have hal : a ≤ bs.length := by obtain ⟨f, _, _, h3, _⟩ := hP; exact h3
    have hll : l.length ≤ bs.length := by obtain ⟨f, _, _, h3, h4⟩ := hP; omega
    have HP := Lib.hid hP
    have HV := Lib.hid hV
    have HF := Lib.hid hF
    have HU := Lib.hid hU
    have HR := Lib.hid (H.out.keep hU)
    have DONE := Lib.hid (show parseStep bs a l.length = none → ∀ w', Upd NoF wr w' → ParsePost w bs (.returned (.tuple #[.slice A l.length c, .int .i64 (a : Int)])) w' from fun hs w' hu => ParsePost.mk hP hs hV hF hU hu)
    clear hP hV hF hU
    by_cases h4 : a + 4 ≤ bs.length
    · have CU := Lib.hid (cUint_yes HR.out a 4 (by omega) (by omega) h4 (by omega))
      obtain ⟨n, hn⟩ : ∃ n, be ((bs.drop a).take 4) = n := ⟨_, rfl⟩
      rw [hn] at CU
      have HN := Lib.hid hn
      clear hn
      by_cases hbig : 65536 < n
      · have t1 : decide ((65536 : Int) < (n : Int)) = true := by simp; omega
        have t1' : decide (65536 < n) = true := by simp; omega
        go_wp2_with fail
        refine CU.out.mono ?_
        rintro e w' ⟨rfl, rfl⟩
        go_wp2
        go_ret2
        exact DONE.out (ps_big (by rw [HN.out]; omega)) _ (Upd.refl _ _)
      · have t1 : decide ((65536 : Int) < (n : Int)) = false := by simp; omega
        have t1' : decide (65536 < n) = false := by simp; omega
        by_cases hfit : a + 12 + n ≤ bs.length
        · have t2 : decide ((bs.length : Int) - (a : Int) - 12 < (n : Int)) = false := by simp; omega
          obtain ⟨g, o, rfl, -⟩ := rd_cells HR.out (by omega)
          obtain ⟨r, hr⟩ : ∃ r, (bs.drop (a + 12)).take n = r := ⟨_, rfl⟩
          have hrl : r.length = n := by rw [← hr]; simp; omega
          have RR := Lib.hid (show ∀ w', Upd NoF wr w' → ∀ A' m, n ≤ m → m ≤ maxLen → (0 < n → A' = some ⟨g, o + (a + 12), none⟩) → Rd w' 1 (.slice A' n m) r.length (r.map byteV) from fun w' hu A' m h1 h2 hA => by
            rw [← hr]
            exact rd_part (HR.out.keep hu) rfl (by omega) h1 h2 A' hA)
          have RS := Lib.hid (show ∀ w', Upd NoF wr w' → Rd w' 1 (.slice (some ⟨g, o + (a + 4), none⟩) 8 (c0 - (a + 4))) ((bs.drop (a + 4)).take 8).length (((bs.drop (a + 4)).take 8).map byteV) from fun w' hu =>
            rd_part (HR.out.keep hu) rfl (by omega) (by omega) (by unfold maxLen; omega) _ (fun _ => rfl))
          have HRR := Lib.hid hr
          have HRL := Lib.hid hrl
          clear hr hrl
          by_cases hn0 : 0 < n
          · have m0 : ¬ n = 0 := by omega
            have e0 : (a + 12 + n) - (a + 12) = n := by omega
            have q1 : (0 : Int) ≤ (a : Int) + 12 := by omega
            have q2 : (a : Int) + 12 ≤ (a : Int) + 12 + (n : Int) := by omega
            have q3 : (a : Int) + 12 + (n : Int) ≤ (c0 : Int) := by omega
            have q4 : ((a : Int) + 12).toNat = a + 12 := by omega
            have q5 : ((a : Int) + 12 + (n : Int)).toNat = (a + 12 + n) := by omega
            have q6 : IntKind.i64.wrap ((n : Nat) : Int) = ((n : Nat) : Int) := IntWalk.i64_in _ (by omega)
            have CS := Lib.hid (jsum_any (RR.out wr (Upd.refl NoF wr) (some ⟨g, o + (a + 12), none⟩) n (Nat.le_refl _) (by unfold maxLen; omega) (fun h => by first | rfl | omega)) (by rw [HRL.out]; omega) l.length (by omega))
            obtain ⟨b0, b1, b2, b3, b4, b5, b6, b7, l', hl'⟩ := eight (jsumS l.length r) (Nat.le_of_eq rfl)
            obtain rfl : l' = [] := by
              have := congrArg List.length hl'
              rw [jsumS_len] at this
              simpa using this
            rw [hl'] at CS
            have HL' := Lib.hid hl'
            clear hl'
            go_wp2_with fail
            refine CU.out.mono ?_
            rintro e w' ⟨rfl, rfl⟩
            go_wp2_with fail
            refine CS.out.mono ?_
            rintro e w1 ⟨rfl, hu1⟩
            have U1 := Lib.hid hu1
            clear hu1
            go_wp2
            obtain ⟨w2, hw2⟩ : ∃ w2, w2 = w1.alloc (.cells #[byteV b0, byteV b1, byteV b2, byteV b3, byteV b4, byteV b5, byteV b6, byteV b7] 95) := ⟨_, rfl⟩
            rw [← hw2]
            have B2 := Lib.hid (show Blk w2 w1.heap.size 95 #[byteV b0, byteV b1, byteV b2, byteV b3, byteV b4, byteV b5, byteV b6, byteV b7] ∧ Upd NoF wr w2 from by
              rw [hw2]
              exact ⟨Blk.new w1 _ _, U1.out.alloc _⟩)
            have CEQ := Lib.hid (show ∀ n', Calls Try.prog 59 #[.slice (some ⟨w1.heap.size, 0, none⟩) 8 8, .slice (some ⟨g, o + (a + 4), none⟩) 8 (c0 - (a + 4))] (w2.drewN n') fun e w'' => e = .returned (.bool ([b0, b1, b2, b3, b4, b5, b6, b7] == (bs.drop (a + 4)).take 8)) ∧ ∃ q, w'' = w2.drewN q from fun n' =>
              (bEqual_any (a := [b0, b1, b2, b3, b4, b5, b6, b7]) (b := (bs.drop (a + 4)).take 8) (Rd.of_blk (B2.out.1.drewN n') (by simp) (by unfold maxLen; omega) rfl (by intro j u hu; simpa using hu)) (RS.out _ (B2.out.2.drewN n'))).mono fun e w'' ⟨h1, h2⟩ => ⟨h1, n', h2⟩)
            clear hw2
            have p1 : IntKind.i64.wrap ((a : Int) + 4) = (a : Int) + 4 := IntWalk.i64_in _ (by omega)
            have p2 : IntKind.i64.wrap ((a : Int) + 12) = (a : Int) + 12 := IntWalk.i64_in _ (by omega)
            have p3 : ((a : Int) + 4).toNat = a + 4 := by omega
            have p4 : (0 : Int) ≤ (a : Int) + 4 := by omega
            have p5 : (a : Int) + 4 ≤ (a : Int) + 12 := by omega
            have p6 : (a : Int) + 12 ≤ (c0 : Int) := by omega
            have p7 : a + 12 - (a + 4) = 8 := by omega
            have p8 : ¬ c0 = a + 4 := by omega
            cases hq : ([b0, b1, b2, b3, b4, b5, b6, b7] == (bs.drop (a + 4)).take 8)
            · rw [hq] at CEQ
              have HQ := Lib.hid hq
              clear hq
              go_quiet ((go_at_call 59; exact CEQ.out _))
              clear p1 p2
              go_wp2
              go_ret2
              refine DONE.out (ps_sum ?_) _ (B2.out.2.drewN nq)
              rw [HN.out, HRR.out, HL'.out]
              intro e
              have := HQ.out
              rw [e] at this
              simp at this
            · rw [hq] at CEQ
              have hs : parseStep bs a l.length = some (r, (a + 12 + n)) := by
                have h1 := ps_yes (bs := bs) (a := a) (idx := l.length) (by omega) (by rw [HN.out]; exact ⟨by omega, by omega⟩) (by rw [HN.out, HRR.out, HL'.out]; exact (by simpa using hq : [b0, b1, b2, b3, b4, b5, b6, b7] = (bs.drop (a + 4)).take 8).symm)
                rw [HN.out, HRR.out] at h1
                exact h1
              have HS := Lib.hid hs
              clear hq hs
              go_quiet ((go_at_call 59; exact CEQ.out _))
              clear p1 p2
              obtain ⟨w3, hw3⟩ : ∃ w3, w3 = w2.drewN nq := ⟨_, rfl⟩
              rw [← hw3]
              have U3 := Lib.hid (show Upd NoF wr w3 from by rw [hw3]; exact B2.out.2.drewN nq)
              have CC := Lib.hid (clone_any _ r w3 (RR.out w3 U3.out (some ⟨g, o + (a + 12), none⟩) n (Nat.le_refl _) (by unfold maxLen; omega) (fun h => by first | rfl | omega)) (by rw [HRL.out]; omega))
              clear hw3
              go_wp2_with fail
              refine CC.out.mono ?_
              rintro e w4 ⟨A4, c4, rfl, hO4, hn4, hU4⟩
              have O4 := Lib.hid hO4
              have N4 := Lib.hid hn4
              have U4 := Lib.hid hU4
              clear hO4 hn4 hU4
              have V4 := Lib.hid (show Upd NoF wr w4 from U3.out.trans U4.out (fun _ _ h => h))
              go_wp2_with (at_builtin; refine wpList_append_to _ rfl (.tmp 61) (.tmp 64) 22 rfl 27 i0 _ 1 24 Try.underlying22 hi0 hz0 hz1 hz2 rfl (.slice A l.length c) l.length vs rfl (HV.out.1.upd (V4.out.alloc _) (fun _ _ h => h)) (.slice (some ⟨w4.heap.size, 0, none⟩) 1 1) 1 [.slice A4 r.length c4] rfl (Rd.of_blk (Blk.new w4 _ _) (by omega) (by unfold maxLen; omega) rfl (by intro j u hu; cases j with | zero => simpa using hu | succ j => simp at hu)) (by simp [Value.oneCell']) (by unfold maxLen; omega) (by omega) ?_; intro A5 c5 w5 hown5 hupd5 hnew5; have O5 := Lib.hid hown5; have U5 := Lib.hid hupd5; have N5 := Lib.hid hnew5; clear hown5 hupd5 hnew5)
              go_roundw
              case rel =>
                obtain ⟨g1, g2⟩ := RecsV.push HV.out (V4.out.alloc _) (O4.out.upd ((Upd.refl NoF w4).alloc _) (fun _ _ h => h)) O5.out U5.out N5.out
                have hwz := HU.out.size
                have hv4 := V4.out.size
                have hu3 := U3.out.size
                refine ⟨l ++ [r], (a + 12 + n), A5, c5, vs ++ [.slice A4 r.length c4], by simp, by go_num, HP.out.next HS.out, by rw [List.length_append, List.length_singleton]; exact g1, fun k hk => ?_, (HU.out.trans (V4.out.alloc _) (fun _ _ h => h)).trans U5.out (fun k hk e => by have := HF.out k (.inl e); omega)⟩
                rw [List.length_append, List.length_singleton] at hk
                rcases g2 k hk with e | e | e
                · exact HF.out k e
                · have := N4.out k e; omega
                · simp at e; omega
              case measure => simp [intOf]; omega
          · obtain rfl : n = 0 := by omega
            have t2' : decide ((bs.length : Int) - (a : Int) - 12 < 0) = false := by simp; omega
            have e0 : (a + 12) - (a + 12) = 0 := by omega
            have q1 : (0 : Int) ≤ (a : Int) + 12 := by omega
            have q2 : (a : Int) + 12 ≤ (a : Int) + 12 := by omega
            have q3 : (a : Int) + 12 ≤ (c0 : Int) := by omega
            have q4 : ((a : Int) + 12).toNat = a + 12 := by omega
            have q5 : ((a : Int) + 12).toNat = (a + 12) := by omega
            have q6 : IntKind.i64.wrap ((0 : Nat) : Int) = ((0 : Nat) : Int) := IntWalk.i64_in _ (by omega)
            have CS := Lib.hid (jsum_any (RR.out wr (Upd.refl NoF wr) (some ⟨g, o, none⟩) 0 (Nat.le_refl _) (by unfold maxLen; omega) (fun h => by first | rfl | omega)) (by rw [HRL.out]; omega) l.length (by omega))
            obtain ⟨b0, b1, b2, b3, b4, b5, b6, b7, l', hl'⟩ := eight (jsumS l.length r) (Nat.le_of_eq rfl)
            obtain rfl : l' = [] := by
              have := congrArg List.length hl'
              rw [jsumS_len] at this
              simpa using this
            rw [hl'] at CS
            have HL' := Lib.hid hl'
            clear hl'
            go_wp2_with fail
            refine CU.out.mono ?_
            rintro e w' ⟨rfl, rfl⟩
            go_wp2_with fail
            refine CS.out.mono ?_
            rintro e w1 ⟨rfl, hu1⟩
            have U1 := Lib.hid hu1
            clear hu1
            go_wp2
            obtain ⟨w2, hw2⟩ : ∃ w2, w2 = w1.alloc (.cells #[byteV b0, byteV b1, byteV b2, byteV b3, byteV b4, byteV b5, byteV b6, byteV b7] 95) := ⟨_, rfl⟩
            rw [← hw2]
            have B2 := Lib.hid (show Blk w2 w1.heap.size 95 #[byteV b0, byteV b1, byteV b2, byteV b3, byteV b4, byteV b5, byteV b6, byteV b7] ∧ Upd NoF wr w2 from by
              rw [hw2]
              exact ⟨Blk.new w1 _ _, U1.out.alloc _⟩)
            have CEQ := Lib.hid (show ∀ n', Calls Try.prog 59 #[.slice (some ⟨w1.heap.size, 0, none⟩) 8 8, .slice (some ⟨g, o + (a + 4), none⟩) 8 (c0 - (a + 4))] (w2.drewN n') fun e w'' => e = .returned (.bool ([b0, b1, b2, b3, b4, b5, b6, b7] == (bs.drop (a + 4)).take 8)) ∧ ∃ q, w'' = w2.drewN q from fun n' =>
              (bEqual_any (a := [b0, b1, b2, b3, b4, b5, b6, b7]) (b := (bs.drop (a + 4)).take 8) (Rd.of_blk (B2.out.1.drewN n') (by simp) (by unfold maxLen; omega) rfl (by intro j u hu; simpa using hu)) (RS.out _ (B2.out.2.drewN n'))).mono fun e w'' ⟨h1, h2⟩ => ⟨h1, n', h2⟩)
            clear hw2
            have p1 : IntKind.i64.wrap ((a : Int) + 4) = (a : Int) + 4 := IntWalk.i64_in _ (by omega)
            have p2 : IntKind.i64.wrap ((a : Int) + 12) = (a : Int) + 12 := IntWalk.i64_in _ (by omega)
            have p3 : ((a : Int) + 4).toNat = a + 4 := by omega
            have p4 : (0 : Int) ≤ (a : Int) + 4 := by omega
            have p5 : (a : Int) + 4 ≤ (a : Int) + 12 := by omega
            have p6 : (a : Int) + 12 ≤ (c0 : Int) := by omega
            have p7 : a + 12 - (a + 4) = 8 := by omega
            have p8 : ¬ c0 = a + 4 := by omega
            cases hq : ([b0, b1, b2, b3, b4, b5, b6, b7] == (bs.drop (a + 4)).take 8)
            · rw [hq] at CEQ
              have HQ := Lib.hid hq
              clear hq
              go_quiet ((go_at_call 59; exact CEQ.out _))
              clear p1 p2
              go_wp2
              go_ret2
              refine DONE.out (ps_sum ?_) _ (B2.out.2.drewN nq)
              rw [HN.out, HRR.out, HL'.out]
              intro e
              have := HQ.out
              rw [e] at this
              simp at this
            · rw [hq] at CEQ
              have hs : parseStep bs a l.length = some (r, (a + 12)) := by
                have h1 := ps_yes (bs := bs) (a := a) (idx := l.length) (by omega) (by rw [HN.out]; exact ⟨by omega, by omega⟩) (by rw [HN.out, HRR.out, HL'.out]; exact (by simpa using hq : [b0, b1, b2, b3, b4, b5, b6, b7] = (bs.drop (a + 4)).take 8).symm)
                rw [HN.out, HRR.out] at h1
                exact h1
              have HS := Lib.hid hs
              clear hq hs
              go_quiet ((go_at_call 59; exact CEQ.out _))
              clear p1 p2
              obtain ⟨w3, hw3⟩ : ∃ w3, w3 = w2.drewN nq := ⟨_, rfl⟩
              rw [← hw3]
              have U3 := Lib.hid (show Upd NoF wr w3 from by rw [hw3]; exact B2.out.2.drewN nq)
              have CC := Lib.hid (clone_any _ r w3 (RR.out w3 U3.out (some ⟨g, o, none⟩) 0 (Nat.le_refl _) (by unfold maxLen; omega) (fun h => by first | rfl | omega)) (by rw [HRL.out]; omega))
              clear hw3
              go_wp2_with fail
              refine CC.out.mono ?_
              rintro e w4 ⟨A4, c4, rfl, hO4, hn4, hU4⟩
              have O4 := Lib.hid hO4
              have N4 := Lib.hid hn4
              have U4 := Lib.hid hU4
              clear hO4 hn4 hU4
              have V4 := Lib.hid (show Upd NoF wr w4 from U3.out.trans U4.out (fun _ _ h => h))
              go_wp2_with (at_builtin; refine wpList_append_to _ rfl (.tmp 61) (.tmp 64) 22 rfl 27 i0 _ 1 24 Try.underlying22 hi0 hz0 hz1 hz2 rfl (.slice A l.length c) l.length vs rfl (HV.out.1.upd (V4.out.alloc _) (fun _ _ h => h)) (.slice (some ⟨w4.heap.size, 0, none⟩) 1 1) 1 [.slice A4 r.length c4] rfl (Rd.of_blk (Blk.new w4 _ _) (by omega) (by unfold maxLen; omega) rfl (by intro j u hu; cases j with | zero => simpa using hu | succ j => simp at hu)) (by simp [Value.oneCell']) (by unfold maxLen; omega) (by omega) ?_; intro A5 c5 w5 hown5 hupd5 hnew5; have O5 := Lib.hid hown5; have U5 := Lib.hid hupd5; have N5 := Lib.hid hnew5; clear hown5 hupd5 hnew5)
              go_roundw
              case rel =>
                obtain ⟨g1, g2⟩ := RecsV.push HV.out (V4.out.alloc _) (O4.out.upd ((Upd.refl NoF w4).alloc _) (fun _ _ h => h)) O5.out U5.out N5.out
                have hwz := HU.out.size
                have hv4 := V4.out.size
                have hu3 := U3.out.size
                refine ⟨l ++ [r], (a + 12), A5, c5, vs ++ [.slice A4 r.length c4], by simp, by go_num, HP.out.next HS.out, by rw [List.length_append, List.length_singleton]; exact g1, fun k hk => ?_, (HU.out.trans (V4.out.alloc _) (fun _ _ h => h)).trans U5.out (fun k hk e => by have := HF.out k (.inl e); omega)⟩
                rw [List.length_append, List.length_singleton] at hk
                rcases g2 k hk with e | e | e
                · exact HF.out k e
                · have := N4.out k e; omega
                · simp at e; omega
              case measure => simp [intOf]; omega
        · have t2 : decide ((bs.length : Int) - (a : Int) - 12 < (n : Int)) = true := by simp; omega
          go_wp2_with fail
          refine CU.out.mono ?_
          rintro e w' ⟨rfl, rfl⟩
          go_wp2
          go_ret2
          exact DONE.out (ps_big (by rw [HN.out]; omega)) _ (Upd.refl _ _)
    · have CU := Lib.hid (cUint_no HR.out a 4 (by omega) (by omega) (by omega) (by omega))
      go_wp2_with fail
      refine CU.out.mono ?_
      rintro e w' ⟨rfl, rfl⟩
      go_wp2
      go_ret2
      exact DONE.out (ps_short (by omega)) _ (Upd.refl _ _)
end

section
open Go.RowKit

set_option maxRecDepth 100000 in
set_option maxHeartbeats 8000000 in
theorem rParse_any {w : World} {v : Value} {bs : List UInt8} (h : Rd w 1 v bs.length (bs.map byteV)) (hbl : bs.length ≤ 549755813888) : Calls Try.prog 26 #[v] w (ParsePost w bs) := by
  obtain ⟨A0, c0, rfl, hlc, hcm, _⟩ := id h
  have H := Lib.hid h
  obtain ⟨i0, hi0, hz0, hz1, hz2⟩ := info_parts bytes_info
  obtain ⟨i1, hi1, hy0, hy1, hy2⟩ := info_parts byte_info
  have hcm' : c0 ≤ 9223372036854775807 := by unfold maxLen at hcm; omega
  clear h hcm
  go_enter Try.func26, Try.ntmps26
  go_wp2
  go_loopw [4, 5] (fun out i wr => PRel w bs out i wr) (fun _ i _ => bs.length + 1 - (intOf i).toNat)
  case atStart =>
    refine ⟨[], 0, none, 0, [], rfl, rfl, PAt.start bs, ⟨Own.nil _ _ _, fun i b h => (by cases h)⟩, fun k hk => ?_, Upd.refl _ _⟩
    simp [RecsF, OwnB, Value.ownBlock] at hk
  case round =>
    obtain ⟨l, a, A, c, vs, rfl, rfl, hP, hV, hF, hU⟩ := hrel
    have hal : a ≤ bs.length := by obtain ⟨f, _, _, h3, _⟩ := hP; exact h3
    have hll : l.length ≤ bs.length := by obtain ⟨f, _, _, h3, h4⟩ := hP; omega
    have HP := Lib.hid hP
    have HV := Lib.hid hV
    have HF := Lib.hid hF
    have HU := Lib.hid hU
    have HR := Lib.hid (H.out.keep hU)
    have DONE := Lib.hid (show parseStep bs a l.length = none → ∀ w', Upd NoF wr w' → ParsePost w bs (.returned (.tuple #[.slice A l.length c, .int .i64 (a : Int)])) w' from fun hs w' hu => ParsePost.mk hP hs hV hF hU hu)
    clear hP hV hF hU
    by_cases h4 : a + 12 ≤ bs.length
    · have t0 : decide ((12 : Int) ≤ (bs.length : Int) - (a : Int)) = true := by simp; omega
      have CU := Lib.hid (r1Uint_yes HR.out a 4 (by omega) (by omega) (by omega) (by omega))
      obtain ⟨n, hn⟩ : ∃ n, be ((bs.drop a).take 4) = n := ⟨_, rfl⟩
      rw [hn] at CU
      have HN := Lib.hid hn
      clear hn
      by_cases hbig : 65536 < n
      · have t1 : decide ((65536 : Int) < (n : Int)) = true := by simp; omega
        have t1' : decide (65536 < n) = true := by simp; omega
        go_wp2_with fail
        refine CU.out.mono ?_
        rintro e w' ⟨rfl, rfl⟩
        go_wp2
        go_ret2
        exact DONE.out (ps_big (by rw [HN.out]; omega)) _ (Upd.refl _ _)
      · have t1 : decide ((65536 : Int) < (n : Int)) = false := by simp; omega
        have t1' : decide (65536 < n) = false := by simp; omega
        by_cases hfit : a + 12 + n ≤ bs.length
        · have t2 : decide ((bs.length : Int) - (a : Int) - 12 < (n : Int)) = false := by simp; omega
          obtain ⟨g, o, rfl, -⟩ := rd_cells HR.out (by omega)
          obtain ⟨r, hr⟩ : ∃ r, (bs.drop (a + 12)).take n = r := ⟨_, rfl⟩
          have hrl : r.length = n := by rw [← hr]; simp; omega
          have RR := Lib.hid (show ∀ w', Upd NoF wr w' → ∀ A' m, n ≤ m → m ≤ maxLen → (0 < n → A' = some ⟨g, o + (a + 12), none⟩) → Rd w' 1 (.slice A' n m) r.length (r.map byteV) from fun w' hu A' m h1 h2 hA => by
            rw [← hr]
            exact rd_part (HR.out.keep hu) rfl (by omega) h1 h2 A' hA)
          have RS := Lib.hid (show ∀ w', Upd NoF wr w' → Rd w' 1 (.slice (some ⟨g, o + (a + 4), none⟩) 8 (c0 - (a + 4))) ((bs.drop (a + 4)).take 8).length (((bs.drop (a + 4)).take 8).map byteV) from fun w' hu =>
            rd_part (HR.out.keep hu) rfl (by omega) (by omega) (by unfold maxLen; omega) _ (fun _ => rfl))
          have HRR := Lib.hid hr
          have HRL := Lib.hid hrl
          clear hr hrl
          have e0 : a + 12 + n - (a + 12) = n := by omega
          have q1 : (0 : Int) ≤ (a : Int) + 12 := by omega
          have q2 : (a : Int) + 12 ≤ (a : Int) + 12 + (n : Int) := by omega
          have q3 : (a : Int) + 12 + (n : Int) ≤ (c0 : Int) := by omega
          have q4 : ((a : Int) + 12).toNat = a + 12 := by omega
          have q5 : ((a : Int) + 12 + (n : Int)).toNat = a + 12 + n := by omega
          have q6 : IntKind.i64.wrap (n : Int) = (n : Int) := IntWalk.i64_in _ (by omega)
          by_cases hce : c0 = a + 12
          · subst hce
            have hn0 : n = 0 := by omega
            have q7 : a + 12 - (a + 12) = 0 := by omega
            rw [show a + 12 - (a + 4) = 8 by omega] at RS
            clear hn0
            have CSG := Lib.hid (show ∀ w4 A4 c4, Own w4 5 1 (.slice A4 n c4) n (r.map byteV) → Calls Try.prog 61 #[.int .i64 (l.length : Int), .slice A4 n c4] w4 fun e w' => e = .returned (nameV (jsumS l.length r)) ∧ Upd NoF w4 w' from fun w4 A4 c4 ho => rsum_any (bs := r) (by rw [HRL.out]; exact ho.rd) (by rw [HRL.out]; omega) l.length (by omega))
            obtain ⟨b0, b1, b2, b3, b4, b5, b6, b7, l', hl'⟩ := eight (jsumS l.length r) (Nat.le_of_eq rfl)
            obtain rfl : l' = [] := by
              have := congrArg List.length hl'
              rw [jsumS_len] at this
              simpa using this
            rw [hl'] at CSG
            have HL' := Lib.hid hl'
            have HRD := Lib.hid (RR.out wr (Upd.refl NoF wr) (some ⟨g, o, none⟩) (0) (by omega) (by unfold maxLen; omega) (fun h => by first | rfl | omega))
            have HONE := Lib.hid (bytes_oneCell r)
            clear hl'
            go_wp2_with fail
            refine CU.out.mono ?_
            rintro e w' ⟨rfl, rfl⟩
            go_wp2_with (at_builtin; refine wpList_append_new _ rfl (.tmp 35) (.tmp 44) 27 rfl 5 i1 _ 1 1 Try.underlying27 hi1 hy0 hy1 hy2 rfl (.slice (some ⟨wr.heap.size, 0, none⟩) 0 0) rfl (Own.fresh wr _ _) (.slice (some ⟨g, o, none⟩) n (0)) n (r.map byteV) rfl (by have h := HRD.out; rw [HRL.out] at h; exact h.keep ((Upd.refl NoF wr).alloc _)) HONE.out (by unfold maxLen; omega) (by omega) ?_; intro A4 c4 w4 hown4 hupd4 hnew4; have O4 := Lib.hid hown4; have U4 := Lib.hid (show Upd NoF wr w4 from ((Upd.refl NoF wr).alloc _).trans hupd4 (fun k hk e => by simp [OwnB, Value.ownBlock] at e; omega)); have N4 := Lib.hid (show ∀ k, OwnB (.slice A4 n c4) k → wr.heap.size ≤ k from fun k hk => by rcases hnew4 k hk with e | e; (simp [OwnB, Value.ownBlock] at e; omega); (simp at e; omega)); clear hown4 hupd4 hnew4)
            refine (CSG.out w4 A4 c4 O4.out).mono ?_
            rintro e w1 ⟨rfl, hu1⟩
            have U1 := Lib.hid (U4.out.trans hu1 (fun _ _ h => h))
            have O1 := Lib.hid (O4.out.upd hu1 (fun _ _ h => h))
            clear hu1
            go_wp2
            obtain ⟨w2, hw2⟩ : ∃ w2, w2 = w1.alloc (.cells #[byteV b0, byteV b1, byteV b2, byteV b3, byteV b4, byteV b5, byteV b6, byteV b7] 95) := ⟨_, rfl⟩
            rw [← hw2]
            have B2 := Lib.hid (show Blk w2 w1.heap.size 95 #[byteV b0, byteV b1, byteV b2, byteV b3, byteV b4, byteV b5, byteV b6, byteV b7] ∧ Upd NoF wr w2 ∧ Own w2 5 1 (.slice A4 n c4) n (r.map byteV) from by
              rw [hw2]
              exact ⟨Blk.new w1 _ _, U1.out.alloc _, O1.out.upd ((Upd.refl NoF w1).alloc _) (fun _ _ h => h)⟩)
            obtain ⟨s8, hs8⟩ : ∃ s8, (bs.drop (a + 4)).take 8 = s8 := ⟨_, rfl⟩
            have hs8l : s8.length = 8 := by rw [← hs8]; simp; omega
            have hstr1 : ∀ q, (convert 27 9 (.slice (some ⟨g, o + (a + 4), none⟩) 8 (8))).run Try.prog (w2.drewN q) = .ok (strV s8) (w2.drewN q) := fun q => run_str (by have := RS.out _ (B2.out.2.1.drewN q); rw [hs8] at this; exact this)
            have hstr2 : ∀ q, (convert 27 9 (.slice (some ⟨w1.heap.size, 0, none⟩) 8 8)).run Try.prog (w2.drewN q) = .ok (strV [b0, b1, b2, b3, b4, b5, b6, b7]) (w2.drewN q) := fun q => run_str (bs := [b0, b1, b2, b3, b4, b5, b6, b7]) (Rd.of_blk (B2.out.1.drewN q) (by simp) (by unfold maxLen; omega) rfl (by intro j u hu; simpa using hu))
            have HS8 := Lib.hid hs8
            have p1 : IntKind.i64.wrap ((a : Int) + 4) = (a : Int) + 4 := IntWalk.i64_in _ (by omega)
            have p2 : IntKind.i64.wrap ((a : Int) + 12) = (a : Int) + 12 := IntWalk.i64_in _ (by omega)
            have p3 : ((a : Int) + 4).toNat = a + 4 := by omega
            have p4 : (0 : Int) ≤ (a : Int) + 4 := by omega
            have p5 : (a : Int) + 4 ≤ (a : Int) + 12 := by omega
            have p6 : (a : Int) + 12 ≤ (a : Int) + 12 := by omega
            have p7 : a + 12 - (a + 4) = 8 := by omega
            have p8 : ¬ a + 12 = a + 4 := by omega
            clear hw2 hs8 hs8l
            by_cases hq : s8 = [b0, b1, b2, b3, b4, b5, b6, b7]
            · subst hq
              have hs : parseStep bs a l.length = some (r, a + 12 + n) := by
                have h1 := ps_yes (bs := bs) (a := a) (idx := l.length) (by omega) (by rw [HN.out]; exact ⟨by omega, by omega⟩) (by rw [HN.out, HRR.out, HL'.out]; exact HS8.out)
                rw [HN.out, HRR.out] at h1
                exact h1
              have HS := Lib.hid hs
              clear hs
              go_quiet (fail)
              clear p1 p2 hstr1 hstr2
              obtain ⟨w3, hw3⟩ : ∃ w3, w3 = w2.drewN nq := ⟨_, rfl⟩
              rw [← hw3]
              have U3 := Lib.hid (show Upd NoF wr w3 ∧ Own w3 5 1 (.slice A4 n c4) n (r.map byteV) from by rw [hw3]; exact ⟨B2.out.2.1.drewN nq, B2.out.2.2.upd ((Upd.refl NoF w2).drewN nq) (fun _ _ h => h)⟩)
              clear hw3
              go_wp2_with (at_builtin; refine wpList_append_to _ rfl (.tmp 62) (.tmp 64) 22 rfl 27 i0 _ 1 24 Try.underlying22 hi0 hz0 hz1 hz2 rfl (.slice A l.length c) l.length vs rfl (HV.out.1.upd (U3.out.1.alloc _) (fun _ _ h => h)) (.slice (some ⟨w3.heap.size, 0, none⟩) 1 1) 1 [.slice A4 n c4] rfl (Rd.of_blk (Blk.new w3 _ _) (by omega) (by unfold maxLen; omega) rfl (by intro j u hu; cases j with | zero => simpa using hu | succ j => simp at hu)) (by simp [Value.oneCell']) (by unfold maxLen; omega) (by omega) ?_; intro A5 c5 w5 hown5 hupd5 hnew5; have O5 := Lib.hid hown5; have U5 := Lib.hid hupd5; have N5 := Lib.hid hnew5; clear hown5 hupd5 hnew5)
              go_roundw
              case rel =>
                have hrl := HRL.out
                have ho5 := O5.out
                have hu4 := U3.out.2
                rw [← hrl] at ho5 hu4
                obtain ⟨g1, g2⟩ := RecsV.push HV.out (U3.out.1.alloc _) (hu4.upd ((Upd.refl NoF w3).alloc _) (fun _ _ h => h)) ho5 U5.out N5.out
                rw [hrl] at g1 g2
                have hwz := HU.out.size
                have hu3 := U3.out.1.size
                refine ⟨l ++ [r], a + 12 + n, A5, c5, vs ++ [.slice A4 n c4], by simp, by go_num, HP.out.next HS.out, by rw [List.length_append, List.length_singleton]; exact g1, fun k hk => ?_, (HU.out.trans (U3.out.1.alloc _) (fun _ _ h => h)).trans U5.out (fun k hk e => by have := HF.out k (.inl e); omega)⟩
                rw [List.length_append, List.length_singleton] at hk
                rcases g2 k hk with e | e | e
                · exact HF.out k e
                · have := N4.out k e; omega
                · simp at e; omega
              case measure => simp [intOf]; omega
            · have hq1 : (s8 == [b0, b1, b2, b3, b4, b5, b6, b7]) = false := by simpa using hq
              have hq2 : (s8 != [b0, b1, b2, b3, b4, b5, b6, b7]) = true := by simpa using hq
              have HQ := Lib.hid hq
              clear hq
              go_quiet (fail)
              clear p1 p2 hstr1 hstr2
              go_wp2
              go_ret2
              refine DONE.out (ps_sum ?_) _ (B2.out.2.1.drewN nq)
              rw [HN.out, HRR.out, HL'.out, HS8.out]
              exact HQ.out
          · have m0 : ¬ c0 = a + 12 := hce
            have CSG := Lib.hid (show ∀ w4 A4 c4, Own w4 5 1 (.slice A4 n c4) n (r.map byteV) → Calls Try.prog 61 #[.int .i64 (l.length : Int), .slice A4 n c4] w4 fun e w' => e = .returned (nameV (jsumS l.length r)) ∧ Upd NoF w4 w' from fun w4 A4 c4 ho => rsum_any (bs := r) (by rw [HRL.out]; exact ho.rd) (by rw [HRL.out]; omega) l.length (by omega))
            obtain ⟨b0, b1, b2, b3, b4, b5, b6, b7, l', hl'⟩ := eight (jsumS l.length r) (Nat.le_of_eq rfl)
            obtain rfl : l' = [] := by
              have := congrArg List.length hl'
              rw [jsumS_len] at this
              simpa using this
            rw [hl'] at CSG
            have HL' := Lib.hid hl'
            have HRD := Lib.hid (RR.out wr (Upd.refl NoF wr) (some ⟨g, o + (a + 12), none⟩) (c0 - (a + 12)) (by omega) (by unfold maxLen; omega) (fun h => by first | rfl | omega))
            have HONE := Lib.hid (bytes_oneCell r)
            clear hl'
            go_wp2_with fail
            refine CU.out.mono ?_
            rintro e w' ⟨rfl, rfl⟩
            go_wp2_with (at_builtin; refine wpList_append_new _ rfl (.tmp 35) (.tmp 44) 27 rfl 5 i1 _ 1 1 Try.underlying27 hi1 hy0 hy1 hy2 rfl (.slice (some ⟨wr.heap.size, 0, none⟩) 0 0) rfl (Own.fresh wr _ _) (.slice (some ⟨g, o + (a + 12), none⟩) n (c0 - (a + 12))) n (r.map byteV) rfl (by have h := HRD.out; rw [HRL.out] at h; exact h.keep ((Upd.refl NoF wr).alloc _)) HONE.out (by unfold maxLen; omega) (by omega) ?_; intro A4 c4 w4 hown4 hupd4 hnew4; have O4 := Lib.hid hown4; have U4 := Lib.hid (show Upd NoF wr w4 from ((Upd.refl NoF wr).alloc _).trans hupd4 (fun k hk e => by simp [OwnB, Value.ownBlock] at e; omega)); have N4 := Lib.hid (show ∀ k, OwnB (.slice A4 n c4) k → wr.heap.size ≤ k from fun k hk => by rcases hnew4 k hk with e | e; (simp [OwnB, Value.ownBlock] at e; omega); (simp at e; omega)); clear hown4 hupd4 hnew4)
            refine (CSG.out w4 A4 c4 O4.out).mono ?_
            rintro e w1 ⟨rfl, hu1⟩
            have U1 := Lib.hid (U4.out.trans hu1 (fun _ _ h => h))
            have O1 := Lib.hid (O4.out.upd hu1 (fun _ _ h => h))
            clear hu1
            go_wp2
            obtain ⟨w2, hw2⟩ : ∃ w2, w2 = w1.alloc (.cells #[byteV b0, byteV b1, byteV b2, byteV b3, byteV b4, byteV b5, byteV b6, byteV b7] 95) := ⟨_, rfl⟩
            rw [← hw2]
            have B2 := Lib.hid (show Blk w2 w1.heap.size 95 #[byteV b0, byteV b1, byteV b2, byteV b3, byteV b4, byteV b5, byteV b6, byteV b7] ∧ Upd NoF wr w2 ∧ Own w2 5 1 (.slice A4 n c4) n (r.map byteV) from by
              rw [hw2]
              exact ⟨Blk.new w1 _ _, U1.out.alloc _, O1.out.upd ((Upd.refl NoF w1).alloc _) (fun _ _ h => h)⟩)
            obtain ⟨s8, hs8⟩ : ∃ s8, (bs.drop (a + 4)).take 8 = s8 := ⟨_, rfl⟩
            have hs8l : s8.length = 8 := by rw [← hs8]; simp; omega
            have hstr1 : ∀ q, (convert 27 9 (.slice (some ⟨g, o + (a + 4), none⟩) 8 (c0 - (a + 4)))).run Try.prog (w2.drewN q) = .ok (strV s8) (w2.drewN q) := fun q => run_str (by have := RS.out _ (B2.out.2.1.drewN q); rw [hs8] at this; exact this)
            have hstr2 : ∀ q, (convert 27 9 (.slice (some ⟨w1.heap.size, 0, none⟩) 8 8)).run Try.prog (w2.drewN q) = .ok (strV [b0, b1, b2, b3, b4, b5, b6, b7]) (w2.drewN q) := fun q => run_str (bs := [b0, b1, b2, b3, b4, b5, b6, b7]) (Rd.of_blk (B2.out.1.drewN q) (by simp) (by unfold maxLen; omega) rfl (by intro j u hu; simpa using hu))
            have HS8 := Lib.hid hs8
            have p1 : IntKind.i64.wrap ((a : Int) + 4) = (a : Int) + 4 := IntWalk.i64_in _ (by omega)
            have p2 : IntKind.i64.wrap ((a : Int) + 12) = (a : Int) + 12 := IntWalk.i64_in _ (by omega)
            have p3 : ((a : Int) + 4).toNat = a + 4 := by omega
            have p4 : (0 : Int) ≤ (a : Int) + 4 := by omega
            have p5 : (a : Int) + 4 ≤ (a : Int) + 12 := by omega
            have p6 : (a : Int) + 12 ≤ (c0 : Int) := by omega
            have p7 : a + 12 - (a + 4) = 8 := by omega
            have p8 : ¬ c0 = a + 4 := by omega
            clear hw2 hs8 hs8l
            by_cases hq : s8 = [b0, b1, b2, b3, b4, b5, b6, b7]
            · subst hq
              have hs : parseStep bs a l.length = some (r, a + 12 + n) := by
                have h1 := ps_yes (bs := bs) (a := a) (idx := l.length) (by omega) (by rw [HN.out]; exact ⟨by omega, by omega⟩) (by rw [HN.out, HRR.out, HL'.out]; exact HS8.out)
                rw [HN.out, HRR.out] at h1
                exact h1
              have HS := Lib.hid hs
              clear hs
              go_quiet (fail)
              clear p1 p2 hstr1 hstr2
              obtain ⟨w3, hw3⟩ : ∃ w3, w3 = w2.drewN nq := ⟨_, rfl⟩
              rw [← hw3]
              have U3 := Lib.hid (show Upd NoF wr w3 ∧ Own w3 5 1 (.slice A4 n c4) n (r.map byteV) from by rw [hw3]; exact ⟨B2.out.2.1.drewN nq, B2.out.2.2.upd ((Upd.refl NoF w2).drewN nq) (fun _ _ h => h)⟩)
              clear hw3
              go_wp2_with (at_builtin; refine wpList_append_to _ rfl (.tmp 62) (.tmp 64) 22 rfl 27 i0 _ 1 24 Try.underlying22 hi0 hz0 hz1 hz2 rfl (.slice A l.length c) l.length vs rfl (HV.out.1.upd (U3.out.1.alloc _) (fun _ _ h => h)) (.slice (some ⟨w3.heap.size, 0, none⟩) 1 1) 1 [.slice A4 n c4] rfl (Rd.of_blk (Blk.new w3 _ _) (by omega) (by unfold maxLen; omega) rfl (by intro j u hu; cases j with | zero => simpa using hu | succ j => simp at hu)) (by simp [Value.oneCell']) (by unfold maxLen; omega) (by omega) ?_; intro A5 c5 w5 hown5 hupd5 hnew5; have O5 := Lib.hid hown5; have U5 := Lib.hid hupd5; have N5 := Lib.hid hnew5; clear hown5 hupd5 hnew5)
              go_roundw
              case rel =>
                have hrl := HRL.out
                have ho5 := O5.out
                have hu4 := U3.out.2
                rw [← hrl] at ho5 hu4
                obtain ⟨g1, g2⟩ := RecsV.push HV.out (U3.out.1.alloc _) (hu4.upd ((Upd.refl NoF w3).alloc _) (fun _ _ h => h)) ho5 U5.out N5.out
                rw [hrl] at g1 g2
                have hwz := HU.out.size
                have hu3 := U3.out.1.size
                refine ⟨l ++ [r], a + 12 + n, A5, c5, vs ++ [.slice A4 n c4], by simp, by go_num, HP.out.next HS.out, by rw [List.length_append, List.length_singleton]; exact g1, fun k hk => ?_, (HU.out.trans (U3.out.1.alloc _) (fun _ _ h => h)).trans U5.out (fun k hk e => by have := HF.out k (.inl e); omega)⟩
                rw [List.length_append, List.length_singleton] at hk
                rcases g2 k hk with e | e | e
                · exact HF.out k e
                · have := N4.out k e; omega
                · simp at e; omega
              case measure => simp [intOf]; omega
            · have hq1 : (s8 == [b0, b1, b2, b3, b4, b5, b6, b7]) = false := by simpa using hq
              have hq2 : (s8 != [b0, b1, b2, b3, b4, b5, b6, b7]) = true := by simpa using hq
              have HQ := Lib.hid hq
              clear hq
              go_quiet (fail)
              clear p1 p2 hstr1 hstr2
              go_wp2
              go_ret2
              refine DONE.out (ps_sum ?_) _ (B2.out.2.1.drewN nq)
              rw [HN.out, HRR.out, HL'.out, HS8.out]
              exact HQ.out
        · have t2 : decide ((bs.length : Int) - (a : Int) - 12 < (n : Int)) = true := by simp; omega
          go_wp2_with fail
          refine CU.out.mono ?_
          rintro e w' ⟨rfl, rfl⟩
          go_wp2
          go_ret2
          exact DONE.out (ps_big (by rw [HN.out]; omega)) _ (Upd.refl _ _)
    · have t0 : decide ((12 : Int) ≤ (bs.length : Int) - (a : Int)) = false := by simp; omega
      go_wp2
      go_ret2
      exact DONE.out (ps_short (by omega)) _ (Upd.refl _ _)
end
end Go.Proofs.Ytmapijpphnlcmaa
