/- Signed votes of the reference, by abstract values: Encode, VoteName, Verify, verify, Less. Conditions: sizes. Sorted votes of the reference, by abstract values. Conditions: sizes. Conflicts of the reference, by abstract values: Votes, SameKey, Conflict, Bit. Conditions: sizes. Maps in regions: rules. No condition. Votes by what two in conflict have in common: the map of evidence.Find. No condition. Bytes as strings, and how strings compare. No condition. -/
import Derived.Test.YthknobbilcolnaaGreatJn19
import Derived.Test.YthknobbilcolnaaGreatJn16
import Derived.Test.YthknobbilcolnaaGreatJn18
import Derived.Test.YthknobbilcolnaaGreatJn15
import Derived.Test.YthknobbilcolnaaGreatJn14
import Derived.Test.YthknobbilcolnaaGreatJn11
import Derived.Laws.Strings
namespace Go.Proofs.YthknobbilcolnaaGreat
section
open Go.RowKit
set_option maxRecDepth 10000
attribute [-simp] List.map_take List.map_drop UInt8.ofNat_add List.map_flatten

set_option maxHeartbeats 4000000 in
/-- Encode of a valid vote. -/
theorem r6Encode_ok (v : VoteS) (h : v.Fit) (hv : validB v = true) : PCall Tryz.prog 213 [vA v] [] (fun x _ => Bd 0 x ∧ x = .tup [bytesA (encV v), .c (.bool true)]) := by
  have hV := r6Valid_any v h
  rw [hv] at hV
  have hl := vC_len h
  have ht := take_vC h
  obtain ⟨-, -, -, -, -, -, p8, x8⟩ := h
  refine PCall.viewR (PCall.enter mixed Tryz.func213 rfl Tryz.ntmps213 Tryz.results213 (by simp) (by kernel_rfl) ?_)
  simp [List.replicate, hl, ht, agg_vC]
  refine hV.use (by simp) ?_
  have hv' := validB_true.1 hv
  simp (decide := true) [vC, p8, x8, byteZ_A]
  have e : List.take 15 (List.take 7 (flat [byteA (byteZ v.kind), byteA (byteZ v.slot), byteA (byteZ v.round), byteA (byteZ v.choice), byteA (byteZ v.signer), byteA (byteZ (v.support / 256)), byteA (byteZ v.support)]) ++ List.map byteA v.parent) ++ List.map byteA (List.take 8 v.value) = (encV v).map byteA := by
    rw [show List.take 7 (flat [byteA (byteZ v.kind), byteA (byteZ v.slot), byteA (byteZ v.round), byteA (byteZ v.choice), byteA (byteZ v.signer), byteA (byteZ (v.support / 256)), byteA (byteZ v.support)]) = [byteA (byteZ v.kind), byteA (byteZ v.slot), byteA (byteZ v.round), byteA (byteZ v.choice), byteA (byteZ v.signer), byteA (byteZ (v.support / 256)), byteA (byteZ v.support)] from rfl, List.take_of_length_le (i := 15) (by simp [p8]), List.take_of_length_le (i := 8) (by omega)]
    simp [encV, beB_two, byteZ]
  rw [e]
  exact ⟨_, View.fz1 (id := 3) rfl (Fz.tupP ⟨Fz_bytes (encV_len p8 x8), .same _, trivial⟩)⟩
/-- .. of one that is not valid. -/
theorem r6Encode_no (v : VoteS) (h : v.Fit) (hv : validB v = false) : PCall Tryz.prog 213 [vA v] [] (fun x _ => Bd 0 x ∧ x = .tup [.c (.slice none 0 0), .c (.bool false)]) := by
  have hV := r6Valid_any v h
  rw [hv] at hV
  have hl := vC_len h
  have ht := take_vC h
  refine PCall.enter mixed Tryz.func213 rfl Tryz.ntmps213 Tryz.results213 (by simp) (by kernel_rfl) ?_
  simp [List.replicate, hl, ht, agg_vC]
  refine hV.use (by simp) ?_
  simp
/-- VoteName. -/
theorem r6VoteName_any (v : VoteS) (h : v.Fit) : PCall Tryz.prog 139 [vA v] [] (fun x _ => Bd 0 x ∧ x = nmA (voteNm v)) := by
  have hl := vC_len h
  have ht := take_vC h
  refine PCall.enter mixed Tryz.func139 rfl Tryz.ntmps139 Tryz.results139 (by simp) (by kernel_rfl) ?_
  simp [List.replicate, hl, ht, agg_vC]
  by_cases hv : validB v = true
  · refine (r6Encode_ok v h hv).use (by simp) ?_
    simp
    refine (r1Tagged_any 64 _ (by rw [encV_len h.parent h.value]; decide)).use (by simp) ?_
    simp [voteNm, hv, List.take_of_length_le]
  · rw [Bool.not_eq_true] at hv
    refine (r6Encode_no v h hv).use (by simp) ?_
    simp [voteNm, hv, z8A, z8B]
    rfl
set_option maxHeartbeats 1000000 in
/-- Verify. -/
theorem r6Verify_any (k : List UInt8) (s : SignedS) (hk : k.length = 8) (h : s.vote.Fit) (hs : s.sig.length ≤ 100000) : PCall Tryz.prog 93 [nmA k, sA s] [] (fun x _ => Bd 0 x ∧ x = .c (.bool (sgV k s))) := by
  have hl := sC_len h
  have ht := take_sv h
  have hg := get_sig h
  refine PCall.enter mixed Tryz.func93 rfl Tryz.ntmps93 Tryz.results93 (by simp) (by kernel_rfl) ?_
  simp (decide := true) [List.replicate, hl, ht, agg_vC]
  have hn := voteNm_len s.vote
  refine nextDC.use (r6Valid_any s.vote h) (by simp) ?_
  by_cases hv : validB s.vote = true
  · rw [hv]
    simp [hl, ht, hk, agg_vC, List.take_of_length_le]
    refine nextDC.use (r6VoteName_any s.vote h) (by simp) ?_
    simp [hl, hg]
    refine nextDC.use (r1Verify_any k _ s.sig hk hn hs) (by simp) ?_
    simp [sgV, hv]
  · rw [Bool.not_eq_true] at hv
    rw [hv]
    simp [sgV, hv]
set_option maxHeartbeats 1000000 in
/-- verify. -/
theorem r6verify_any (K : List (List UInt8)) (s : SignedS) (hK : ∀ k ∈ K, k.length = 8) (_hKl : K.length ≤ 100000) (h : s.vote.Fit) (hs : s.sig.length ≤ 100000) : PCall Tryz.prog 50 [namesA K, sA s] [] (fun x _ => Bd 0 x ∧ x = .c (.bool (vfy K s))) := by
  have hl := sC_len h
  have ht := take_sC h
  have hg := get_signer s
  refine PCall.enter mixed Tryz.func50 rfl Tryz.ntmps50 Tryz.results50 (by simp) (by kernel_rfl) ?_
  by_cases h0 : 0 ≤ s.vote.signer
  · obtain ⟨i, hi⟩ := Int.eq_ofNat_of_zero_le h0
    by_cases h1 : i < K.length
    · have hk8 := hK K[i] (List.getElem_mem h1)
      have hv : vfy K s = sgV K[i] s := by simp [vfy, hi, h1]
      have h1' : (i : Int) < K.length := by omega
      rw [hv]
      simp (decide := true) [List.replicate, hl, ht, hg, hi, h1, h1', hk8, agg_sC]
      refine nextDC.use (r6Verify_any K[i] s hk8 h hs) (by simp) ?_
      simp
    · have hv : vfy K s = false := by simp [vfy, hi, h1]
      have h1' : ¬ (i : Int) < K.length := by omega
      simp (decide := true) [List.replicate, hl, hg, hi, h1', hv]
  · have hv : vfy K s = false := by simp [vfy, h0]
    simp (decide := true) [List.replicate, hl, hg, h0, hv]
set_option maxHeartbeats 1000000 in
/-- Less. -/
theorem r6Less_any (a b : VoteS) (ha : a.Fit) (hb : b.Fit) : PCall Tryz.prog 94 [vA a, vA b] [] (fun x _ => Bd 0 x ∧ x = .c (.bool (lessV a b))) := by
  have a8 := ha.parent
  have b8 := hb.parent
  have ax := ha.value
  have bx := hb.value
  refine PCall.enter mixed Tryz.func94 rfl Tryz.ntmps94 Tryz.results94 (by simp) (by kernel_rfl) ?_
  simp [List.replicate, vA, vC, a8, b8, ax, bx]
  refine ⟨fun hne => (r1Less_any _ _ a8 b8).use (by simp) ?_, fun he => ?_⟩
  · simp [lessV, hne, lessN]
  refine W_loop (fun n env H => ∃ i : Nat, n = 5 - i ∧ i ≤ 5 ∧ (∀ j < i, ([a.slot, a.round, a.kind, a.signer, a.choice] : List Int)[j]? = [b.slot, b.round, b.kind, b.signer, b.choice][j]?) ∧ env = [.any, .any, .ptr 0 0, .ptr 1 0, .c (.bool false), .ptr 2 0, .ptr 3 0, .c (.int .i64 i)] ++ List.replicate 65 .any ∧ H = [.row 1000036 false (vC a), .row 1000036 false (vC b), .row 1000233 false [.c (.int .i64 a.slot), .c (.int .i64 a.round), .c (.int .i64 a.kind), .c (.int .i64 a.signer), .c (.int .i64 a.choice)], .row 1000233 false [.c (.int .i64 b.slot), .c (.int .i64 b.round), .c (.int .i64 b.kind), .c (.int .i64 b.signer), .c (.int .i64 b.choice)]]) 5 ?_ ?_
  · refine ⟨_, _, ?_, 0, by simp, by simp, by simp, rfl, rfl⟩
    refine View.renum [0, 1, 2, 3] (by simp) (by simp [vC, or_imp, forall_and]) ?_
    simp [List.replicate]
  · rintro n env H ⟨i, rfl, hi, heq, rfl, rfl⟩
    have e0 : 0 < i → a.slot = b.slot := fun h => by simpa using heq 0 h
    have e1 : 1 < i → a.round = b.round := fun h => by simpa using heq 1 h
    have e2 : 2 < i → a.kind = b.kind := fun h => by simpa using heq 2 h
    have e3 : 3 < i → a.signer = b.signer := fun h => by simpa using heq 3 h
    have e4 : 4 < i → a.choice = b.choice := fun h => by simpa using heq 4 h
    rcases (show i = 5 ∨ i = 0 ∨ i = 1 ∨ i = 2 ∨ i = 3 ∨ i = 4 by omega) with rfl | hi4
    · simp at e0 e1 e2 e3 e4
      simp [List.replicate, vC, a8, b8, ax, bx, List.take_of_length_le]
      refine ⟨fun hne => (r1Less_any _ _ ax bx).use (by simp) ?_, fun he2 => ?_⟩
      · simp [lessV, he, e0, e1, e2, e3, e4, hne, lessN]
      · simp [lessV, he, e0, e1, e2, e3, e4, he2]
    · rcases hi4 with rfl | rfl | rfl | rfl | rfl
      all_goals
        simp at e0 e1 e2 e3 e4
        simp (decide := true) [List.replicate]
      · refine ⟨fun hne => ?_, fun hee => ⟨4, by decide, _, _, View.renum [0, 1, 2, 3] (by simp) (by simp [vC, or_imp, forall_and]) ?_, 1, rfl, by decide, fun j hj => ?_, rfl, rfl⟩⟩
        · simp [lessV, he, hne]
        · simp
        · rcases Nat.lt_or_eq_of_le (Nat.le_of_lt_succ hj) with hj | rfl
          · exact heq j hj
          · simp [hee]
      · refine ⟨fun hne => ?_, fun hee => ⟨3, by decide, _, _, View.renum [0, 1, 2, 3] (by simp) (by simp [vC, or_imp, forall_and]) ?_, 2, rfl, by decide, fun j hj => ?_, rfl, rfl⟩⟩
        · simp [lessV, he, e0, hne]
        · simp
        · rcases Nat.lt_or_eq_of_le (Nat.le_of_lt_succ hj) with hj | rfl
          · exact heq j hj
          · simp [hee]
      · refine ⟨fun hne => ?_, fun hee => ⟨2, by decide, _, _, View.renum [0, 1, 2, 3] (by simp) (by simp [vC, or_imp, forall_and]) ?_, 3, rfl, by decide, fun j hj => ?_, rfl, rfl⟩⟩
        · simp [lessV, he, e0, e1, hne]
        · simp
        · rcases Nat.lt_or_eq_of_le (Nat.le_of_lt_succ hj) with hj | rfl
          · exact heq j hj
          · simp [hee]
      · refine ⟨fun hne => ?_, fun hee => ⟨1, by decide, _, _, View.renum [0, 1, 2, 3] (by simp) (by simp [vC, or_imp, forall_and]) ?_, 4, rfl, by decide, fun j hj => ?_, rfl, rfl⟩⟩
        · simp [lessV, he, e0, e1, e2, hne]
        · simp
        · rcases Nat.lt_or_eq_of_le (Nat.le_of_lt_succ hj) with hj | rfl
          · exact heq j hj
          · simp [hee]
      · refine ⟨fun hne => ?_, fun hee => ⟨_, _, View.renum [0, 1, 2, 3] (by simp) (by simp [vC, or_imp, forall_and]) ?_, 5, rfl, by decide, fun j hj => ?_, rfl, rfl⟩⟩
        · simp [lessV, he, e0, e1, e2, e3, hne]
        · simp
        · rcases Nat.lt_or_eq_of_le (Nat.le_of_lt_succ hj) with hj | rfl
          · exact heq j hj
          · simp [hee]
end

section
open Go.RowKit
set_option maxRecDepth 10000
attribute [-simp] List.map_take List.map_drop UInt8.ofNat_add List.map_flatten

/-- Votes in ascending order, each once. -/
def srtV (l : List VoteS) : List VoteS := (canS (l.map fun v => ⟨v, []⟩)).map (·.vote)
theorem srtV_is {l : List VoteS} (hf : FitsV l) : IsVt l (srtV l) := by
  have h := can_vt (canS_is (L := l.map fun v => ⟨v, []⟩) (fun s hs => by obtain ⟨v, hv, rfl⟩ := List.mem_map.1 hs; exact hf v hv))
  rw [List.map_map] at h
  have e : l.map ((fun x : SignedS => x.vote) ∘ fun v => ⟨v, []⟩) = l := by simp [Function.comp_def]
  rwa [e] at h
theorem srtV_fit {l : List VoteS} (hf : FitsV l) : FitsV (srtV l) := fun x hx => hf x (((srtV_is hf).mem x).1 hx)
theorem srtV_len (l : List VoteS) : (srtV l).length ≤ l.length := by
  have := canS_len (l.map fun v => (⟨v, []⟩ : SignedS))
  simpa [srtV] using this
theorem flV_len {C : List VoteS} (hf : FitsV C) : (flat (C.map vA)).length = C.length * 22 := by
  rw [flat_lenK (k := 22) (fun e he => by obtain ⟨x, h, rfl⟩ := List.mem_map.1 he; exact vC_len (hf x h)), List.length_map]
theorem flV_bd (C : List VoteS) : ∀ a ∈ flat (C.map vA), Bd 0 a := Bd.flat (fun e he => by obtain ⟨s, -, rfl⟩ := List.mem_map.1 he; exact bd_vA 0 s)
theorem flV_snoc (o : List VoteS) (z : VoteS) : flat ((o ++ [z]).map vA) = flat (o.map vA) ++ vC z := by simp [flat]
def NextW (l : List VoteS) (i : Nat) : Prop := ∀ j x y, j < i → l[j]? = some x → l[j + 1]? = some y → lessV x y = true
abbrev rsE (l : List VoteS) (i : Nat) (rd : Bool) : List AV := [.ls 22 (l.map vA), .any, .any, .c (.bool rd), .c (.int .i64 i)] ++ List.replicate 96 .any
inductive RsI (l : List VoteS) : Nat → List AV → List AObj → Prop
  | go (i : Nat) (hc : i + 1 < l.length) (s t : VoteS) (hx : l[i]? = some s) (hy : l[i + 1]? = some t) (h1 : NextW l i) (m : Nat) (hm : m = l.length - i) : RsI l m (rsE l i true) []
  | no (i : Nat) (hc : i + 1 < l.length) (m : Nat) (hm : m = l.length - i) : RsI l m (rsE l i false) []
  | up (i : Nat) (hc : l.length ≤ i + 1) (hi : i ≤ l.length) (h1 : NextW l i) (m : Nat) (hm : m = l.length - i) : RsI l m (rsE l i true) []
  | un (i : Nat) (hc : l.length ≤ i + 1) (hi : i ≤ l.length) (h2 : 2 ≤ l.length) (m : Nat) (hm : m = l.length - i) : RsI l m (rsE l i false) []
theorem RsI.of {l : List VoteS} {i : Nat} {rd : Bool} (hi : i ≤ l.length) (h1 : rd = true → NextW l i) (h2 : rd = false → 2 ≤ l.length) {m : Nat} (hm : m = l.length - i) : RsI l m (rsE l i rd) [] := by
  rcases Nat.lt_or_ge (i + 1) l.length with hc | hc
  · cases rd with
    | true => exact .go i hc _ _ (List.getElem?_eq_getElem (by omega)) (List.getElem?_eq_getElem hc) (h1 rfl) m hm
    | false => exact .no i hc m hm
  · cases rd with
    | true => exact .up i hc hi (h1 rfl) m hm
    | false => exact .un i hc hi (h2 rfl) m hm
abbrev rtE (a b o : List VoteS) : List AV := [.any, .any, .any, .any, .any, .ls 22 (a.map vA), .ls 22 (b.map vA), .own 0 0 o.length 22] ++ List.replicate 93 .any
structure RtC (C a b o : List VoteS) : Prop where
  h : o ++ mrgV a b = C
  fa : FitsV a
  fb : FitsV b
  fo : FitsV o
  len : o.length + a.length + b.length ≤ 1000
inductive RtI (C : List VoteS) : Nat → List AV → List AObj → Prop
  | nn (o : List VoteS) (h : RtC C [] [] o) : RtI C 0 (rtE [] [] o) [.row 36 false (flat (o.map vA))]
  | an (y : VoteS) (b o : List VoteS) (h : RtC C [] (y :: b) o) : RtI C (b.length + 1) (rtE [] (y :: b) o) [.row 36 false (flat (o.map vA))]
  | bn (x : VoteS) (a o : List VoteS) (h : RtC C (x :: a) [] o) : RtI C (a.length + 1) (rtE (x :: a) [] o) [.row 36 false (flat (o.map vA))]
  | ab (x y : VoteS) (a b o : List VoteS) (h : RtC C (x :: a) (y :: b) o) : RtI C (a.length + 1 + (b.length + 1)) (rtE (x :: a) (y :: b) o) [.row 36 false (flat (o.map vA))]
theorem RtI.of {C : List VoteS} : ∀ {a b o : List VoteS}, RtC C a b o → ∀ {m : Nat}, m = a.length + b.length → RtI C m (rtE a b o) [.row 36 false (flat (o.map vA))]
  | [], [], o, h, _, hm => by subst hm; exact .nn o h
  | [], y :: b, o, h, _, hm => by subst hm; rw [List.length_nil, Nat.zero_add]; exact .an y b o h
  | x :: a, [], o, h, _, hm => by subst hm; exact .bn x a o h
  | x :: a, y :: b, o, h, _, hm => by subst hm; exact .ab x y a b o h
theorem mrgV_nil (a : List VoteS) : mrgV a [] = a := by cases a <;> simp [mrgV]
set_option maxHeartbeats 2000000 in
/-- Sorted. -/
theorem r6Sorted_step (l : List VoteS) (hq : l.length ≤ 1000) (hf : FitsV l) (ih : ∀ l' : List VoteS, l'.length < l.length → FitsV l' → PCall Tryz.prog 52 [.ls 22 (l'.map vA)] [] (fun x _ => Bd 0 x ∧ x = .ls 22 ((srtV l').map vA))) : PCall Tryz.prog 52 [.ls 22 (l.map vA)] [] (fun x _ => Bd 0 x ∧ x = .ls 22 ((srtV l).map vA)) := by
  refine PCall.viewR (PCall.enter mixed Tryz.func52 rfl Tryz.ntmps52 Tryz.results52 (by simp) (by kernel_rfl) ?_)
  simp [List.replicate]
  refine W_loop (RsI l) l.length ?_ ?_
  · exact ⟨_, _, View.renum [] (by simp) (by simp) (by simp [List.replicate]), .of (i := 0) (rd := true) (by omega) (fun _ j x y h => by omega) (by simp) rfl⟩
  rintro _ _ _ (⟨i, hc, s, t, hx, hy, h1, m, hm⟩ | ⟨i, hc, m, hm⟩ | ⟨i, hc, hi, h1, m, hm⟩ | ⟨i, hc, hi, h2, m, hm⟩)
  · have hcz : (i : Int) + 1 < l.length := by omega
    have hfs := hf s (List.mem_of_getElem? hx)
    have hft := hf t (List.mem_of_getElem? hy)
    have a1 := vC_len hfs
    have a4 := take_vC hfs
    have b1 := vC_len hft
    have b4 := take_vC hft
    have ez : ((i : Int) + 1).toNat = i + 1 := by omega
    simp [List.replicate, hcz, -W_cond]
    refine ⟨by omega, ?_⟩
    refine W_ifT (by simp) ?_
    simp (decide := true) [hx, hy, ez, a1, a4, b1, b4, agg_vC]
    refine ⟨by omega, by omega, nextDC.use (r6Less_any s t hfs hft) (by simp) ?_⟩
    simp (decide := true)
    refine ⟨by omega, _, ?_, _, _, View.renum [] (by simp) (by simp) ?_, RsI.of (i := i + 1) (rd := lessV s t) (by omega) (fun h j x y hj h3 h4 => ?_) (fun _ => by omega) rfl⟩
    · omega
    · simp [List.replicate]
    · rcases Nat.lt_or_eq_of_le (Nat.le_of_lt_succ hj) with hj | rfl
      · exact h1 j x y hj h3 h4
      · rw [hx] at h3
        rw [hy] at h4
        cases h3
        cases h4
        exact h
  · have hcz : (i : Int) + 1 < l.length := by omega
    have h2 : 2 ≤ l.length := by omega
    simp [List.replicate, hcz, -W_cond]
    refine ⟨by omega, ?_⟩
    refine W_ifF (by simp) ?_
    simp [-W_cond]
    refine W_ifF (by simp) ?_
    obtain ⟨md, hmd⟩ : ∃ md, l.length / 2 = md := ⟨_, rfl⟩
    have hw : IntKind.i64.wrap ((l.length : Int) / 2) = (md : Int) := by rw [inr64_wrap (by simp [inr64]; omega)]; omega
    have hfa : FitsV (l.take md) := fun x hx => hf x (List.mem_of_mem_take hx)
    have hfb : FitsV (l.drop md) := fun x hx => hf x (List.mem_of_mem_drop hx)
    have hca := srtV_is hfa
    have hcb := srtV_is hfb
    have hla := srtV_len (l.take md)
    have hlb := srtV_len (l.drop md)
    have hC : mrgV (srtV (l.take md)) (srtV (l.drop md)) = srtV l := by
      have := mrg_vt (L := l.take md) (M := l.drop md) (by rw [List.take_append_drop]; exact hf) hca hcb
      rw [List.take_append_drop] at this
      exact vt_unique hf this (srtV_is hf)
    rw [List.length_take] at hla
    rw [List.length_drop] at hlb
    simp (decide := true) [hw]
    refine ⟨by omega, nextDC.use (ih (l.take md) (by rw [List.length_take]; omega) hfa) (by simp) ?_⟩
    simp (decide := true) [hw]
    refine ⟨by omega, nextDC.use (ih (l.drop md) (by rw [List.length_drop]; omega) hfb) (by simp) ?_⟩
    simp (decide := true)
    refine W_loop (RtI (srtV l)) ((srtV (l.take md)).length + (srtV (l.drop md)).length) ?_ ?_
    · refine ⟨_, _, ?_, RtI.of (a := srtV (l.take md)) (b := srtV (l.drop md)) (o := []) ⟨by simpa using hC, srtV_fit hfa, srtV_fit hfb, by simp [FitsV], by simp; omega⟩ rfl⟩
      exact View.virt (H := []) 36 rfl (Pw.at_ (by simp [List.replicate])).2
    rintro _ _ _ (⟨o, h⟩ | ⟨y, b, o, h⟩ | ⟨x, a, o, h⟩ | ⟨x, y, a, b, o, h⟩)
    · have hfl := flV_len h.fo
      simp [List.replicate, -W_cond]
      refine W_ifF (by simp) ?_
      simp
      have ho : o = srtV l := by have := h.h; simpa [mrgV] using this
      rw [← ho]
      refine ⟨_, View.fz1 (id := 0) rfl (.own (fun e he => by obtain ⟨x, h2, rfl⟩ := List.mem_map.1 he; exact vC_len (h.fo x h2)) (by simp) ?_)⟩
      rw [List.drop_zero, List.take_of_length_le (Nat.le_of_eq hfl)]
    · have hfl := flV_len h.fo
      have hfy := h.fb y (List.mem_cons_self ..)
      have b1 := vC_len hfy
      have b4 := take_vC hfy
      have hl := h.len
      simp at hl
      have nb : ¬ (b.length : Int) + 1 = 0 := by omega
      simp [List.replicate, -W_cond]
      refine W_ifT (by simp) ?_
      simp (decide := true) [nb, -W_cond]
      refine W_ifF (by simp) ?_
      simp (decide := true) [-W_cond]
      refine W_ifT (by simp) ?_
      simp (decide := true) [b1, b4, agg_vC, hfl]
      have hn : RtC (srtV l) [] b (o ++ [y]) := ⟨by have := h.h; simpa [mrgV] using this, h.fa, fun w hw => h.fb w (List.mem_cons_of_mem _ hw), fun w hw => (List.mem_append.1 hw).elim (h.fo w) (fun e => by rw [List.mem_singleton.1 e]; exact hfy), by simp; omega⟩
      have := RtI.of hn rfl
      rw [flV_snoc] at this
      refine ⟨by omega, by omega, _, ?_, _, _, View.renum [2] (by simp) ?_ ?_, this⟩
      · simp <;> omega
      · simp [List.take_of_length_le (Nat.le_of_eq hfl)]
        rintro w (e | e)
        · exact flV_bd o w e
        · exact vC_bd y w e
      · simp [List.replicate]
    · have hfl := flV_len h.fo
      have hfx := h.fa x (List.mem_cons_self ..)
      have a1 := vC_len hfx
      have a4 := take_vC hfx
      have hl := h.len
      simp at hl
      simp [List.replicate, -W_cond]
      refine W_ifT (by simp) ?_
      simp (decide := true) [-W_cond]
      refine W_ifT (by simp) ?_
      simp (decide := true) [a1, a4, agg_vC, hfl]
      have hn : RtC (srtV l) a [] (o ++ [x]) := ⟨by have := h.h; simpa [mrgV, mrgV_nil] using this, fun w hw => h.fa w (List.mem_cons_of_mem _ hw), h.fb, fun w hw => (List.mem_append.1 hw).elim (h.fo w) (fun e => by rw [List.mem_singleton.1 e]; exact hfx), by simp; omega⟩
      have := RtI.of hn rfl
      rw [flV_snoc] at this
      refine ⟨by omega, by omega, _, ?_, _, _, View.renum [2] (by simp) ?_ ?_, this⟩
      · simp <;> omega
      · simp [List.take_of_length_le (Nat.le_of_eq hfl)]
        rintro w (e | e)
        · exact flV_bd o w e
        · exact vC_bd x w e
      · simp [List.replicate]
    · have hfl := flV_len h.fo
      have hfx := h.fa x (List.mem_cons_self ..)
      have hfy := h.fb y (List.mem_cons_self ..)
      have a1 := vC_len hfx
      have a4 := take_vC hfx
      have b1 := vC_len hfy
      have b4 := take_vC hfy
      have hl := h.len
      simp at hl
      have nb : ¬ (b.length : Int) + 1 = 0 := by omega
      have na : ¬ (a.length : Int) + 1 = 0 := by omega
      simp [List.replicate, -W_cond]
      refine W_ifT (by simp) ?_
      simp (decide := true) [a1, a4, b1, b4, agg_vC, nb, -W_cond]
      refine nextDC.use (r6Less_any x y hfx hfy) (by simp) ?_
      by_cases c1 : lessV x y = true
      · simp (decide := true) [c1, -W_cond]
        refine W_ifT (by simp) ?_
        simp (decide := true) [a1, a4, agg_vC, hfl]
        have hn : RtC (srtV l) a (y :: b) (o ++ [x]) := ⟨by have := h.h; rw [mrgV, if_pos c1] at this; simpa using this, fun w hw => h.fa w (List.mem_cons_of_mem _ hw), h.fb, fun w hw => (List.mem_append.1 hw).elim (h.fo w) (fun e => by rw [List.mem_singleton.1 e]; exact hfx), by simp; omega⟩
        have := RtI.of hn rfl
        rw [flV_snoc] at this
        refine ⟨by omega, by omega, _, ?_, _, _, View.renum [2] (by simp) ?_ ?_, this⟩
        · simp <;> omega
        · simp [List.take_of_length_le (Nat.le_of_eq hfl)]
          rintro w (e | e)
          · exact flV_bd o w e
          · exact vC_bd x w e
        · simp [List.replicate]
      · rw [Bool.not_eq_true] at c1
        simp (decide := true) [c1, -W_cond]
        refine W_ifF (by simp) ?_
        simp (decide := true) [a1, a4, b1, b4, agg_vC, na, -W_cond]
        refine nextDC.use (r6Less_any y x hfy hfx) (by simp) ?_
        by_cases c2 : lessV y x = true
        · simp (decide := true) [c2, -W_cond]
          refine W_ifT (by simp) ?_
          simp (decide := true) [b1, b4, agg_vC, hfl]
          have hn : RtC (srtV l) (x :: a) b (o ++ [y]) := ⟨by have := h.h; rw [mrgV, if_neg (by rw [c1]; decide), if_pos c2] at this; simpa using this, h.fa, fun w hw => h.fb w (List.mem_cons_of_mem _ hw), fun w hw => (List.mem_append.1 hw).elim (h.fo w) (fun e => by rw [List.mem_singleton.1 e]; exact hfy), by simp; omega⟩
          have := RtI.of hn rfl
          rw [flV_snoc] at this
          refine ⟨by omega, by omega, _, ?_, _, _, View.renum [2] (by simp) ?_ ?_, this⟩
          · simp <;> omega
          · simp [List.take_of_length_le (Nat.le_of_eq hfl)]
            rintro w (e | e)
            · exact flV_bd o w e
            · exact vC_bd y w e
          · simp [List.replicate]
        · rw [Bool.not_eq_true] at c2
          simp (decide := true) [c2, -W_cond]
          refine W_ifF (by simp) ?_
          simp (decide := true)
          have hn : RtC (srtV l) a (y :: b) o := ⟨by have := h.h; rw [mrgV, if_neg (by rw [c1]; decide), if_neg (by rw [c2]; decide)] at this; exact this, fun w hw => h.fa w (List.mem_cons_of_mem _ hw), h.fb, h.fo, by simp; omega⟩
          exact ⟨by omega, _, by simp, _, _, View.renum [0] (by simp) (by simp; exact flV_bd o) (by simp [List.replicate]), RtI.of hn rfl⟩
  · have hcz : ¬ (i : Int) + 1 < l.length := by omega
    simp [List.replicate, hcz, -W_cond]
    refine ⟨by omega, ?_⟩
    refine W_ifF (by simp) ?_
    simp [-W_cond]
    refine W_ifT (by simp) ?_
    simp
    have hfl := flV_len hf
    have hcan : srtV l = l := vt_unique hf (srtV_is hf) (vt_of_asc (asc_of_next (fun x hx y hy z hz => lessV_trans (hf x hx) (hf y hy) (hf z hz)) (fun j x y hj hj2 => h1 j x y (by have := (List.getElem?_eq_some_iff.1 hj2).1; omega) hj hj2)))
    rw [hcan]
    refine ⟨by omega, _, View.fz1 (id := 0) rfl (.own (fun e he => by obtain ⟨x, h, rfl⟩ := List.mem_map.1 he; exact vC_len (hf x h)) (by simp) ?_)⟩
    rw [List.drop_zero, List.take_of_length_le (Nat.le_of_eq hfl)]
  · have hcz : ¬ (i : Int) + 1 < l.length := by omega
    simp [List.replicate, hcz, -W_cond]
    refine ⟨by omega, ?_⟩
    refine W_ifF (by simp) ?_
    simp [-W_cond]
    refine W_ifF (by simp) ?_
    obtain ⟨md, hmd⟩ : ∃ md, l.length / 2 = md := ⟨_, rfl⟩
    have hw : IntKind.i64.wrap ((l.length : Int) / 2) = (md : Int) := by rw [inr64_wrap (by simp [inr64]; omega)]; omega
    have hfa : FitsV (l.take md) := fun x hx => hf x (List.mem_of_mem_take hx)
    have hfb : FitsV (l.drop md) := fun x hx => hf x (List.mem_of_mem_drop hx)
    have hca := srtV_is hfa
    have hcb := srtV_is hfb
    have hla := srtV_len (l.take md)
    have hlb := srtV_len (l.drop md)
    have hC : mrgV (srtV (l.take md)) (srtV (l.drop md)) = srtV l := by
      have := mrg_vt (L := l.take md) (M := l.drop md) (by rw [List.take_append_drop]; exact hf) hca hcb
      rw [List.take_append_drop] at this
      exact vt_unique hf this (srtV_is hf)
    rw [List.length_take] at hla
    rw [List.length_drop] at hlb
    simp (decide := true) [hw]
    refine ⟨by omega, nextDC.use (ih (l.take md) (by rw [List.length_take]; omega) hfa) (by simp) ?_⟩
    simp (decide := true) [hw]
    refine ⟨by omega, nextDC.use (ih (l.drop md) (by rw [List.length_drop]; omega) hfb) (by simp) ?_⟩
    simp (decide := true)
    refine W_loop (RtI (srtV l)) ((srtV (l.take md)).length + (srtV (l.drop md)).length) ?_ ?_
    · refine ⟨_, _, ?_, RtI.of (a := srtV (l.take md)) (b := srtV (l.drop md)) (o := []) ⟨by simpa using hC, srtV_fit hfa, srtV_fit hfb, by simp [FitsV], by simp; omega⟩ rfl⟩
      exact View.virt (H := []) 36 rfl (Pw.at_ (by simp [List.replicate])).2
    rintro _ _ _ (⟨o, h⟩ | ⟨y, b, o, h⟩ | ⟨x, a, o, h⟩ | ⟨x, y, a, b, o, h⟩)
    · have hfl := flV_len h.fo
      simp [List.replicate, -W_cond]
      refine W_ifF (by simp) ?_
      simp
      have ho : o = srtV l := by have := h.h; simpa [mrgV] using this
      rw [← ho]
      refine ⟨_, View.fz1 (id := 0) rfl (.own (fun e he => by obtain ⟨x, h2, rfl⟩ := List.mem_map.1 he; exact vC_len (h.fo x h2)) (by simp) ?_)⟩
      rw [List.drop_zero, List.take_of_length_le (Nat.le_of_eq hfl)]
    · have hfl := flV_len h.fo
      have hfy := h.fb y (List.mem_cons_self ..)
      have b1 := vC_len hfy
      have b4 := take_vC hfy
      have hl := h.len
      simp at hl
      have nb : ¬ (b.length : Int) + 1 = 0 := by omega
      simp [List.replicate, -W_cond]
      refine W_ifT (by simp) ?_
      simp (decide := true) [nb, -W_cond]
      refine W_ifF (by simp) ?_
      simp (decide := true) [-W_cond]
      refine W_ifT (by simp) ?_
      simp (decide := true) [b1, b4, agg_vC, hfl]
      have hn : RtC (srtV l) [] b (o ++ [y]) := ⟨by have := h.h; simpa [mrgV] using this, h.fa, fun w hw => h.fb w (List.mem_cons_of_mem _ hw), fun w hw => (List.mem_append.1 hw).elim (h.fo w) (fun e => by rw [List.mem_singleton.1 e]; exact hfy), by simp; omega⟩
      have := RtI.of hn rfl
      rw [flV_snoc] at this
      refine ⟨by omega, by omega, _, ?_, _, _, View.renum [2] (by simp) ?_ ?_, this⟩
      · simp <;> omega
      · simp [List.take_of_length_le (Nat.le_of_eq hfl)]
        rintro w (e | e)
        · exact flV_bd o w e
        · exact vC_bd y w e
      · simp [List.replicate]
    · have hfl := flV_len h.fo
      have hfx := h.fa x (List.mem_cons_self ..)
      have a1 := vC_len hfx
      have a4 := take_vC hfx
      have hl := h.len
      simp at hl
      simp [List.replicate, -W_cond]
      refine W_ifT (by simp) ?_
      simp (decide := true) [-W_cond]
      refine W_ifT (by simp) ?_
      simp (decide := true) [a1, a4, agg_vC, hfl]
      have hn : RtC (srtV l) a [] (o ++ [x]) := ⟨by have := h.h; simpa [mrgV, mrgV_nil] using this, fun w hw => h.fa w (List.mem_cons_of_mem _ hw), h.fb, fun w hw => (List.mem_append.1 hw).elim (h.fo w) (fun e => by rw [List.mem_singleton.1 e]; exact hfx), by simp; omega⟩
      have := RtI.of hn rfl
      rw [flV_snoc] at this
      refine ⟨by omega, by omega, _, ?_, _, _, View.renum [2] (by simp) ?_ ?_, this⟩
      · simp <;> omega
      · simp [List.take_of_length_le (Nat.le_of_eq hfl)]
        rintro w (e | e)
        · exact flV_bd o w e
        · exact vC_bd x w e
      · simp [List.replicate]
    · have hfl := flV_len h.fo
      have hfx := h.fa x (List.mem_cons_self ..)
      have hfy := h.fb y (List.mem_cons_self ..)
      have a1 := vC_len hfx
      have a4 := take_vC hfx
      have b1 := vC_len hfy
      have b4 := take_vC hfy
      have hl := h.len
      simp at hl
      have nb : ¬ (b.length : Int) + 1 = 0 := by omega
      have na : ¬ (a.length : Int) + 1 = 0 := by omega
      simp [List.replicate, -W_cond]
      refine W_ifT (by simp) ?_
      simp (decide := true) [a1, a4, b1, b4, agg_vC, nb, -W_cond]
      refine nextDC.use (r6Less_any x y hfx hfy) (by simp) ?_
      by_cases c1 : lessV x y = true
      · simp (decide := true) [c1, -W_cond]
        refine W_ifT (by simp) ?_
        simp (decide := true) [a1, a4, agg_vC, hfl]
        have hn : RtC (srtV l) a (y :: b) (o ++ [x]) := ⟨by have := h.h; rw [mrgV, if_pos c1] at this; simpa using this, fun w hw => h.fa w (List.mem_cons_of_mem _ hw), h.fb, fun w hw => (List.mem_append.1 hw).elim (h.fo w) (fun e => by rw [List.mem_singleton.1 e]; exact hfx), by simp; omega⟩
        have := RtI.of hn rfl
        rw [flV_snoc] at this
        refine ⟨by omega, by omega, _, ?_, _, _, View.renum [2] (by simp) ?_ ?_, this⟩
        · simp <;> omega
        · simp [List.take_of_length_le (Nat.le_of_eq hfl)]
          rintro w (e | e)
          · exact flV_bd o w e
          · exact vC_bd x w e
        · simp [List.replicate]
      · rw [Bool.not_eq_true] at c1
        simp (decide := true) [c1, -W_cond]
        refine W_ifF (by simp) ?_
        simp (decide := true) [a1, a4, b1, b4, agg_vC, na, -W_cond]
        refine nextDC.use (r6Less_any y x hfy hfx) (by simp) ?_
        by_cases c2 : lessV y x = true
        · simp (decide := true) [c2, -W_cond]
          refine W_ifT (by simp) ?_
          simp (decide := true) [b1, b4, agg_vC, hfl]
          have hn : RtC (srtV l) (x :: a) b (o ++ [y]) := ⟨by have := h.h; rw [mrgV, if_neg (by rw [c1]; decide), if_pos c2] at this; simpa using this, h.fa, fun w hw => h.fb w (List.mem_cons_of_mem _ hw), fun w hw => (List.mem_append.1 hw).elim (h.fo w) (fun e => by rw [List.mem_singleton.1 e]; exact hfy), by simp; omega⟩
          have := RtI.of hn rfl
          rw [flV_snoc] at this
          refine ⟨by omega, by omega, _, ?_, _, _, View.renum [2] (by simp) ?_ ?_, this⟩
          · simp <;> omega
          · simp [List.take_of_length_le (Nat.le_of_eq hfl)]
            rintro w (e | e)
            · exact flV_bd o w e
            · exact vC_bd y w e
          · simp [List.replicate]
        · rw [Bool.not_eq_true] at c2
          simp (decide := true) [c2, -W_cond]
          refine W_ifF (by simp) ?_
          simp (decide := true)
          have hn : RtC (srtV l) a (y :: b) o := ⟨by have := h.h; rw [mrgV, if_neg (by rw [c1]; decide), if_neg (by rw [c2]; decide)] at this; exact this, fun w hw => h.fa w (List.mem_cons_of_mem _ hw), h.fb, h.fo, by simp; omega⟩
          exact ⟨by omega, _, by simp, _, _, View.renum [0] (by simp) (by simp; exact flV_bd o) (by simp [List.replicate]), RtI.of hn rfl⟩
/-- Sorted. -/
theorem r6Sorted_any : ∀ (q : Nat) (l : List VoteS), l.length ≤ q → q ≤ 1000 → FitsV l → PCall Tryz.prog 52 [.ls 22 (l.map vA)] [] (fun x _ => Bd 0 x ∧ x = .ls 22 ((srtV l).map vA))
  | 0, l, hq, hq2, hf => r6Sorted_step l (by omega) hf (fun l' h => absurd h (by omega))
  | q + 1, l, hq, hq2, hf => r6Sorted_step l (by omega) hf (fun l' h hf' => r6Sorted_any q l' (by omega) (by omega) hf')
end

section
open Go.RowKit
set_option maxRecDepth 10000
attribute [-simp] List.map_take List.map_drop UInt8.ofNat_add List.map_flatten

inductive RvI (C : List SignedS) : Nat → List AV → List AObj → Prop
  | mk (i : Nat) (h : i ≤ C.length) (m : Nat) (hm : m = C.length - i) : RvI C m ([.ls 23 (C.map sA), .any, .any, .own 0 0 i 22, .c (.int .i64 i)] ++ List.replicate 16 .any) [.row 36 false (pre (fun s => vA s.vote) C i)]
/-- Votes. -/
theorem r6Votes_any (C : List SignedS) (hcf : Fits C) (hcl : C.length ≤ 1000) : PCall Tryz.prog 25 [.ls 23 (C.map sA)] [] (fun x _ => Bd 0 x ∧ x = .ls 22 ((srtV (C.map (·.vote))).map vA)) := by
  refine PCall.enter mixed Tryz.func25 rfl Tryz.ntmps25 Tryz.results25 (by simp) (by kernel_rfl) ?_
  simp [List.replicate]
  have h22 : ∀ x ∈ C, (vA x.vote).cells.length = 22 := fun x hx => vC_len (hcf x hx)
  refine W_loop (RvI C) C.length ?_ ?_
  · refine ⟨_, _, ?_, .mk 0 (by omega) _ rfl⟩
    rw [pre_zero]
    exact View.virt (H := []) 36 rfl (Pw.at_ (by simp [List.replicate])).2
  rintro _ _ _ ⟨i, hi, m, hm⟩
  have hfl := pre_len h22 hi
  simp [List.replicate, -W_cond]
  by_cases hlt : i < C.length
  · obtain ⟨s, hx⟩ : ∃ s, C[i]? = some s := ⟨_, List.getElem?_eq_getElem hlt⟩
    have hfs := hcf s (List.mem_of_getElem? hx)
    have a1 := sC_len hfs
    have a2 := take_sv hfs
    have hvl := vC_len hfs
    refine W_ifT (by simp [hlt]) ?_
    simp [hx, a1, a2, agg_vC, hvl]
    have := RvI.mk (C := C) (i + 1) (by omega) _ rfl
    rw [pre_succ hx] at this
    refine ⟨by omega, by omega, _, ?_, _, _, View.renum [2] (by simp) ?_ ?_, this⟩
    · omega
    · simp
      refine ⟨by rw [List.take_of_length_le (by omega), take_vC hfs], ?_⟩
      rintro a (h | h)
      · exact pre_bd (fun x _ => bd_vA 0 x.vote) a h
      · exact vC_bd s.vote a h
    · simp [List.replicate]
  · obtain rfl : i = C.length := by omega
    refine W_ifF (by simp) ?_
    simp
    refine PCall.freeze (id := 0) (args' := [.ls 22 ((C.map (·.vote)).map vA)]) rfl ?_ ?_
    · rw [List.map_map]
      simp only [Pw_cons, Pw_nil, and_true]
      exact Fz.pre h22
    refine (r6Sorted_any 1000 (C.map (·.vote)) (by simpa using hcl) (by omega) (fun v hv => by obtain ⟨s, h, rfl⟩ := List.mem_map.1 hv; exact hcf s h)).use (by simp) ?_
    simp
set_option maxHeartbeats 1000000 in
/-- SameKey. -/
theorem r6SameKey_any (a b : VoteS) (ha : a.Fit) (hb : b.Fit) : PCall Tryz.prog 96 [vA a, vA b] [] (fun x _ => Bd 0 x ∧ x = .c (.bool (sameK a b))) := by
  have a8 := ha.parent
  have b8 := hb.parent
  have ax := ha.value
  have bx := hb.value
  refine PCall.enter mixed Tryz.func96 rfl Tryz.ntmps96 Tryz.results96 (by simp) (by kernel_rfl) ?_
  simp [List.replicate, vA, vC, a8, b8, ax, bx, sameK]
  exact ⟨fun k => ⟨fun p => ⟨fun s => ⟨fun r g => ⟨⟨⟨k, p⟩, s⟩, r⟩, fun r _ _ _ e => absurd e r⟩, fun s _ _ e => absurd e s⟩, fun p _ e => absurd e p⟩, fun k e => absurd e k⟩
def confB (a b : VoteS) : Bool := validB a && validB b && sameK a b && !decide (a = b)
set_option maxHeartbeats 1000000 in
/-- Conflict. -/
theorem r6Conflict_any (a b : VoteS) (ha : a.Fit) (hb : b.Fit) : PCall Tryz.prog 54 [vA a, vA b] [] (fun x _ => Bd 0 x ∧ x = .c (.bool (confB a b))) := by
  have la := vC_len ha
  have ta := take_vC ha
  have lb := vC_len hb
  have tb := take_vC hb
  refine PCall.enter mixed Tryz.func54 rfl Tryz.ntmps54 Tryz.results54 (by simp) (by kernel_rfl) ?_
  simp [List.replicate, la, ta, agg_vC]
  refine (r6Valid_any a ha).use (by simp) ?_
  by_cases c1 : validB a = true
  rotate_left
  · rw [Bool.not_eq_true] at c1
    simp [c1, confB]
  simp [c1, lb, tb, agg_vC]
  refine (r6Valid_any b hb).use (by simp) ?_
  by_cases c2 : validB b = true
  rotate_left
  · rw [Bool.not_eq_true] at c2
    simp [c1, c2, confB]
  simp [c2, la, ta, lb, tb, agg_vC]
  refine (r6SameKey_any a b ha hb).use (by simp) ?_
  by_cases c3 : sameK a b = true
  rotate_left
  · rw [Bool.not_eq_true] at c3
    simp [c1, c2, c3, confB]
  simp [c1, c2, c3, la, ta, lb, tb, agg_vC, ha, hb, confB]
/-- Bit of a validator's number. -/
theorem r6Bit_any (j : Nat) (hj : j < 10) : PCall Tryz.prog 53 [.c (.int .i64 j)] [] (fun x _ => Bd 0 x ∧ x = .c (.int .i64 (2 ^ j))) := by
  refine PCall.enter mixed Tryz.func53 rfl Tryz.ntmps53 Tryz.results53 (by simp) (by kernel_rfl) ?_
  have h1 : ¬ (j : Int) < 0 := by omega
  have h2 : ¬ 10 ≤ (j : Int) := by omega
  simp [List.replicate, h1, h2]
  have key : ∀ k : Fin 10, 0 ≤ IntKind.u64.wrap (k.1 : Int) ∧ IntKind.i64.wrap (2 ^ min (IntKind.u64.wrap (k.1 : Int)).toNat 64) = 2 ^ k.1 := by decide +kernel
  exact key ⟨j, hj⟩
/-- A pair of votes as evidence. -/
def eA (p : SignedS × SignedS) : AV := .agg (sC p.1 ++ sC p.2)
@[simp] theorem eA_cells (p : SignedS × SignedS) : (eA p).cells = sC p.1 ++ sC p.2 := rfl
@[simp] theorem eA_stA (p : SignedS × SignedS) : (eA p).stA = true := rfl
@[simp] theorem bd_eA (n : Nat) (p : SignedS × SignedS) : Bd n (eA p) := .agg (fun a ha => (List.mem_append.1 ha).elim (fun h => (sC_bd p.1 a h).mono (Nat.zero_le _)) (fun h => (sC_bd p.2 a h).mono (Nat.zero_le _)))
/-- The pairs of signer s in conflict among the first i neighbours: the first one. -/
def frP (C : List SignedS) (s : Nat) : Nat → Option (SignedS × SignedS)
  | 0 => none
  | i + 1 => match frP C s i with
    | some p => some p
    | none => match C[i]?, C[i + 1]? with
      | some x, some y => if x.vote.signer = (s : Int) ∧ confB x.vote y.vote = true then some (x, y) else none
      | _, _ => none
def evsP (C : List SignedS) (q : Nat) : List (SignedS × SignedS) := (List.range q).filterMap fun s => frP C s C.length
end

section
open Go.RowKit
section
variable {P : Program} {H : List AObj} {ρ : Operand → AV} {d : Option Tmp} {ty : TypeId} {pos : String} {after : Array Edge} {g : Option (Nat × Bool)}
@[simp] theorem opA_makeMap (t : TypeId) (r : Option Operand) : opA P H ρ ⟨d, .makeMap t r, ty, pos, after, g⟩ = (makeMapA P H t (r.map ρ)).map fun p => .val p.1 p.2 := _root_.id rfl
@[simp] theorem opA_lookup (t : TypeId) (x k : Operand) (ok : Bool) : opA P H ρ ⟨d, .lookup t x k ok, ty, pos, after, g⟩ = (lookupA P H t (ρ x) (ρ k) ok).map (.val · H) := _root_.id rfl
@[simp] theorem opA_mapUpdate (t : TypeId) (m k x : Operand) : opA P H ρ ⟨d, .mapUpdate t m k x, ty, pos, after, g⟩ = (updA P H t (ρ m) (ρ k) (ρ x)).map fun H' => .val .any H' := _root_.id rfl
/-- A new map without a size. -/
theorem makeMap_new {t k e : TypeId} {r a b : Nat} (h : mapT P t = some (k, r, a, e, b)) : makeMapA P H t none = some (.mh H.length, H ++ [.row (mpTy r a b) false []]) := by
  unfold makeMapA
  rw [h]
  rfl
/-- A lookup by the map's row. -/
def lkA (P : Program) (m : Option (TypeId × Nat × Nat × TypeId × Nat)) (r : Option AObj) (key : AV) (ok : Bool) : Option AV := match m, r with
  | some (_, r, a, et, b), some (.row t' _ cs) => if keyForm r a key = true ∧ t' = mpTy r a b then lookA P et a b ok cs (findA (decide (r = 1)) a (a + b / 2) key.cells (cs.length / (a + b / 2)) cs) else none
  | _, _ => none
@[simp] theorem lookupA_mh {t : TypeId} {id : Nat} {key : AV} {ok : Bool} : lookupA P H t (.mh id) key ok = lkA P (mapT P t) H[id]? key ok := by
  unfold lookupA lkA
  cases mapT P t with
  | none => rfl
  | some p =>
    obtain ⟨k, r, a, e, b⟩ := p
    rcases hH : H[id]? with _ | _ | ⟨t', fz, cs⟩
    · by_cases h1 : keyForm r a key = true <;> simp [h1, hH]
    · by_cases h1 : keyForm r a key = true <;> simp [h1, hH]
    · by_cases h1 : keyForm r a key = true <;> by_cases h2 : t' = mpTy r a b <;> simp [h1, h2, hH]
/-- An update by the map's row: its new cells. -/
def udA (m : Option (TypeId × Nat × Nat × TypeId × Nat)) (r : Option AObj) (key val : AV) : Option AObj := match m, r with
  | some (_, r, a, _, b), some (.row t' false cs) => if (keyForm r a key = true ∧ valForm b val = true) ∧ t' = mpTy r a b then (putA a b key.cells val.cells cs (findA (decide (r = 1)) a (a + b / 2) key.cells (cs.length / (a + b / 2)) cs)).map fun cs' => .row t' false cs' else none
  | _, _ => none
@[simp] theorem updA_mh {t : TypeId} {id : Nat} {key val : AV} : updA P H t (.mh id) key val = (udA (mapT P t) H[id]? key val).map (H.set id ·) := by
  unfold updA udA
  cases mapT P t with
  | none => rfl
  | some p =>
    obtain ⟨k, r, a, e, b⟩ := p
    rcases hH : H[id]? with _ | _ | ⟨t', _ | _, cs⟩
    · by_cases h1 : keyForm r a key = true ∧ valForm b val = true <;> simp [h1, hH]
    · by_cases h1 : keyForm r a key = true ∧ valForm b val = true <;> simp [h1, hH]
    · by_cases h1 : keyForm r a key = true ∧ valForm b val = true <;> by_cases h2 : t' = mpTy r a b <;> simp [h1, h2, hH]
      cases putA a b key.cells val.cells cs (findA (decide (r = 1)) a (a + b / 2) key.cells (cs.length / (a + b / 2)) cs) <;> rfl
    · by_cases h1 : keyForm r a key = true ∧ valForm b val = true <;> simp [h1, hH]
end
end

section
open Go.RowKit
set_option maxRecDepth 10000
attribute [-simp] List.map_take List.map_drop UInt8.ofNat_add List.map_flatten

/-- The key of a vote. -/
def kC (v : VoteS) : List AV := .c (.int .i64 v.kind) :: .c (.int .i64 v.slot) :: .c (.int .i64 v.round) :: .c (.int .i64 v.signer) :: v.parent.map byteA
def kA (v : VoteS) : AV := .agg (kC v)
@[simp] theorem kA_cells (v : VoteS) : (kA v).cells = kC v := rfl
theorem kC_len {v : VoteS} (h : v.Fit) : (kC v).length = 12 := by simp [kC, h.parent]
@[simp] theorem bd_kA (n : Nat) (v : VoteS) : Bd n (kA v) := by
  refine .agg (fun a ha => ?_)
  simp only [kC, List.mem_cons, List.mem_map] at ha
  rcases ha with rfl | rfl | rfl | rfl | ⟨x, -, rfl⟩ <;> exact .c _
theorem eqI_bytes : ∀ (a b : List UInt8), a.length = b.length → eqI (a.map byteA) (b.map byteA) = some (decide (a = b))
  | [], [], _ => rfl
  | x :: a, y :: b, h => by
    have ih := eqI_bytes a b (by simpa using h)
    show (match eqC (byteA x) (byteA y) with
      | some c => (eqI (a.map byteA) (b.map byteA)).map (c && ·)
      | none => none) = _
    have e : eqC (byteA x) (byteA y) = some (decide (x = y)) := by
      show (if IntKind.u8 = IntKind.u8 then some (decide ((x.toNat : Int) = y.toNat)) else none) = _
      rw [if_pos rfl]
      congr 1
      rw [decide_eq_decide]
      exact ⟨fun h => UInt8.toNat.inj (by omega), fun h => by rw [h]⟩
    rw [e, ih]
    simp [Bool.decide_and]
  | [], _ :: _, h => by simp at h
  | _ :: _, [], h => by simp at h
theorem eqI_k {a b : VoteS} (ha : a.Fit) (hb : b.Fit) : eqI (kC a) (kC b) = some (sameK a b) := by
  have e := eqI_bytes a.parent b.parent (by rw [ha.parent, hb.parent])
  simp only [kC, eqI, eqC, if_true, e, Option.map_some]
  congr 1
  rw [Bool.eq_iff_iff, sameK_iff]
  simp only [Bool.and_eq_true, decide_eq_true_eq]
  constructor
  · rintro ⟨h1, h2, h3, h4, h5⟩; exact ⟨h1, h5, h2, h3, h4⟩
  · rintro ⟨h1, h2, h3, h4, h5⟩; exact ⟨h1, h3, h4, h5, h2⟩
theorem sameK_symm {a b : VoteS} (h : sameK a b = true) : sameK b a = true := by
  obtain ⟨h1, h2, h3, h4, h5⟩ := sameK_iff.1 h
  exact sameK_iff.2 ⟨h1.symm, h2.symm, h3.symm, h4.symm, h5.symm⟩
theorem sameK_trans {a b c : VoteS} (h : sameK a b = true) (k : sameK b c = true) : sameK a c = true := by
  obtain ⟨h1, h2, h3, h4, h5⟩ := sameK_iff.1 h
  obtain ⟨k1, k2, k3, k4, k5⟩ := sameK_iff.1 k
  exact sameK_iff.2 ⟨h1.trans k1, h2.trans k2, h3.trans k3, h4.trans k4, h5.trans k5⟩
theorem sameK_refl (a : VoteS) : sameK a a = true := sameK_iff.2 ⟨rfl, rfl, rfl, rfl, rfl⟩

/-- The entries' cells. -/
def mC (E : List SignedS) : List AV := E.flatMap fun s => kC s.vote ++ sC s
theorem mC_cons (s : SignedS) (E : List SignedS) : mC (s :: E) = (kC s.vote ++ sC s) ++ mC E := rfl
theorem mC_len : ∀ {E : List SignedS}, Fits E → (mC E).length = E.length * 35
  | [], _ => rfl
  | s :: E, h => by
    rw [mC_cons, List.length_append, List.length_append, kC_len (h s List.mem_cons_self), sC_len (h s List.mem_cons_self), mC_len (fun x hx => h x (List.mem_cons_of_mem _ hx)), List.length_cons]
    omega
theorem mC_snoc (E : List SignedS) (s : SignedS) : mC (E ++ [s]) = mC E ++ (kC s.vote ++ sC s) := by simp [mC]
theorem find_k {v : VoteS} (hv : v.Fit) : ∀ {E : List SignedS}, Fits E → findA true 12 35 (kC v) E.length (mC E) = some (E.findIdx? fun s : SignedS => sameK v s.vote)
  | [], _ => rfl
  | s :: E, h => by
    have hs := h s List.mem_cons_self
    have e1 : (mC (s :: E)).take 12 = kC s.vote := by
      rw [mC_cons, List.append_assoc, List.take_append_of_le_length (by rw [kC_len hs]; exact Nat.le_refl _), List.take_of_length_le (by rw [kC_len hs]; exact Nat.le_refl _)]
    have e2 : (mC (s :: E)).drop 35 = mC E := by
      rw [mC_cons, List.drop_append_of_le_length (by simp [kC_len hs, sC_len hs]), List.drop_of_length_le (by simp [kC_len hs, sC_len hs]), List.nil_append]
    have ih := find_k hv (E := E) (fun x hx => h x (List.mem_cons_of_mem _ hx))
    show (match eqK true (kC v) ((mC (s :: E)).take 12) with
      | some true => some (some 0)
      | some false => ((findA true 12 35 (kC v) E.length ((mC (s :: E)).drop 35)).map (fun o : Option Nat => o.map (· + 1)) : Option (Option Nat))
      | none => none) = _
    rw [e1, e2, ih]
    show (match eqI (kC v) (kC s.vote) with
      | some true => some (some 0)
      | some false => ((some (E.findIdx? fun s : SignedS => sameK v s.vote)).map (fun o : Option Nat => o.map (· + 1)) : Option (Option Nat))
      | none => none) = _
    rw [eqI_k hv hs, List.findIdx?_cons]
    cases sameK v s.vote <;> simp
theorem mC_at : ∀ {E : List SignedS} {i : Nat} {s : SignedS}, Fits E → E[i]? = some s → ((mC E).drop (i * 35 + 12)).take 23 = sC s
  | [], _, _, _, h => by simp at h
  | x :: E, 0, s, h, hi => by
    simp at hi
    subst hi
    have hs := h x List.mem_cons_self
    rw [mC_cons, List.append_assoc, show 0 * 35 + 12 = (kC x.vote).length by rw [kC_len hs], List.drop_left, List.take_append_of_le_length (by rw [sC_len hs]; exact Nat.le_refl _), take_sC hs]
  | x :: E, i + 1, s, h, hi => by
    have hs := h x List.mem_cons_self
    have := mC_at (E := E) (i := i) (s := s) (fun x hx => h x (List.mem_cons_of_mem _ hx)) (by simpa using hi)
    rw [← this, mC_cons, show (i + 1) * 35 + 12 = (kC x.vote ++ sC x).length + (i * 35 + 12) by simp [kC_len hs, sC_len hs]; omega, ← List.drop_drop, List.drop_left]
@[simp] theorem mapT_first : mapT Tryz.prog 154 = some (159, 1, 12, 38, 47) := by kernel_rfl
/-- What a lookup answers. -/
def lkR : Option SignedS → AV
  | some s => .tup [sA s, .c (.bool true)]
  | none => .tup [zSA, .c (.bool false)]
theorem keyForm_k {v : VoteS} (hv : v.Fit) : keyForm 1 12 (kA v) = true := by
  have : (kC v).all isIntC = true := by
    rw [List.all_eq_true]
    intro a ha
    simp only [kC, List.mem_cons, List.mem_map] at ha
    rcases ha with rfl | rfl | rfl | rfl | ⟨x, -, rfl⟩ <;> rfl
  simp [keyForm, kC_len hv, this, kA, AV.isAgg]
theorem valForm_s {s : SignedS} (hs : s.vote.Fit) : valForm 47 (sA s) = true := by
  simp [valForm, sC_len hs, sA, AV.isAgg]
theorem look_k {v : VoteS} {E : List SignedS} {fz : Bool} (hv : v.Fit) (hE : Fits E) : lkA Tryz.prog (some (159, 1, 12, 38, 47)) (some (.row 2025047 fz (mC E))) (kA v) true = some (lkR (E.find? fun s : SignedS => sameK v s.vote)) := by
  have hl : (mC E).length / 35 = E.length := by rw [mC_len hE]; omega
  have hf := find_k hv hE
  show (if keyForm 1 12 (kA v) = true ∧ 2025047 = mpTy 1 12 47 then lookA Tryz.prog 38 12 47 true (mC E) (findA true 12 35 (kC v) ((mC E).length / 35) (mC E)) else none) = _
  rw [if_pos ⟨keyForm_k hv, rfl⟩, hl, hf]
  cases hc : E.findIdx? fun s : SignedS => sameK v s.vote with
  | none =>
    have : (E.find? fun s : SignedS => sameK v s.vote) = none := by
      rw [List.find?_eq_none]
      rw [List.findIdx?_eq_none_iff] at hc
      intro x hx
      simp [hc x hx]
    rw [this]
    have hz : zeroA Tryz.prog 38 = some zSA := by kernel_rfl
    show (zeroA Tryz.prog 38).map (fun v => AV.tup [v, .c (.bool false)]) = _
    rw [hz]
    rfl
  | some i =>
    obtain ⟨s, hs, hfd⟩ : ∃ s, E[i]? = some s ∧ (E.find? fun s : SignedS => sameK v s.vote) = some s := by
      rw [List.findIdx?_eq_some_iff_getElem] at hc
      obtain ⟨hi, h1, h2⟩ := hc
      refine ⟨E[i], List.getElem?_eq_getElem hi, ?_⟩
      rw [List.find?_eq_some_iff_getElem]
      exact ⟨h1, i, hi, rfl, fun j hj => by simpa using h2 j hj⟩
    rw [hfd]
    show (valA 47 (((mC E).drop (i * 35 + 12)).take 23)).map (fun v => AV.tup [v, .c (.bool true)]) = _
    rw [mC_at hE hs]
    rfl
theorem upd_k {s : SignedS} {E : List SignedS} (hs : s.vote.Fit) (hE : Fits E) (hn : (E.find? fun x : SignedS => sameK s.vote x.vote) = none) : udA (some (159, 1, 12, 38, 47)) (some (.row 2025047 false (mC E))) (kA s.vote) (sA s) = some (.row 2025047 false (mC (E ++ [s]))) := by
  have hl : (mC E).length / 35 = E.length := by rw [mC_len hE]; omega
  have hf := find_k hs hE
  show (if (keyForm 1 12 (kA s.vote) = true ∧ valForm 47 (sA s) = true) ∧ 2025047 = mpTy 1 12 47 then (putA 12 47 (kC s.vote) (sC s) (mC E) (findA true 12 35 (kC s.vote) ((mC E).length / 35) (mC E))).map (fun cs' => AObj.row 2025047 false cs') else none) = _
  rw [if_pos ⟨⟨keyForm_k hs, valForm_s hs⟩, rfl⟩, hl, hf]
  have : (E.findIdx? fun x : SignedS => sameK s.vote x.vote) = none := by
    rw [List.findIdx?_eq_none_iff]
    rw [List.find?_eq_none] at hn
    intro x hx
    simpa using hn x hx
  rw [this, mC_snoc]
  rfl
end

section
open Go.RowKit

abbrev stA (l : List UInt8) : AV := .c (.string ⟨l.toArray⟩)
theorem push_all : ∀ (l : List UInt8) (r : ByteArray), (l.map fun b => (b.toNat : Int)).foldl (fun r n => r.push (UInt8.ofNat n.toNat)) r = ⟨r.data ++ l.toArray⟩
  | [], r => by simp
  | a :: l, r => by
    rw [List.map_cons, List.foldl_cons, push_all l]
    have e : UInt8.ofNat ((a.toNat : Int)).toNat = a := by simp
    rw [e]
    congr 1
    show (r.data.push a) ++ l.toArray = _
    simp
theorem byteC_all (l : List UInt8) : (l.map byteA).mapM byteC = some (l.map fun b => (b.toNat : Int)) := by
  induction l with
  | nil => rfl
  | cons a l ih => rw [List.map_cons, List.mapM_cons, ih]; rfl
section
variable {P : Program} {H : List AObj}
theorem conv_str {s d e : TypeId} (h1 : P.underlying s = some (.slice e)) (h2 : P.underlying d = some .string) (h3 : isByteT P e = true) (l : List UInt8) : convA P H s d (bytesA l) = some (stA l) := by
  unfold convA
  rw [h1, h2]
  simp only [h3, if_true]
  have hs : srcA H 1 (bytesA l) = some (l.length, l.map byteA) := by
    show (if 1 = 1 then some ((l.map byteA).length, flat (l.map byteA)) else none) = _
    rw [if_pos rfl, flat_bytes, List.length_map]
  simp only [hs, byteC_all, Option.map_some]
  simp [strA, push_all]
theorem bin_str {op : BinOp} {t : TypeId} {ox oy : Operand} {a b : ByteArray} {r : Bool} (hop : binOp op t (.string a) (.string b) = Op.stringOp op a b) (h : ∀ w, (Op.stringOp op a b).run P w = .ok (.bool r) w) : binA P op t ox oy (.c (.string a)) (.c (.string b)) = some (.c (.bool r)) := by
  have hp : pvE P (do eqGuard op t ox oy (.string a) (.string b); binOp op t (.string a) (.string b)) = some (.bool r) := pvE_of (fun w => by
    rw [Sem.run_bind]
    have e : (eqGuard op t ox oy (.string a) (.string b)).run P w = .ok () w := by
      unfold eqGuard
      cases op <;> rfl
    rw [e, Result.andThen_ok, hop]
    exact h w)
  show (pvE P (do eqGuard op t ox oy (.string a) (.string b); binOp op t (.string a) (.string b))).map fromV = _
  rw [hp]
  rfl
@[simp] theorem leq_str {t : TypeId} {ox oy : Operand} (a b : List UInt8) : binA P .leq t ox oy (stA a) (stA b) = some (.c (.bool (!lessT b a))) := by
  refine bin_str rfl (fun w => ?_)
  have e : (Op.bytesLess a b || a == b) = !lessT b a := by
    cases h : lessT b a with
    | true =>
      have h1 : Op.bytesLess a b = false := lessT_asymm h
      have h2 : (a == b) = false := by
        cases h3 : a == b with
        | false => rfl
        | true => rw [eq_of_beq h3, lessT_irrefl] at h; cases h
      rw [h1, h2]; rfl
    | false =>
      cases h1 : Op.bytesLess a b with
      | true => rfl
      | false => rw [lessT_total a b h1 h]; simp
  simp [Op.stringOp, e]
@[simp] theorem lss_str {t : TypeId} {ox oy : Operand} (a b : List UInt8) : binA P .lss t ox oy (stA a) (stA b) = some (.c (.bool (lessT a b))) := bin_str rfl (fun w => by simp [Op.stringOp, lessT])
@[simp] theorem eql_str {t : TypeId} {ox oy : Operand} (a b : List UInt8) : binA P .eql t ox oy (stA a) (stA b) = some (.c (.bool (decide (a = b)))) := bin_str rfl (fun w => by
  have e : (a == b) = decide (a = b) := by rw [Bool.eq_iff_iff]; simp
  simp [Op.stringOp, e])
end
@[simp] theorem conv_st {H : List AObj} (l : List UInt8) : convA Tryz.prog H 31 9 (bytesA l) = some (stA l) := conv_str (e := 5) (by kernel_rfl) (by kernel_rfl) (by kernel_rfl) l
end
end Go.Proofs.YthknobbilcolnaaGreat
