/- evidence.Find and Guilty, by abstract values. Conditions: sizes. evidence.Guilty, by abstract values. Conditions: sizes. Lists in strict order are known by their members; insertion without repetition. No condition. Texts in an own row put in order by slices.SortFunc. Conditions: sizes. Slices of texts. No condition. -/
import Derived.Test.YthknobbilcolnaaGreatJn21
import Derived.Test.YthknobbilcolnaaGreatJn14
import Derived.Test.YthknobbilcolnaaGreatJn16
import Derived.Test.YthknobbilcolnaaGreatJn19
import Derived.Test.YthknobbilcolnaaGreatLay2
import Derived.Test.YthknobbilcolnaaGreatJn20
import Derived.Test.YthknobbilcolnaaGreatTy
namespace Go.Proofs.YthknobbilcolnaaGreat
section
open Go.RowKit
set_option maxRecDepth 10000
attribute [-simp] List.map_take List.map_drop UInt8.ofNat_add List.map_flatten

abbrev Fd := List (Option (SignedS × SignedS))
/-- The cells of what was found for one signer. -/
def oC : Option (SignedS × SignedS) → List AV
  | some p => sC p.1 ++ sC p.2
  | none => zSA.cells ++ zSA.cells
def fC (F : Fd) : List AV := F.flatMap oC
def hC (F : Fd) : List AV := F.map fun o => .c (.bool o.isSome)
def FitsF (F : Fd) : Prop := ∀ p, some p ∈ F → p.1.vote.Fit ∧ p.2.vote.Fit
theorem zSA_len : zSA.cells.length = 23 := rfl
theorem oC_len {F : Fd} (hF : FitsF F) {o : Option (SignedS × SignedS)} (h : o ∈ F) : (oC o).length = 46 := by
  cases o with
  | none => rfl
  | some p => simp [oC, sC_len (hF p h).1, sC_len (hF p h).2]
theorem fC_len : ∀ {F : Fd}, FitsF F → (fC F).length = F.length * 46
  | [], _ => rfl
  | o :: F, h => by
    show (oC o ++ fC F).length = _
    rw [List.length_append, oC_len h List.mem_cons_self, fC_len (fun p hp => h p (List.mem_cons_of_mem _ hp)), List.length_cons]
    omega
theorem fC_split {F : Fd} {i : Nat} {o : Option (SignedS × SignedS)} (h : F[i]? = some o) : fC F = fC (F.take i) ++ (oC o ++ fC (F.drop (i + 1))) := by
  obtain ⟨hi, rfl⟩ := List.getElem?_eq_some_iff.1 h
  have e : F = F.take i ++ F[i] :: F.drop (i + 1) := by rw [← List.drop_eq_getElem_cons hi, List.take_append_drop]
  exact (congrArg fC e).trans (by unfold fC; rw [List.flatMap_append, List.flatMap_cons])
theorem fits_take {F : Fd} (hF : FitsF F) (i : Nat) : FitsF (F.take i) := fun p hp => hF p (List.mem_of_mem_take hp)
theorem fC_drop {F : Fd} (hF : FitsF F) {i : Nat} {o : Option (SignedS × SignedS)} (h : F[i]? = some o) : (fC F).drop (i * 46) = oC o ++ fC (F.drop (i + 1)) := by
  have hi := (List.getElem?_eq_some_iff.1 h).1
  have hl : (fC (F.take i)).length = i * 46 := by rw [fC_len (fits_take hF i), List.length_take]; congr 1; omega
  rw [fC_split h, ← hl, List.drop_left]
theorem fC_at {F : Fd} (hF : FitsF F) {i : Nat} {o : Option (SignedS × SignedS)} (h : F[i]? = some o) : ((fC F).drop (i * 46)).take 46 = oC o := by
  have := oC_len hF (List.mem_of_getElem? h)
  rw [fC_drop hF h, List.take_append_of_le_length (by omega), List.take_of_length_le (by omega)]
theorem fC_vote {F : Fd} (hF : FitsF F) {i : Nat} {p : SignedS × SignedS} (h : F[i]? = some (some p)) : ((fC F).drop (i * 46)).take 22 = vC p.1.vote := by
  have h1 := (hF p (List.mem_of_getElem? h)).1
  have := sC_len h1
  rw [fC_drop hF h]
  show ((sC p.1 ++ sC p.2) ++ _).take 22 = _
  rw [List.append_assoc, List.take_append_of_le_length (by omega), take_sv h1]
theorem fC_set {F : Fd} (hF : FitsF F) {i : Nat} (hi : i < F.length) {p : SignedS × SignedS} (h1 : p.1.vote.Fit) (h2 : p.2.vote.Fit) : splice (fC F) (i * 46) (sC p.1 ++ sC p.2) = fC (F.set i (some p)) := by
  have hl : (fC (F.take i)).length = i * 46 := by rw [fC_len (fits_take hF i), List.length_take]; congr 1; omega
  have ho := List.getElem?_eq_getElem hi
  have ho2 := oC_len hF (List.mem_of_getElem? ho)
  rw [fC_split (F := F.set i (some p)) (i := i) (o := some p) (List.getElem?_set_self hi), List.take_set_of_le (Nat.le_refl _), List.drop_set_of_lt (by omega)]
  unfold splice
  rw [fC_split ho]
  rw [← hl, List.take_left, ← List.drop_drop, List.drop_left, List.drop_append_of_le_length (by simp [ho2, sC_len h1, sC_len h2]), List.drop_of_length_le (by simp [ho2, sC_len h1, sC_len h2])]
  simp [oC]
theorem hC_len (F : Fd) : (hC F).length = F.length := by simp [hC]
theorem hC_at {F : Fd} {i : Nat} {o : Option (SignedS × SignedS)} (h : F[i]? = some o) : (hC F)[i]? = some (.c (.bool o.isSome)) := by simp [hC, h]
theorem hC_set {F : Fd} {i : Nat} (hi : i < F.length) (p : SignedS × SignedS) : splice (hC F) i [.c (.bool true)] = hC (F.set i (some p)) := by
  unfold splice hC
  rw [List.map_set, List.set_eq_take_append_cons_drop, if_pos (by simpa using hi)]
  simp
@[simp] theorem ze_found : zeroA Tryz.prog 155 = some (.agg (fC (List.replicate 10 none))) := by kernel_rfl
@[simp] theorem ze_has : zeroA Tryz.prog 156 = some (.agg (hC (List.replicate 10 none))) := by kernel_rfl
abbrev fdH (E : List SignedS) (F : Fd) : List AObj := [.row 2025047 false (mC E), .row 1000155 false (fC F), .row 1000156 false (hC F)]
abbrev fdE (C : List SignedS) (k : Nat) : List AV := List.replicate 6 .any ++ [.mh 0, .ptr 1 0, .ptr 2 0] ++ List.replicate 13 .any ++ [.ls 23 (C.map sA), .c (.int .i64 C.length), .c (.int .i64 k)] ++ List.replicate 64 .any
inductive FdI (C : List SignedS) : Nat → List AV → List AObj → Prop
  | new (k : Nat) (hk : k < C.length) (s : SignedS) (hs : C[k]? = some s) (E : List SignedS) (F : Fd) (hE : EOk (C.take k) E) (hF : FOk (C.take k) F) (hf : (E.find? fun x : SignedS => sameK s.vote x.vote) = none) (m : Nat) (hm : m = C.length - k) : FdI C m (fdE C k) (fdH E F)
  | fst (k : Nat) (hk : k < C.length) (s : SignedS) (hs : C[k]? = some s) (E : List SignedS) (F : Fd) (hE : EOk (C.take k) E) (hF : FOk (C.take k) F) (a : SignedS) (hf : (E.find? fun x : SignedS => sameK s.vote x.vote) = some a) (i : Nat) (hi : i < 10) (hsi : s.vote.signer = (i : Int)) (ho : F[i]? = some none) (m : Nat) (hm : m = C.length - k) : FdI C m (fdE C k) (fdH E F)
  | low (k : Nat) (hk : k < C.length) (s : SignedS) (hs : C[k]? = some s) (E : List SignedS) (F : Fd) (hE : EOk (C.take k) E) (hF : FOk (C.take k) F) (a : SignedS) (hf : (E.find? fun x : SignedS => sameK s.vote x.vote) = some a) (i : Nat) (hi : i < 10) (hsi : s.vote.signer = (i : Int)) (p : SignedS × SignedS) (ho : F[i]? = some (some p)) (hl : lessV a.vote p.1.vote = true) (m : Nat) (hm : m = C.length - k) : FdI C m (fdE C k) (fdH E F)
  | not (k : Nat) (hk : k < C.length) (s : SignedS) (hs : C[k]? = some s) (E : List SignedS) (F : Fd) (hE : EOk (C.take k) E) (hF : FOk (C.take k) F) (a : SignedS) (hf : (E.find? fun x : SignedS => sameK s.vote x.vote) = some a) (i : Nat) (hi : i < 10) (hsi : s.vote.signer = (i : Int)) (p : SignedS × SignedS) (ho : F[i]? = some (some p)) (hl : lessV a.vote p.1.vote = false) (m : Nat) (hm : m = C.length - k) : FdI C m (fdE C k) (fdH E F)
  | en (E : List SignedS) (F : Fd) (hE : EOk (C.take C.length) E) (hF : FOk (C.take C.length) F) (m : Nat) (hm : m = C.length - C.length) : FdI C m (fdE C C.length) (fdH E F)
theorem FdI.of {C : List SignedS} (hsg : ∀ s ∈ C, ∃ i : Nat, i < 10 ∧ s.vote.signer = (i : Int)) {k : Nat} (hk : k ≤ C.length) {E : List SignedS} {F : Fd} (hE : EOk (C.take k) E) (hF : FOk (C.take k) F) {m : Nat} (hm : m = C.length - k) : FdI C m (fdE C k) (fdH E F) := by
  rcases Nat.lt_or_ge k C.length with h | h
  · obtain ⟨s, hs⟩ : ∃ s, C[k]? = some s := ⟨_, List.getElem?_eq_getElem h⟩
    cases hf : E.find? fun x : SignedS => sameK s.vote x.vote with
    | none => exact .new k h s hs E F hE hF hf m hm
    | some a =>
      obtain ⟨i, hi, hsi⟩ := hsg s (List.mem_of_getElem? hs)
      obtain ⟨o, ho⟩ : ∃ o, F[i]? = some o := ⟨_, List.getElem?_eq_getElem (by rw [hF.len]; exact hi)⟩
      cases o with
      | none => exact .fst k h s hs E F hE hF a hf i hi hsi ho m hm
      | some p =>
        cases hl : lessV a.vote p.1.vote with
        | true => exact .low k h s hs E F hE hF a hf i hi hsi p ho hl m hm
        | false => exact .not k h s hs E F hE hF a hf i hi hsi p ho hl m hm
  · obtain rfl : k = C.length := Nat.le_antisymm hk h
    exact .en E F hE hF m hm
theorem zSA_bd : ∀ a ∈ zSA.cells, Bd 0 a := by
  intro a ha
  simp only [zSA, AV.cells, List.mem_append, List.mem_cons, List.not_mem_nil, or_false, List.mem_map] at ha
  rcases ha with ((rfl | rfl | rfl | rfl | rfl | rfl) | ⟨x, -, rfl⟩) | rfl <;> exact .c _
theorem mC_bd (E : List SignedS) : ∀ a ∈ mC E, Bd 0 a := fun a ha => by
  obtain ⟨s, -, h⟩ := List.mem_flatMap.1 ha
  rcases List.mem_append.1 h with h | h
  · exact (bd_kA 0 s.vote).cells a h
  · exact sC_bd s a h
theorem fC_bd (F : Fd) : ∀ a ∈ fC F, Bd 0 a := fun a ha => by
  obtain ⟨o, -, h⟩ := List.mem_flatMap.1 ha
  cases o with
  | none => exact (List.mem_append.1 h).elim (zSA_bd a) (zSA_bd a)
  | some p => exact (List.mem_append.1 h).elim (sC_bd p.1 a) (sC_bd p.2 a)
theorem hC_bd (F : Fd) : ∀ a ∈ hC F, Bd 0 a := fun a ha => by
  obtain ⟨o, -, rfl⟩ := List.mem_map.1 ha
  exact .c _
theorem fd_view {env : List AV} {C : List SignedS} {k : Nat} {E : List SignedS} {F : Fd} {J : List AObj} (h : Pw (Rn 0 3 (fun i => [0, 1, 2].getD i 0)) env (fdE C k)) : View 0 env (fdH E F ++ J) (fdE C k) (fdH E F) := by
  refine View.renum [0, 1, 2] (by simp) ?_ h
  simp only [gcL_row, gcL_nil, and_true]
  exact ⟨rfl, mC_bd E, rfl, fC_bd F, rfl, hC_bd F⟩
/-- What has been copied. -/
abbrev evF (F : Fd) (i : Nat) : List (SignedS × SignedS) := (F.take i).filterMap _root_.id
abbrev feZ (F : Fd) : List AV := List.replicate 8 .any ++ [.ptr 0 0] ++ List.replicate 6 .any ++ [.c (.slice none 0 0)] ++ List.replicate 53 .any ++ [.agg (fC F), .c (.int .i64 0)] ++ List.replicate 18 .any
abbrev feE (F : Fd) (i : Nat) : List AV := List.replicate 8 .any ++ [.ptr 0 0] ++ List.replicate 6 .any ++ [.own 1 0 (evF F i).length 46] ++ List.replicate 53 .any ++ [.agg (fC F), .c (.int .i64 i)] ++ List.replicate 18 .any
abbrev feH (F : Fd) (i : Nat) : List AObj := [.row 1000156 false (hC F), .row 107 false (flat ((evF F i).map eA))]
inductive FeI (F : Fd) : Nat → List AV → List AObj → Prop
  | no (i : Nat) (hi : i < 10) (ho : F[i]? = some none) (m : Nat) (hm : m = 10 - i) : FeI F m (feE F i) (feH F i)
  | yes (i : Nat) (hi : i < 10) (p : SignedS × SignedS) (ho : F[i]? = some (some p)) (m : Nat) (hm : m = 10 - i) : FeI F m (feE F i) (feH F i)
  | en (m : Nat) (hm : m = 10 - 10) : FeI F m (feE F 10) (feH F 10)
theorem FeI.of {F : Fd} (hF : F.length = 10) {i : Nat} (hi : i ≤ 10) {m : Nat} (hm : m = 10 - i) : FeI F m (feE F i) (feH F i) := by
  rcases Nat.lt_or_ge i 10 with h | h
  · obtain ⟨o, ho⟩ : ∃ o, F[i]? = some o := ⟨_, List.getElem?_eq_getElem (by omega)⟩
    cases o with
    | none => exact .no i h ho m hm
    | some p => exact .yes i h p ho m hm
  · obtain rfl : i = 10 := by omega
    exact .en m hm
attribute [-simp] ze155 ze156
set_option maxHeartbeats 2000000 in
/-- evidence.Find. -/
theorem Find_any (K : List (List UInt8)) (hK : ∀ k ∈ K, k.length = 8) (hKl : K.length ≤ 100000) (l : List SignedS) (hf : Fits l) (hl : l.length ≤ 39) (hs : ∀ s ∈ l, s.sig.length ≤ 100000) :
    PCall Tryz.prog 46 [namesA K, .ls 23 (l.map sA)] [] (fun x _ => Bd 0 x ∧ ∃ F : Fd, (FOk (vfdS K l) F ∧ FitsF F) ∧ x = .ls 46 ((F.filterMap _root_.id).map eA)) := by
  refine PCall.viewR (PCall.enter mixed Tryz.func46 rfl Tryz.ntmps46 Tryz.results46 (by simp) (by kernel_rfl) ?_)
  simp [List.replicate]
  refine (Verified_any K hK hKl l hf hl hs).use (by simp) ?_
  have hcf : Fits (vfdS K l) := vfd_fit K hf
  have hcl : (vfdS K l).length ≤ 39 := Nat.le_trans (vfd_len K l) hl
  have hcs : ∀ s ∈ vfdS K l, s.sig.length ≤ 100000 := fun s h => hs s (vfd_mem hf h).1
  have hsg : ∀ s ∈ vfdS K l, ∃ i : Nat, i < 10 ∧ s.vote.signer = (i : Int) := fun s h => vfd_signer hf h
  generalize vfdS K l = C at *
  have hmt : mpTy 1 12 47 = 2025047 := rfl
  simp [makeMap_new mapT_first, hmt]
  refine W_loop (FdI C) C.length ?_ ?_
  · exact ⟨_, _, View.forget (by simp [List.replicate]), FdI.of hsg (k := 0) (E := []) (F := List.replicate 10 none) (Nat.zero_le _) (by rw [List.take_zero]; exact EOk.nil) (by rw [List.take_zero]; exact FOk.nil) rfl⟩
  rintro _ _ _ (⟨k, hk, s, hx, E, F, hE, hF, hfd, m, hm⟩ | ⟨k, hk, s, hx, E, F, hE, hF, a, hfd, i, hi, hsi, ho, m, hm⟩ | ⟨k, hk, s, hx, E, F, hE, hF, a, hfd, i, hi, hsi, p, ho, hlt, m, hm⟩ | ⟨k, hk, s, hx, E, F, hE, hF, a, hfd, i, hi, hsi, p, ho, hlt, m, hm⟩ | ⟨E, F, hE, hF, m, hm⟩)
  · have hfs := hcf s (List.mem_of_getElem? hx)
    have hEf : Fits E := fun e he => hcf e (List.mem_of_mem_take (hE.sub e he))
    have a1 := sC_len hfs
    have a2 := take_sv hfs
    have a4 := take_sC hfs
    have hlk := look_k (fz := false) hfs hEf
    have hup := upd_k hfs hEf hfd
    rw [hfd] at hlk
    simp [List.replicate, -W_cond]
    refine W_ifT (by simp [hk]) ?_
    simp [hx, a1, a2, a4, agg_vC, agg_sC, get_signer, -W_cond]
    refine (of_any s.vote hfs).use (by simp) ?_
    simp [hlk, lkR, zSA_len, -W_cond]
    refine ⟨rfl, W_ifT (by simp) ?_⟩
    simp (decide := true) [a1, a2, agg_vC]
    refine nextDC.use (of_any s.vote hfs) (by simp) ?_
    simp (decide := true) [a1, a4, agg_sC, hup]
    have e := List.take_add_one (l := C) (i := k)
    rw [hx] at e
    refine ⟨by omega, _, ?_, _, _, fd_view (by simp [List.replicate]), FdI.of hsg (k := k + 1) (by omega) (by rw [e]; exact hE.new) (by rw [e]; exact hF.new hE hfd) rfl⟩
    omega
  · have hfs := hcf s (List.mem_of_getElem? hx)
    have hEf : Fits E := fun e he => hcf e (List.mem_of_mem_take (hE.sub e he))
    have hfa := hEf a (List.mem_of_find?_eq_some hfd)
    have hFf : FitsF F := fun p hp => by
      obtain ⟨i, hi⟩ := List.getElem?_of_mem hp
      obtain ⟨-, h1, h2⟩ := hF.mem i p hi
      exact ⟨hcf _ (List.mem_of_mem_take h1), hcf _ (List.mem_of_mem_take h2)⟩
    have a1 := sC_len hfs
    have a2 := take_sv hfs
    have a4 := take_sC hfs
    have b1 := sC_len hfa
    have b2 := take_sv hfa
    have b4 := take_sC hfa
    have hlk := look_k (fz := false) hfs hEf
    rw [hfd] at hlk
    have hoh := hC_at ho
    simp [List.replicate, -W_cond]
    refine W_ifT (by simp [hk]) ?_
    simp [hx, a1, a2, a4, agg_vC, agg_sC, get_signer, -W_cond]
    refine (of_any s.vote hfs).use (by simp) ?_
    simp [hlk, lkR, b1, -W_cond]
    refine W_ifF (by simp) ?_
    have e3 : ∀ z : List AV, z.length = 46 → splice z 0 (sC a ++ sC s) = sC a ++ sC s := fun z hz => by simp [splice, a1, b1, hz]
    have e4 : ∀ z : List AV, z.length = 46 → splice (splice z 0 (sC a)) 23 (sC s) = sC a ++ sC s := fun z hz => splice_E b1 a1 hz
    have e5 : ∀ z : List AV, z.length = 46 → (splice z 0 (sC a)).length = 46 := fun z hz => by rw [splice_len (by omega), hz]
    simp (decide := true) [a1, a4, b1, b4, agg_sC, hsi, hoh, e3, e4, e5, -W_cond]
    refine ⟨by omega, W_ifT (by simp) ?_⟩
    simp [a1, b1, fC_len hFf, hC_len, hF.len]
    have e := List.take_add_one (l := C) (i := k)
    rw [hx] at e
    have hin : i < F.length := by rw [hF.len]; exact hi
    have hsk := List.find?_some hfd
    have hFn := hF.set_ hE (List.mem_of_find?_eq_some hfd) hsk hsi hi
    rw [List.take_of_length_le (by simp [a1, b1]), fC_set hFf hin (p := (a, s)) hfa hfs, hC_set hin (a, s)]
    refine ⟨by omega, by omega, by omega, by omega, by omega, _, ?_, _, _, fd_view (by simp [List.replicate]), FdI.of hsg (k := k + 1) (by omega) (by rw [e]; exact hE.old (List.mem_of_find?_eq_some hfd) hsk) (by rw [e]; exact hFn) rfl⟩
    omega
  · have hfs := hcf s (List.mem_of_getElem? hx)
    have hEf : Fits E := fun e he => hcf e (List.mem_of_mem_take (hE.sub e he))
    have hfa := hEf a (List.mem_of_find?_eq_some hfd)
    have hFf : FitsF F := fun p hp => by
      obtain ⟨i, hi⟩ := List.getElem?_of_mem hp
      obtain ⟨-, h1, h2⟩ := hF.mem i p hi
      exact ⟨hcf _ (List.mem_of_mem_take h1), hcf _ (List.mem_of_mem_take h2)⟩
    have hfp := (hFf p (List.mem_of_getElem? ho)).1
    have a1 := sC_len hfs
    have a2 := take_sv hfs
    have a4 := take_sC hfs
    have b1 := sC_len hfa
    have b2 := take_sv hfa
    have b4 := take_sC hfa
    have hlk := look_k (fz := false) hfs hEf
    rw [hfd] at hlk
    have hoh := hC_at ho
    have hfv := fC_vote hFf ho
    have e3 : ∀ z : List AV, z.length = 46 → splice z 0 (sC a ++ sC s) = sC a ++ sC s := fun z hz => by simp [splice, a1, b1, hz]
    have e4 : ∀ z : List AV, z.length = 46 → splice (splice z 0 (sC a)) 23 (sC s) = sC a ++ sC s := fun z hz => splice_E b1 a1 hz
    have e5 : ∀ z : List AV, z.length = 46 → (splice z 0 (sC a)).length = 46 := fun z hz => by rw [splice_len (by omega), hz]
    simp [List.replicate, -W_cond]
    refine W_ifT (by simp [hk]) ?_
    simp [hx, a1, a2, a4, agg_vC, agg_sC, get_signer, -W_cond]
    refine (of_any s.vote hfs).use (by simp) ?_
    simp [hlk, lkR, b1, -W_cond]
    refine W_ifF (by simp) ?_
    simp (decide := true) [a1, a4, b1, b2, b4, agg_vC, agg_sC, hsi, hoh, hF.len, fC_len hFf, hfv, e3, e4, e5, -W_cond]
    refine ⟨by omega, by omega, nextDC.use (vLess_any a.vote p.1.vote hfa hfp) (by simp) ?_⟩
    simp (decide := true) [hlt, -W_cond]
    refine W_ifT (by simp) ?_
    simp [a1, b1, fC_len hFf, hC_len, hF.len]
    have e := List.take_add_one (l := C) (i := k)
    rw [hx] at e
    have hin : i < F.length := by rw [hF.len]; exact hi
    have hsk := List.find?_some hfd
    have hFn := hF.set_ hE (List.mem_of_find?_eq_some hfd) hsk hsi hi
    rw [List.take_of_length_le (by simp [a1, b1]), fC_set hFf hin (p := (a, s)) hfa hfs, hC_set hin (a, s)]
    refine ⟨by omega, by omega, by omega, by omega, by omega, _, ?_, _, _, fd_view (by simp [List.replicate]), FdI.of hsg (k := k + 1) (by omega) (by rw [e]; exact hE.old (List.mem_of_find?_eq_some hfd) hsk) (by rw [e]; exact hFn) rfl⟩
    omega
  · have hfs := hcf s (List.mem_of_getElem? hx)
    have hEf : Fits E := fun e he => hcf e (List.mem_of_mem_take (hE.sub e he))
    have hfa := hEf a (List.mem_of_find?_eq_some hfd)
    have hFf : FitsF F := fun p hp => by
      obtain ⟨i, hi⟩ := List.getElem?_of_mem hp
      obtain ⟨-, h1, h2⟩ := hF.mem i p hi
      exact ⟨hcf _ (List.mem_of_mem_take h1), hcf _ (List.mem_of_mem_take h2)⟩
    have hfp := (hFf p (List.mem_of_getElem? ho)).1
    have a1 := sC_len hfs
    have a2 := take_sv hfs
    have a4 := take_sC hfs
    have b1 := sC_len hfa
    have b2 := take_sv hfa
    have b4 := take_sC hfa
    have hlk := look_k (fz := false) hfs hEf
    rw [hfd] at hlk
    have hoh := hC_at ho
    have hfv := fC_vote hFf ho
    have e3 : ∀ z : List AV, z.length = 46 → splice z 0 (sC a ++ sC s) = sC a ++ sC s := fun z hz => by simp [splice, a1, b1, hz]
    have e4 : ∀ z : List AV, z.length = 46 → splice (splice z 0 (sC a)) 23 (sC s) = sC a ++ sC s := fun z hz => splice_E b1 a1 hz
    have e5 : ∀ z : List AV, z.length = 46 → (splice z 0 (sC a)).length = 46 := fun z hz => by rw [splice_len (by omega), hz]
    simp [List.replicate, -W_cond]
    refine W_ifT (by simp [hk]) ?_
    simp [hx, a1, a2, a4, agg_vC, agg_sC, get_signer, -W_cond]
    refine (of_any s.vote hfs).use (by simp) ?_
    simp [hlk, lkR, b1, -W_cond]
    refine W_ifF (by simp) ?_
    simp (decide := true) [a1, a4, b1, b2, b4, agg_vC, agg_sC, hsi, hoh, hF.len, fC_len hFf, hfv, e3, e4, e5, -W_cond]
    refine ⟨by omega, by omega, nextDC.use (vLess_any a.vote p.1.vote hfa hfp) (by simp) ?_⟩
    simp (decide := true) [hlt, -W_cond]
    refine W_ifF (by simp) ?_
    simp
    have e := List.take_add_one (l := C) (i := k)
    rw [hx] at e
    have hin : i < F.length := by rw [hF.len]; exact hi
    have hsk := List.find?_some hfd
    have hFn := hF.keep hE (List.mem_of_find?_eq_some hfd) hsk hsi ho
    refine ⟨by omega, _, ?_, _, _, fd_view (by simp [List.replicate]), FdI.of hsg (k := k + 1) (by omega) (by rw [e]; exact hE.old (List.mem_of_find?_eq_some hfd) hsk) (by rw [e]; exact hFn) rfl⟩
    omega
  · rw [List.take_length] at hE hF
    have hFf : FitsF F := fun p hp => by
      obtain ⟨i, hi⟩ := List.getElem?_of_mem hp
      obtain ⟨-, h1, h2⟩ := hF.mem i p hi
      exact ⟨hcf _ h1, hcf _ h2⟩
    have hfl := fC_len hFf
    have hff : (fC F).take 460 = fC F := List.take_of_length_le (by rw [hfl, hF.len]; exact Nat.le_refl _)
    simp [List.replicate, -W_cond]
    refine W_ifF (by simp) ?_
    simp [hfl, hF.len, hff]
    refine W_loop (FeI F) 10 ?_ ?_
    · refine ⟨_, _, ?_, FeI.of hF.len (i := 0) (by omega) rfl⟩
      refine View.trans (e2 := feZ F) (H2 := [.row 1000156 false (hC F)]) (View.renum [2] (by simp) ?_ ?_) ?_
      · simp only [gcL_row, gcL_nil, and_true]
        exact ⟨rfl, hC_bd F⟩
      · have hB : Bd 0 (.agg (fC F)) := .agg (fC_bd F)
        simp [List.replicate, hB]
      · have e0 : (evF F 0).length = 0 := rfl
        exact View.virt (H := [.row 1000156 false (hC F)]) 107 rfl (Pw.at_ (by simp [List.replicate, e0])).2
    have hB : Bd 0 (.agg (fC F)) := .agg (fC_bd F)
    have hfe : ∀ i, FitsP (evF F i) := fun i q hq => by
      obtain ⟨o, ho, e⟩ := List.mem_filterMap.1 hq
      exact hFf q (by rw [← e]; exact List.mem_of_mem_take ho)
    rintro _ _ _ (⟨i, hi, ho, m, hm⟩ | ⟨i, hi, p, ho, m, hm⟩ | ⟨m, hm⟩)
    · have hoh := hC_at ho
      have hoa := fC_at hFf ho
      have e6 : ∀ z : List AV, z.length = 46 → splice z 0 (oC none) = oC none := fun z hz => by simp [splice, oC, zSA_len, hz]
      simp [List.replicate, -W_cond]
      refine W_ifT (by simp; omega) ?_
      simp [hoa, hfl, hF.len, oC_len hFf (List.mem_of_getElem? ho), e6, hoh, -W_cond]
      refine ⟨by omega, by omega, by omega, W_ifF (by simp) ?_⟩
      simp
      have e1 : evF F (i + 1) = evF F i := by
        unfold evF
        rw [List.take_add_one, ho, List.filterMap_append]
        simp
      have := FeI.of hF.len (F := F) (i := i + 1) (by omega) rfl
      unfold feE feH at this
      rw [e1] at this
      refine ⟨by omega, _, ?_, _, _, View.renum [0, 1] (by simp) ?_ (by simp [List.replicate, hB]), this⟩
      · omega
      · simp only [gcL_row, gcL_nil, and_true]
        exact ⟨rfl, hC_bd F, rfl, flE_bd _⟩
    · have hoh := hC_at ho
      have hoa := fC_at hFf ho
      obtain ⟨h1, h2⟩ := hFf p (List.mem_of_getElem? ho)
      have e6 : ∀ z : List AV, z.length = 46 → splice z 0 (oC (some p)) = oC (some p) := fun z hz => by simp [splice, oC, sC_len h1, sC_len h2, hz]
      simp [List.replicate, -W_cond]
      refine W_ifT (by simp; omega) ?_
      simp [hoa, hfl, hF.len, oC_len hFf (List.mem_of_getElem? ho), e6, hoh, -W_cond]
      have a1 := sC_len h1
      have b1 := sC_len h2
      refine ⟨by omega, by omega, by omega, W_ifT (by simp) ?_⟩
      simp (decide := true) [oC, a1, b1, List.drop_append, agg_sC]
      obtain ⟨-, m1, m2⟩ := hF.mem i p ho
      refine nextDC.use (copied_any p.1 h1 (hcs _ m1)) (by simp) ?_
      simp (decide := true) [a1, b1, take_sC h2, agg_sC]
      refine nextDC.use (copied_any p.2 h2 (hcs _ m2)) (by simp) ?_
      simp (decide := true) [a1, b1, splice_E a1 b1]
      have hel := flE_len (hfe i)
      have hev : (evF F i).length ≤ 10 := Nat.le_trans (List.length_filterMap_le _ _) (by rw [List.length_take]; omega)
      have e1 : evF F (i + 1) = evF F i ++ [p] := by
        unfold evF
        rw [List.take_add_one, ho, List.filterMap_append]
        simp
      have := FeI.of hF.len (F := F) (i := i + 1) (by omega) rfl
      unfold feE feH at this
      rw [e1, show flat ((evF F i ++ [p]).map eA) = flat ((evF F i).map eA) ++ (sC p.1 ++ sC p.2) by simp [flat]] at this
      rw [List.take_of_length_le (Nat.le_of_eq hel), List.take_of_length_le (l := sC p.1 ++ sC p.2) (by simp [a1, b1])]
      refine ⟨by simp [splice, a1], by omega, by omega, _, ?_, _, _, View.renum [0, 4] (by simp) ?_ (by simp [List.replicate, hB]), this⟩
      · omega
      · simp only [gcL_row, gcL_nil, and_true]
        refine ⟨rfl, hC_bd F, rfl, fun a ha => ?_⟩
        rcases List.mem_append.1 ha with h | h
        · exact flE_bd _ a h
        · exact (List.mem_append.1 h).elim (sC_bd p.1 a) (sC_bd p.2 a)
    · simp [List.replicate, -W_cond]
      refine W_ifF (by simp) ?_
      have e : F.take 10 = F := List.take_of_length_le (by rw [hF.len]; exact Nat.le_refl _)
      simp
      have hel := flE_len (hfe 10)
      refine ⟨_, ⟨_, View.fz1 (id := 1) rfl (.own (k := 46) (es := (evF F 10).map eA) (fun q hq => by obtain ⟨x, h, rfl⟩ := List.mem_map.1 hq; exact eA_len (hfe 10 x h).1 (hfe 10 x h).2) (by simp) (by rw [List.drop_zero, List.take_of_length_le (Nat.le_of_eq hel)]))⟩, ?_, F, ⟨hF, hFf⟩, ?_⟩
      · simp
      · show AV.ls 46 (((F.take 10).filterMap _root_.id).map eA) = _
        rw [e]
end

section
open Go.RowKit
set_option maxRecDepth 10000
attribute [-simp] List.map_take List.map_drop UInt8.ofNat_add List.map_flatten

theorem agg_eA (p : SignedS × SignedS) : AV.agg (sC p.1 ++ sC p.2) = eA p := rfl
inductive GuI (l : List (SignedS × SignedS)) : Nat → List AV → List AObj → Prop
  | mk (i : Nat) (h : i ≤ l.length) (m : Nat) (hm : m = l.length - i) : GuI l m (List.replicate 5 .any ++ [.c (.int .i64 (maskN ((sgsP l).take i)))] ++ List.replicate 4 .any ++ [.ls 46 (l.map eA), .c (.int .i64 l.length), .c (.int .i64 i)] ++ List.replicate 12 .any) []
/-- evidence.Guilty. -/
theorem Guilty_any (K : List (List UInt8)) (hK : ∀ k ∈ K, k.length = 8) (hKl : K.length ≤ 100000) (l : List SignedS) (hf : Fits l) (hl : l.length ≤ 39) (hs : ∀ s ∈ l, s.sig.length ≤ 100000) :
    PCall Tryz.prog 18 [namesA K, .ls 23 (l.map sA)] [] (fun x _ => Bd 0 x ∧ x = .c (.int .i64 (maskN (sgsP (evsP (vfdS K l) 10))))) := by
  refine PCall.enter mixed Tryz.func18 rfl Tryz.ntmps18 Tryz.results18 (by simp) (by kernel_rfl) ?_
  simp [List.replicate]
  have hvf : Fits (vfdS K l) := vfd_fit K hf
  refine (PCall.pure_ (Find_any K hK hKl l hf hl hs) (by simp) []).mono (fun x H' h => ?_)
  obtain ⟨⟨F, ⟨hF, hFf⟩, hx⟩, rfl⟩ := h
  have hsame := sgs_same hvf (canS_is (fun x hx => hf x (List.mem_filter.1 hx).1)).asc (fun x hx => vfd_valid hf hx) hF
  rw [← hsame, hx]
  have hfp : FitsP (F.filterMap _root_.id) := fun q hq => by
    obtain ⟨o, ho, e⟩ := List.mem_filterMap.1 hq
    exact hFf q (by rw [← e]; exact ho)
  have hsg : ∀ p ∈ F.filterMap _root_.id, ∃ j : Nat, j < 10 ∧ p.1.vote.signer = (j : Int) := fun q hq => by
    obtain ⟨o, ho, e⟩ := List.mem_filterMap.1 hq
    obtain ⟨j, hj⟩ := List.getElem?_of_mem ho
    have hjl := (List.getElem?_eq_some_iff.1 hj).1
    rw [show o = some q from e] at hj
    exact ⟨j, by rw [← hF.len]; exact hjl, (hF.mem j q hj).1⟩
  have hel : (F.filterMap _root_.id).length ≤ 10 := Nat.le_trans (List.length_filterMap_le _ _) (Nat.le_of_eq hF.len)
  generalize F.filterMap _root_.id = E at *
  clear hx hsame hFf hF
  simp
  refine W_loop (GuI E) E.length ?_ ?_
  · exact ⟨_, _, View.forget (by simp [List.replicate, maskN]), .mk 0 (by omega) _ rfl⟩
  rintro _ _ _ ⟨i, hi, m, hm⟩
  simp [List.replicate, -W_cond]
  by_cases hlt : i < E.length
  · obtain ⟨p, hx⟩ : ∃ p, E[i]? = some p := ⟨_, List.getElem?_eq_getElem hlt⟩
    obtain ⟨h1, h2⟩ := hfp p (List.mem_of_getElem? hx)
    obtain ⟨j, hj, hsj⟩ := hsg p (List.mem_of_getElem? hx)
    have a1 := sC_len h1
    have b1 := sC_len h2
    have hg : ∀ h, (sC p.1 ++ sC p.2)[4]'h = .c (.int .i64 (j : Int)) := fun h => by
      rw [List.getElem_append_left (by omega), get_signer, hsj]
    refine W_ifT (by simp [hlt]) ?_
    have e46 : (sC p.1 ++ sC p.2).take 46 = sC p.1 ++ sC p.2 := List.take_of_length_le (by simp [a1, b1])
    simp [hx, a1, b1, hg, agg_eA, e46]
    have key : ∀ k : Fin 10, IntKind.i64.wrap (2 ^ min k.1 64) = 2 ^ k.1 := by decide +kernel
    have hgx : (sgsP E)[i]? = some j := by simp [sgsP, hx, hsj]
    have := GuI.mk (l := E) (i + 1) (by omega) _ rfl
    rw [List.take_add_one, hgx] at this
    refine ⟨by omega, _, ?_, _, _, View.renum [] (by simp) (by simp) ?_, this⟩
    · omega
    · have e := key ⟨j, hj⟩
      simp only at e
      simp [List.replicate, maskN, e]
  · obtain rfl : i = E.length := by omega
    refine W_ifF (by simp) ?_
    have e : (sgsP E).take E.length = sgsP E := List.take_of_length_le (by simp [sgsP])
    simp [e]
end

section
open Go
section
variable {α : Type}
structure OrdL (lt : α → α → Bool) (P : α → Prop) : Prop where
  asymm : ∀ a b, P a → P b → lt a b = true → lt b a = false
  trans : ∀ a b c, P a → P b → P c → lt a b = true → lt b c = true → lt a c = true
  total : ∀ a b, P a → P b → lt a b = false → lt b a = false → a = b
variable {lt : α → α → Bool} {P : α → Prop}
theorem OrdL.irrefl (h : OrdL lt P) {a : α} (ha : P a) : lt a a = false := by
  cases hc : lt a a with
  | false => rfl
  | true => have := h.asymm a a ha ha hc; rw [hc] at this; cases this
def StrL (lt : α → α → Bool) (l : List α) : Prop := l.Pairwise (fun a b => lt a b = true)
theorem str_unique (h : OrdL lt P) : ∀ {l m : List α}, (∀ x ∈ l, P x) → StrL lt l → StrL lt m → (∀ x, x ∈ l ↔ x ∈ m) → l = m
  | [], [], _, _, _, _ => rfl
  | [], y :: m, _, _, _, he => by have := (he y).2 (by simp); simp at this
  | x :: l, [], _, _, _, he => by have := (he x).1 (by simp); simp at this
  | x :: l, y :: m, hp, h1, h2, he => by
    unfold StrL at h1 h2
    rw [List.pairwise_cons] at h1 h2
    have hx : x ∈ y :: m := (he x).1 (by simp)
    have hy : y ∈ x :: l := (he y).2 (by simp)
    have px : P x := hp x (by simp)
    have py : P y := hp y hy
    have e : x = y := by
      rcases List.mem_cons.1 hx with e | hx'
      · exact e
      rcases List.mem_cons.1 hy with e | hy'
      · exact e.symm
      have a1 := h2.1 x hx'
      have a2 := h1.1 y hy'
      rw [h.asymm _ _ px py a2] at a1
      cases a1
    subst e
    have n1 : x ∉ l := fun hc => by have := h1.1 x hc; rw [h.irrefl px] at this; cases this
    have n2 : x ∉ m := fun hc => by have := h2.1 x hc; rw [h.irrefl px] at this; cases this
    refine congrArg _ (str_unique h (fun z hz => hp z (by simp [hz])) h1.2 h2.2 fun z => ?_)
    have := he z
    simp only [List.mem_cons] at this
    constructor
    · intro hz
      rcases this.1 (.inr hz) with rfl | e
      · exact absurd hz n1
      · exact e
    · intro hz
      rcases this.2 (.inr hz) with rfl | e
      · exact absurd hz n2
      · exact e
theorem insP_asc (h : OrdL lt P) {x : α} (hx : P x) : ∀ {l : List α}, (∀ s ∈ l, P s) → AscL lt l → AscL lt (insL lt x l)
  | [], _, _ => by simp [insL, AscL]
  | y :: l, hf, ha => by
    have hy : P y := hf y (by simp)
    have hfl : ∀ s ∈ l, P s := fun s hs => hf s (by simp [hs])
    unfold insL
    unfold AscL at *
    rw [List.pairwise_cons] at ha
    by_cases hc : lt y x = true
    · rw [if_pos hc, List.pairwise_cons]
      refine ⟨fun z hz => ?_, insP_asc h hx hfl ha.2⟩
      rcases List.mem_cons.1 ((insL_perm x l).mem_iff.1 hz) with rfl | hz'
      · exact h.asymm _ _ hy hx hc
      · exact ha.1 z hz'
    · rw [if_neg hc, List.pairwise_cons]
      have hxy : lt y x = false := by simpa using hc
      refine ⟨fun z hz => ?_, List.pairwise_cons.2 ha⟩
      rcases List.mem_cons.1 hz with rfl | hz'
      · exact hxy
      · have hz1 := ha.1 z hz'
        have pz := hfl z hz'
        cases hc2 : lt z x with
        | false => rfl
        | true =>
          cases hc3 : lt y z with
          | true => rw [h.trans y z x hy pz hx hc3 hc2] at hxy; cases hxy
          | false =>
            have e := h.total z y pz hy hz1 hc3
            rw [e, hxy] at hc2
            cases hc2
theorem sortP_asc (h : OrdL lt P) : ∀ {l : List α}, (∀ s ∈ l, P s) → AscL lt (sortL lt l)
  | [], _ => by simp [sortL, AscL]
  | x :: l, hf => insP_asc h (hf x (by simp)) (fun s hs => hf s (List.mem_cons_of_mem _ ((sortL_perm l).mem_iff.1 hs))) (sortP_asc h (fun s hs => hf s (by simp [hs])))
def posL (lt : α → α → Bool) (x : α) : List α → Nat
  | [] => 0
  | y :: l => if lt y x then posL lt x l + 1 else 0
theorem posL_le (x : α) : ∀ l : List α, posL lt x l ≤ l.length
  | [] => by simp [posL]
  | y :: l => by
    have := posL_le x l
    unfold posL
    split
    · simp; omega
    · simp
theorem posL_lt (x : α) : ∀ (l : List α) (i : Nat), i < posL lt x l → ∃ y, l[i]? = some y ∧ lt y x = true
  | [], i, h => by simp [posL] at h
  | y :: l, i, h => by
    unfold posL at h
    split at h
    · next hy =>
      cases i with
      | zero => exact ⟨y, rfl, hy⟩
      | succ i => obtain ⟨z, hz, hz2⟩ := posL_lt x l i (by omega); exact ⟨z, by simpa using hz, hz2⟩
    · omega
theorem posL_at (x : α) : ∀ (l : List α) (y : α), l[posL lt x l]? = some y → lt y x = false
  | [], y, h => by simp at h
  | z :: l, y, h => by
    unfold posL at h
    split at h
    · exact posL_at x l y (by simpa using h)
    · next hz => simp at h; subst h; simpa using hz
theorem posL_eq (x : α) (l : List α) (k : Nat) (h1 : ∀ i, i < k → ∃ y, l[i]? = some y ∧ lt y x = true) (h2 : k = l.length ∨ ∃ y, l[k]? = some y ∧ lt y x = false) : posL lt x l = k := by
  rcases Nat.lt_trichotomy (posL lt x l) k with h | h | h
  · obtain ⟨y, hy1, hy2⟩ := h1 _ h
    have := posL_at x l y hy1
    rw [this] at hy2; cases hy2
  · exact h
  · obtain ⟨y, hy1, hy2⟩ := posL_lt x l k h
    rcases h2 with h2 | ⟨z, hz1, hz2⟩
    · have := (List.getElem?_eq_some_iff.1 hy1).1; omega
    · rw [hz1] at hy1
      rw [← Option.some.inj hy1, hz2] at hy2
      cases hy2
end
section
variable {α : Type} [DecidableEq α]
variable {lt : α → α → Bool} {P : α → Prop}
theorem comp_memS : ∀ (l : List α) (x : α), x ∈ compL l ↔ x ∈ l
  | [], _ => Iff.rfl
  | [_], _ => Iff.rfl
  | a :: b :: l, x => by
    have ih := comp_memS (b :: l) x
    rw [compL_two]
    split
    · next e => rw [ih, e]; simp
    · rw [List.mem_cons, ih]; simp
theorem comp_str (h : OrdL lt P) : ∀ {l : List α}, (∀ x ∈ l, P x) → AscL lt l → StrL lt (compL l)
  | [], _, _ => by simp [compL, StrL]
  | [_], _, _ => by simp [compL, StrL]
  | a :: b :: l, hp, ha => by
    unfold AscL at ha
    rw [List.pairwise_cons] at ha
    have ih := comp_str h (l := b :: l) (fun z hz => hp z (by simp [hz])) ha.2
    rw [compL_two]
    split
    · exact ih
    · next hne =>
      unfold StrL at ih ⊢
      rw [List.pairwise_cons]
      refine ⟨fun z hz => ?_, ih⟩
      have hz' := (comp_memS _ _).1 hz
      have pa := hp a (by simp)
      have pb := hp b (by simp)
      have pz := hp z (List.mem_cons_of_mem _ hz')
      have hab : lt a b = true := by
        cases hc : lt a b with
        | true => rfl
        | false => exact absurd (h.total a b pa pb hc (ha.1 b (by simp))) hne
      cases hc : lt a z with
      | true => rfl
      | false =>
        have e := h.total a z pa pz hc (ha.1 z hz')
        subst e
        rcases List.mem_cons.1 hz' with e | e
        · exact absurd e hne
        · have := (List.pairwise_cons.1 ha.2).1 _ e
          rw [hab] at this
          cases this
def canL (lt : α → α → Bool) (l : List α) : List α := compL (sortL lt l)
theorem can_mem (l : List α) (x : α) : x ∈ canL lt l ↔ x ∈ l := by
  unfold canL
  rw [comp_memS]
  exact (sortL_perm l).mem_iff
theorem can_str (h : OrdL lt P) {l : List α} (hf : ∀ s ∈ l, P s) : StrL lt (canL lt l) :=
  comp_str h (fun x hx => hf x ((sortL_perm l).mem_iff.1 hx)) (sortP_asc h hf)
def rIns (lt : α → α → Bool) (l : List α) (x : α) : List α := if l[posL lt x l]? = some x then l else l.take (posL lt x l) ++ [x] ++ l.drop (posL lt x l)
theorem rIns_cons (x y : α) (l : List α) (h : lt y x = true) : rIns lt (y :: l) x = y :: rIns lt l x := by
  have e : posL lt x (y :: l) = posL lt x l + 1 := by rw [posL, if_pos h]
  unfold rIns
  rw [e]
  by_cases hc : l[posL lt x l]? = some x
  · rw [if_pos hc, if_pos (by simpa using hc)]
  · rw [if_neg hc, if_neg (by simpa using hc)]; simp
theorem rIns_mem (l : List α) (x z : α) : z ∈ rIns lt l x ↔ z = x ∨ z ∈ l := by
  unfold rIns
  split
  · next h =>
    constructor
    · exact .inr
    · rintro (rfl | hz)
      · exact List.mem_of_getElem? h
      · exact hz
  · constructor
    · intro hz
      simp only [List.mem_append, List.mem_singleton] at hz
      rcases hz with (hz | hz) | hz
      · exact .inr (List.mem_of_mem_take hz)
      · exact .inl hz
      · exact .inr (List.mem_of_mem_drop hz)
    · intro hz
      simp only [List.mem_append, List.mem_singleton]
      rcases hz with hz | hz
      · exact .inl (.inr hz)
      · rw [← List.take_append_drop (posL lt x l) l] at hz
        rcases List.mem_append.1 hz with hz | hz
        · exact .inl (.inl hz)
        · exact .inr hz
theorem rIns_str (h : OrdL lt P) {x : α} (hx : P x) : ∀ {l : List α}, (∀ s ∈ l, P s) → StrL lt l → StrL lt (rIns lt l x)
  | [], _, _ => by simp [rIns, posL, StrL]
  | y :: l, hf, hs => by
    have hy : P y := hf y (by simp)
    have hfl : ∀ s ∈ l, P s := fun s hs => hf s (by simp [hs])
    unfold StrL at hs
    rw [List.pairwise_cons] at hs
    by_cases hc : lt y x = true
    · rw [rIns_cons x y l hc]
      unfold StrL
      rw [List.pairwise_cons]
      refine ⟨fun z hz => ?_, rIns_str h hx hfl hs.2⟩
      rcases (rIns_mem _ _ _).1 hz with rfl | hz'
      · exact hc
      · exact hs.1 z hz'
    · have hyx : lt y x = false := by simpa using hc
      have e : posL lt x (y :: l) = 0 := by rw [posL, if_neg hc]
      unfold rIns
      rw [e]
      by_cases hxy : y = x
      · rw [if_pos (by simp [hxy])]
        exact List.pairwise_cons.2 hs
      · rw [if_neg (by simpa using hxy)]
        have hlt : lt x y = true := by
          cases hc2 : lt x y with
          | true => rfl
          | false => exact absurd (h.total y x hy hx hyx hc2) hxy
        show StrL lt (x :: y :: l)
        refine List.pairwise_cons.2 ⟨fun z hz => ?_, List.pairwise_cons.2 hs⟩
        rcases List.mem_cons.1 hz with rfl | hz'
        · exact hlt
        · exact h.trans x y z hx hy (hfl z hz') hlt (hs.1 z hz')
def refL (lt : α → α → Bool) (l : List α) : List α := l.foldl (rIns lt) []
theorem ref_fold (h : OrdL lt P) : ∀ (l acc : List α), (∀ s ∈ l, P s) → (∀ s ∈ acc, P s) → StrL lt acc → StrL lt (l.foldl (rIns lt) acc) ∧ ∀ z, z ∈ l.foldl (rIns lt) acc ↔ z ∈ acc ∨ z ∈ l
  | [], acc, _, _, hs => ⟨hs, fun z => by simp⟩
  | x :: l, acc, hl, ha, hs => by
    have hx : P x := hl x (by simp)
    have := ref_fold h l (rIns lt acc x) (fun s hs => hl s (by simp [hs])) (fun s hs => by
      rcases (rIns_mem _ _ _).1 hs with rfl | e
      · exact hx
      · exact ha s e) (rIns_str h hx ha hs)
    refine ⟨this.1, fun z => ?_⟩
    rw [List.foldl_cons, this.2, rIns_mem, List.mem_cons]
    constructor
    · rintro ((e | e) | e)
      · exact .inr (.inl e)
      · exact .inl e
      · exact .inr (.inr e)
    · rintro (e | e | e)
      · exact .inl (.inr e)
      · exact .inl (.inl e)
      · exact .inr e
theorem ref_can (h : OrdL lt P) {l : List α} (hf : ∀ s ∈ l, P s) : refL lt l = canL lt l := by
  have := ref_fold h l [] hf (by simp) (by simp [StrL])
  refine str_unique h (fun x hx => hf x (by have := (this.2 x).1 hx; simpa using this)) this.1 (can_str h hf) fun x => ?_
  rw [can_mem]
  unfold refL
  rw [this.2]
  simp
theorem rIns_len (l : List α) (x : α) : (rIns lt l x).length ≤ l.length + 1 := by
  unfold rIns
  split
  · omega
  · have := posL_le (lt := lt) x l
    simp only [List.length_append, List.length_take, List.length_cons, List.length_nil, List.length_drop]
    omega
theorem ref_snoc (l : List α) (x : α) : refL lt (l ++ [x]) = rIns lt (refL lt l) x := by simp [refL]
theorem ref_len : ∀ (l acc : List α), (l.foldl (rIns lt) acc).length ≤ acc.length + l.length
  | [], acc => by simp
  | x :: l, acc => by
    have := ref_len l (rIns lt acc x)
    have h2 := rIns_len (lt := lt) acc x
    simp only [List.foldl_cons, List.length_cons]
    omega
end
theorem ordT : OrdL lessT (fun _ => True) := ⟨fun _ _ _ _ h => lessT_asymm h, fun a b c _ _ _ h1 h2 => lessT_trans a b c h1 h2, fun a b _ _ h1 h2 => lessT_total a b h1 h2⟩
theorem ref_next {α : Type} [DecidableEq α] {lt : α → α → Bool} {l : List α} {i : Nat} {x : α} (hx : l[i]? = some x) : refL lt (l.take (i + 1)) = rIns lt (refL lt (l.take i)) x := by
  rw [take_one hx, ref_snoc]
theorem ref_take_len {α : Type} [DecidableEq α] {lt : α → α → Bool} (l : List α) (i : Nat) : (refL lt (l.take i)).length ≤ i := by
  have := ref_len (lt := lt) (l.take i) []
  simp only [List.length_nil, Nat.zero_add, List.length_take] at this
  unfold refL
  omega
theorem ft_ref (T : List (List UInt8)) : refL lessT T = canL lessT T := ref_can ordT (fun _ _ => trivial)
/-- How far the search for a place has come: all before j lie below x. -/
def PosI (x : List UInt8) (R : List (List UInt8)) (j : Nat) : Prop := j ≤ R.length ∧ ∀ i, i < j → ∃ y, R[i]? = some y ∧ lessT y x = true
theorem PosI.zero (x : List UInt8) (R : List (List UInt8)) : PosI x R 0 := ⟨Nat.zero_le _, fun _ h => absurd h (Nat.not_lt_zero _)⟩
theorem PosI.next {x : List UInt8} {R : List (List UInt8)} {j : Nat} (h : PosI x R j) {y : List UInt8} (hy : R[j]? = some y) (hl : lessT y x = true) : PosI x R (j + 1) :=
  ⟨(List.getElem?_eq_some_iff.1 hy).1, fun i hi => by
    rcases Nat.lt_or_ge i j with h1 | h1
    · exact h.2 i h1
    · obtain rfl : i = j := by omega
      exact ⟨y, hy, hl⟩⟩
theorem PosI.here {x : List UInt8} {R : List (List UInt8)} {j : Nat} (h : PosI x R j) (hs : j = R.length ∨ ∃ y, R[j]? = some y ∧ lessT y x = false) : posL lessT x R = j := posL_eq x R j h.2 hs
theorem rIns_same {x : List UInt8} {R : List (List UInt8)} {j : Nat} (h : posL lessT x R = j) (hs : R[j]? = some x) : rIns lessT R x = R := by unfold rIns; rw [h, if_pos hs]
theorem rIns_new {x : List UInt8} {R : List (List UInt8)} {j : Nat} (h : posL lessT x R = j) (hs : R[j]? ≠ some x) : rIns lessT R x = R.take j ++ [x] ++ R.drop j := by unfold rIns; rw [h, if_neg hs]
end

section
open Go.RowKit Go.Shelf Go.Sort

section
variable {F : Nat → Prop} {β : Loc} {H : List AObj} {w w' : World}
/-- The whole row of an object given anew. -/
theorem row_new {id b s : Nat} {t : TypeId} {cs cs' : List AV} {C C' : Array Value} {vs' : List Value} (hr : Rep F β H w) (hi : H[id]? = some (.row t false cs)) (hb : β id = some (b, s)) (ht : t < 2000000) (hC : Blk w b (t % 1000000) C) (hC' : Blk w' b (t % 1000000) C') (hsz : C'.size = C.size) (hu : Upd (fun k => k = b) w w') (hlen : cs'.length = cs.length) (hvl : vs'.length = cs'.length) (htk : C'.toList.take vs'.length = vs') (ho : Ones vs')
    (hv : ∀ (i : Nat) (a : AV) (v : Value), cs'[i]? = some a → vs'[i]? = some v → V F β H w a v) :
    Rep F β (H.set id (.row t false cs')) w' ∧ Ext β H w β (H.set id (.row t false cs')) w' := by
  have hlt := (List.getElem?_eq_some_iff.1 hi).1
  have he := ext_store hr hi hb (fun _ => Nat.le_of_eq hlen.symm) hu
  refine ⟨⟨fun k hk => Nat.lt_of_lt_of_le (hr.far k hk) hu.size, fun j t' fz c h => ?_, fun i j ai aj b1 s1 s2 h1 h2 => ?_⟩, he⟩
  · by_cases e : id = j
    · subst e
      rw [get_set_eq hlt] at h
      cases h
      rcases hr.row id _ _ _ hi with ⟨h1, h2⟩ | ⟨b', C0, vs, h1, h2, h3, h4, h5, h6, h7⟩
      · rw [h2] at hb; cases hb
      · rw [szR_lt ht, hb] at h1
        cases h1
        have : C0 = C := by
          have h3' := h3.1.blk ht
          unfold Blk at h3' hC
          rw [h3'] at hC
          cases hC; rfl
        subst this
        refine .inr ⟨b, C', vs', ?_, h2, ⟨.of ht hC', fun h => ?_⟩, hvl, htk, ho, fun i a v ha hv' => (hv i a v ha hv').ext he⟩
        · rw [hb, szR_lt ht, hsz]
        · rw [hsz, h3.2 h, h4, hvl, hlen]
    · rw [get_set_ne e] at h
      refine (hr.row j t' fz c h).ext he rfl (fun b1 s1 hb1 => ?_)
      refine hu.block b1 (hr.lt ⟨_, _, _, h⟩ hb1).1 (fun e1 => ?_)
      subst e1
      exact e (hr.inj id j ⟨_, _, _, hi⟩ ⟨_, _, _, h⟩ _ _ _ hb hb1)
  · have back : ∀ {j}, alive (H.set id (.row t false cs')) j → alive H j := fun {j} ⟨t', fz, c, h⟩ => by
      by_cases e : id = j
      · subst e; exact ⟨_, _, _, hi⟩
      · rw [get_set_ne e] at h; exact ⟨_, _, _, h⟩
    exact hr.inj i j (back ai) (back aj) b1 s1 s2 h1 h2
end
/-- A value that reads as a text. -/
abbrev TxV (F : Nat → Prop) (β : Loc) (H : List AObj) (w : World) : Type := { p : Value × List UInt8 // V F β H w (bytesA p.2) p.1 ∧ p.1.oneCell' = true }
instance (F : Nat → Prop) (β : Loc) (H : List AObj) (w : World) : Inhabited (TxV F β H w) := ⟨⟨(.slice none 0 0, []), .ls0 none (Nat.zero_le _), rfl⟩⟩
abbrev encX {F : Nat → Prop} {β : Loc} {H : List AObj} {w : World} (x : TxV F β H w) : Value := x.1.1
abbrev cmpX {F : Nat → Prop} {β : Loc} {H : List AObj} {w : World} (x y : TxV F β H w) : Int := cmpB x.1.2 y.1.2
theorem ltV {F : Nat → Prop} {β : Loc} {H : List AObj} {w : World} (x y : TxV F β H w) : ltOf cmpX x y = lessT x.1.2 y.1.2 := cmpB_lt _ _
theorem swoV {F : Nat → Prop} {β : Loc} {H : List AObj} {w : World} : SWO (ltOf (cmpX (F := F) (β := β) (H := H) (w := w))) where
  irrefl x := by rw [ltV]; exact lessT_irrefl _
  trans x y z h1 h2 := by rw [ltV] at *; exact lessT_trans _ _ _ h1 h2
  ntrans x y z h1 h2 := by rw [ltV] at *; exact lessT_ntrans _ _ _ h1 h2
theorem oneV {F : Nat → Prop} {β : Loc} {H : List AObj} {w : World} : OneCell (encX (F := F) (β := β) (H := H) (w := w)) := fun x => x.2.2
theorem upd_sort {α : Type} [Inhabited α] (enc : α → Value) (w : World) (blk off m : Nat) (dk : Array α) (os : Array Obj) : Upd (fun k => k = blk) w (sortWorld enc w blk off m dk os) := by
  refine ⟨rfl, rfl, rfl, ?_, fun k hk hn => ?_⟩
  · show w.heap.size ≤ (w.heap.modify blk _ ++ os).size
    rw [Array.size_append, Array.size_modify]
    omega
  · show (w.heap.modify blk _ ++ os)[k]? = w.heap[k]?
    rw [Array.getElem?_append_left (by rw [Array.size_modify]; exact hk), Array.getElem?_modify, if_neg (fun e => hn e.symm)]
theorem blk_sort {α : Type} [Inhabited α] (enc : α → Value) {w : World} {blk : Nat} {t : TypeId} {cur : Array Value} (h : Blk w blk t cur) (off m : Nat) (dk : Array α) (os : Array Obj) : Blk (sortWorld enc w blk off m dk os) blk t (putCells enc off dk cur) := by
  show (w.heap.modify blk _ ++ os)[blk]? = _
  rw [Array.getElem?_append_left (by rw [Array.size_modify]; exact h.lt), Array.getElem?_modify, if_pos rfl]
  have h' : w.heap[blk]? = some (.cells cur t (0, 0)) := h
  rw [h']
  rfl
theorem list_pick {α β : Type} {R : α → β → Prop} : ∀ (l : List α), (∀ x ∈ l, ∃ y, R x y) → ∃ r : List β, r.length = l.length ∧ ∀ (i : Nat) x, l[i]? = some x → ∃ y, r[i]? = some y ∧ R x y
  | [], _ => ⟨[], rfl, fun _ _ h => by cases h⟩
  | a :: l, h => by
    obtain ⟨r, h1, h2⟩ := list_pick l (fun x hx => h x (by simp [hx]))
    obtain ⟨y, hy⟩ := h a (by simp)
    refine ⟨y :: r, by simp [h1], fun i x hx => ?_⟩
    cases i with
    | zero => simp at hx; subst hx; exact ⟨y, rfl, hy⟩
    | succ i => simpa using h2 i x (by simpa using hx)
set_option maxRecDepth 100000 in
/-- slices.SortFunc of texts in an own row. -/
theorem SortT_any {H : List AObj} {id : Nat} {l : List (List UInt8)} (hi : H[id]? = some (.row 31 false (l.map bytesA))) (hs : l.length ≤ 100000) : PCall Tryz.prog 20 [.own id 0 l.length 1, .fn 21 []] H (fun x H' => x = .tup [] ∧ H' = H.set id (.row 31 false ((sortL lessT l).map bytesA))) := by
  intro F β w vs hr hvl
  have hlen := hvl.1
  match vs, hlen with
  | [v0, v1], _ =>
    have h0 := hvl.2 0 _ _ rfl rfl
    have h1 := hvl.2 1 _ _ rfl rfl
    have e1 : v1 = .func (.func 21) #[] #[] := by
      cases h1 with
      | leaf h => exact h.elim
      | fn hl h => obtain rfl := List.eq_nil_of_length_eq_zero hl; rfl
    subst e1
    cases h0 with
    | leaf h0 =>
    obtain ⟨hid, -, h0⟩ := h0
    obtain ⟨-, -, h0⟩ := h0 _ _ _ hi
    refine .inl ⟨⟨_, _, Tryz.func20, rfl⟩, ?_⟩
    rcases Nat.eq_zero_or_pos l.length with hz | hz
    · have hl : l = [] := List.eq_nil_of_length_eq_zero hz
      subst hl
      obtain ⟨A, c, rfl⟩ : ∃ A c, v0 = .slice A 0 c := by
        rcases h0 with ⟨-, a, e⟩ | ⟨b, s, cap, -, e, -⟩
        · exact ⟨_, _, e⟩
        · exact ⟨_, _, e⟩
      have hc := AnyF.slices_SortFunc_none (P := Tryz.prog) (ρ := Tryz.sortTexts_ren) { Tryz.sortTexts with } A c (.func (.func 21) #[] #[]) w
      refine Calls.mono (show Calls Tryz.prog 20 _ _ _ from hc) ?_
      rintro e w' ⟨rfl, rfl⟩
      refine ⟨.tup [], H, β, _, rfl, ⟨rfl, (set_same hi).symm⟩, hr, Ext.refl _ _ _, VR.undef⟩
    · rcases h0 with ⟨hz', -⟩ | ⟨b, s, cap, hb, rfl, hnc, hcm, hcs⟩
      · omega
      have hrow := hr.row id _ _ _ hi
      rcases hrow with ⟨-, h2⟩ | ⟨b', C, us, e2, hF, hSt, hul, htk, hon, hV⟩
      · rw [h2] at hb; cases hb
      rw [szR_lt (by decide)] at e2
      rw [hb] at e2
      injection e2 with e2
      injection e2 with e2 e3
      subst e2 e3
      have hB := hSt.1.blk (by decide)
      rw [List.length_map] at hul
      obtain ⟨r, hrl0, hrx⟩ := list_pick (R := fun (i : Nat) (y : TxV F β H w) => us[i]? = some y.1.1 ∧ l[i]? = some y.1.2) (List.range l.length) (fun i hi => by
        have hi' : i < l.length := List.mem_range.1 hi
        have hu' : i < us.length := by omega
        exact ⟨⟨(us[i], l[i]), hV i _ _ (by rw [List.getElem?_map, List.getElem?_eq_getElem hi']; rfl) (List.getElem?_eq_getElem hu'), hon _ (List.getElem_mem _)⟩, List.getElem?_eq_getElem hu', List.getElem?_eq_getElem hi'⟩)
      rw [List.length_range] at hrl0
      have hri : ∀ i (y : TxV F β H w), r[i]? = some y → us[i]? = some y.1.1 ∧ l[i]? = some y.1.2 := fun i y hy => by
        have hi : i < l.length := by rw [← hrl0]; exact (List.getElem?_eq_some_iff.1 hy).1
        obtain ⟨z, hz, hz2⟩ := hrx i i (by rw [List.getElem?_range hi])
        rw [hy] at hz
        rw [Option.some.inj hz]
        exact hz2
      have hrl : r.map (·.1.2) = l := by
        apply List.ext_getElem?
        intro i
        rw [List.getElem?_map]
        cases hc : r[i]? with
        | none =>
          have : l[i]? = none := by rw [List.getElem?_eq_none_iff] at hc ⊢; omega
          rw [this]; rfl
        | some y => rw [(hri i y hc).2]; rfl
      have hds : r.toArray.size = l.length := by simp [hrl0]
      have hcell : ∀ j u, us[j]? = some u → C[j]? = some u := fun j u hu => by
        rw [← htk, List.getElem?_take] at hu
        split at hu
        · simpa using hu
        · cases hu
      have hCl : l.length ≤ C.size := by
        have := congrArg List.length htk
        rw [List.length_take] at this
        simp at this
        omega
      have hH : Holds encX w b 0 r.toArray := by
        intro j hj
        have hj' : j < r.length := by simpa using hj
        refine ⟨?_, hB.frozen _⟩
        rw [Nat.zero_add, hB.cell]
        have h1 := (hri j _ (List.getElem?_eq_getElem hj')).1
        rw [hcell _ _ h1]
        have : r.toArray[j]! = r[j] := by rw [getElem!_pos _ j hj]; simp
        rw [this]
      have hext : ∀ (m : Nat) (os : Array Obj) (dk : Array (TxV F β H w)) (cs' : List AV), cs'.length = l.length → Ext β H w β (H.set id (.row 31 false cs')) (sortWorld encX w b 0 m dk os) := fun m os dk cs' hl' => ext_store hr hi hb (fun _ => by rw [hl', List.length_map]; exact Nat.le_refl _) (upd_sort encX w b 0 m dk os)
      have hcr : CmpReads Tryz.prog 21 #[] (encX (F := F) (β := β) (H := H) (w := w)) cmpX b 0 r.toArray.size w := by
        intro m os dk _ x y
        have hx := hext m os dk (l.map bytesA) (List.length_map _)
        refine (bCompare_any ((x.2.1.ext hx).rdB) ((y.2.1.ext hx).rdB)).mono ?_
        rintro e w' ⟨rfl, rfl⟩
        exact ⟨rfl, 0, rfl⟩
      have hcon := Any.slices_SortFunc (P := Tryz.prog) (ρ := Tryz.sortTexts_ren) Tryz.sortTexts (encX (F := F) (β := β) (H := H) (w := w)) oneV cmpX swoV 21 #[] b 0 cap r.toArray w (enters_of Tryz.func21 (by kernel_rfl) rfl) hcr.lays hH hB.lt (by rw [hds]; omega)
      rw [hds] at hcon
      refine Calls.mono (show Calls Tryz.prog 20 #[.slice (some ⟨b, 0, none⟩) l.length cap, .func (.func 21) #[] #[]] w _ from hcon) ?_
      rintro e w' ⟨rfl, d', n, os, ⟨p1, _, p3⟩, hsrt, rfl⟩
      have hd' : d'.size = l.length := by rw [p1, hds]
      have hperm : d'.toList.Perm r := by
        have q1 : d'.extract 0 l.length = d' := by rw [← hd']; simp
        have q2 : r.toArray.extract 0 l.length = r.toArray := by rw [← hds]; simp
        rw [q1, q2] at p3
        exact p3
      have hl' : d'.toList.map (·.1.2) = sortL lessT l := by
        refine sortT_unique ?_ (by rw [← hrl]; exact hperm.map _)
        unfold AscL
        rw [List.pairwise_map, List.pairwise_iff_getElem]
        intro i j hi hj hij
        have := hsrt i j (Nat.zero_le _) hij (by rw [← hd']; simpa using hj)
        rw [ltV] at this
        have f1 : d'[i]! = d'.toList[i] := by rw [getElem!_pos _ i (by simpa using hi)]; simp
        have f2 : d'[j]! = d'.toList[j] := by rw [getElem!_pos _ j (by simpa using hj)]; simp
        rw [f1, f2] at this
        exact this
      have hsl : (sortL lessT l).length = l.length := (sortL_perm l).length_eq
      obtain ⟨hrep, hx⟩ := row_new (C' := putCells encX 0 d' C) (cs' := (sortL lessT l).map bytesA) (vs' := d'.toList.map encX) hr hi hb (by decide) hB (blk_sort encX hB 0 n d' os) (by simp [putCells]) (upd_sort encX w b 0 n d' os) (by simp [hsl]) (by simp [hsl, hd']) (by
        apply List.ext_getElem?
        intro i
        rw [List.getElem?_take, List.length_map, Array.length_toList, hd', List.getElem?_map]
        by_cases hi : i < l.length
        · rw [if_pos (by omega)]
          simp only [putCells, Array.getElem?_toList, Array.getElem?_mapIdx]
          have hic : i < C.size := by omega
          rw [Array.getElem?_eq_getElem hic]
          simp only [Option.map_some]
          rw [if_pos (by omega), Nat.sub_zero, Array.getElem?_eq_getElem (by omega)]
          simp only [Option.map_some]
          rw [getElem!_pos d' i (by omega)]
        · rw [if_neg (by omega), Array.getElem?_toList, Array.getElem?_eq_none (by omega)]
          rfl) (fun u hu => by
        obtain ⟨x, -, rfl⟩ := List.mem_map.1 hu
        exact x.2.2) (fun i a v ha hv => by
        rw [← hl', List.map_map, List.getElem?_map] at ha
        rw [List.getElem?_map] at hv
        obtain ⟨y, hy, rfl⟩ := Option.map_eq_some_iff.1 ha
        rw [hy] at hv
        cases hv
        exact y.2.1)
      exact ⟨.tup [], _, β, _, rfl, ⟨rfl, rfl⟩, hrep, hx, VR.undef⟩
end

section
open Go.RowKit
set_option maxRecDepth 10000
attribute [-simp] List.map_take List.map_drop UInt8.ofNat_add List.map_flatten

@[simp] theorem neq_str {P : Program} {t : TypeId} {ox oy : Operand} (a b : List UInt8) : binA P .neq t ox oy (stA a) (stA b) = some (.c (.bool (!decide (a = b)))) := bin_str rfl (fun w => by
  have e : (a == b) = decide (a = b) := by rw [Bool.eq_iff_iff]; simp
  simp [Op.stringOp, e])
/-- Texts as a slice. -/
abbrev tsA (l : List (List UInt8)) : AV := .ls 1 (l.map bytesA)
theorem ts_1 (l : List (List UInt8)) : ∀ e ∈ l.map bytesA, e.cells.length = 1 := fun e he => by obtain ⟨x, -, rfl⟩ := List.mem_map.1 he; rfl
@[simp] theorem flat_ts (l : List (List UInt8)) : flat (l.map bytesA) = l.map bytesA := by
  induction l with
  | nil => rfl
  | cons a l ih => show [bytesA a] ++ flat (l.map bytesA) = _; rw [ih]; rfl
theorem ts_bd (n : Nat) (l : List (List UInt8)) : ∀ a ∈ l.map bytesA, Bd n a := fun a h => by
  obtain ⟨x, -, rfl⟩ := List.mem_map.1 h
  simp
@[simp] theorem ze_bytes : zeroA Tryz.prog 31 = some (.c (.slice none 0 0)) := by kernel_rfl
theorem Pw.of_at {R : AV → AV → Prop} : ∀ {l m : List AV}, m.length = l.length → (∀ (i : Nat) (a b : AV), l[i]? = some a → m[i]? = some b → R a b) → Pw R l m
  | [], [], _, _ => trivial
  | a :: l, b :: m, hl, h => ⟨h 0 a b rfl rfl, Pw.of_at (by simpa using hl) (fun i x y hx hy => h (i + 1) x y (by simpa using hx) (by simpa using hy))⟩
  | [], _ :: _, hl, _ => by simp at hl
  | _ :: _, [], hl, _ => by simp at hl
end
end Go.Proofs.YthknobbilcolnaaGreat
