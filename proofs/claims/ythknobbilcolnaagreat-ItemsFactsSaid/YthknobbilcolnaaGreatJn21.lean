/- The canonical form of the reference, by abstract values. Conditions: sizes. evidence.of and copied, by abstract values. No condition. Evidence and its signers of the reference, by abstract values. Conditions: sizes. Which signers evidence.Find finds, on plain lists. No condition. Verified votes: they fit, come from the list, and are valid. No condition. -/
import Derived.Test.YthknobbilcolnaaGreatJn20
import Derived.Test.YthknobbilcolnaaGreatJn18
namespace Go.Proofs.YthknobbilcolnaaGreat
section
open Go.RowKit
set_option maxRecDepth 10000
attribute [-simp] List.map_take List.map_drop UInt8.ofNat_add List.map_flatten

/-- All neighbours before place i ascend. -/
def NextV (l : List SignedS) (i : Nat) : Prop := ∀ j x y, j < i → l[j]? = some x → l[j + 1]? = some y → lessV x.vote y.vote = true
abbrev rrE (l : List SignedS) (i : Nat) (rd : Bool) : List AV := [.ls 23 (l.map sA), .any, .any, .c (.bool rd), .c (.int .i64 i)] ++ List.replicate 138 .any
inductive RrI (l : List SignedS) : Nat → List AV → List AObj → Prop
  | go (i : Nat) (hc : i + 1 < l.length) (s t : SignedS) (hx : l[i]? = some s) (hy : l[i + 1]? = some t) (h1 : NextV l i) (m : Nat) (hm : m = l.length - i) : RrI l m (rrE l i true) []
  | no (i : Nat) (hc : i + 1 < l.length) (m : Nat) (hm : m = l.length - i) : RrI l m (rrE l i false) []
  | up (i : Nat) (hc : l.length ≤ i + 1) (hi : i ≤ l.length) (h1 : NextV l i) (m : Nat) (hm : m = l.length - i) : RrI l m (rrE l i true) []
  | un (i : Nat) (hc : l.length ≤ i + 1) (hi : i ≤ l.length) (h2 : 2 ≤ l.length) (m : Nat) (hm : m = l.length - i) : RrI l m (rrE l i false) []
theorem RrI.of {l : List SignedS} {i : Nat} {rd : Bool} (hi : i ≤ l.length) (h1 : rd = true → NextV l i) (h2 : rd = false → 2 ≤ l.length) {m : Nat} (hm : m = l.length - i) : RrI l m (rrE l i rd) [] := by
  rcases Nat.lt_or_ge (i + 1) l.length with hc | hc
  · cases rd with
    | true => exact .go i hc _ _ (List.getElem?_eq_getElem (by omega)) (List.getElem?_eq_getElem hc) (h1 rfl) m hm
    | false => exact .no i hc m hm
  · cases rd with
    | true => exact .up i hc hi (h1 rfl) m hm
    | false => exact .un i hc hi (h2 rfl) m hm
inductive RpI (l : List SignedS) : Nat → List AV → List AObj → Prop
  | mk (i : Nat) (h : i ≤ l.length) (m : Nat) (hm : m = l.length - i) : RpI l m ([.ls 23 (l.map sA), .any, .any, .any, .any, .own 0 0 i 23, .c (.int .i64 i)] ++ List.replicate 136 .any) [.row 38 false (flat ((l.take i).map sA))]
abbrev rmE (a b o : List SignedS) : List AV := [.any, .any, .any, .any, .any, .any, .any, .ls 23 (a.map sA), .ls 23 (b.map sA), .own 0 0 o.length 23] ++ List.replicate 133 .any
structure RmC (C a b o : List SignedS) : Prop where
  h : o ++ mrgS a b = C
  fa : Fits a
  fb : Fits b
  fo : Fits o
  len : o.length + a.length + b.length ≤ 1000
inductive RmI (C : List SignedS) : Nat → List AV → List AObj → Prop
  | nn (o : List SignedS) (h : RmC C [] [] o) : RmI C 0 (rmE [] [] o) [.row 38 false (flat (o.map sA))]
  | an (y : SignedS) (b o : List SignedS) (h : RmC C [] (y :: b) o) : RmI C (b.length + 1) (rmE [] (y :: b) o) [.row 38 false (flat (o.map sA))]
  | bn (x : SignedS) (a o : List SignedS) (h : RmC C (x :: a) [] o) : RmI C (a.length + 1) (rmE (x :: a) [] o) [.row 38 false (flat (o.map sA))]
  | ab (x y : SignedS) (a b o : List SignedS) (h : RmC C (x :: a) (y :: b) o) : RmI C (a.length + 1 + (b.length + 1)) (rmE (x :: a) (y :: b) o) [.row 38 false (flat (o.map sA))]
theorem RmI.of {C : List SignedS} : ∀ {a b o : List SignedS}, RmC C a b o → ∀ {m : Nat}, m = a.length + b.length → RmI C m (rmE a b o) [.row 38 false (flat (o.map sA))]
  | [], [], o, h, _, hm => by subst hm; exact .nn o h
  | [], y :: b, o, h, _, hm => by subst hm; rw [List.length_nil, Nat.zero_add]; exact .an y b o h
  | x :: a, [], o, h, _, hm => by subst hm; exact .bn x a o h
  | x :: a, y :: b, o, h, _, hm => by subst hm; exact .ab x y a b o h
theorem flS_snoc (o : List SignedS) (z : SignedS) : flat ((o ++ [z]).map sA) = flat (o.map sA) ++ sC z := by simp [flat]
theorem Pw.self {R : AV → AV → Prop} (h : ∀ a, R a a) : ∀ l : List AV, Pw R l l
  | [] => trivial
  | a :: l => ⟨h a, Pw.self h l⟩
theorem Pw.app {R : AV → AV → Prop} : ∀ {a b c d : List AV}, Pw R a b → Pw R c d → Pw R (a ++ c) (b ++ d)
  | [], [], _, _, _, h => h
  | _ :: _, _ :: _, _, _, h, k => ⟨h.1, Pw.app h.2 k⟩
set_option maxHeartbeats 2000000 in
/-- Canonical. -/
theorem r6Canonical_step (l : List SignedS) (hq : l.length ≤ 1000) (hf : Fits l) (hs : ∀ s ∈ l, s.sig.length ≤ 100000) (ih : ∀ l' : List SignedS, l'.length < l.length → Fits l' → (∀ s ∈ l', s.sig.length ≤ 100000) → PCall Tryz.prog 51 [.ls 23 (l'.map sA)] [] (fun x _ => Bd 0 x ∧ x = .ls 23 ((canS l').map sA))) : PCall Tryz.prog 51 [.ls 23 (l.map sA)] [] (fun x _ => Bd 0 x ∧ x = .ls 23 ((canS l).map sA)) := by
  refine PCall.viewR (PCall.enter mixed Tryz.func51 rfl Tryz.ntmps51 Tryz.results51 (by simp) (by kernel_rfl) ?_)
  simp [List.replicate]
  refine W_loop (RrI l) l.length ?_ ?_
  · exact ⟨_, _, View.renum [] (by simp) (by simp) (by simp [List.replicate]), .of (i := 0) (rd := true) (by omega) (fun _ j x y h => by omega) (by simp) rfl⟩
  rintro _ _ _ (⟨i, hc, s, t, hx, hy, h1, m, hm⟩ | ⟨i, hc, m, hm⟩ | ⟨i, hc, hi, h1, m, hm⟩ | ⟨i, hc, hi, h2, m, hm⟩)
  · have hcz : (i : Int) + 1 < l.length := by omega
    have hfs := hf s (List.mem_of_getElem? hx)
    have hft := hf t (List.mem_of_getElem? hy)
    have a1 := sC_len hfs
    have a2 := take_sv hfs
    have b1 := sC_len hft
    have b2 := take_sv hft
    have ez : ((i : Int) + 1).toNat = i + 1 := by omega
    simp [List.replicate, hcz, -W_cond]
    refine ⟨by omega, ?_⟩
    refine W_ifT (by simp) ?_
    simp (decide := true) [hx, hy, ez, a1, a2, b1, b2, agg_vC]
    refine ⟨by omega, by omega, nextDC.use (r6Less_any s.vote t.vote hfs hft) (by simp) ?_⟩
    simp (decide := true)
    refine ⟨by omega, _, ?_, _, _, View.renum [] (by simp) (by simp) ?_, RrI.of (i := i + 1) (rd := lessV s.vote t.vote) (by omega) (fun h j x y hj h3 h4 => ?_) (fun _ => by omega) rfl⟩
    · omega
    · simp [List.replicate]
    · rcases Nat.lt_or_eq_of_le (Nat.le_of_lt_succ hj) with hj | rfl
      · exact h1 j x y hj h3 h4
      · rw [hx] at h3
        rw [hy] at h4
        cases h3
        cases h4
        exact h
  · have hcz : (i : Int) + 1 < l.length := by omega
    have h2 : 2 ≤ l.length := by omega
    simp [List.replicate, hcz, -W_cond]
    refine ⟨by omega, ?_⟩
    refine W_ifF (by simp) ?_
    simp [-W_cond]
    refine W_ifF (by simp) ?_
    obtain ⟨md, hmd⟩ : ∃ md, l.length / 2 = md := ⟨_, rfl⟩
    have hw : IntKind.i64.wrap ((l.length : Int) / 2) = (md : Int) := by rw [inr64_wrap (by simp [inr64]; omega)]; omega
    have hfa : Fits (l.take md) := fun x hx => hf x (List.mem_of_mem_take hx)
    have hfb : Fits (l.drop md) := fun x hx => hf x (List.mem_of_mem_drop hx)
    have hca := canS_is hfa
    have hcb := canS_is hfb
    have hla := canS_len (l.take md)
    have hlb := canS_len (l.drop md)
    have hC : mrgS (canS (l.take md)) (canS (l.drop md)) = canS l := by
      have := mrg_can (L := l.take md) (M := l.drop md) (by rw [List.take_append_drop]; exact hf) hca hcb
      rw [List.take_append_drop] at this
      exact can_unique hf this (canS_is hf)
    rw [List.length_take] at hla
    rw [List.length_drop] at hlb
    simp (decide := true) [hw]
    refine ⟨by omega, nextDC.use (ih (l.take md) (by rw [List.length_take]; omega) hfa (fun s h => hs s (List.mem_of_mem_take h))) (by simp) ?_⟩
    simp (decide := true) [hw]
    refine ⟨by omega, nextDC.use (ih (l.drop md) (by rw [List.length_drop]; omega) hfb (fun s h => hs s (List.mem_of_mem_drop h))) (by simp) ?_⟩
    simp (decide := true)
    refine W_loop (RmI (canS l)) ((canS (l.take md)).length + (canS (l.drop md)).length) ?_ ?_
    · refine ⟨_, _, ?_, RmI.of (a := canS (l.take md)) (b := canS (l.drop md)) (o := []) ⟨by simpa using hC, canS_fit hfa, canS_fit hfb, by simp [Fits], by simp; omega⟩ rfl⟩
      exact View.virt (H := []) 38 rfl (Pw.at_ (by simp [List.replicate])).2
    rintro _ _ _ (⟨o, h⟩ | ⟨y, b, o, h⟩ | ⟨x, a, o, h⟩ | ⟨x, y, a, b, o, h⟩)
    · have hfl := flS_len h.fo
      simp [List.replicate, -W_cond]
      refine W_ifF (by simp) ?_
      simp
      have ho : o = canS l := by have := h.h; simpa [mrgS] using this
      rw [← ho]
      refine ⟨_, View.fz1 (id := 0) rfl (.own (fun e he => by obtain ⟨x, h2, rfl⟩ := List.mem_map.1 he; exact sC_len (h.fo x h2)) (by simp) ?_)⟩
      rw [List.drop_zero, List.take_of_length_le (Nat.le_of_eq hfl)]
    · have hfl := flS_len h.fo
      have hfy := h.fb y (List.mem_cons_self ..)
      have b1 := sC_len hfy
      have b4 := take_sC hfy
      have hl := h.len
      simp at hl
      have nb : ¬ (b.length : Int) + 1 = 0 := by omega
      simp [List.replicate, -W_cond]
      refine W_ifT (by simp) ?_
      simp (decide := true) [nb, -W_cond]
      refine W_ifF (by simp) ?_
      simp (decide := true) [-W_cond]
      refine W_ifT (by simp) ?_
      simp (decide := true) [b1, b4, agg_sC, hfl]
      have hn : RmC (canS l) [] b (o ++ [y]) := ⟨by have := h.h; simpa [mrgS] using this, h.fa, fun w hw => h.fb w (List.mem_cons_of_mem _ hw), fun w hw => (List.mem_append.1 hw).elim (h.fo w) (fun e => by rw [List.mem_singleton.1 e]; exact hfy), by simp; omega⟩
      have := RmI.of hn rfl
      rw [flS_snoc] at this
      refine ⟨by omega, by omega, _, ?_, _, _, View.renum [2] (by simp) ?_ ?_, this⟩
      · simp <;> omega
      · simp [List.take_of_length_le (Nat.le_of_eq hfl)]
        rintro w (e | e)
        · exact flS_bd o w e
        · exact sC_bd y w e
      · simp [List.replicate]
    · have hfl := flS_len h.fo
      have hfx := h.fa x (List.mem_cons_self ..)
      have a1 := sC_len hfx
      have a4 := take_sC hfx
      have hl := h.len
      simp at hl
      simp [List.replicate, -W_cond]
      refine W_ifT (by simp) ?_
      simp (decide := true) [-W_cond]
      refine W_ifT (by simp) ?_
      simp (decide := true) [a1, a4, agg_sC, hfl]
      have hn : RmC (canS l) a [] (o ++ [x]) := ⟨by have := h.h; simpa [mrgS, mrgS_nil] using this, fun w hw => h.fa w (List.mem_cons_of_mem _ hw), h.fb, fun w hw => (List.mem_append.1 hw).elim (h.fo w) (fun e => by rw [List.mem_singleton.1 e]; exact hfx), by simp; omega⟩
      have := RmI.of hn rfl
      rw [flS_snoc] at this
      refine ⟨by omega, by omega, _, ?_, _, _, View.renum [2] (by simp) ?_ ?_, this⟩
      · simp <;> omega
      · simp [List.take_of_length_le (Nat.le_of_eq hfl)]
        rintro w (e | e)
        · exact flS_bd o w e
        · exact sC_bd x w e
      · simp [List.replicate]
    · have hfl := flS_len h.fo
      have hfx := h.fa x (List.mem_cons_self ..)
      have hfy := h.fb y (List.mem_cons_self ..)
      have a1 := sC_len hfx
      have a2 := take_sv hfx
      have a3 := get_sig hfx
      have a4 := take_sC hfx
      have b1 := sC_len hfy
      have b2 := take_sv hfy
      have b3 := get_sig hfy
      have b4 := take_sC hfy
      have hl := h.len
      simp at hl
      have nb : ¬ (b.length : Int) + 1 = 0 := by omega
      have na : ¬ (a.length : Int) + 1 = 0 := by omega
      simp [List.replicate, -W_cond]
      refine W_ifT (by simp) ?_
      simp (decide := true) [a1, a2, b1, b2, agg_vC, nb, -W_cond]
      refine nextDC.use (r6Less_any x.vote y.vote hfx hfy) (by simp) ?_
      by_cases c1 : lessV x.vote y.vote = true
      · simp (decide := true) [c1, -W_cond]
        refine W_ifT (by simp) ?_
        simp (decide := true) [a1, a4, agg_sC, hfl]
        have hn : RmC (canS l) a (y :: b) (o ++ [x]) := ⟨by have := h.h; rw [mrgS, if_pos c1] at this; simpa using this, fun w hw => h.fa w (List.mem_cons_of_mem _ hw), h.fb, fun w hw => (List.mem_append.1 hw).elim (h.fo w) (fun e => by rw [List.mem_singleton.1 e]; exact hfx), by simp; omega⟩
        have := RmI.of hn rfl
        rw [flS_snoc] at this
        refine ⟨by omega, by omega, _, ?_, _, _, View.renum [2] (by simp) ?_ ?_, this⟩
        · simp <;> omega
        · simp [List.take_of_length_le (Nat.le_of_eq hfl)]
          rintro w (e | e)
          · exact flS_bd o w e
          · exact sC_bd x w e
        · simp [List.replicate]
      · rw [Bool.not_eq_true] at c1
        simp (decide := true) [c1, -W_cond]
        refine W_ifF (by simp) ?_
        simp (decide := true) [a1, a2, b1, b2, agg_vC, na, -W_cond]
        refine nextDC.use (r6Less_any y.vote x.vote hfy hfx) (by simp) ?_
        by_cases c2 : lessV y.vote x.vote = true
        · simp (decide := true) [c2, -W_cond]
          refine W_ifT (by simp) ?_
          simp (decide := true) [b1, b4, agg_sC, hfl]
          have hn : RmC (canS l) (x :: a) b (o ++ [y]) := ⟨by have := h.h; rw [mrgS, if_neg (by rw [c1]; decide), if_pos c2] at this; simpa using this, h.fa, fun w hw => h.fb w (List.mem_cons_of_mem _ hw), fun w hw => (List.mem_append.1 hw).elim (h.fo w) (fun e => by rw [List.mem_singleton.1 e]; exact hfy), by simp; omega⟩
          have := RmI.of hn rfl
          rw [flS_snoc] at this
          refine ⟨by omega, by omega, _, ?_, _, _, View.renum [2] (by simp) ?_ ?_, this⟩
          · simp <;> omega
          · simp [List.take_of_length_le (Nat.le_of_eq hfl)]
            rintro w (e | e)
            · exact flS_bd o w e
            · exact sC_bd y w e
          · simp [List.replicate]
        · rw [Bool.not_eq_true] at c2
          simp (decide := true) [c2, -W_cond]
          refine W_ifF (by simp) ?_
          simp (decide := true) [a1, a3, b1, b3, -W_cond]
          by_cases c3 : lessT y.sig x.sig = true
          · refine W_ifF (by simp [c3]) ?_
            simp (decide := true)
            have hn : RmC (canS l) a (y :: b) o := ⟨by have := h.h; rw [mrgS, if_neg (by rw [c1]; decide), if_neg (by rw [c2]; decide), if_pos c3] at this; exact this, fun w hw => h.fa w (List.mem_cons_of_mem _ hw), h.fb, h.fo, by simp; omega⟩
            exact ⟨by omega, _, by simp, _, _, View.renum [0] (by simp) (by simp; exact flS_bd o) (by simp [List.replicate]), RmI.of hn rfl⟩
          · refine W_ifT (by simp [c3]) ?_
            simp (decide := true)
            have hn : RmC (canS l) (x :: a) b o := ⟨by have := h.h; rw [mrgS, if_neg (by rw [c1]; decide), if_neg (by rw [c2]; decide), if_neg c3] at this; exact this, h.fa, fun w hw => h.fb w (List.mem_cons_of_mem _ hw), h.fo, by simp; omega⟩
            exact ⟨by omega, _, by simp, _, _, View.renum [0] (by simp) (by simp; exact flS_bd o) (by simp [List.replicate]), RmI.of hn rfl⟩
  · have hcz : ¬ (i : Int) + 1 < l.length := by omega
    simp [List.replicate, hcz, -W_cond]
    refine ⟨by omega, ?_⟩
    refine W_ifF (by simp) ?_
    simp [-W_cond]
    refine W_ifT (by simp) ?_
    simp
    refine W_loop (RpI l) l.length ?_ ?_
    · refine ⟨_, _, ?_, .mk 0 (by omega) _ rfl⟩
      exact View.virt (H := []) 38 rfl (Pw.at_ (by simp [List.replicate])).2
    rintro _ _ _ ⟨k, hk, m2, hm2⟩
    have hfl := flS_len (C := l.take k) (fun x hx => hf x (List.mem_of_mem_take hx))
    simp [List.replicate, -W_cond]
    by_cases hlt : k < l.length
    · obtain ⟨s, hx⟩ : ∃ s, l[k]? = some s := ⟨_, List.getElem?_eq_getElem hlt⟩
      have hfs := hf s (List.mem_of_getElem? hx)
      have a1 := sC_len hfs
      have a2 := take_sv hfs
      have a3 := get_sig hfs
      have hvl := vC_len hfs
      refine W_ifT (by simp; omega) ?_
      simp (decide := true) [hx, a1, a2, a3, agg_vC, hvl, splice_S hfs]
      have hsl := hs s (List.mem_of_getElem? hx)
      have e1 : flat ((l.take (k + 1)).map sA) = flat ((l.take k).map sA) ++ sC s := by rw [List.take_add_one, hx]; simp [flat]
      have := RpI.mk (l := l) (k + 1) (by omega) _ rfl
      rw [e1] at this
      have hlk : (l.take k).length = k := by rw [List.length_take]; omega
      rw [hlk] at hfl
      rw [List.take_of_length_le (Nat.le_of_eq hfl), List.take_of_length_le (i := 23) (by simp [hvl])]
      refine ⟨by omega, by simp [splice, hvl], by omega, by omega, _, ?_, _, _, View.trans (e2 := [.ls 23 (l.map sA), .any, .any, .any, .any, .own 3 0 (k + 1) 23, .c (.int .i64 ((k + 1 : Nat) : Int))] ++ List.replicate 136 .any) (H2 := [.dead, .dead, .dead, .row 38 false (flat ((l.take k).map sA) ++ sC s)]) (View.freeze (id := 1) (cs := s.sig.map byteA) rfl ⟨rfl, rfl, ?_⟩ rfl ?_) (View.renum [3] (by simp) ?_ (by simp [List.replicate])), this⟩
      · omega
      · intro j t fz cs' hj
        match j with
        | 0 => simp at hj
        | 1 => simp at hj
        | 2 => simp at hj
        | 3 =>
          cases hj
          refine ⟨_, rfl, by simp [sC], (Pw.app (R := Fz 1 (s.sig.map byteA)) (Pw.self .same _) (Pw.app (Pw.self .same _) (?_ : Pw _ [_] [_]))).at_.2⟩
          exact ⟨Fz_bytes rfl, trivial⟩
        | j + 4 => simp at hj
      · refine (Pw.at_ (R := Fz 1 (s.sig.map byteA)) ?_).2
        simp [List.replicate, show ∀ a, Fz 1 (s.sig.map byteA) a .any from fun a => .any a]
      · simp
        rintro a (h | h)
        · exact flS_bd _ a h
        · exact sC_bd s a h
    · obtain rfl : k = l.length := by omega
      refine W_ifF (by simp) ?_
      simp
      have hcan : canS l = l := can_unique hf (canS_is hf) (can_of_asc hf (asc_of_next (fun x hx y hy z hz => lessV_trans (hf x hx) (hf y hy) (hf z hz)) (fun j x y hj hj2 => h1 j x y (by have := (List.getElem?_eq_some_iff.1 hj2).1; omega) hj hj2)))
      rw [hcan]
      refine ⟨_, View.fz1 (id := 0) rfl (.own (fun e he => by obtain ⟨x, h, rfl⟩ := List.mem_map.1 he; exact sC_len (hf x h)) (by simp) ?_)⟩
      rw [List.take_length] at hfl
      rw [List.drop_zero, List.take_of_length_le (Nat.le_of_eq hfl)]
  · have hcz : ¬ (i : Int) + 1 < l.length := by omega
    simp [List.replicate, hcz, -W_cond]
    refine ⟨by omega, ?_⟩
    refine W_ifF (by simp) ?_
    simp [-W_cond]
    refine W_ifF (by simp) ?_
    obtain ⟨md, hmd⟩ : ∃ md, l.length / 2 = md := ⟨_, rfl⟩
    have hw : IntKind.i64.wrap ((l.length : Int) / 2) = (md : Int) := by rw [inr64_wrap (by simp [inr64]; omega)]; omega
    have hfa : Fits (l.take md) := fun x hx => hf x (List.mem_of_mem_take hx)
    have hfb : Fits (l.drop md) := fun x hx => hf x (List.mem_of_mem_drop hx)
    have hca := canS_is hfa
    have hcb := canS_is hfb
    have hla := canS_len (l.take md)
    have hlb := canS_len (l.drop md)
    have hC : mrgS (canS (l.take md)) (canS (l.drop md)) = canS l := by
      have := mrg_can (L := l.take md) (M := l.drop md) (by rw [List.take_append_drop]; exact hf) hca hcb
      rw [List.take_append_drop] at this
      exact can_unique hf this (canS_is hf)
    rw [List.length_take] at hla
    rw [List.length_drop] at hlb
    simp (decide := true) [hw]
    refine ⟨by omega, nextDC.use (ih (l.take md) (by rw [List.length_take]; omega) hfa (fun s h => hs s (List.mem_of_mem_take h))) (by simp) ?_⟩
    simp (decide := true) [hw]
    refine ⟨by omega, nextDC.use (ih (l.drop md) (by rw [List.length_drop]; omega) hfb (fun s h => hs s (List.mem_of_mem_drop h))) (by simp) ?_⟩
    simp (decide := true)
    refine W_loop (RmI (canS l)) ((canS (l.take md)).length + (canS (l.drop md)).length) ?_ ?_
    · refine ⟨_, _, ?_, RmI.of (a := canS (l.take md)) (b := canS (l.drop md)) (o := []) ⟨by simpa using hC, canS_fit hfa, canS_fit hfb, by simp [Fits], by simp; omega⟩ rfl⟩
      exact View.virt (H := []) 38 rfl (Pw.at_ (by simp [List.replicate])).2
    rintro _ _ _ (⟨o, h⟩ | ⟨y, b, o, h⟩ | ⟨x, a, o, h⟩ | ⟨x, y, a, b, o, h⟩)
    · have hfl := flS_len h.fo
      simp [List.replicate, -W_cond]
      refine W_ifF (by simp) ?_
      simp
      have ho : o = canS l := by have := h.h; simpa [mrgS] using this
      rw [← ho]
      refine ⟨_, View.fz1 (id := 0) rfl (.own (fun e he => by obtain ⟨x, h2, rfl⟩ := List.mem_map.1 he; exact sC_len (h.fo x h2)) (by simp) ?_)⟩
      rw [List.drop_zero, List.take_of_length_le (Nat.le_of_eq hfl)]
    · have hfl := flS_len h.fo
      have hfy := h.fb y (List.mem_cons_self ..)
      have b1 := sC_len hfy
      have b4 := take_sC hfy
      have hl := h.len
      simp at hl
      have nb : ¬ (b.length : Int) + 1 = 0 := by omega
      simp [List.replicate, -W_cond]
      refine W_ifT (by simp) ?_
      simp (decide := true) [nb, -W_cond]
      refine W_ifF (by simp) ?_
      simp (decide := true) [-W_cond]
      refine W_ifT (by simp) ?_
      simp (decide := true) [b1, b4, agg_sC, hfl]
      have hn : RmC (canS l) [] b (o ++ [y]) := ⟨by have := h.h; simpa [mrgS] using this, h.fa, fun w hw => h.fb w (List.mem_cons_of_mem _ hw), fun w hw => (List.mem_append.1 hw).elim (h.fo w) (fun e => by rw [List.mem_singleton.1 e]; exact hfy), by simp; omega⟩
      have := RmI.of hn rfl
      rw [flS_snoc] at this
      refine ⟨by omega, by omega, _, ?_, _, _, View.renum [2] (by simp) ?_ ?_, this⟩
      · simp <;> omega
      · simp [List.take_of_length_le (Nat.le_of_eq hfl)]
        rintro w (e | e)
        · exact flS_bd o w e
        · exact sC_bd y w e
      · simp [List.replicate]
    · have hfl := flS_len h.fo
      have hfx := h.fa x (List.mem_cons_self ..)
      have a1 := sC_len hfx
      have a4 := take_sC hfx
      have hl := h.len
      simp at hl
      simp [List.replicate, -W_cond]
      refine W_ifT (by simp) ?_
      simp (decide := true) [-W_cond]
      refine W_ifT (by simp) ?_
      simp (decide := true) [a1, a4, agg_sC, hfl]
      have hn : RmC (canS l) a [] (o ++ [x]) := ⟨by have := h.h; simpa [mrgS, mrgS_nil] using this, fun w hw => h.fa w (List.mem_cons_of_mem _ hw), h.fb, fun w hw => (List.mem_append.1 hw).elim (h.fo w) (fun e => by rw [List.mem_singleton.1 e]; exact hfx), by simp; omega⟩
      have := RmI.of hn rfl
      rw [flS_snoc] at this
      refine ⟨by omega, by omega, _, ?_, _, _, View.renum [2] (by simp) ?_ ?_, this⟩
      · simp <;> omega
      · simp [List.take_of_length_le (Nat.le_of_eq hfl)]
        rintro w (e | e)
        · exact flS_bd o w e
        · exact sC_bd x w e
      · simp [List.replicate]
    · have hfl := flS_len h.fo
      have hfx := h.fa x (List.mem_cons_self ..)
      have hfy := h.fb y (List.mem_cons_self ..)
      have a1 := sC_len hfx
      have a2 := take_sv hfx
      have a3 := get_sig hfx
      have a4 := take_sC hfx
      have b1 := sC_len hfy
      have b2 := take_sv hfy
      have b3 := get_sig hfy
      have b4 := take_sC hfy
      have hl := h.len
      simp at hl
      have nb : ¬ (b.length : Int) + 1 = 0 := by omega
      have na : ¬ (a.length : Int) + 1 = 0 := by omega
      simp [List.replicate, -W_cond]
      refine W_ifT (by simp) ?_
      simp (decide := true) [a1, a2, b1, b2, agg_vC, nb, -W_cond]
      refine nextDC.use (r6Less_any x.vote y.vote hfx hfy) (by simp) ?_
      by_cases c1 : lessV x.vote y.vote = true
      · simp (decide := true) [c1, -W_cond]
        refine W_ifT (by simp) ?_
        simp (decide := true) [a1, a4, agg_sC, hfl]
        have hn : RmC (canS l) a (y :: b) (o ++ [x]) := ⟨by have := h.h; rw [mrgS, if_pos c1] at this; simpa using this, fun w hw => h.fa w (List.mem_cons_of_mem _ hw), h.fb, fun w hw => (List.mem_append.1 hw).elim (h.fo w) (fun e => by rw [List.mem_singleton.1 e]; exact hfx), by simp; omega⟩
        have := RmI.of hn rfl
        rw [flS_snoc] at this
        refine ⟨by omega, by omega, _, ?_, _, _, View.renum [2] (by simp) ?_ ?_, this⟩
        · simp <;> omega
        · simp [List.take_of_length_le (Nat.le_of_eq hfl)]
          rintro w (e | e)
          · exact flS_bd o w e
          · exact sC_bd x w e
        · simp [List.replicate]
      · rw [Bool.not_eq_true] at c1
        simp (decide := true) [c1, -W_cond]
        refine W_ifF (by simp) ?_
        simp (decide := true) [a1, a2, b1, b2, agg_vC, na, -W_cond]
        refine nextDC.use (r6Less_any y.vote x.vote hfy hfx) (by simp) ?_
        by_cases c2 : lessV y.vote x.vote = true
        · simp (decide := true) [c2, -W_cond]
          refine W_ifT (by simp) ?_
          simp (decide := true) [b1, b4, agg_sC, hfl]
          have hn : RmC (canS l) (x :: a) b (o ++ [y]) := ⟨by have := h.h; rw [mrgS, if_neg (by rw [c1]; decide), if_pos c2] at this; simpa using this, h.fa, fun w hw => h.fb w (List.mem_cons_of_mem _ hw), fun w hw => (List.mem_append.1 hw).elim (h.fo w) (fun e => by rw [List.mem_singleton.1 e]; exact hfy), by simp; omega⟩
          have := RmI.of hn rfl
          rw [flS_snoc] at this
          refine ⟨by omega, by omega, _, ?_, _, _, View.renum [2] (by simp) ?_ ?_, this⟩
          · simp <;> omega
          · simp [List.take_of_length_le (Nat.le_of_eq hfl)]
            rintro w (e | e)
            · exact flS_bd o w e
            · exact sC_bd y w e
          · simp [List.replicate]
        · rw [Bool.not_eq_true] at c2
          simp (decide := true) [c2, -W_cond]
          refine W_ifF (by simp) ?_
          simp (decide := true) [a1, a3, b1, b3, -W_cond]
          by_cases c3 : lessT y.sig x.sig = true
          · refine W_ifF (by simp [c3]) ?_
            simp (decide := true)
            have hn : RmC (canS l) a (y :: b) o := ⟨by have := h.h; rw [mrgS, if_neg (by rw [c1]; decide), if_neg (by rw [c2]; decide), if_pos c3] at this; exact this, fun w hw => h.fa w (List.mem_cons_of_mem _ hw), h.fb, h.fo, by simp; omega⟩
            exact ⟨by omega, _, by simp, _, _, View.renum [0] (by simp) (by simp; exact flS_bd o) (by simp [List.replicate]), RmI.of hn rfl⟩
          · refine W_ifT (by simp [c3]) ?_
            simp (decide := true)
            have hn : RmC (canS l) (x :: a) b o := ⟨by have := h.h; rw [mrgS, if_neg (by rw [c1]; decide), if_neg (by rw [c2]; decide), if_neg c3] at this; exact this, h.fa, fun w hw => h.fb w (List.mem_cons_of_mem _ hw), h.fo, by simp; omega⟩
            exact ⟨by omega, _, by simp, _, _, View.renum [0] (by simp) (by simp; exact flS_bd o) (by simp [List.replicate]), RmI.of hn rfl⟩
/-- Canonical. -/
theorem r6Canonical_any : ∀ (q : Nat) (l : List SignedS), l.length ≤ q → q ≤ 1000 → Fits l → (∀ s ∈ l, s.sig.length ≤ 100000) → PCall Tryz.prog 51 [.ls 23 (l.map sA)] [] (fun x _ => Bd 0 x ∧ x = .ls 23 ((canS l).map sA))
  | 0, l, hq, hq2, hf, hs => r6Canonical_step l (by omega) hf hs (fun l' h => absurd h (by omega))
  | q + 1, l, hq, hq2, hf, hs => r6Canonical_step l (by omega) hf hs (fun l' h hf' hs' => r6Canonical_any q l' (by omega) (by omega) hf' hs')
end

section
open Go.RowKit
set_option maxRecDepth 10000
attribute [-simp] List.map_take List.map_drop UInt8.ofNat_add List.map_flatten

set_option maxHeartbeats 1000000 in
theorem of_any (v : VoteS) (h : v.Fit) : PCall Tryz.prog 80 [vA v] [] (fun x _ => Bd 0 x ∧ x = kA v) := by
  have a8 := h.parent
  have ax := h.value
  refine PCall.enter mixed Tryz.func80 rfl Tryz.ntmps80 Tryz.results80 (by simp) (by kernel_rfl) ?_
  have hl := kC_len h
  have e1 : ∀ (z : List AV), z.length = 8 → splice (.c (.int .i64 v.kind) :: .c (.int .i64 v.slot) :: .c (.int .i64 v.round) :: .c (.int .i64 v.signer) :: z) 4 (v.parent.map byteA) = kC v := fun z hz => by simp [splice, kC, a8, hz]
  have e2 : ∀ z : List AV, z.length = 12 → splice z 0 (kC v) = kC v := fun z hz => by simp [splice, hl, hz]
  simp [List.replicate, vA, vC, a8, List.take_of_length_le, e1, e2, hl]
  exact ⟨(bd_kA 0 v).cells, rfl⟩
theorem copied_any (s : SignedS) (h : s.vote.Fit) (hs : s.sig.length ≤ 100000) : PCall Tryz.prog 82 [sA s] [] (fun x _ => Bd 0 x ∧ x = sA s) := by
  have hl := sC_len h
  have ht := take_sv h
  refine PCall.viewR (PCall.enter mixed Tryz.func82 rfl Tryz.ntmps82 Tryz.results82 (by simp) (by kernel_rfl) ?_)
  have hq : (sC s)[22]? = some (bytesA s.sig) := by
    have hv := vC_len h
    unfold sC
    rw [List.getElem?_append_right (by omega)]
    simp [hv]
  have hg : ∀ h, (sC s)[22]'h = bytesA s.sig := fun _ => (List.getElem?_eq_some_iff.1 hq).2
  have hv := vC_len h
  have e1 : ∀ (z : List AV) (x : AV), z.length = 23 → splice (splice z 0 (vC s.vote)) 22 [x] = vC s.vote ++ [x] := fun z x hz => splice_S h hz
  have e2 : ∀ z : List AV, z.length = 23 → (splice z 0 (vC s.vote)).length = 23 := fun z hz => by rw [splice_len (by omega), hz]
  simp (decide := true) [List.replicate, hl, ht, hg, agg_vC, hv, e1, e2]
  refine ⟨by omega, _, View.fz1 (id := 2) rfl ?_⟩
  rw [List.take_of_length_le (by simp [hv])]
  exact Fz.aggP (Pw.app (R := Fz 2 (s.sig.map byteA)) (Pw.self .same _) (show Pw _ [_] [_] from ⟨Fz_bytes rfl, trivial⟩))
end

section
open Go.RowKit
set_option maxRecDepth 10000
attribute [-simp] List.map_take List.map_drop UInt8.ofNat_add List.map_flatten

theorem frP_some {C : List SignedS} {s i : Nat} {p : SignedS × SignedS} (h : frP C s i = some p) : ∀ k, frP C s (i + k) = some p
  | 0 => h
  | k + 1 => by
    show (match frP C s (i + k) with
      | some p => some p
      | none => match C[i + k]?, C[i + k + 1]? with
        | some x, some y => if x.vote.signer = (s : Int) ∧ confB x.vote y.vote = true then some (x, y) else none
        | _, _ => none) = _
    rw [frP_some h k]
theorem frP_none {C : List SignedS} {s i : Nat} (h : frP C s i = none) (hc : C.length ≤ i + 1) : ∀ k, frP C s (i + k) = none
  | 0 => h
  | k + 1 => by
    show (match frP C s (i + k) with
      | some p => some p
      | none => match C[i + k]?, C[i + k + 1]? with
        | some x, some y => if x.vote.signer = (s : Int) ∧ confB x.vote y.vote = true then some (x, y) else none
        | _, _ => none) = _
    rw [frP_none h hc k, List.getElem?_eq_none (l := C) (i := i + k + 1) (by omega)]
    cases C[i + k]? <;> rfl
theorem frP_step {C : List SignedS} {s i : Nat} {x y : SignedS} (h : frP C s i = none) (hx : C[i]? = some x) (hy : C[i + 1]? = some y) : frP C s (i + 1) = if x.vote.signer = (s : Int) ∧ confB x.vote y.vote = true then some (x, y) else none := by
  show (match frP C s i with
    | some p => some p
    | none => match C[i]?, C[i + 1]? with
      | some x, some y => if x.vote.signer = (s : Int) ∧ confB x.vote y.vote = true then some (x, y) else none
      | _, _ => none) = _
  rw [h, hx, hy]
theorem evsP_succ (C : List SignedS) (q : Nat) : evsP C (q + 1) = evsP C q ++ (frP C q C.length).toList := by
  unfold evsP
  rw [List.range_succ, List.filterMap_append]
  cases h : frP C q C.length <;> simp [h]
theorem eA_len {p : SignedS × SignedS} (h1 : p.1.vote.Fit) (h2 : p.2.vote.Fit) : (eA p).cells.length = 46 := by simp [sC_len h1, sC_len h2]
def FitsP (l : List (SignedS × SignedS)) : Prop := ∀ p ∈ l, p.1.vote.Fit ∧ p.2.vote.Fit
theorem flE_len {l : List (SignedS × SignedS)} (hf : FitsP l) : (flat (l.map eA)).length = l.length * 46 := by
  rw [flat_lenK (k := 46) (fun e he => by obtain ⟨x, h, rfl⟩ := List.mem_map.1 he; exact eA_len (hf x h).1 (hf x h).2), List.length_map]
theorem flE_bd (l : List (SignedS × SignedS)) : ∀ a ∈ flat (l.map eA), Bd 0 a := Bd.flat (fun e he => by obtain ⟨s, -, rfl⟩ := List.mem_map.1 he; exact bd_eA 0 s)
theorem frP_mem {C : List SignedS} {s : Nat} : ∀ {i : Nat} {p : SignedS × SignedS}, frP C s i = some p → p.1 ∈ C ∧ p.2 ∈ C ∧ p.1.vote.signer = (s : Int)
  | 0, p, h => by cases h
  | i + 1, p, h => by
    cases hc : frP C s i with
    | some r =>
      have := frP_some hc 1
      rw [this] at h
      cases h
      exact frP_mem hc
    | none =>
      cases hx : C[i]? with
      | none =>
        have : frP C s (i + 1) = none := by
          show (match frP C s i with
            | some p => some p
            | none => match C[i]?, C[i + 1]? with
              | some x, some y => if x.vote.signer = (s : Int) ∧ confB x.vote y.vote = true then some (x, y) else none
              | _, _ => none) = _
          rw [hc, hx]
        rw [this] at h
        cases h
      | some x =>
        cases hy : C[i + 1]? with
        | none =>
          have := frP_none hc (by rw [List.getElem?_eq_none_iff] at hy; exact hy) 1
          rw [this] at h
          cases h
        | some y =>
          rw [frP_step hc hx hy] at h
          split at h
          · rename_i hh
            cases h
            exact ⟨List.mem_of_getElem? hx, List.mem_of_getElem? hy, hh.1⟩
          · cases h
theorem evsP_fit {C : List SignedS} (hf : Fits C) (q : Nat) : FitsP (evsP C q) := by
  intro p hp
  obtain ⟨s, -, hs⟩ := List.mem_filterMap.1 hp
  obtain ⟨h1, h2, -⟩ := frP_mem hs
  exact ⟨hf _ h1, hf _ h2⟩
theorem evsP_len (C : List SignedS) (q : Nat) : (evsP C q).length ≤ q := by
  have := List.length_filterMap_le (fun s => frP C s C.length) (List.range q)
  simpa [evsP] using this
theorem splice_E {z a b : List AV} (ha : a.length = 23) (hb : b.length = 23) (hz : z.length = 46) : splice (splice z 0 a) 23 b = a ++ b := by
  simp [splice, ha, hb, List.drop_append]
  omega
inductive FiO (C : List SignedS) : Nat → List AV → List AObj → Prop
  | mk (q : Nat) (h : q ≤ 10) (m : Nat) (hm : m = 10 - q) : FiO C m ([.ls 23 (C.map sA), .any, .any, .own 0 0 (evsP C q).length 46, .c (.int .i64 q)] ++ List.replicate 53 .any) [.row 107 false (flat ((evsP C q).map eA))]
abbrev fiE (C : List SignedS) (q i : Nat) (o : List (SignedS × SignedS)) (fd : Bool) : List AV := [.ls 23 (C.map sA), .any, .any, .own 0 0 o.length 46, .c (.int .i64 q), .c (.bool fd), .c (.int .i64 i)] ++ List.replicate 51 .any
inductive FiI (C : List SignedS) (q : Nat) : Nat → List AV → List AObj → Prop
  | go (i : Nat) (hc : i + 1 < C.length) (x y : SignedS) (hx : C[i]? = some x) (hy : C[i + 1]? = some y) (h : frP C q i = none) (m : Nat) (hm : m = C.length - i) : FiI C q m (fiE C q i (evsP C q) false) [.row 107 false (flat ((evsP C q).map eA))]
  | no (i : Nat) (hi : i ≤ C.length) (hc : C.length ≤ i + 1) (h : frP C q C.length = none) (m : Nat) (hm : m = C.length - i) : FiI C q m (fiE C q i (evsP C q) false) [.row 107 false (flat ((evsP C q).map eA))]
  | s1 (i : Nat) (hc : i + 1 < C.length) (p : SignedS × SignedS) (h : frP C q C.length = some p) (m : Nat) (hm : m = C.length - i) : FiI C q m (fiE C q i (evsP C q ++ [p]) true) [.row 107 false (flat ((evsP C q ++ [p]).map eA))]
  | s2 (i : Nat) (hi : i ≤ C.length) (hc : C.length ≤ i + 1) (p : SignedS × SignedS) (h : frP C q C.length = some p) (m : Nat) (hm : m = C.length - i) : FiI C q m (fiE C q i (evsP C q ++ [p]) true) [.row 107 false (flat ((evsP C q ++ [p]).map eA))]
theorem FiI.of {C : List SignedS} {q i : Nat} (hi : i ≤ C.length) (h : frP C q i = none) {m : Nat} (hm : m = C.length - i) : FiI C q m (fiE C q i (evsP C q) false) [.row 107 false (flat ((evsP C q).map eA))] := by
  rcases Nat.lt_or_ge (i + 1) C.length with hc | hc
  · exact .go i hc _ _ (List.getElem?_eq_getElem (by omega)) (List.getElem?_eq_getElem hc) h m hm
  · have := frP_none h hc (C.length - i)
    rw [show i + (C.length - i) = C.length by omega] at this
    exact .no i hi hc this m hm
theorem FiI.ofs {C : List SignedS} {q i : Nat} (hi : i ≤ C.length) {p : SignedS × SignedS} (h : frP C q C.length = some p) {m : Nat} (hm : m = C.length - i) : FiI C q m (fiE C q i (evsP C q ++ [p]) true) [.row 107 false (flat ((evsP C q ++ [p]).map eA))] := by
  rcases Nat.lt_or_ge (i + 1) C.length with hc | hc
  · exact .s1 i hc p h m hm
  · exact .s2 i hi hc p h m hm
set_option maxHeartbeats 2000000 in
/-- FindIn. -/
theorem r6FindIn_any (C : List SignedS) (hf : Fits C) (hl : C.length ≤ 1000) : PCall Tryz.prog 27 [.ls 23 (C.map sA)] [] (fun x _ => Bd 0 x ∧ x = .ls 46 ((evsP C 10).map eA)) := by
  refine PCall.viewR (PCall.enter mixed Tryz.func27 rfl Tryz.ntmps27 Tryz.results27 (by simp) (by kernel_rfl) ?_)
  simp [List.replicate]
  refine W_loop (FiO C) 10 ?_ ?_
  · refine ⟨_, _, ?_, .mk 0 (by omega) _ rfl⟩
    exact View.virt (H := []) 107 rfl (Pw.at_ (by simp [List.replicate, evsP])).2
  rintro _ _ _ ⟨q, hq, m, hm⟩
  have hfl := flE_len (evsP_fit hf q)
  have hel := evsP_len C q
  simp [List.replicate, -W_cond]
  by_cases hlt : q < 10
  · refine W_ifT (by simp; omega) ?_
    simp
    refine W_loop (FiI C q) C.length ?_ ?_
    · refine ⟨_, _, ?_, FiI.of (i := 0) (by omega) rfl rfl⟩
      exact View.renum [0] (by simp) (by simp; exact flE_bd _) (by simp [List.replicate])
    rintro _ _ _ (⟨i, hc, x, y, hx, hy, h, m2, hm2⟩ | ⟨i, hi, hc, h, m2, hm2⟩ | ⟨i, hc, p, h, m2, hm2⟩ | ⟨i, hi, hc, p, h, m2, hm2⟩)
    · have hcz : (i : Int) + 1 < C.length := by omega
      have hfx := hf x (List.mem_of_getElem? hx)
      have hfy := hf y (List.mem_of_getElem? hy)
      have a1 := sC_len hfx
      have a2 := take_sv hfx
      have a4 := take_sC hfx
      have b1 := sC_len hfy
      have b2 := take_sv hfy
      have b4 := take_sC hfy
      have ez : ((i : Int) + 1).toNat = i + 1 := by omega
      simp [List.replicate, hcz, -W_cond]
      refine ⟨by omega, W_ifT (by simp) ?_⟩
      by_cases c1 : x.vote.signer = (q : Int)
      · simp (decide := true) [hx, hy, ez, a1, a2, b1, b2, agg_vC, get_signer, c1, -W_cond]
        refine ⟨by omega, by omega, nextDC.use (r6Conflict_any x.vote y.vote hfx hfy) (by simp) ?_⟩
        by_cases c2 : confB x.vote y.vote = true
        · simp (decide := true) [c2, -W_cond]
          refine W_ifT (by simp) ?_
          have hp : frP C q C.length = some (x, y) := by
            have := frP_some (show frP C q (i + 1) = some (x, y) by rw [frP_step h hx hy, if_pos ⟨c1, c2⟩]) (C.length - (i + 1))
            rwa [show i + 1 + (C.length - (i + 1)) = C.length by omega] at this
          simp (decide := true) [hx, hy, ez, a1, a4, b1, b4, agg_sC, splice_E a1 b1]
          have := FiI.ofs (i := i + 1) (by omega) hp rfl
          rw [show flat ((evsP C q ++ [(x, y)]).map eA) = flat ((evsP C q).map eA) ++ (sC x ++ sC y) by simp [flat]] at this
          refine ⟨by omega, by omega, by simp [splice, a1], by omega, by omega, _, ?_, _, _, View.renum [2] (by simp) ?_ ?_, this⟩
          · omega
          · simp [a1, b1, List.take_of_length_le (Nat.le_of_eq hfl), List.take_of_length_le]
            rintro a (e | e | e)
            · exact flE_bd _ a e
            · exact sC_bd x a e
            · exact sC_bd y a e
          · simp [List.replicate]
        · rw [Bool.not_eq_true] at c2
          simp (decide := true) [c2, -W_cond]
          refine W_ifF (by simp) ?_
          simp
          have hn : frP C q (i + 1) = none := by rw [frP_step h hx hy, if_neg (by rw [c2]; simp)]
          refine ⟨by omega, _, ?_, _, _, View.renum [0] (by simp) (by simp; exact flE_bd _) (by simp [List.replicate]), FiI.of (by omega) hn rfl⟩
          omega
      · simp (decide := true) [hx, a1, get_signer, c1, -W_cond]
        refine W_ifF (by simp) ?_
        simp
        have hn : frP C q (i + 1) = none := by rw [frP_step h hx hy, if_neg (fun e => c1 e.1)]
        refine ⟨by omega, _, ?_, _, _, View.renum [0] (by simp) (by simp; exact flE_bd _) (by simp [List.replicate]), FiI.of (by omega) hn rfl⟩
        omega
    · have hcz : ¬ (i : Int) + 1 < C.length := by omega
      simp [List.replicate, hcz, -W_cond]
      refine ⟨by omega, W_ifF (by simp) ?_⟩
      simp
      have e1 : evsP C (q + 1) = evsP C q := by rw [evsP_succ, h]; simp
      have := FiO.mk (C := C) (q + 1) (by omega) _ rfl
      rw [e1] at this
      refine ⟨by omega, _, ?_, _, _, View.renum [0] (by simp) (by simp; exact flE_bd _) (by simp [List.replicate]), this⟩
      omega
    · have hcz : (i : Int) + 1 < C.length := by omega
      simp [List.replicate, hcz, -W_cond]
      refine ⟨by omega, W_ifF (by simp) ?_⟩
      simp
      have e1 : evsP C (q + 1) = evsP C q ++ [p] := by rw [evsP_succ, h]; simp
      have := FiO.mk (C := C) (q + 1) (by omega) _ rfl
      rw [e1] at this
      refine ⟨by omega, _, ?_, _, _, View.renum [0] (by simp) (by simp only [gcL_row, gcL_nil, and_true, List.map_append, List.map_cons, List.map_nil]; exact ⟨rfl, by have := flE_bd (evsP C q ++ [p]); rwa [List.map_append] at this⟩) (by simp [List.replicate]), this⟩
      omega
    · have hcz : ¬ (i : Int) + 1 < C.length := by omega
      simp [List.replicate, hcz, -W_cond]
      refine ⟨by omega, W_ifF (by simp) ?_⟩
      simp
      have e1 : evsP C (q + 1) = evsP C q ++ [p] := by rw [evsP_succ, h]; simp
      have := FiO.mk (C := C) (q + 1) (by omega) _ rfl
      rw [e1] at this
      refine ⟨by omega, _, ?_, _, _, View.renum [0] (by simp) (by simp only [gcL_row, gcL_nil, and_true, List.map_append, List.map_cons, List.map_nil]; exact ⟨rfl, by have := flE_bd (evsP C q ++ [p]); rwa [List.map_append] at this⟩) (by simp [List.replicate]), this⟩
      omega
  · obtain rfl : q = 10 := by omega
    refine W_ifF (by simp) ?_
    simp
    refine ⟨_, View.fz1 (id := 0) rfl (.own (fun e he => by obtain ⟨x, h, rfl⟩ := List.mem_map.1 he; exact eA_len (evsP_fit hf 10 x h).1 (evsP_fit hf 10 x h).2) (by simp) ?_)⟩
    rw [List.drop_zero, List.take_of_length_le (Nat.le_of_eq hfl)]
/-- The set of the given numbers. -/
def maskN (js : List Nat) : Int := js.foldl (fun m j => bits .or .i64 m (2 ^ j)) 0
/-- The signers of evidence. -/
def sgsP (l : List (SignedS × SignedS)) : List Nat := l.map fun p => p.1.vote.signer.toNat
inductive SgI (l : List (SignedS × SignedS)) : Nat → List AV → List AObj → Prop
  | mk (i : Nat) (h : i ≤ l.length) (m : Nat) (hm : m = l.length - i) : SgI l m ([.ls 46 (l.map eA), .any, .any, .c (.int .i64 (maskN ((sgsP l).take i))), .c (.int .i64 i)] ++ List.replicate 17 .any) []
/-- Signers. -/
theorem r6Signers_any (l : List (SignedS × SignedS)) (hf : FitsP l) (hl : l.length ≤ 1000) (hs : ∀ p ∈ l, ∃ j : Nat, j < 10 ∧ p.1.vote.signer = (j : Int)) : PCall Tryz.prog 26 [.ls 46 (l.map eA)] [] (fun x _ => Bd 0 x ∧ x = .c (.int .i64 (maskN (sgsP l)))) := by
  refine PCall.enter mixed Tryz.func26 rfl Tryz.ntmps26 Tryz.results26 (by simp) (by kernel_rfl) ?_
  simp [List.replicate]
  refine W_loop (SgI l) l.length ?_ ?_
  · exact ⟨_, _, View.renum [] (by simp) (by simp) (by simp [List.replicate, maskN]), .mk 0 (by omega) _ rfl⟩
  rintro _ _ _ ⟨i, hi, m, hm⟩
  simp [List.replicate, -W_cond]
  by_cases hlt : i < l.length
  · obtain ⟨p, hx⟩ : ∃ p, l[i]? = some p := ⟨_, List.getElem?_eq_getElem hlt⟩
    obtain ⟨h1, h2⟩ := hf p (List.mem_of_getElem? hx)
    obtain ⟨j, hj, hsg⟩ := hs p (List.mem_of_getElem? hx)
    have a1 := sC_len h1
    have b1 := sC_len h2
    have hg : ∀ h, (sC p.1 ++ sC p.2)[4]'h = .c (.int .i64 (j : Int)) := fun h => by
      rw [List.getElem_append_left (by omega), get_signer, hsg]
    refine W_ifT (by simp; omega) ?_
    simp [hx, a1, b1, hg]
    refine (r6Bit_any j hj).use (by simp) ?_
    simp
    have hgx : (sgsP l)[i]? = some j := by simp [sgsP, hx, hsg]
    have := SgI.mk (l := l) (i + 1) (by omega) _ rfl
    rw [List.take_add_one, hgx] at this
    refine ⟨by omega, _, ?_, _, _, View.renum [] (by simp) (by simp) ?_, this⟩
    · omega
    · simp [List.replicate, maskN]
  · obtain rfl : i = l.length := by omega
    refine W_ifF (by simp) ?_
    have e : (sgsP l).take l.length = sgsP l := List.take_of_length_le (by simp [sgsP])
    simp [e]
end

section
/-- The first of each key. -/
structure EOk (T E : List SignedS) : Prop where
  sub : ∀ e ∈ E, e ∈ T
  all : ∀ s ∈ T, ∃ e ∈ E, sameK e.vote s.vote = true
/-- One pair for each signer with two votes of a key. -/
structure FOk (T : List SignedS) (F : List (Option (SignedS × SignedS))) : Prop where
  len : F.length = 10
  iff : ∀ (i : Nat) o, F[i]? = some o → (o.isSome = true ↔ GuiltA T (i : Int))
  mem : ∀ (i : Nat) (p : SignedS × SignedS), F[i]? = some (some p) → p.1.vote.signer = (i : Int) ∧ p.1 ∈ T ∧ p.2 ∈ T
theorem EOk.nil : EOk [] [] := ⟨fun _ h => h, fun _ h => by cases h⟩
theorem guiltA_nil (s : Int) : ¬ GuiltA [] s := fun ⟨_, _, _, _, _, h, _⟩ => by simp at h
theorem FOk.nil : FOk [] (List.replicate 10 none) := ⟨rfl, fun i o h => by
  rw [List.eq_of_mem_replicate (List.mem_of_getElem? h)]
  simp [guiltA_nil], fun i p h => by
  have := List.eq_of_mem_replicate (List.mem_of_getElem? h)
  cases this⟩
theorem guiltA_snoc {T : List SignedS} {s : SignedS} {q : Int} : GuiltA (T ++ [s]) q ↔ GuiltA T q ∨ (s.vote.signer = q ∧ ∃ x ∈ T, sameK x.vote s.vote = true) := by
  constructor
  · rintro ⟨i, j, x, y, hij, hx, hy, hq, hk⟩
    have hj := (List.getElem?_eq_some_iff.1 hy).1
    rw [List.length_append, List.length_singleton] at hj
    rw [List.getElem?_append_left (by omega)] at hx
    rcases Nat.lt_or_ge j T.length with h | h
    · rw [List.getElem?_append_left h] at hy
      exact .inl ⟨i, j, x, y, hij, hx, hy, hq, hk⟩
    · rw [List.getElem?_append_right h, show j - T.length = 0 by omega] at hy
      cases hy
      exact .inr ⟨hq, x, List.mem_of_getElem? hx, hk⟩
  · rintro (⟨i, j, x, y, hij, hx, hy, hq, hk⟩ | ⟨hq, x, hx, hk⟩)
    · have hj := (List.getElem?_eq_some_iff.1 hy).1
      exact ⟨i, j, x, y, hij, by rw [List.getElem?_append_left (by omega)]; exact hx, by rw [List.getElem?_append_left hj]; exact hy, hq, hk⟩
    · obtain ⟨i, hi⟩ := List.getElem?_of_mem hx
      have hil := (List.getElem?_eq_some_iff.1 hi).1
      exact ⟨i, T.length, x, s, hil, by rw [List.getElem?_append_left hil]; exact hi, by simp, hq, hk⟩
section
variable {T E : List SignedS} {F : List (Option (SignedS × SignedS))} {s a : SignedS}
theorem EOk.new (h : EOk T E) : EOk (T ++ [s]) (E ++ [s]) := ⟨fun e he => (List.mem_append.1 he).elim (fun h1 => List.mem_append_left _ (h.sub e h1)) (fun h1 => List.mem_append_right _ h1), fun x hx => (List.mem_append.1 hx).elim (fun h1 => by
  obtain ⟨e, he, hk⟩ := h.all x h1
  exact ⟨e, List.mem_append_left _ he, hk⟩) (fun h1 => by
  rw [List.mem_singleton.1 h1]
  exact ⟨s, by simp, sameK_refl _⟩)⟩
theorem EOk.old (h : EOk T E) (ha : a ∈ E) (hk : sameK s.vote a.vote = true) : EOk (T ++ [s]) E := ⟨fun e he => List.mem_append_left _ (h.sub e he), fun x hx => (List.mem_append.1 hx).elim (fun h1 => h.all x h1) (fun h1 => by
  rw [List.mem_singleton.1 h1]
  exact ⟨a, ha, sameK_symm hk⟩)⟩
theorem FOk.new (hE : EOk T E) (h : FOk T F) (hn : (E.find? fun x : SignedS => sameK s.vote x.vote) = none) : FOk (T ++ [s]) F := by
  refine ⟨h.len, fun i o ho => (h.iff i o ho).trans ?_, fun i p hp => ?_⟩
  · rw [guiltA_snoc]
    refine ⟨.inl, fun hh => hh.elim id (fun ⟨_, x, hx, hk⟩ => ?_)⟩
    obtain ⟨e, he, hk2⟩ := hE.all x hx
    rw [List.find?_eq_none] at hn
    exact absurd (sameK_symm (sameK_trans hk2 hk)) (hn e he)
  · obtain ⟨h1, h2, h3⟩ := h.mem i p hp
    exact ⟨h1, List.mem_append_left _ h2, List.mem_append_left _ h3⟩
theorem FOk.keep (_hE : EOk T E) (h : FOk T F) (_ha : a ∈ E) (_hk : sameK s.vote a.vote = true) {i : Nat} (hs : s.vote.signer = (i : Int)) {p : SignedS × SignedS} (hp : F[i]? = some (some p)) : FOk (T ++ [s]) F := by
  refine ⟨h.len, fun j o ho => (h.iff j o ho).trans ?_, fun i p hp => ?_⟩
  · rw [guiltA_snoc]
    refine ⟨.inl, fun hh => hh.elim id (fun ⟨hq, _⟩ => ?_)⟩
    have : i = j := by omega
    subst this
    exact (h.iff i _ hp).1 rfl
  · obtain ⟨h1, h2, h3⟩ := h.mem i p hp
    exact ⟨h1, List.mem_append_left _ h2, List.mem_append_left _ h3⟩
theorem FOk.set_ (hE : EOk T E) (h : FOk T F) (ha : a ∈ E) (hk : sameK s.vote a.vote = true) {i : Nat} (hs : s.vote.signer = (i : Int)) (hi : i < 10) : FOk (T ++ [s]) (F.set i (some (a, s))) := by
  refine ⟨by rw [List.length_set, h.len], fun j o ho => ?_, fun j p hp => ?_⟩
  · rw [guiltA_snoc]
    by_cases e : i = j
    · subst e
      rw [List.getElem?_set_self (by rw [h.len]; exact hi)] at ho
      cases ho
      exact ⟨fun _ => .inr ⟨hs, a, hE.sub a ha, sameK_symm hk⟩, fun _ => rfl⟩
    · rw [List.getElem?_set_ne e] at ho
      refine (h.iff j o ho).trans ⟨.inl, fun hh => hh.elim id (fun ⟨hq, _⟩ => absurd (by omega) e)⟩
  · by_cases e : i = j
    · subst e
      rw [List.getElem?_set_self (by rw [h.len]; exact hi)] at hp
      cases hp
      have := (sameK_iff.1 hk).2.2.2.2
      exact ⟨this.symm.trans hs, List.mem_append_left _ (hE.sub a ha), by simp⟩
    · rw [List.getElem?_set_ne e] at hp
      obtain ⟨h1, h2, h3⟩ := h.mem j p hp
      exact ⟨h1, List.mem_append_left _ h2, List.mem_append_left _ h3⟩
end
/-- The signers of what was found. -/
theorem sgs_found {F : List (Option (SignedS × SignedS))} (hm : ∀ (i : Nat) (p : SignedS × SignedS), F[i]? = some (some p) → p.1.vote.signer = (i : Int)) : ∀ n, n ≤ F.length → sgsP ((F.take n).filterMap id) = (List.range n).filter fun i => ((F[i]?).bind id).isSome
  | 0, _ => by simp [sgsP]
  | n + 1, h => by
    have ih := sgs_found hm n (by omega)
    obtain ⟨o, ho⟩ : ∃ o, F[n]? = some o := ⟨_, List.getElem?_eq_getElem (by omega)⟩
    rw [List.take_add_one, List.filterMap_append, List.range_succ, List.filter_append, ← ih, ho]
    cases o with
    | none => simp [sgsP, ho]
    | some p =>
      have := hm n p ho
      simp [sgsP, ho, this]
theorem sgs_evs {C : List SignedS} : ∀ q, sgsP (evsP C q) = (List.range q).filter fun i => (frP C i C.length).isSome
  | 0 => rfl
  | q + 1 => by
    rw [evsP_succ, List.range_succ, List.filter_append, ← sgs_evs q]
    cases h : frP C q C.length with
    | none => simp [sgsP, h]
    | some p => simp [sgsP, h, (frP_mem h).2.2]
/-- A pair is found where neighbours are in conflict. -/
theorem fr_iff {C : List SignedS} {s : Nat} : ∀ n, (frP C s n).isSome = true ↔ ∃ i x y, i < n ∧ C[i]? = some x ∧ C[i + 1]? = some y ∧ x.vote.signer = (s : Int) ∧ confB x.vote y.vote = true
  | 0 => by
    simp [frP]
  | n + 1 => by
    have ih := fr_iff (C := C) (s := s) n
    cases h : frP C s n with
    | some p =>
      rw [frP_some h 1]
      rw [h] at ih
      obtain ⟨i, x, y, hi, hr⟩ := ih.1 rfl
      exact ⟨fun _ => ⟨i, x, y, by omega, hr⟩, fun _ => rfl⟩
    | none =>
      rw [h] at ih
      have ih' : ¬ ∃ i x y, i < n ∧ C[i]? = some x ∧ C[i + 1]? = some y ∧ x.vote.signer = (s : Int) ∧ confB x.vote y.vote = true := fun hh => by
        have := ih.2 hh
        cases this
      constructor
      · intro hs
        cases hx : C[n]? with
        | none =>
          rw [List.getElem?_eq_none_iff] at hx
          rw [frP_none h (by omega) 1] at hs
          cases hs
        | some x =>
          cases hy : C[n + 1]? with
          | none =>
            rw [List.getElem?_eq_none_iff] at hy
            rw [frP_none h (by omega) 1] at hs
            cases hs
          | some y =>
            rw [frP_step h hx hy] at hs
            split at hs
            · exact ⟨n, x, y, by omega, hx, hy, by assumption⟩
            · cases hs
      · rintro ⟨i, x, y, hi, hx, hy, hs, hc⟩
        rcases Nat.lt_or_ge i n with hl | hl
        · exact absurd ⟨i, x, y, hl, hx, hy, hs, hc⟩ ih'
        · obtain rfl : i = n := by omega
          rw [frP_step h hx hy, if_pos ⟨hs, hc⟩]
          rfl
/-- The two ways find the same signers. -/
theorem sgs_same {C : List SignedS} {F : List (Option (SignedS × SignedS))} (hf : Fits C) (hC : C.Pairwise (fun a b => ltv a b = true)) (hv : ∀ x ∈ C, validB x.vote = true) (h : FOk C F) : sgsP (F.filterMap id) = sgsP (evsP C 10) := by
  have e := sgs_found (fun i p hp => (h.mem i p hp).1) 10 (by rw [h.len]; exact Nat.le_refl _)
  rw [List.take_of_length_le (by rw [h.len]; exact Nat.le_refl _)] at e
  rw [e, sgs_evs]
  refine List.filter_congr fun i hi => ?_
  have hi' : i < 10 := List.mem_range.1 hi
  obtain ⟨o, ho⟩ : ∃ o, F[i]? = some o := ⟨_, List.getElem?_eq_getElem (by rw [h.len]; exact hi')⟩
  rw [Bool.eq_iff_iff, ho]
  show o.isSome = true ↔ _
  rw [h.iff i o ho, guilt_iff hf hC, fr_iff]
  constructor
  · rintro ⟨j, x, y, hx, hy, hs, hk⟩
    have hjl := (List.getElem?_eq_some_iff.1 hx).1
    refine ⟨j, x, y, hjl, hx, hy, hs, ?_⟩
    have hlt : ltv x y = true := by
      obtain ⟨h1, e1⟩ := List.getElem?_eq_some_iff.1 hx
      obtain ⟨h2, e2⟩ := List.getElem?_eq_some_iff.1 hy
      have := List.pairwise_iff_getElem.1 hC j (j + 1) h1 h2 (by omega)
      rwa [e1, e2] at this
    have hne : ¬ x.vote = y.vote := fun e => by
      unfold ltv at hlt
      rw [e] at hlt
      rw [lessV_irrefl _ (hf y (List.mem_of_getElem? hy))] at hlt
      cases hlt
    simp [confB, hv x (List.mem_of_getElem? hx), hv y (List.mem_of_getElem? hy), hk, hne]
  · rintro ⟨j, x, y, _, hx, hy, hs, hc⟩
    simp only [confB, Bool.and_eq_true] at hc
    exact ⟨j, x, y, hx, hy, hs, hc.1.2⟩
end

section
theorem vfd_fit (K : List (List UInt8)) {l : List SignedS} (hf : Fits l) : Fits (vfdS K l) := canS_fit (fun x hx => hf x (List.mem_filter.1 hx).1)
theorem vfd_len (K : List (List UInt8)) (l : List SignedS) : (vfdS K l).length ≤ l.length := Nat.le_trans (canS_len _) (List.length_filter_le _ _)
theorem vfd_mem {K : List (List UInt8)} {l : List SignedS} (hf : Fits l) {x : SignedS} (h : x ∈ vfdS K l) : x ∈ l ∧ vfy K x = true := List.mem_filter.1 (canS_mem (fun x hx => hf x (List.mem_filter.1 hx).1) h)
theorem vfy_valid {K : List (List UInt8)} {s : SignedS} (h : vfy K s = true) : validB s.vote = true := by
  unfold vfy at h
  simp only [Bool.and_eq_true] at h
  obtain ⟨-, h⟩ := h
  split at h
  · unfold sgV at h
    simp only [Bool.and_eq_true] at h
    exact h.1
  · cases h
theorem vfd_valid {K : List (List UInt8)} {l : List SignedS} (hf : Fits l) {x : SignedS} (h : x ∈ vfdS K l) : validB x.vote = true := vfy_valid (vfd_mem hf h).2
theorem vfd_signer {K : List (List UInt8)} {l : List SignedS} (hf : Fits l) {x : SignedS} (h : x ∈ vfdS K l) : ∃ i : Nat, i < 10 ∧ x.vote.signer = (i : Int) := by
  have hv := validB_true.1 (vfd_valid hf h)
  have h1 : 0 ≤ x.vote.signer ∧ x.vote.signer < 10 := by
    unfold ValidP at hv
    omega
  exact ⟨x.vote.signer.toNat, by omega, by omega⟩
end
end Go.Proofs.YthknobbilcolnaaGreat
