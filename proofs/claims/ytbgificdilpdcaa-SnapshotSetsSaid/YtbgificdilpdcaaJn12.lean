/- Encode of package snapshot. Conditions: sizes. Package cursor: New, Uint, Fixed, Bytes, OK, Done. Conditions: sizes. -/
import Derived.Test.YtbgificdilpdcaaOrd
import Derived.Deep.RegionHeld3
namespace Go.Proofs.Ytbgificdilpdcaa
section
open Go.RowKit

theorem NewO.app {W wr w5 w6 : World} {xs ys : List UInt8} {A A' : Option Addr} {c c' : Nat} (h : NewO W xs A c wr) (h5 : Upd NoF wr w5) (ho : Own w6 5 1 (.slice A' (xs.length + ys.length) c') (xs.length + ys.length) (xs.map byteV ++ ys.map byteV)) (hu : Upd (OwnB (.slice A xs.length c)) w5 w6) (hn : ∀ k, OwnB (.slice A' (xs.length + ys.length) c') k → OwnB (.slice A xs.length c) k ∨ w5.heap.size ≤ k) : NewO W (xs ++ ys) A' c' w6 := by
  obtain ⟨h1, h2, h3⟩ := h
  have e : (xs ++ ys).length = xs.length + ys.length := List.length_append
  have hs := h3.size
  have hs5 := h5.size
  refine ⟨by rw [e, List.map_append]; exact ho, fun k hk => ?_, (h3.trans h5 (fun _ _ f => f)).trans hu (fun k hk f => by have := h2 k f; omega)⟩
  rw [e] at hk
  rcases hn k hk with f | f
  · exact h2 k f
  · omega
theorem NewO.own {W wr w5 : World} {xs : List UInt8} {A : Option Addr} {c : Nat} (h : NewO W xs A c wr) (h5 : Upd NoF wr w5) : Own w5 5 1 (.slice A xs.length c) xs.length (xs.map byteV) := h.1.upd h5 (fun _ _ f => f)
theorem NewO.from_ {W0 W w : World} {xs : List UInt8} {A : Option Addr} {c : Nat} (h : NewO W xs A c w) (h0 : Upd NoF W0 W) : NewO W0 xs A c w := ⟨h.1, fun k hk => Nat.le_trans h0.size (h.2.1 k hk), h0.trans h.2.2 (fun _ _ f => f)⟩
theorem sEncode_no {s : SignedS} {u : Value} (hf : s.vote.Fit) (w : World) (hu : Rd w 1 u s.sig.length (s.sig.map byteV)) (h : okS s = false) : Calls Try.prog 33 #[.agg (rowS s u).toArray] w (NilFalse w) := by
  cases hv : validB s.vote with
  | false => exact sEncode_bad hf w hu hv
  | true => exact sEncode_len hf w hu hv (fun e => by unfold okS at h; rw [hv, e] at h; cases h)
/-- What Encode returns. -/
def EncPost (w : World) (r : List UInt8 × Int) (e : Ending) (w' : World) : Prop := ∃ A c, e = .returned (.tuple #[.slice A r.1.length c, .int .i64 r.2]) ∧ NewO w r.1 A c w'
theorem encNil (w w' : World) (h : Upd NoF w w') : NewO w [] none 0 w' := ⟨Own.nil _ _ _, (fun k hk => by simp [OwnB, Value.ownBlock] at hk), h⟩
def encVs (l : List SignedS) (k : Nat) : List UInt8 := beB l.length 4 ++ ((l.take k).map encS).flatten
theorem encVs_next {l : List SignedS} {k : Nat} {s : SignedS} (h : l[k]? = some s) : encVs l (k + 1) = encVs l k ++ encS s := by
  unfold encVs
  obtain ⟨hlt, e⟩ := List.getElem?_eq_some_iff.1 h
  rw [List.take_succ_eq_append_getElem hlt, e]
  simp
theorem encVs_len {l : List SignedS} {k : Nat} (hf : ∀ s ∈ l, s.vote.Fit) (ho : ∀ (j : Nat) s, j < k → l[j]? = some s → okS s = true) : (encVs l k).length = 4 + 393 * min k l.length := by
  induction k with
  | zero => simp [encVs, beB_len]
  | succ k ih =>
    have ih := ih (fun j s hj => ho j s (by omega))
    by_cases h : k < l.length
    · have hs := List.getElem?_eq_getElem h
      rw [encVs_next hs, List.length_append, ih, encS_len (hf _ (List.getElem_mem h)) (okS_true.1 (ho k _ (by omega) hs)).2]
      omega
    · have : encVs l (k + 1) = encVs l k := by
        unfold encVs
        rw [List.take_of_length_le (by omega), List.take_of_length_le (by omega)]
      rw [this, ih]
      omega
def encTs (x : List UInt8) (l : List (List UInt8)) (k : Nat) : List UInt8 := x ++ beB l.length 4 ++ ((l.take k).map encT).flatten
theorem encTs_next {x : List UInt8} {l : List (List UInt8)} {k : Nat} {s : List UInt8} (h : l[k]? = some s) : encTs x l (k + 1) = encTs x l k ++ encT s := by
  unfold encTs
  obtain ⟨hlt, e⟩ := List.getElem?_eq_some_iff.1 h
  rw [List.take_succ_eq_append_getElem hlt, e]
  simp
theorem encTs_len {x : List UInt8} {l : List (List UInt8)} {k : Nat} (ho : ∀ (j : Nat) s, j < k → l[j]? = some s → okT s = true) : (encTs x l k).length ≤ x.length + 4 + 65537 * k := by
  induction k with
  | zero => simp [encTs, beB_len]
  | succ k ih =>
    have ih := ih (fun j s hj => ho j s (by omega))
    by_cases h : k < l.length
    · have hs := List.getElem?_eq_getElem h
      have h2 : (encT l[k]).length ≤ 65537 := by
        have := ho k _ (by omega) hs
        unfold okT at this
        rw [decide_eq_true_eq] at this
        simp [encT, beB_len]
        omega
      rw [encTs_next hs, List.length_append]
      omega
    · have : encTs x l (k + 1) = encTs x l k := by
        unfold encTs
        rw [List.take_of_length_le (by omega), List.take_of_length_le (by omega)]
      rw [this]
      omega
theorem all_upto {α : Type} {p : α → Bool} {l : List α} {k : Nat} (h : ∀ (j : Nat) s, j < k → l[j]? = some s → p s = true) (hk : l.length ≤ k) : l.all p = true := by
  rw [List.all_eq_true]
  intro x hx
  obtain ⟨i, hi⟩ := List.getElem?_of_mem hx
  exact h i x (by have := (List.getElem?_eq_some_iff.1 hi).1; omega) hi
theorem all_no {α : Type} {p : α → Bool} {l : List α} {k : Nat} {x : α} (h : l[k]? = some x) (hp : p x = false) : l.all p = false := by
  cases hl : l.all p with
  | false => rfl
  | true =>
    rw [List.all_eq_true] at hl
    rw [hl x (List.mem_of_getElem? h)] at hp
    cases hp
theorem upto_next {α : Type} {p : α → Bool} {l : List α} {k : Nat} {x : α} (h : ∀ (j : Nat) s, j < k → l[j]? = some s → p s = true) (hx : l[k]? = some x) (hp : p x = true) : ∀ (j : Nat) s, j < k + 1 → l[j]? = some s → p s = true := by
  intro j s hj hs
  rcases Nat.lt_or_ge j k with h1 | h1
  · exact h j s h1 hs
  · obtain rfl : j = k := by omega
    rw [hx] at hs
    rw [← Option.some.inj hs]
    exact hp
def EvRel (l : List SignedS) (W : World) (b i : Value) (wr : World) : Prop :=
  ∃ (k : Nat) (A : Option Addr) (c : Nat), i = .int .i64 k ∧ k ≤ l.length ∧ b = .slice A (encVs l k).length c ∧ NewO W (encVs l k) A c wr ∧ ∀ (j : Nat) s, j < k → l[j]? = some s → okS s = true
def EtRel (x : List UInt8) (l : List (List UInt8)) (W : World) (b i : Value) (wr : World) : Prop :=
  ∃ (k : Nat) (A : Option Addr) (c : Nat), i = .int .i64 k ∧ k ≤ l.length ∧ b = .slice A (encTs x l k).length c ∧ NewO W (encTs x l k) A c wr ∧ ∀ (j : Nat) s, j < k → l[j]? = some s → okT s = true
theorem encode_arg {V : ViewS} (h : argB V = false) : encodeS V = ([], 1) := by unfold encodeS; rw [h]; rfl
theorem encode_ord {V : ViewS} (h : argB V = true) (h2 : ordB V = false) : encodeS V = ([], 10) := by unfold encodeS; rw [h, h2]; rfl
theorem encode_ok {V : ViewS} (h : argB V = true) (h2 : ordB V = true) : encodeS V = (encTs (encVs V.votes V.votes.length) V.texts V.texts.length, 0) := by
  unfold encodeS
  rw [h, h2]
  simp only [if_true]
  unfold encView encTs encVs
  rw [List.take_length, List.take_length]


set_option maxRecDepth 100000 in
set_option maxHeartbeats 16000000 in
theorem Encode_any {w : World} {a b : Value} {V : ViewS} (h : VwR w a b V) (hs1 : V.votes.length ≤ 1000000) (hs2 : V.texts.length ≤ 1000000) : Calls Try.prog 10 #[.agg #[a, b]] w (EncPost w (encodeS V)) := by
  obtain ⟨A, ca, rfl, hlc, hcm⟩ := h.1.form
  obtain ⟨B, cb, rfl, hld, hdm⟩ := h.2.form
  have HVW := Lib.hid h
  have HV := Lib.hid h.1
  have HT := Lib.hid h.2
  obtain ⟨n, hn⟩ : ∃ n, V.votes.length = n := ⟨_, rfl⟩
  obtain ⟨m, hm⟩ : ∃ n, V.texts.length = n := ⟨_, rfl⟩
  have BV := Lib.hid (Blk.new w 25 #[.slice A V.votes.length ca, .slice B V.texts.length cb])
  have UW := Lib.hid ((Upd.refl NoF w).alloc (.cells #[.slice A V.votes.length ca, .slice B V.texts.length cb] 25))
  have HN := Lib.hid hn
  have HM := Lib.hid hm
  rw [hn] at hlc hs1 BV UW HV HVW ⊢
  rw [hm] at hld hs2 BV UW HT HVW ⊢
  obtain ⟨W1, hW1⟩ : ∃ x, x = w.alloc (.cells #[.slice A n ca, .slice B m cb] 25) := ⟨_, rfl⟩
  rw [← hW1] at BV UW
  obtain ⟨i1, hi1, hy0, hy1, hy2⟩ := info_parts byte_info
  have wn : IntKind.u64.wrap (n : Int) = n := wrap_u64_nat _ (by omega)
  have wm : IntKind.u64.wrap (m : Int) = m := wrap_u64_nat _ (by omega)
  clear h hn hm
  go_enter Try.func10, Try.ntmps10
  go_wp2_with fail
  rw [← hW1]
  refine (cAU4 W1 n).mono ?_
  rintro e w2 ⟨A2, c2, rfl, ho2, hn2, hu2⟩
  have E2 := Lib.hid (show NewO W1 (encVs V.votes 0) A2 c2 w2 from by
    have e0 : encVs V.votes 0 = beB n 4 := by unfold encVs; rw [HN.out]; simp
    have e1 : (beB (n : Int) 4).length = 4 := beB_len _ _
    unfold NewO
    rw [e0, e1]
    exact ⟨ho2, hn2, hu2⟩)
  have HL0 := Lib.hid (show (encVs V.votes 0).length = 4 from by simp [encVs, beB_len])
  have c00 : w2.cell? ⟨w.heap.size, 0, none⟩ = some (.slice A n ca) := (hu2.blk BV.out (fun h => h)).cell 0
  clear hW1 ho2 hn2 hu2
  go_wp2
  go_loopw [4, 21] (fun b i wr => EvRel V.votes W1 b i wr) (fun _ i _ => n - (intOf i).toNat)
  case atStart => exact ⟨0, A2, c2, rfl, by omega, by rw [HL0.out], E2.out, fun j _ h => absurd h (by omega)⟩
  case round =>
    obtain ⟨k, Ab, cb', rfl, hk, rfl, hE, hok⟩ := hrel
    have hnn := HN.out
    have hlen := encVs_len (k := k) HV.out.1 hok
    by_cases hlt : k < n
    · obtain ⟨s, hx⟩ : ∃ x, V.votes[k]? = some x := ⟨_, List.getElem?_eq_getElem (by omega)⟩
      obtain ⟨g, o, Au, cu, hA, r1, r2, r3, r4⟩ := (HV.out.keep (UW.out.trans hE.2.2 (fun _ _ h => h))).at_ hx
      subst hA
      have hl2 : (encVs V.votes k).length ≤ 393000004 := by omega
      have FS := Lib.hid (HV.out.fit hx)
      have t1 : decide ((k : Int) < (n : Int)) = true := by simp; omega
      have q0 : (0 : Int) ≤ (k : Int) := by omega
      have q1 : (k : Int) < (n : Int) := by omega
      have R1 := Lib.hid r1
      have R2 := Lib.hid r2
      have HE := Lib.hid hE
      obtain ⟨ra, hra⟩ : ∃ z, (rowS s (.slice Au s.sig.length cu)).toArray = z := ⟨_, rfl⟩
      have HRA := Lib.hid hra
      have RS := Lib.hid (show zeroRow.size = ra.size ∧ (Try.prog.info? 38).map (·.size) = some ra.size ∧ ra.all (·.oneCell') = true from by
        rw [← hra]
        exact ⟨by rw [zeroRow_size]; simp [rowS_len FS.out], row_info FS.out _, row_one _ rfl⟩)
      have HX := Lib.hid hx
      have HOK := Lib.hid hok
      have RB := Lib.hid (show ∀ W, Blk W wr.heap.size 38 ra → W.rangeAt wr.heap.size 0 (rowS s (.slice Au s.sig.length cu)) from fun W h => by rw [← HRA.out] at h; exact range_blk h)
      clear hnn hlen hx r1 r2 hE hok hra hk c00
      cases hs : okS s with
      | true =>
        have CE := Lib.hid (show ∀ W, Upd NoF wr W → Calls Try.prog 33 #[.agg ra] W (PairPost W (encS s)) from fun W hu => by
          rw [← HRA.out]
          exact sEncode_yes FS.out W (Rd.keep R2.out hu) hs)
        have HLS := Lib.hid (encS_len FS.out (okS_true.1 hs).2)
        have HOK2 := Lib.hid (upto_next HOK.out HX.out hs)
        clear hs
        go_wp2_with (first
          | (refine wpList_load_signed rfl (.tmp 23) rfl g (o + k * 23) rfl s (.slice Au s.sig.length cu) FS.out R1.out (.agg ra) (congrArg Value.agg HRA.out) ?_)
          | (refine wpList_alloc_row rfl 38 rfl zeroRow alloc_signed ?_; intro w3 hb3 hu3 hs3; have B3 := Lib.hid hb3; have U3 := Lib.hid hu3; clear hb3 hu3 hs3)
          | (refine wpList_store_row rfl 38 (.tmp 6) (.tmp 24) rfl wr.heap.size rfl ra rfl 38 _ B3.out RS.out.1 RS.out.2.1 RS.out.2.2 ?_; intro w4 hb4 hu4 hs4; have B4 := Lib.hid hb4; have U4 := Lib.hid (U3.out.trans hu4 (fun k hk e => by have e : k = wr.heap.size := e; omega)); clear hb4 hu4 hs4)
          | (refine wpList_load_signed rfl (.tmp 6) rfl wr.heap.size 0 rfl s (.slice Au s.sig.length cu) FS.out (RB.out _ B4.out) (.agg ra) (congrArg Value.agg HRA.out) ?_))
        refine (CE.out _ U4.out).mono ?_
        rintro e w5 ⟨A5, c5, rfl, ho5, hn5, hu5⟩
        have O5 := Lib.hid (show Rd w5 1 (.slice A5 (encS s).length c5) (encS s).length ((encS s).map byteV) from ho5.rd)
        have U5 := Lib.hid (U4.out.trans hu5 (fun _ _ h => h))
        rw [HLS.out]
        have O5' := Lib.hid (show Rd w5 1 (.slice A5 393 c5) 393 ((encS s).map byteV) from by have := O5.out; rw [HLS.out] at this; exact this)
        clear ho5 hn5 hu5
        go_wp2_with (at_builtin; refine wpList_append_to _ rfl (.tmp 32) (.tmp 33) 36 rfl 5 i1 _ 1 1 Try.underlying36 hi1 hy0 hy1 hy2 rfl _ _ _ rfl (HE.out.own U5.out) _ _ _ rfl (O5'.out) (bytes_oneCell _) (by unfold maxLen; omega) (by omega) ?_; intro pA pc pw hown hupd hnew; have pO := Lib.hid hown; have pV := Lib.hid hupd; have pN := Lib.hid hnew; clear hown hupd hnew)
        have HF := Lib.hid (show NewO W1 (encVs V.votes (k + 1)) pA pc pw from by
          rw [encVs_next HX.out]
          exact HE.out.app U5.out (by rw [HLS.out]; exact pO.out) pV.out (by rw [HLS.out]; exact pN.out))
        have HLN := Lib.hid (show (encVs V.votes (k + 1)).length = (encVs V.votes k).length + 393 from by rw [encVs_next HX.out, List.length_append, HLS.out])
        go_wp2
        go_roundw
        case rel => exact ⟨k + 1, pA, pc, by go_num, by have := HN.out; omega, by rw [HLN.out], HF.out, HOK2.out⟩
        case measure => simp [intOf]; omega
      | false =>
        have CE := Lib.hid (show ∀ W, Upd NoF wr W → Calls Try.prog 33 #[.agg ra] W (NilFalse W) from fun W hu => by
          rw [← HRA.out]
          exact sEncode_no FS.out W (Rd.keep R2.out hu) hs)
        have HEN := Lib.hid (encode_arg (V := V) (by unfold argB; rw [all_no HX.out hs]; rfl))
        clear hs
        go_wp2_with (first
          | (refine wpList_load_signed rfl (.tmp 23) rfl g (o + k * 23) rfl s (.slice Au s.sig.length cu) FS.out R1.out (.agg ra) (congrArg Value.agg HRA.out) ?_)
          | (refine wpList_alloc_row rfl 38 rfl zeroRow alloc_signed ?_; intro w3 hb3 hu3 hs3; have B3 := Lib.hid hb3; have U3 := Lib.hid hu3; clear hb3 hu3 hs3)
          | (refine wpList_store_row rfl 38 (.tmp 6) (.tmp 24) rfl wr.heap.size rfl ra rfl 38 _ B3.out RS.out.1 RS.out.2.1 RS.out.2.2 ?_; intro w4 hb4 hu4 hs4; have B4 := Lib.hid hb4; have U4 := Lib.hid (U3.out.trans hu4 (fun k hk e => by have e : k = wr.heap.size := e; omega)); clear hb4 hu4 hs4)
          | (refine wpList_load_signed rfl (.tmp 6) rfl wr.heap.size 0 rfl s (.slice Au s.sig.length cu) FS.out (RB.out _ B4.out) (.agg ra) (congrArg Value.agg HRA.out) ?_))
        refine (CE.out _ U4.out).mono ?_
        rintro e w5 ⟨rfl, hu5⟩
        have U5 := Lib.hid (U4.out.trans hu5 (fun _ _ h => h))
        clear hu5
        go_wp2
        go_ret2
        rw [HEN.out]
        exact ⟨none, 0, rfl, encNil _ _ (UW.out.trans (HE.out.2.2.trans U5.out (fun _ _ h => h)) (fun _ _ h => h))⟩
    · obtain rfl : k = n := by omega
      have t1 : decide ((k : Int) < (k : Int)) = false := by simp
      have HOKV := Lib.hid (all_upto hok (by omega))
      have HE := Lib.hid hE
      have hl2 : (encVs V.votes k).length ≤ 393000004 := by omega
      have c01 : wr.cell? ⟨w.heap.size, 1, none⟩ = some (.slice B m cb) := (hE.2.2.blk BV.out (fun h => h)).cell 1
      clear hnn hlen hE hok hlt hk c00
      go_wp2_with fail
      refine (cAU4 wr m).mono ?_
      rintro e w3 ⟨A3, c3, rfl, ho3, hn3, hu3⟩
      have O3 := Lib.hid (show Rd w3 1 (.slice A3 4 c3) 4 ((beB (m : Int) 4).map byteV) from ho3.rd)
      have U3 := Lib.hid hu3
      clear ho3 hn3 hu3
      have HFF := Lib.hid (show ∀ pA pc pw, Own pw 5 1 (.slice pA ((encVs V.votes k).length + 4) pc) ((encVs V.votes k).length + 4) ((encVs V.votes k).map byteV ++ (beB (m : Int) 4).map byteV) → Upd (OwnB (.slice Ab (encVs V.votes k).length cb')) w3 pw → (∀ q, OwnB (.slice pA ((encVs V.votes k).length + 4) pc) q → OwnB (.slice Ab (encVs V.votes k).length cb') q ∨ w3.heap.size ≤ q) → NewO W1 (encTs (encVs V.votes k) V.texts 0) pA pc pw from fun pA pc pw pO pV pN => by
        have e0 : encTs (encVs V.votes k) V.texts 0 = encVs V.votes k ++ beB m 4 := by unfold encTs; rw [HM.out]; simp
        rw [e0]
        exact HE.out.app U3.out (by rw [beB_len]; exact pO) pV (by rw [beB_len]; exact pN))
      go_wp2_with (at_builtin; refine wpList_append_to _ rfl (.tmp 36) (.tmp 41) 36 rfl 5 i1 _ 1 1 Try.underlying36 hi1 hy0 hy1 hy2 rfl _ _ _ rfl (HE.out.own U3.out) _ _ _ rfl (O3.out) (bytes_oneCell _) (by unfold maxLen; omega) (by omega) ?_; intro pA pc pw hown hupd hnew; have pO := Lib.hid hown; have pV := Lib.hid hupd; have pN := Lib.hid hnew; clear hown hupd hnew; have HF := Lib.hid (HFF.out pA pc pw pO.out pV.out pN.out); have c11 : pw.cell? ⟨w.heap.size, 1, none⟩ = some (.slice B m cb) := (HF.out.2.2.blk BV.out (fun h => h)).cell 1; clear c01)
      have HL1 := Lib.hid (show (encTs (encVs V.votes k) V.texts 0).length = (encVs V.votes k).length + 4 from by unfold encTs; simp [beB_len])
      have HKN := Lib.hid HN.out
      clear pO pV pN HFF
      generalize hxv : encVs V.votes k = XV at hl2 HE HF HL1 ⊢
      have HXV := Lib.hid hxv
      clear hxv HE
      obtain ⟨wo, rfl⟩ : ∃ wo : World, wo = wr := ⟨_, rfl⟩
      go_loopw [4, 46] (fun b i wr => EtRel XV V.texts W1 b i wr) (fun _ i _ => m - (intOf i).toNat)
      case atStart => exact ⟨0, pA, pc, rfl, by omega, by rw [HL1.out], HF.out, fun j _ h => absurd h (by omega)⟩
      case round =>
        obtain ⟨j, Ab, cb', rfl, hk, rfl, hE, hok⟩ := hrel
        have hmm := HM.out
        have hlen := encTs_len (x := XV) (k := j) hok
        have hl3 : (encTs XV V.texts j).length ≤ 549755813888 := by omega
        by_cases hlt : j < m
        · obtain ⟨s, hx⟩ : ∃ x, V.texts[j]? = some x := ⟨_, List.getElem?_eq_getElem (by omega)⟩
          obtain ⟨g, o, Au, cu, hA, r1, r2, r3, r4⟩ := (HT.out.keep (UW.out.trans hE.2.2 (fun _ _ h => h))).at_ hx
          subst hA
          have t2 : decide ((j : Int) < (m : Int)) = true := by simp; omega
          have q0 : (0 : Int) ≤ (j : Int) := by omega
          have q1 : (j : Int) < (m : Int) := by omega
          have R2 := Lib.hid r2
          have HE := Lib.hid hE
          have HX := Lib.hid hx
          have HOK := Lib.hid hok
          clear hmm hlen hx r2 hE hok hk c11
          by_cases hs : s.length ≤ 65535
          · have t3 : decide ((65535 : Int) < (s.length : Int)) = false := by simp; omega
            have t3' : decide (65535 < s.length) = false := by simp; omega
            have CE := Lib.hid (cAppendBytes_yes (bs := []) (b := .slice none 0 0) (Rd.nil wr 1) (show Rd wr 1 (.slice Au s.length cu) s.length (s.map byteV) from R2.out) hs (by simp))
            have HOK2 := Lib.hid (upto_next HOK.out HX.out (show okT s = true by simp [okT, hs]))
            have HLT := Lib.hid (show (encT s).length = 2 + s.length from by simp [encT, beB_len])
            go_wp2_with fail
            refine CE.out.mono ?_
            rintro e w5 ⟨A5, c5, rfl, ho5, hn5, hu5⟩
            rw [List.nil_append] at ho5 hn5
            have O5 := Lib.hid (show Rd w5 1 (.slice A5 (encT s).length c5) (encT s).length ((encT s).map byteV) from ho5.rd)
            have U5 := Lib.hid hu5
            rw [List.nil_append]
            rw [HLT.out]
            have O5' := Lib.hid (show Rd w5 1 (.slice A5 (2 + s.length) c5) (2 + s.length) ((encT s).map byteV) from by have := O5.out; rw [HLT.out] at this; exact this)
            clear ho5 hn5 hu5
            go_wp2_with (at_builtin; refine wpList_append_to _ rfl (.tmp 58) (.tmp 59) 36 rfl 5 i1 _ 1 1 Try.underlying36 hi1 hy0 hy1 hy2 rfl _ _ _ rfl (HE.out.own U5.out) _ _ _ rfl (O5'.out) (bytes_oneCell _) (by unfold maxLen; omega) (by omega) ?_; intro qA qc qw hown hupd hnew; have qO := Lib.hid hown; have qV := Lib.hid hupd; have qN := Lib.hid hnew; clear hown hupd hnew)
            have HF2 := Lib.hid (show NewO W1 (encTs XV V.texts (j + 1)) qA qc qw from by
              rw [encTs_next HX.out]
              exact HE.out.app U5.out (by rw [HLT.out]; exact qO.out) qV.out (by rw [HLT.out]; exact qN.out))
            have HLN := Lib.hid (show (encTs XV V.texts (j + 1)).length = (encTs XV V.texts j).length + (2 + s.length) from by rw [encTs_next HX.out, List.length_append, HLT.out])
            go_wp2
            go_roundw
            case rel => exact ⟨j + 1, qA, qc, by go_num, by have := HM.out; omega, by rw [HLN.out], HF2.out, HOK2.out⟩
            case measure => simp [intOf]; omega
          · have t3 : decide ((65535 : Int) < (s.length : Int)) = true := by simp; omega
            have t3' : decide (65535 < s.length) = true := by simp; omega
            have HEN := Lib.hid (encode_arg (V := V) (by unfold argB; rw [all_no (p := okT) HX.out (by simp [okT]; omega)]; simp))
            go_wp2
            go_ret2
            rw [HEN.out]
            exact ⟨none, 0, rfl, encNil _ _ (UW.out.trans HE.out.2.2 (fun _ _ h => h))⟩
        · obtain rfl : j = m := by omega
          have t2 : decide ((j : Int) < (j : Int)) = false := by simp
          have HOKT := Lib.hid (all_upto hok (by omega))
          have HE := Lib.hid hE
          have hbv := hE.2.2.blk BV.out (fun h => h)
          have d0 : wr.cell? ⟨w.heap.size, 0, none⟩ = some (.slice A k ca) := hbv.cell 0
          have d1 : wr.cell? ⟨w.heap.size, 1, none⟩ = some (.slice B j cb) := hbv.cell 1
          have CO := Lib.hid (ordered_any (HVW.out.keep (UW.out.trans hE.2.2 (fun _ _ h => h))) (by have := HN.out; omega) (by have := HM.out; omega))
          have HARG := Lib.hid (show argB V = true from by unfold argB; rw [HOKV.out, HOKT.out]; rfl)
          clear hmm hlen hE hok hlt hk hbv c11
          cases ho : ordB V with
          | true =>
            rw [ho] at CO
            have HEN := Lib.hid (encode_ok HARG.out ho)
            clear ho
            go_wp2_with fail
            refine CO.out.mono ?_
            rintro e w6 ⟨rfl, hu6⟩
            have U6 := Lib.hid hu6
            clear hu6
            go_wp2
            go_ret2
            rw [HEN.out]
            have e1 : encVs V.votes V.votes.length = XV := by rw [← HXV.out, HN.out]
            rw [e1, HM.out]
            exact ⟨Ab, cb', rfl, NewO.from_ ⟨HE.out.own U6.out, HE.out.2.1, HE.out.2.2.trans U6.out (fun _ _ h => h)⟩ UW.out⟩
          | false =>
            rw [ho] at CO
            have HEN := Lib.hid (encode_ord HARG.out ho)
            clear ho
            go_wp2_with fail
            refine CO.out.mono ?_
            rintro e w6 ⟨rfl, hu6⟩
            have U6 := Lib.hid hu6
            clear hu6
            go_wp2
            go_ret2
            rw [HEN.out]
            exact ⟨none, 0, rfl, encNil _ _ (UW.out.trans (HE.out.2.2.trans U6.out (fun _ _ h => h)) (fun _ _ h => h))⟩
end

section
open Go.RowKit
attribute [local go_sem ↓] Go.wp_at_zero Go.wp_at_succ

/-- A cursor over v at a. -/
def CurB (w : World) (g : Nat) (v : Value) (a : Nat) (bad : Bool) : Prop := Blk w g 96 #[v, .int .i64 (a : Int), .bool bad]
theorem CurB.lt {w : World} {g : Nat} {v : Value} {a : Nat} {bad : Bool} (h : CurB w g v a bad) : g < w.heap.size := Blk.lt h

theorem CurB.move {w : World} {g : Nat} {v : Value} {a : Nat} {bad : Bool} (h : CurB w g v a bad) {x : Int} {a' : Nat} (hx : x = a') : CurB (w.setCell ⟨g, 1, none⟩ (.int .i64 x)) g v a' bad := by
  subst hx
  have := Blk.put h 1 (.int .i64 (a' : Int))
  unfold CurB
  simpa using this
theorem CurB.spoil {w : World} {g : Nat} {v : Value} {a : Nat} {bad : Bool} (h : CurB w g v a bad) : CurB (w.setCell ⟨g, 2, none⟩ (.bool true)) g v a true := by
  have := Blk.put h 2 (.bool true)
  unfold CurB
  simpa using this
theorem CurB.drewN {w : World} {g : Nat} {v : Value} {a : Nat} {bad : Bool} (h : CurB w g v a bad) (n : Nat) : CurB (w.drewN n) g v a bad := h
theorem curNew_any (v : Value) (n c : Nat) (A : Option Addr) (hv : v = .slice A n c) (w : World) : Calls Try.prog 36 #[v] w fun e w' => e = .returned (ptrV w.heap.size) ∧ CurB w' w.heap.size v 0 false ∧ Upd NoF w w' := by
  subst hv
  go_enter Try.func36, Try.ntmps36
  go_wp2
  go_ret
  exact ⟨rfl, Blk.new w _ _, (Upd.refl NoF w).alloc _⟩

theorem curOK_any {w : World} {g : Nat} {v : Value} {a : Nat} {bad : Bool} (h : CurB w g v a bad) : Calls Try.prog 38 #[ptrV g] w fun e w' => e = .returned (.bool (!bad)) ∧ w = w' := by
  have c2 : w.cell? ⟨g, 2, none⟩ = some (.bool bad) := Blk.cell h 2
  clear h
  go_enter Try.func38, Try.ntmps38
  go_wp2
  go_ret
  exact ⟨rfl, rfl⟩

set_option maxRecDepth 100000 in
set_option maxHeartbeats 4000000 in
theorem curDone_any {w : World} {g n c : Nat} {A : Option Addr} {a : Nat} {bad : Bool} (h : CurB w g (.slice A n c) a bad) : Calls Try.prog 42 #[ptrV g] w fun e w' => e = .returned (.bool (!bad && decide (a = n))) ∧ Upd NoF w w' := by
  have c0 : w.cell? ⟨g, 0, none⟩ = some (.slice A n c) := Blk.cell h 0
  have c1 : w.cell? ⟨g, 1, none⟩ = some (.int .i64 (a : Int)) := Blk.cell h 1
  have c2 : w.cell? ⟨g, 2, none⟩ = some (.bool bad) := Blk.cell h 2
  clear h
  cases bad with
  | true =>
    go_enter Try.func42, Try.ntmps42
    go_wp2
    go_quiet (fail)
    go_wp2
    go_ret
    exact ⟨rfl, (Upd.refl NoF w).drewN _⟩
  | false =>
    by_cases he : a = n
    · have t1 : ((a : Int) == (n : Int)) = true := by simp [he]
      have E := Lib.hid (show true = (!false && decide (a = n)) by simp [he])
      generalize (!false && decide (a = n)) = Z at E ⊢
      clear he
      go_enter Try.func42, Try.ntmps42
      go_wp2
      go_quiet (fail)
      go_wp2
      go_ret
      exact ⟨retb E.out, (Upd.refl NoF w).drewN _⟩
    · have t1 : ((a : Int) == (n : Int)) = false := by simp; omega
      have E := Lib.hid (show false = (!false && decide (a = n)) by simp [he])
      generalize (!false && decide (a = n)) = Z at E ⊢
      clear he
      go_enter Try.func42, Try.ntmps42
      go_wp2
      go_quiet (fail)
      go_wp2
      go_ret
      exact ⟨retb E.out, (Upd.refl NoF w).drewN _⟩

def UintOk (w : World) (g : Nat) (v : Value) (a x : Nat) (e : Ending) (w' : World) : Prop := e = .returned (.int .i64 (x : Int)) ∧ CurB w' g v (a + 4) false ∧ Upd (fun k => k = g) w w'
def UintBad (w : World) (g : Nat) (v : Value) (a : Nat) (e : Ending) (w' : World) : Prop := e = .returned (.int .i64 0) ∧ CurB w' g v a true ∧ Upd (fun k => k = g) w w'


set_option maxRecDepth 100000 in
set_option maxHeartbeats 4000000 in
theorem curUint_ok {w : World} {g : Nat} {v : Value} {bs : List UInt8} {a : Nat} (h : CurB w g v a false) (hr : Rd w 1 v bs.length (bs.map byteV)) (hm : bs.length ≤ 1099511627776) (ha : a + 4 ≤ bs.length) : Calls Try.prog 37 #[ptrV g, .int .i64 4] w (UintOk w g v a (be ((bs.drop a).take 4))) := by
  obtain ⟨A, c, rfl, hlc, hcm⟩ := hr.slice
  have c0 : w.cell? ⟨g, 0, none⟩ = some (.slice A bs.length c) := Blk.cell h 0
  have c1 : w.cell? ⟨g, 1, none⟩ = some (.int .i64 (a : Int)) := Blk.cell h 1
  have f1 : w.frozen? ⟨g, 1, none⟩ = false := Blk.frozen h 1
  have f2 : w.frozen? ⟨g, 2, none⟩ = false := Blk.frozen h 2
  have c2 : w.cell? ⟨g, 2, none⟩ = some (.bool false) := Blk.cell h 2
  have CU := Lib.hid (fun q => (cUint_yes (hr.keep ((Upd.refl NoF w).drewN q)) a 4 (by omega) (by omega) ha (by omega)))
  have hx : be ((bs.drop a).take 4) < 4294967296 := by have := be_take_lt (bs.drop a) 4; omega
  generalize be ((bs.drop a).take 4) = x at CU hx ⊢
  have wx : IntKind.i64.wrap (x : Int) = x := IntWalk.i64_in _ (by omega)
  have HB := Lib.hid h
  have qa : (a : Int) + 4 ≤ 1099511627776 := by omega
  clear h hr
  go_enter Try.func37, Try.ntmps37
  go_wp2
  go_quiet ((go_at_call 61; exact Calls.quiet_of_same ((CU.out _).mono fun _ _ ⟨h1, h2⟩ => ⟨h1, h2.symm⟩)))
  go_wp2
  go_ret
  exact ⟨rfl, (HB.out.drewN _).move (by omega), ((Upd.refl (fun k => k = g) w).drewN _).setCell (p := ⟨g, 1, none⟩) (.inl rfl) _⟩

set_option maxRecDepth 100000 in
set_option maxHeartbeats 4000000 in
theorem curUint_short {w : World} {g : Nat} {v : Value} {bs : List UInt8} {a : Nat} {bad : Bool} (h : CurB w g v a bad) (hr : Rd w 1 v bs.length (bs.map byteV)) (hm : bs.length ≤ 1099511627776) (ha : bs.length < a + 4) (ha2 : a ≤ bs.length) : Calls Try.prog 37 #[ptrV g, .int .i64 4] w (UintBad w g v a) := by
  obtain ⟨A, c, rfl, hlc, hcm⟩ := hr.slice
  have c0 : w.cell? ⟨g, 0, none⟩ = some (.slice A bs.length c) := Blk.cell h 0
  have c1 : w.cell? ⟨g, 1, none⟩ = some (.int .i64 (a : Int)) := Blk.cell h 1
  have f1 : w.frozen? ⟨g, 1, none⟩ = false := Blk.frozen h 1
  have f2 : w.frozen? ⟨g, 2, none⟩ = false := Blk.frozen h 2
  have c2 : w.cell? ⟨g, 2, none⟩ = some (.bool bad) := Blk.cell h 2
  have CU := Lib.hid (fun q => (cUint_no (hr.keep ((Upd.refl NoF w).drewN q)) a 4 (by omega) (by omega) (by omega) ha))
  have HB := Lib.hid h
  clear h hr
  cases bad
  all_goals
    go_enter Try.func37, Try.ntmps37
    go_wp2
    go_quiet ((go_at_call 61; exact Calls.quiet_of_same ((CU.out _).mono fun _ _ ⟨h1, h2⟩ => ⟨h1, h2.symm⟩)))
    go_wp2
    go_ret
    exact ⟨rfl, (HB.out.drewN _).spoil, ((Upd.refl (fun k => k = g) w).drewN _).setCell (p := ⟨g, 2, none⟩) (.inl rfl) _⟩

set_option maxRecDepth 100000 in
set_option maxHeartbeats 4000000 in
theorem curUint_bad {w : World} {g : Nat} {v : Value} {bs : List UInt8} {a : Nat} (h : CurB w g v a true) (hr : Rd w 1 v bs.length (bs.map byteV)) (hm : bs.length ≤ 1099511627776) (ha2 : a ≤ bs.length) : Calls Try.prog 37 #[ptrV g, .int .i64 4] w (UintBad w g v a) := by
  by_cases ha : bs.length < a + 4
  · exact curUint_short h hr hm ha ha2
  have ha : a + 4 ≤ bs.length := by omega
  obtain ⟨A, c, rfl, hlc, hcm⟩ := hr.slice
  have c0 : w.cell? ⟨g, 0, none⟩ = some (.slice A bs.length c) := Blk.cell h 0
  have c1 : w.cell? ⟨g, 1, none⟩ = some (.int .i64 (a : Int)) := Blk.cell h 1
  have f1 : w.frozen? ⟨g, 1, none⟩ = false := Blk.frozen h 1
  have f2 : w.frozen? ⟨g, 2, none⟩ = false := Blk.frozen h 2
  have c2 : w.cell? ⟨g, 2, none⟩ = some (.bool true) := Blk.cell h 2
  have CU := Lib.hid (fun q => (cUint_yes (hr.keep ((Upd.refl NoF w).drewN q)) a 4 (by omega) (by omega) ha (by omega)))
  have HB := Lib.hid h
  clear h hr
  go_enter Try.func37, Try.ntmps37
  go_wp2
  go_quiet ((go_at_call 61; exact Calls.quiet_of_same ((CU.out _).mono fun _ _ ⟨h1, h2⟩ => ⟨h1, h2.symm⟩)))
  go_wp2
  go_ret
  exact ⟨rfl, (HB.out.drewN _).spoil, ((Upd.refl (fun k => k = g) w).drewN _).setCell (p := ⟨g, 2, none⟩) (.inl rfl) _⟩

def FixOk (w : World) (g : Nat) (v : Value) (a n : Nat) (r : List UInt8) (e : Ending) (w' : World) : Prop := ∃ A c, e = .returned (.slice A r.length c) ∧ Rd w' 1 (.slice A r.length c) r.length (r.map byteV) ∧ CurB w' g v (a + n) false ∧ Upd (fun k => k = g) w w'
def FixBad (w : World) (g : Nat) (v : Value) (a : Nat) (e : Ending) (w' : World) : Prop := e = .returned (.slice none 0 0) ∧ CurB w' g v a true ∧ Upd (fun k => k = g) w w'


def FxV (w : World) (bs : List UInt8) (a : Nat) (v : Value) (w' : World) : Prop := ∃ A c, v = .slice A 393 c ∧ Own w' 5 1 (.slice A 393 c) 393 (((bs.drop a).take 393).map byteV) ∧ ∀ k, OwnB (.slice A 393 c) k → w.heap.size ≤ k
theorem stb_fx (w : World) (bs : List UInt8) (a : Nat) : Stb (fun w1 w2 => Upd NoF w1 w2) (FxV w bs a) := fun _ _ _ ⟨A, c, e, h1, h2⟩ hu => ⟨A, c, e, h1.upd hu (fun _ _ f => f), h2⟩
set_option maxRecDepth 100000 in
set_option maxHeartbeats 4000000 in
theorem curFixed_ok {w : World} {g : Nat} {v : Value} {bs : List UInt8} {a : Nat} (h : CurB w g v a false) (hr : Rd w 1 v bs.length (bs.map byteV)) (hm : bs.length ≤ 1099511627776) (ha : a + 393 ≤ bs.length) : Calls Try.prog 40 #[ptrV g, .int .i64 393] w (FixOk w g v a 393 ((bs.drop a).take 393)) := by
  obtain ⟨A, c, rfl, hlc, hcm⟩ := hr.slice
  have c0 : w.cell? ⟨g, 0, none⟩ = some (.slice A bs.length c) := Blk.cell h 0
  have c1 : w.cell? ⟨g, 1, none⟩ = some (.int .i64 (a : Int)) := Blk.cell h 1
  have f1 : w.frozen? ⟨g, 1, none⟩ = false := Blk.frozen h 1
  have f2 : w.frozen? ⟨g, 2, none⟩ = false := Blk.frozen h 2
  have c2 : w.cell? ⟨g, 2, none⟩ = some (.bool false) := Blk.cell h 2
  obtain ⟨gb, ob, rfl, -⟩ := rd_cells hr (by omega)
  have RD := Lib.hid (show ∀ q, ∀ W', Upd NoF (w.drewN q).drew W' → Rd W' 1 (.slice (some ⟨gb, ob + a, none⟩) 393 (c - a)) 393 (((bs.drop a).take 393).map byteV) from fun q W' hu => by
    have := rd_part ((hr.keep (((Upd.refl NoF w).drewN q).drew)).keep hu) rfl (lo := a) (k := 393) (m := c - a) (by omega) (by omega) (by omega) (some ⟨gb, ob + a, none⟩) (fun _ => rfl)
    rw [show ((bs.drop a).take 393).length = 393 by simp; omega] at this
    exact this)
  have HL := Lib.hid (show ((bs.drop a).take 393).length = 393 by simp; omega)
  have t1 : decide ((bs.length : Int) - (a : Int) < 393) = false := by simp; omega
  have w1 : IntKind.i64.wrap ((bs.length : Int) - (a : Int)) = (bs.length : Int) - a := IntWalk.i64_in _ (by omega)
  have HB := Lib.hid h
  have hlt := h.lt
  clear h hr
  go_enter Try.func40, Try.ntmps40
  go_wp2
  go_quiet (fail)
  go_wp2
  have RD := Lib.hid (RD.out nq)
  have c0 : (w.drewN nq).drew.cell? ⟨g, 0, none⟩ = some (.slice (some ⟨gb, ob, none⟩) bs.length c) := c0
  have c1 : (w.drewN nq).drew.cell? ⟨g, 1, none⟩ = some (.int .i64 (a : Int)) := c1
  refine wp_region_rgw (rgR [isV (ptrV g), isV (ptrV g), isV (.pointer (some ⟨g, 0, none⟩)), isV (.slice (some ⟨gb, ob, none⟩) bs.length c), isV (ptrV g), isV (ptrV g), isV (.pointer (some ⟨g, 1, none⟩)), isV (.int .i64 (a : Int)), isV (ptrV g), isV (ptrV g), isV (.pointer (some ⟨g, 1, none⟩)), isV (.int .i64 (a : Int)), isV (.int .i64 393), isV (.int .i64 ((a : Int) + 393)), isV (.slice (some ⟨gb, ob + a, none⟩) 393 (c - a)), FxV w bs a, FxV w bs a]) (fun w w' => Upd NoF w w') (fun _ wq => Upd NoF (w.drewN nq).drew wq) (by kernel_rfl) (by kernel_rfl) (by kernel_rfl) (by rfl) (fun w => Upd.refl _ _) (rgR_keep (by
    intro p hp; simp only [List.mem_cons, List.not_mem_nil, or_false] at hp; rcases hp with rfl | rfl | rfl | rfl | rfl | rfl | rfl | rfl | rfl | rfl | rfl | rfl | rfl | rfl | rfl | rfl | rfl <;> first | exact stb_isV _ | exact stb_any | exact stb_fx _ _ _)) (Upd.refl _ _) ?_ ?_
  · refine ⟨?_, ?_, ?_, ?_, ?_, ?_, ?_, ?_, ?_, ?_, ?_, ?_, ?_, ?_, ?_, ?_, ?_, trivial⟩
    · refine fun ρ w' L hW hLi hcl hd hdep hext hc hg hf => ?_
      rw [if_pos (show wantedR _ _ _ = true from rfl)]
      have e0 : ρ (.tmp 0) = ptrV g := hext 0 (by kernel_rfl)
      clear hdep hext hcl
      have HW := Lib.hid hW
      clear hW
      unfold OpDone
      go_simp
      exact ⟨rfl, Upd.refl _ _, HW.out⟩
    · refine fun ρ w' L hW hLi hcl hd hdep hext hc hg hf => ?_
      rw [if_pos (show wantedR _ _ _ = true from rfl)]
      have e31 : ρ (.tmp 31) = ptrV g := hdep 0 _ rfl (by kernel_rfl)
      clear hdep hext hcl
      have HW := Lib.hid hW
      clear hW
      unfold OpDone
      go_simp
      exact ⟨rfl, Upd.refl _ _, HW.out⟩
    · refine fun ρ w' L hW hLi hcl hd hdep hext hc hg hf => ?_
      rw [if_pos (show wantedR _ _ _ = true from rfl)]
      have e32 : ρ (.tmp 32) = ptrV g := hdep 1 _ rfl (by kernel_rfl)
      clear hdep hext hcl
      have HW := Lib.hid hW
      clear hW
      unfold OpDone
      go_simp
      exact ⟨rfl, Upd.refl _ _, HW.out⟩
    · refine fun ρ w' L hW hLi hcl hd hdep hext hc hg hf => ?_
      rw [if_pos (show wantedR _ _ _ = true from rfl)]
      have e33 : ρ (.tmp 33) = .pointer (some ⟨g, 0, none⟩) := hdep 2 _ rfl (by kernel_rfl)
      have xx : w'.cell? ⟨g, 0, none⟩ = some (.slice (some ⟨gb, ob, none⟩) bs.length c) := hW.cell c0 (fun h => h)
      clear hdep hext hcl
      have HW := Lib.hid hW
      clear hW
      unfold OpDone
      go_simp
      exact ⟨rfl, Upd.refl _ _, HW.out⟩
    · refine fun ρ w' L hW hLi hcl hd hdep hext hc hg hf => ?_
      rw [if_pos (show wantedR _ _ _ = true from rfl)]
      have e0 : ρ (.tmp 0) = ptrV g := hext 0 (by kernel_rfl)
      clear hdep hext hcl
      have HW := Lib.hid hW
      clear hW
      unfold OpDone
      go_simp
      exact ⟨rfl, Upd.refl _ _, HW.out⟩
    · refine fun ρ w' L hW hLi hcl hd hdep hext hc hg hf => ?_
      rw [if_pos (show wantedR _ _ _ = true from rfl)]
      have e35 : ρ (.tmp 35) = ptrV g := hdep 4 _ rfl (by kernel_rfl)
      clear hdep hext hcl
      have HW := Lib.hid hW
      clear hW
      unfold OpDone
      go_simp
      exact ⟨rfl, Upd.refl _ _, HW.out⟩
    · refine fun ρ w' L hW hLi hcl hd hdep hext hc hg hf => ?_
      rw [if_pos (show wantedR _ _ _ = true from rfl)]
      have e36 : ρ (.tmp 36) = ptrV g := hdep 5 _ rfl (by kernel_rfl)
      clear hdep hext hcl
      have HW := Lib.hid hW
      clear hW
      unfold OpDone
      go_simp
      exact ⟨rfl, Upd.refl _ _, HW.out⟩
    · refine fun ρ w' L hW hLi hcl hd hdep hext hc hg hf => ?_
      rw [if_pos (show wantedR _ _ _ = true from rfl)]
      have e37 : ρ (.tmp 37) = .pointer (some ⟨g, 1, none⟩) := hdep 6 _ rfl (by kernel_rfl)
      have xx : w'.cell? ⟨g, 1, none⟩ = some (.int .i64 (a : Int)) := hW.cell c1 (fun h => h)
      clear hdep hext hcl
      have HW := Lib.hid hW
      clear hW
      unfold OpDone
      go_simp
      exact ⟨rfl, Upd.refl _ _, HW.out⟩
    · refine fun ρ w' L hW hLi hcl hd hdep hext hc hg hf => ?_
      rw [if_pos (show wantedR _ _ _ = true from rfl)]
      have e0 : ρ (.tmp 0) = ptrV g := hext 0 (by kernel_rfl)
      clear hdep hext hcl
      have HW := Lib.hid hW
      clear hW
      unfold OpDone
      go_simp
      exact ⟨rfl, Upd.refl _ _, HW.out⟩
    · refine fun ρ w' L hW hLi hcl hd hdep hext hc hg hf => ?_
      rw [if_pos (show wantedR _ _ _ = true from rfl)]
      have e39 : ρ (.tmp 39) = ptrV g := hdep 8 _ rfl (by kernel_rfl)
      clear hdep hext hcl
      have HW := Lib.hid hW
      clear hW
      unfold OpDone
      go_simp
      exact ⟨rfl, Upd.refl _ _, HW.out⟩
    · refine fun ρ w' L hW hLi hcl hd hdep hext hc hg hf => ?_
      rw [if_pos (show wantedR _ _ _ = true from rfl)]
      have e40 : ρ (.tmp 40) = ptrV g := hdep 9 _ rfl (by kernel_rfl)
      clear hdep hext hcl
      have HW := Lib.hid hW
      clear hW
      unfold OpDone
      go_simp
      exact ⟨rfl, Upd.refl _ _, HW.out⟩
    · refine fun ρ w' L hW hLi hcl hd hdep hext hc hg hf => ?_
      rw [if_pos (show wantedR _ _ _ = true from rfl)]
      have e41 : ρ (.tmp 41) = .pointer (some ⟨g, 1, none⟩) := hdep 10 _ rfl (by kernel_rfl)
      have xx : w'.cell? ⟨g, 1, none⟩ = some (.int .i64 (a : Int)) := hW.cell c1 (fun h => h)
      clear hdep hext hcl
      have HW := Lib.hid hW
      clear hW
      unfold OpDone
      go_simp
      exact ⟨rfl, Upd.refl _ _, HW.out⟩
    · refine fun ρ w' L hW hLi hcl hd hdep hext hc hg hf => ?_
      rw [if_pos (show wantedR _ _ _ = true from rfl)]
      have e1 : ρ (.tmp 1) = .int .i64 393 := hext 1 (by kernel_rfl)
      clear hdep hext hcl
      have HW := Lib.hid hW
      clear hW
      unfold OpDone
      go_simp
      exact ⟨rfl, Upd.refl _ _, HW.out⟩
    · refine fun ρ w' L hW hLi hcl hd hdep hext hc hg hf => ?_
      rw [if_pos (show wantedR _ _ _ = true from rfl)]
      have e42 : ρ (.tmp 42) = .int .i64 (a : Int) := hdep 11 _ rfl (by kernel_rfl)
      have e43 : ρ (.tmp 43) = .int .i64 393 := hdep 12 _ rfl (by kernel_rfl)
      have ww : IntKind.i64.wrap ((a : Int) + 393) = a + 393 := IntWalk.i64_in _ (by omega)
      clear hdep hext hcl
      have HW := Lib.hid hW
      clear hW
      unfold OpDone
      go_simp
      exact ⟨rfl, Upd.refl _ _, HW.out⟩
    · refine fun ρ w' L hW hLi hcl hd hdep hext hc hg hf => ?_
      rw [if_pos (show wantedR _ _ _ = true from rfl)]
      have e34 : ρ (.tmp 34) = .slice (some ⟨gb, ob, none⟩) bs.length c := hdep 3 _ rfl (by kernel_rfl)
      have e38 : ρ (.tmp 38) = .int .i64 (a : Int) := hdep 7 _ rfl (by kernel_rfl)
      have e44 : ρ (.tmp 44) = .int .i64 ((a : Int) + 393) := hdep 13 _ rfl (by kernel_rfl)
      have q0 : (0 : Int) ≤ (a : Int) := by omega
      have q1 : (a : Int) ≤ (a : Int) + 393 := by omega
      have q2 : (a : Int) + 393 ≤ (c : Int) := by omega
      have q3 : ((a : Int) + 393).toNat = a + 393 := by omega
      have q4 : ¬ c = a := by omega
      have q5 : a + 393 - a = 393 := by omega
      clear hdep hext hcl
      have HW := Lib.hid hW
      clear hW
      unfold OpDone
      go_simp
      exact ⟨rfl, Upd.refl _ _, HW.out⟩
    · refine fun ρ w' L hW hLi hcl hd hdep hext hc hg hf => ?_
      rw [if_pos (show wantedR _ _ _ = true from rfl)]
      have e45 : ρ (.tmp 45) = .slice (some ⟨gb, ob + a, none⟩) 393 (c - a) := hdep 14 _ rfl (by kernel_rfl)
      clear hdep hext
      obtain ⟨i1, hi1, hy0, hy1, hy2⟩ := info_parts byte_info
      have hrs := RD.out w' hW
      refine od_append (.const (.slice none 0 0)) (.tmp 45) 36 rfl 5 i1 _ 1 1 Try.underlying36 hi1 hy0 hy1 hy2 rfl (.slice none 0 0) 0 [] (hc _) (Own.nil _ _ _) _ 393 (((bs.drop a).take 393).map byteV) e45 hrs (bytes_oneCell _) (by unfold maxLen; omega) (by omega) ?_
      intro A5 c5 w5 ho5 hu5 hn5
      rw [Nat.zero_add, List.nil_append] at ho5
      rw [Nat.zero_add] at hn5 ⊢
      have hno : ∀ k, OwnB (.slice none 0 0) k → False := fun k hk => by simp [OwnB, Value.ownBlock] at hk
      have hu6 : Upd NoF w' w5 := hu5.mono (fun k _ f => (hno k f).elim)
      exact ⟨⟨A5, c5, rfl, ho5, fun k hk => by rcases hn5 k hk with h | h; exact (hno k h).elim; exact Nat.le_trans hW.size h⟩, hu6, hW.trans hu6 (fun _ _ f => f)⟩
    · refine fun ρ w' L hW hLi hcl hd hdep hext hc hg hf => ?_
      rw [if_pos (show wantedR _ _ _ = true from rfl)]
      have e46 : (FxV w bs a) (ρ (.tmp 46)) w' := hdep 15 _ rfl (by kernel_rfl)
      clear hdep hext
      obtain ⟨A5, c5, e5, ho5⟩ := e46
      have HO := Lib.hid ho5
      have HW := Lib.hid hW
      clear ho5 hW
      unfold OpDone
      go_simp
      exact ⟨⟨A5, c5, rfl, HO.out⟩, Upd.refl _ _, HW.out⟩
  intro vs W8 L8 hL8 hW8 hR
  have hv0 : vs 0 = ptrV g := hR 0 _ rfl
  have hv1 : vs 1 = ptrV g := hR 1 _ rfl
  have hv2 : vs 2 = .pointer (some ⟨g, 0, none⟩) := hR 2 _ rfl
  have hv3 : vs 3 = .slice (some ⟨gb, ob, none⟩) bs.length c := hR 3 _ rfl
  have hv4 : vs 4 = ptrV g := hR 4 _ rfl
  have hv5 : vs 5 = ptrV g := hR 5 _ rfl
  have hv6 : vs 6 = .pointer (some ⟨g, 1, none⟩) := hR 6 _ rfl
  have hv7 : vs 7 = .int .i64 (a : Int) := hR 7 _ rfl
  have hv8 : vs 8 = ptrV g := hR 8 _ rfl
  have hv9 : vs 9 = ptrV g := hR 9 _ rfl
  have hv10 : vs 10 = .pointer (some ⟨g, 1, none⟩) := hR 10 _ rfl
  have hv11 : vs 11 = .int .i64 (a : Int) := hR 11 _ rfl
  have hv12 : vs 12 = .int .i64 393 := hR 12 _ rfl
  have hv13 : vs 13 = .int .i64 ((a : Int) + 393) := hR 13 _ rfl
  have hv14 : vs 14 = .slice (some ⟨gb, ob + a, none⟩) 393 (c - a) := hR 14 _ rfl
  have hr15 : (FxV w bs a) (vs 15) W8 := hR 15 _ rfl
  obtain ⟨A5, c5, hv15, ho5⟩ := hr15
  have hr16 : (FxV w bs a) (vs 16) W8 := hR 16 _ rfl
  obtain ⟨A6, c6, hv16, ho6⟩ := hr16
  simp only [putAll, Act.put, List.setIfInBounds_toArray, List.set_cons_zero, List.set_cons_succ, hv0, hv1, hv2, hv3, hv4, hv5, hv6, hv7, hv8, hv9, hv10, hv11, hv12, hv13, hv14, hv15, hv16]
  clear hR hv0 hv1 hv2 hv3 hv4 hv5 hv6 hv7 hv8 hv9 hv10 hv11 hv12 hv13 hv14 hv15 hv16
  have hB8 := hW8.blk ((Blk.drewN HB.out nq).drew) (fun h => h)
  have d1 : W8.cell? ⟨g, 1, none⟩ = some (.int .i64 (a : Int)) := hB8.cell 1
  have d1f : W8.frozen? ⟨g, 1, none⟩ = false := hB8.frozen 1
  have B8 := Lib.hid hB8
  have U8 := Lib.hid (show Upd NoF w W8 from (((Upd.refl NoF w).drewN nq).drew).trans hW8 (fun _ _ f => f))
  have O6 := Lib.hid ho6
  clear hW8 hL8 hB8 ho5 ho6 c0 c1 c2 f1 f2
  go_wp2
  go_ret
  refine ⟨A6, c6, by rw [HL.out]; rfl, ?_, CurB.move B8.out (by omega), ?_⟩
  · rw [HL.out]
    have hu : Upd (fun k => k = g) W8 (W8.setCell ⟨g, 1, none⟩ (.int .i64 ((a : Int) + 393))) := (Upd.refl (fun k => k = g) W8).setCell (p := ⟨g, 1, none⟩) (.inl rfl) _
    exact (O6.out.1.upd hu (fun k hk e => by have := O6.out.2 k hk; have e : k = g := e; omega)).rd
  · exact (U8.out.mono (G := fun k => k = g) (fun _ _ f => f.elim)).setCell (p := ⟨g, 1, none⟩) (.inl rfl) _

set_option maxRecDepth 100000 in
set_option maxHeartbeats 4000000 in
theorem curFixed_short {w : World} {g : Nat} {v : Value} {bs : List UInt8} {a : Nat} (h : CurB w g v a false) (hr : Rd w 1 v bs.length (bs.map byteV)) (_hm : bs.length ≤ 1099511627776) (ha : bs.length < a + 393) (ha2 : a ≤ bs.length) : Calls Try.prog 40 #[ptrV g, .int .i64 393] w (FixBad w g v a) := by
  obtain ⟨A, c, rfl, hlc, hcm⟩ := hr.slice
  have c0 : w.cell? ⟨g, 0, none⟩ = some (.slice A bs.length c) := Blk.cell h 0
  have c1 : w.cell? ⟨g, 1, none⟩ = some (.int .i64 (a : Int)) := Blk.cell h 1
  have f1 : w.frozen? ⟨g, 1, none⟩ = false := Blk.frozen h 1
  have f2 : w.frozen? ⟨g, 2, none⟩ = false := Blk.frozen h 2
  have c2 : w.cell? ⟨g, 2, none⟩ = some (.bool false) := Blk.cell h 2
  have t1 : decide ((bs.length : Int) - (a : Int) < 393) = true := by simp; omega
  have w1 : IntKind.i64.wrap ((bs.length : Int) - (a : Int)) = (bs.length : Int) - a := IntWalk.i64_in _ (by omega)
  have HB := Lib.hid h
  clear h hr
  go_enter Try.func40, Try.ntmps40
  go_wp2
  go_quiet (fail)
  go_wp2
  go_ret
  exact ⟨rfl, (HB.out.drewN _).spoil, ((Upd.refl (fun k => k = g) w).drewN _).setCell (p := ⟨g, 2, none⟩) (.inl rfl) _⟩


def BytOk (w : World) (g : Nat) (v : Value) (a : Nat) (r : List UInt8) (e : Ending) (w' : World) : Prop := ∃ A c, e = .returned (.slice A r.length c) ∧ RdF (fun k => k < w.heap.size) w' 1 (.slice A r.length c) r.length (r.map byteV) ∧ CurB w' g v a false ∧ Upd (fun k => k = g) w w'
set_option maxRecDepth 100000 in
set_option maxHeartbeats 4000000 in
theorem curBytes_ok {w : World} {g : Nat} {v : Value} {bs : List UInt8} {a : Nat} (h : CurB w g v a false) (hr : Rd w 1 v bs.length (bs.map byteV)) (hm : bs.length ≤ 1099511627776) (n : Nat) (ha : a + 2 ≤ bs.length) (hn : be ((bs.drop a).take 2) = n) (h3 : a + 2 + n ≤ bs.length) : Calls Try.prog 41 #[ptrV g] w (BytOk w g v (a + 2 + n) ((bs.drop (a + 2)).take n)) := by
  obtain ⟨A, c, rfl, hlc, hcm⟩ := hr.slice
  have c0 : w.cell? ⟨g, 0, none⟩ = some (.slice A bs.length c) := Blk.cell h 0
  have c1 : w.cell? ⟨g, 1, none⟩ = some (.int .i64 (a : Int)) := Blk.cell h 1
  have f1 : w.frozen? ⟨g, 1, none⟩ = false := Blk.frozen h 1
  have f2 : w.frozen? ⟨g, 2, none⟩ = false := Blk.frozen h 2
  have c2 : w.cell? ⟨g, 2, none⟩ = some (.bool false) := Blk.cell h 2
  have CB := Lib.hid (cBytes_yes (hr.keep ((Upd.refl NoF w).drew)) hm a ha n hn h3)
  generalize (bs.drop (a + 2)).take n = r at CB ⊢
  have KB := Lib.hid (show ∀ w1, Upd NoF w.drew w1 → Blk w1 g 96 #[.slice A bs.length c, .int .i64 (a : Int), .bool false] from fun w1 hu => hu.blk (Blk.drew h) (fun f => f))
  have hlt := h.lt
  clear h hr hn
  go_enter Try.func41, Try.ntmps41
  go_wp2
  go_region_held3 (fun w' => w'.cell? ⟨g, 0, none⟩ = some (.slice A bs.length c) ∧ w'.cell? ⟨g, 1, none⟩ = some (.int .i64 (a : Int)))
    (first | exact ⟨c0, c1⟩ | exact ⟨y0, y1⟩)
    ((go_at_call 63; refine CB.out.mono ?_; rintro e w1 ⟨A1, k1, rfl, hn1⟩; have y0 : w1.cell? ⟨g, 0, none⟩ = some (.slice A bs.length c) := (KB.out w1 hn1.2.2).cell 0; have y1 : w1.cell? ⟨g, 1, none⟩ = some (.int .i64 (a : Int)) := (KB.out w1 hn1.2.2).cell 1; have N1 := Lib.hid hn1; clear hn1))
  have y2 : w1.cell? ⟨g, 2, none⟩ = some (.bool false) := (KB.out w1 N1.out.2.2).cell 2
  have y1f : w1.frozen? ⟨g, 1, none⟩ = false := (KB.out w1 N1.out.2.2).frozen 1
  clear c0 c1 c2 f1 f2
  go_wp2
  go_ret
  refine ⟨A1, k1, rfl, ?_, CurB.move (KB.out w1 N1.out.2.2) (by omega), ?_⟩
  · have hu : Upd (fun k => k = g) w1 (w1.setCell ⟨g, 1, none⟩ (.int .i64 ((a : Int) + 2 + (n : Int)))) := (Upd.refl (fun k => k = g) w1).setCell (p := ⟨g, 1, none⟩) (.inl rfl) _
    exact (N1.out.1.upd hu (fun k hk e => by have := N1.out.2.1 k hk; have e : k = g := e; simp at this; omega)).rdF (fun k hk e => by have := N1.out.2.1 k hk; have e : k < w.heap.size := e; simp at this; omega)
  · exact ((((Upd.refl NoF w).drew).trans N1.out.2.2 (fun _ _ f => f)).mono (G := fun k => k = g) (fun _ _ f => f.elim)).setCell (p := ⟨g, 1, none⟩) (.inl rfl) _

set_option maxRecDepth 100000 in
set_option maxHeartbeats 4000000 in
theorem curBytes_bad {w : World} {g : Nat} {v : Value} {bs : List UInt8} {a : Nat} (h : CurB w g v a false) (hr : Rd w 1 v bs.length (bs.map byteV)) (hm : bs.length ≤ 1099511627776) (ha2 : a ≤ bs.length) (hb : bs.length < a + 2 ∨ a + 2 ≤ bs.length ∧ bs.length < a + 2 + be ((bs.drop a).take 2)) : Calls Try.prog 41 #[ptrV g] w (FixBad w g v a) := by
  obtain ⟨A, c, rfl, hlc, hcm⟩ := hr.slice
  have c0 : w.cell? ⟨g, 0, none⟩ = some (.slice A bs.length c) := Blk.cell h 0
  have c1 : w.cell? ⟨g, 1, none⟩ = some (.int .i64 (a : Int)) := Blk.cell h 1
  have f1 : w.frozen? ⟨g, 1, none⟩ = false := Blk.frozen h 1
  have f2 : w.frozen? ⟨g, 2, none⟩ = false := Blk.frozen h 2
  have c2 : w.cell? ⟨g, 2, none⟩ = some (.bool false) := Blk.cell h 2
  have CB := Lib.hid (show ∀ q, Calls Try.prog 63 #[.slice A bs.length c, .int .i64 (a : Int)] (w.drewN q) (NoBytes (w.drewN q)) from fun q => by
    rcases hb with hb | ⟨hb, hb2⟩
    · exact cBytes_short (hr.keep ((Upd.refl NoF w).drewN q)) a (by omega) hb
    · exact cBytes_long (hr.keep ((Upd.refl NoF w).drewN q)) hm a hb _ rfl hb2)
  have HB := Lib.hid h
  clear h hr hb
  go_enter Try.func41, Try.ntmps41
  go_wp2
  go_quiet ((go_at_call 63; exact Calls.quiet_of_same ((CB.out _).mono fun _ _ ⟨h1, h2⟩ => ⟨h1, h2.symm⟩)))
  go_wp2
  go_ret
  exact ⟨rfl, (HB.out.drewN _).spoil, ((Upd.refl (fun k => k = g) w).drewN _).setCell (p := ⟨g, 2, none⟩) (.inl rfl) _⟩
end
end Go.Proofs.Ytbgificdilpdcaa
