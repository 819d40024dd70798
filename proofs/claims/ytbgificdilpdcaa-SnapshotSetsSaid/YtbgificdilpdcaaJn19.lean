/- slices.EqualFunc of signed votes. Conditions: sizes. Equal of package snapshot. Conditions: sizes. The sanity check of the statements on snapshots returns true. No condition. heavy of law 32. Conditions: sizes. The symmetric merge of the stable sort, on plain arrays. No condition. Signed votes in memory while they are being sorted, and their comparison. No condition. -/
import Derived.Test.YtbgificdilpdcaaJn16
import Derived.Test.YtbgificdilpdcaaJn18
import Derived.Test.YtbgificdilpdcaaJn12
import Derived.Sort.LotA
import Derived.Test.YtbgificdilpdcaaJn15
import Derived.Test.YtbgificdilpdcaaJn6
import Derived.Shelf.SlSortCmp.KitK
namespace Go.Proofs.Ytbgificdilpdcaa
section
open Go.RowKit

set_option maxRecDepth 100000 in
set_option maxHeartbeats 16000000 in
theorem EqualFuncS_any {w : World} {a b : Value} {l m : List SignedS} (ha : SgR w a l) (hb : SgR w b m) (_hs1 : l.length ≤ 1099511627776) (_hs2 : m.length ≤ 1099511627776) : Calls Try.prog 30 #[a, b, fnV 23] w fun e w' => e = .returned (.bool (decide (l = m))) ∧ Upd NoF w w' := by
  obtain ⟨A, ca, rfl, hlc, hcm⟩ := ha.form
  obtain ⟨B, cb, rfl, hld, hdm⟩ := hb.form
  have HA := Lib.hid ha
  have HB := Lib.hid hb
  obtain ⟨n, hn⟩ : ∃ n, l.length = n := ⟨_, rfl⟩
  have HN := Lib.hid hn
  by_cases hlen : l.length = m.length
  rotate_left
  · have t0 : decide ((l.length : Int) = (m.length : Int)) = false := by simp; omega
    have HZ := Lib.hid (show decide (l = m) = false from by rw [decide_eq_false_iff_not]; intro e; exact hlen (by rw [e]))
    have t0' : decide (l.length = m.length) = false := by simp; omega
    generalize decide (l = m) = Z at HZ ⊢
    clear ha hb HA HB hn HN
    go_enter Try.func30, Try.ntmps30
    go_wp2
    go_ret
    exact ⟨retb HZ.out.symm, Upd.refl _ _⟩
  have HL := Lib.hid hlen
  rw [← hlen] at _hs2 hld HB ⊢
  rw [hn] at hlc _hs2 hld HA HB ⊢
  clear ha hb hlen hn
  generalize hZ : decide (l = m) = Z at ⊢
  have HZ := Lib.hid hZ
  clear hZ
  unfold fnV
  go_enter Try.func30, Try.ntmps30
  go_wp2
  go_loopw [17] (fun i wr => SameRel l m w i wr) (fun i _ => n - (intOf i).toNat)
  case atStart => exact ⟨0, rfl, by omega, fun j h => absurd h (by omega), Upd.refl _ _⟩
  case round =>
    obtain ⟨k, rfl, hk, hch, hu⟩ := hrel
    have hnn := HN.out
    have hll := HL.out
    have HU := Lib.hid hu
    by_cases hlt : k < n
    · obtain ⟨s, hx⟩ : ∃ x, l[k]? = some x := ⟨_, List.getElem?_eq_getElem (by omega)⟩
      obtain ⟨t, hy⟩ : ∃ x, m[k]? = some x := ⟨_, List.getElem?_eq_getElem (by omega)⟩
      have t1 : decide ((k : Int) < (n : Int)) = true := by simp; omega
      have q0 : (0 : Int) ≤ (k : Int) := by omega
      have q1 : (k : Int) < (n : Int) := by omega
      obtain ⟨g, o, Au, cu, rfl, r1, r2, -⟩ := (HA.out.keep hu).at_ hx
      obtain ⟨g2, o2, Av, cv, rfl, r3, r4, -⟩ := (HB.out.keep hu).at_ hy
      have FS := Lib.hid (HA.out.fit hx)
      have FT := Lib.hid (HB.out.fit hy)
      have R1 := Lib.hid r1
      have R3 := Lib.hid (show ∀ W, Upd NoF wr W → W.rangeAt g2 (o2 + k * 23) (rowS t (.slice Av t.sig.length cv)) from fun W hq j x hj => hq.cell (r3 j x hj) (fun h => h))
      obtain ⟨ra, hra⟩ : ∃ z, (rowS s (.slice Au s.sig.length cu)).toArray = z := ⟨_, rfl⟩
      obtain ⟨rb, hrb⟩ : ∃ z, (rowS t (.slice Av t.sig.length cv)).toArray = z := ⟨_, rfl⟩
      have HRA := Lib.hid hra
      have HRB := Lib.hid hrb
      have RSA := Lib.hid (show zeroRow.size = ra.size ∧ (Try.prog.info? 38).map (·.size) = some ra.size ∧ ra.all (·.oneCell') = true from by
        rw [← hra]
        exact ⟨by rw [zeroRow_size]; simp [rowS_len FS.out], row_info FS.out _, row_one _ rfl⟩)
      have RSB := Lib.hid (show zeroRow.size = rb.size ∧ (Try.prog.info? 38).map (·.size) = some rb.size ∧ rb.all (·.oneCell') = true from by
        rw [← hrb]
        exact ⟨by rw [zeroRow_size]; simp [rowS_len FT.out], row_info FT.out _, row_one _ rfl⟩)
      have RBA := Lib.hid (show ∀ W q, Blk W q 38 ra → W.rangeAt q 0 (rowS s (.slice Au s.sig.length cu)) from fun W q h => by rw [← HRA.out] at h; exact range_blk h)
      have RBB := Lib.hid (show ∀ W q, Blk W q 38 rb → W.rangeAt q 0 (rowS t (.slice Av t.sig.length cv)) from fun W q h => by rw [← HRB.out] at h; exact range_blk h)
      have CE := Lib.hid (show ∀ W, Upd NoF wr W → Calls Try.prog 23 #[.agg ra, .agg rb] W (fun e w' => e = .returned (.bool (decide (s = t))) ∧ Upd NoF W w') from fun W hu => by
        rw [← HRA.out, ← HRB.out]
        exact equalVotes_any FS.out FT.out W (Rd.keep r2 hu) (Rd.keep r4 hu))
      clear r1 r3 hra hrb
      by_cases he : s = t
      · have HCH := Lib.hid (hch.next hx hy he)
        rw [decide_eq_true he] at CE
        clear hx hy hch hu hnn hll he
        clear r2 r4
        go_wp2_with (first
          | ((fail_if_success (have := B3)); refine wpList_alloc_row rfl 38 rfl zeroRow alloc_signed ?_; intro w3 hb3 hu3 hs3; have B3 := Lib.hid hb3; have U3 := Lib.hid hu3; clear hb3 hu3 hs3)
          | ((fail_if_success (have := B5)); refine wpList_alloc_row rfl 38 rfl zeroRow alloc_signed ?_; intro w5 hb5 hu5 hs5; have B5 := Lib.hid hb5; have U5 := Lib.hid (U4.out.trans hu5 (fun _ _ f => f)); have B45 := Lib.hid (hu5.blk B4.out (fun f => f)); clear hb5 hu5 hs5)
          | (refine wpList_load_signed rfl (.tmp 20) rfl g (o + k * 23) rfl s (.slice Au s.sig.length cu) FS.out R1.out (.agg ra) (congrArg Value.agg HRA.out) ?_)
          | (refine wpList_store_row rfl 38 (.tmp 8) (.tmp 21) rfl wr.heap.size rfl ra rfl 38 _ B3.out RSA.out.1 RSA.out.2.1 RSA.out.2.2 ?_; intro w4 hb4 hu4 hs4; have B4 := Lib.hid hb4; have U4 := Lib.hid (U3.out.trans hu4 (fun k hk e => by have e : k = wr.heap.size := e; omega)); clear hb4 hu4 hs4)
          | (refine wpList_load_signed rfl (.tmp 24) rfl g2 (o2 + k * 23) rfl t (.slice Av t.sig.length cv) FT.out (R3.out _ U4.out) (.agg rb) (congrArg Value.agg HRB.out) ?_)
          | (refine wpList_store_row rfl 38 (.tmp 9) (.tmp 25) rfl w4.heap.size rfl rb rfl 38 _ B5.out RSB.out.1 RSB.out.2.1 RSB.out.2.2 ?_; intro w6 hb6 hu6 hs6; have B6 := Lib.hid hb6; have B46 := Lib.hid (hu6.blk B45.out (fun e => by have e : wr.heap.size = w4.heap.size := e; have := B4.out.lt; omega)); have U6 := Lib.hid (U5.out.trans hu6 (fun k hk e => by have e : k = w4.heap.size := e; have := U4.out.size; omega)); clear hb6 hu6 hs6)
          | (refine wpList_load_signed rfl (.tmp 8) rfl wr.heap.size 0 rfl s (.slice Au s.sig.length cu) FS.out (RBA.out _ _ B46.out) (.agg ra) (congrArg Value.agg HRA.out) ?_)
          | (refine wpList_load_signed rfl (.tmp 9) rfl w4.heap.size 0 rfl t (.slice Av t.sig.length cv) FT.out (RBB.out _ _ B6.out) (.agg rb) (congrArg Value.agg HRB.out) ?_))
        refine (CE.out _ U6.out).mono ?_
        rintro e w7 ⟨rfl, hu7⟩
        have U7 := Lib.hid (HU.out.trans (U6.out.trans hu7 (fun _ _ f => f)) (fun _ _ f => f))
        clear hu7
        go_wp2
        go_roundw
        case rel => exact ⟨k + 1, by go_num, by have := HN.out; omega, HCH.out, U7.out⟩
        case measure => simp [intOf]; omega
      · have HCH := Lib.hid (same_no hx hy he)
        rw [decide_eq_false he] at CE
        clear hx hy hch hu hnn hll he
        clear r2 r4
        go_wp2_with (first
          | ((fail_if_success (have := B3)); refine wpList_alloc_row rfl 38 rfl zeroRow alloc_signed ?_; intro w3 hb3 hu3 hs3; have B3 := Lib.hid hb3; have U3 := Lib.hid hu3; clear hb3 hu3 hs3)
          | ((fail_if_success (have := B5)); refine wpList_alloc_row rfl 38 rfl zeroRow alloc_signed ?_; intro w5 hb5 hu5 hs5; have B5 := Lib.hid hb5; have U5 := Lib.hid (U4.out.trans hu5 (fun _ _ f => f)); have B45 := Lib.hid (hu5.blk B4.out (fun f => f)); clear hb5 hu5 hs5)
          | (refine wpList_load_signed rfl (.tmp 20) rfl g (o + k * 23) rfl s (.slice Au s.sig.length cu) FS.out R1.out (.agg ra) (congrArg Value.agg HRA.out) ?_)
          | (refine wpList_store_row rfl 38 (.tmp 8) (.tmp 21) rfl wr.heap.size rfl ra rfl 38 _ B3.out RSA.out.1 RSA.out.2.1 RSA.out.2.2 ?_; intro w4 hb4 hu4 hs4; have B4 := Lib.hid hb4; have U4 := Lib.hid (U3.out.trans hu4 (fun k hk e => by have e : k = wr.heap.size := e; omega)); clear hb4 hu4 hs4)
          | (refine wpList_load_signed rfl (.tmp 24) rfl g2 (o2 + k * 23) rfl t (.slice Av t.sig.length cv) FT.out (R3.out _ U4.out) (.agg rb) (congrArg Value.agg HRB.out) ?_)
          | (refine wpList_store_row rfl 38 (.tmp 9) (.tmp 25) rfl w4.heap.size rfl rb rfl 38 _ B5.out RSB.out.1 RSB.out.2.1 RSB.out.2.2 ?_; intro w6 hb6 hu6 hs6; have B6 := Lib.hid hb6; have B46 := Lib.hid (hu6.blk B45.out (fun e => by have e : wr.heap.size = w4.heap.size := e; have := B4.out.lt; omega)); have U6 := Lib.hid (U5.out.trans hu6 (fun k hk e => by have e : k = w4.heap.size := e; have := U4.out.size; omega)); clear hb6 hu6 hs6)
          | (refine wpList_load_signed rfl (.tmp 8) rfl wr.heap.size 0 rfl s (.slice Au s.sig.length cu) FS.out (RBA.out _ _ B46.out) (.agg ra) (congrArg Value.agg HRA.out) ?_)
          | (refine wpList_load_signed rfl (.tmp 9) rfl w4.heap.size 0 rfl t (.slice Av t.sig.length cv) FT.out (RBB.out _ _ B6.out) (.agg rb) (congrArg Value.agg HRB.out) ?_))
        refine (CE.out _ U6.out).mono ?_
        rintro e w7 ⟨rfl, hu7⟩
        have U7 := Lib.hid (HU.out.trans (U6.out.trans hu7 (fun _ _ f => f)) (fun _ _ f => f))
        clear hu7
        go_wp2
        go_ret
        exact ⟨retb (by rw [← HZ.out, decide_eq_false HCH.out]), U7.out⟩
    · have t1 : decide ((k : Int) < (n : Int)) = false := by simp; omega
      have HCV := Lib.hid (hch.end_ hll (by omega))
      clear hnn hch hu hll
      go_wp2
      go_ret
      exact ⟨retb (by rw [← HZ.out, decide_eq_true HCV.out]), HU.out⟩
end

section
open Go.RowKit

set_option maxRecDepth 100000 in
set_option maxHeartbeats 8000000 in
theorem Equal_any {w : World} {a b a' b' : Value} {V V' : ViewS} (h : VwR w a b V) (h' : VwR w a' b' V') (hs1 : V.votes.length ≤ 1099511627776) (hs2 : V.texts.length ≤ 1099511627776) (hs1' : V'.votes.length ≤ 1099511627776) (hs2' : V'.texts.length ≤ 1099511627776) : Calls Try.prog 9 #[.agg #[a, b], .agg #[a', b']] w fun e w' => e = .returned (.bool (decide (V = V'))) ∧ Upd NoF w w' := by
  obtain ⟨A, ca, hea, -, -⟩ := h.1.form
  obtain ⟨A', cb, hea', -, -⟩ := h'.1.form
  obtain ⟨Tx, ta, htA, -, -⟩ := h.2.form
  obtain ⟨Tx', tb, htB, -, -⟩ := h'.2.form
  have B1 := Lib.hid ((Blk.new w 25 #[a, b]).alloc (.cells #[a', b'] 25))
  have B2 := Lib.hid (show Blk ((w.alloc (.cells #[a, b] 25)).alloc (.cells #[a', b'] 25)) (w.heap.size + 1) 25 #[a', b'] from by have := Blk.new (w.alloc (.cells #[a, b] 25)) 25 #[a', b']; simpa using this)
  have UW := Lib.hid (((Upd.refl NoF w).alloc (.cells #[a, b] 25)).alloc (.cells #[a', b'] 25))
  have HZ := Lib.hid (view_eq (V := V) (V' := V'))
  generalize decide (V = V') = Z at HZ ⊢
  have HV := Lib.hid h
  have HV' := Lib.hid h'
  subst hea hea' htA htB
  obtain ⟨W1, hW1⟩ : ∃ x, x = (w.alloc (.cells #[.slice A V.votes.length ca, .slice Tx V.texts.length ta] 25)).alloc (.cells #[.slice A' V'.votes.length cb, .slice Tx' V'.texts.length tb] 25) := ⟨_, rfl⟩
  rw [← hW1] at B1 B2 UW
  have CS := Lib.hid (EqualFuncS_any (HV.out.keep UW.out).1 (HV'.out.keep UW.out).1 hs1 hs1')
  have c10 : W1.cell? ⟨w.heap.size, 0, none⟩ = some (.slice A V.votes.length ca) := B1.out.cell 0
  have c20 : W1.cell? ⟨(w.heap.size + 1), 0, none⟩ = some (.slice A' V'.votes.length cb) := B2.out.cell 0
  rw [hW1] at c10 c20
  clear h h'
  go_enter Try.func9, Try.ntmps9
  go_wp2_with fail
  rw [← hW1]
  refine CS.out.mono ?_
  rintro e w3 ⟨rfl, hu3⟩
  have d1 : w3.cell? ⟨w.heap.size, 1, none⟩ = some (.slice Tx V.texts.length ta) := (hu3.blk B1.out (fun h => h)).cell 1
  have d2 : w3.cell? ⟨(w.heap.size + 1), 1, none⟩ = some (.slice Tx' V'.texts.length tb) := (hu3.blk B2.out (fun h => h)).cell 1
  have U3 := Lib.hid (UW.out.trans hu3 (fun _ _ h => h))
  have CT := Lib.hid (EqualFuncT_any (HV.out.keep U3.out).2 (HV'.out.keep U3.out).2 hs2 hs2')
  clear hu3 c10 c20 hW1
  cases he : decide (V.votes = V'.votes) with
  | true =>
    rw [he] at HZ
    clear he
    go_wp2_with fail
    refine CT.out.mono ?_
    rintro e w4 ⟨rfl, hu4⟩
    have U4 := Lib.hid (U3.out.trans hu4 (fun _ _ h => h))
    clear hu4
    go_wp2
    go_ret
    exact ⟨retb (by rw [HZ.out, Bool.true_and]), U4.out⟩
  | false =>
    rw [he] at HZ
    clear he
    go_wp2
    go_ret
    exact ⟨retb (by rw [HZ.out, Bool.false_and]), U3.out⟩
end

section
open Go.RowKit

abbrev V0 : ViewS := ⟨[], []⟩
abbrev V2 : ViewS := ⟨[], [[1], [2]]⟩
abbrev aw8 : List UInt8 := [0, 0, 0, 0, 0, 0, 0, 0]
abbrev aw14 : List UInt8 := [0, 0, 0, 0, 0, 0, 0, 2, 0, 1, 1, 0, 1, 2]
theorem aw_enc0 : encodeS V0 = (aw8, 0) := by kernel_rfl
theorem aw_enc2 : encodeS V2 = (aw14, 0) := by kernel_rfl
theorem aw_dec0 : decodeS aw8 = some V0 := by kernel_rfl
theorem aw_decn : decodeS [] = none := by kernel_rfl
abbrev awS : DSt := ⟨[([115], ⟨aw14, 14⟩)], false, false, 0⟩
theorem aw_write : sWrite sNew [115] V2 = (0, awS) := by kernel_rfl
theorem aw_read32 : sReadV awS [115] = (some V2, 0) := by kernel_rfl
theorem aw_uni : uniT [[1], [2]] [[1], [2]] = [[1], [2]] := by kernel_rfl
theorem lit_texts {w : World} {g1 g2 g3 : Nat} (h1 : Blk w g1 5 #[byteV 1]) (h2 : Blk w g2 5 #[byteV 2]) (h3 : Blk w g3 36 #[.slice (some ⟨g1, 0, none⟩) 1 1, .slice (some ⟨g2, 0, none⟩) 1 1]) : TxR w (.slice (some ⟨g3, 0, none⟩) 2 2) [[1], [2]] := by
  refine ⟨[.slice (some ⟨g1, 0, none⟩) 1 1, .slice (some ⟨g2, 0, none⟩) 1 1], rfl, Rd.of_blk h3 (by decide) (by decide) rfl (fun j u hu => by rw [Nat.zero_add]; simpa using hu), fun i b hb => ?_⟩
  match i, hb with
  | 0, hb =>
    simp at hb
    subst hb
    exact ⟨_, rfl, Rd.of_blk h1 (by decide) (by decide) rfl (fun j u hu => by rw [Nat.zero_add]; simpa using hu)⟩
  | 1, hb =>
    simp at hb
    subst hb
    exact ⟨_, rfl, Rd.of_blk h2 (by decide) (by decide) rfl (fun j u hu => by rw [Nat.zero_add]; simpa using hu)⟩
  | n + 2, hb => simp at hb

theorem field_view1 (A B : Option Addr) (n m c d : Nat) (w : World) : (Instr.field 25 (.agg #[.slice A n c, .slice B m d]) 1).run Try.prog w = .ok (.slice B m d) w := by kernel_rfl
set_option maxRecDepth 100000 in
set_option maxHeartbeats 8000000 in
theorem awake32 (w : World) : Calls Try.prog 5 #[] w fun e w' => e = .returned (.bool true) ∧ Upd NoF w w' := by
  have CE := Lib.hid (Encode_any (w := w) (V := V0) ⟨SgR.nil w, TxR.nil w⟩ (by decide) (by decide))
  rw [aw_enc0] at CE
  go_enter Try.func5, Try.ntmps5
  go_wp2_with fail
  refine CE.out.mono ?_
  rintro e w1 ⟨A1, c1, rfl, hn1⟩
  have U1 := Lib.hid hn1.2.2
  have CD := Lib.hid (Decode_any (bs := aw8) hn1.1.rd (by decide))
  rw [aw_dec0] at CD
  clear hn1 CE
  go_wp2_with fail
  refine CD.out.mono ?_
  rintro e w2 ⟨a2, b2, rfl, hv2, hu2⟩
  obtain ⟨Aa, ca, rfl, -, hca⟩ := (hv2 w2 (Upd.refl _ _)).1.form
  obtain ⟨Ab, cb, rfl, -, hcb⟩ := (hv2 w2 (Upd.refl _ _)).2.form
  have HVV := Lib.hid (show ∀ W, VwR W (.slice Aa 0 ca) (.slice Ab 0 cb) V0 from fun W => ⟨SgR.of0 (Rd.of0 W 23 hca), ⟨[], rfl, Rd.of0 W 1 hcb, fun _ _ h => by cases h⟩⟩)
  have U2 := Lib.hid (U1.out.trans hu2 (fun _ _ f => f))
  clear hv2 hu2 CD hca hcb
  have BV := Lib.hid (Blk.new w2 25 #[.slice Aa 0 ca, .slice Ab 0 cb])
  have U3 := Lib.hid (U2.out.alloc (.cells #[.slice Aa 0 ca, .slice Ab 0 cb] 25))
  go_wp2_with fail
  obtain ⟨v, hv⟩ : ∃ x, x = w2.heap.size := ⟨_, rfl⟩
  rw [← hv] at BV ⊢
  obtain ⟨w3, hw3⟩ : ∃ x, x = w2.alloc (.cells #[.slice Aa 0 ca, .slice Ab 0 cb] 25) := ⟨_, rfl⟩
  rw [← hw3] at BV U3 ⊢
  clear hv hw3 U2
  refine (Decode_any (w := w3) (bs := []) (Rd.nil w3 1) (by decide)).mono ?_
  rw [aw_decn]
  rintro e w4 ⟨rfl, hu4⟩
  have B4 := Lib.hid ((hu4.blk BV.out (fun f => f)).alloc (.cells nil2 25))
  have U4 := Lib.hid ((U3.out.trans hu4 (fun _ _ f => f)).alloc (.cells nil2 25))
  clear hu4 BV U3
  go_wp2_with fail
  obtain ⟨w5, hw5⟩ : ∃ x, x = w4.alloc (.cells nil2 25) := ⟨_, rfl⟩
  rw [← hw5] at B4 U4 ⊢
  clear hw5
  refine (new_spec w5).mono ?_
  rintro e w6 ⟨rfl, F6, hd6, hu6, hf6⟩
  have B6 := Lib.hid (hu6.blk B4.out (fun f => f))
  have U6 := Lib.hid (U4.out.trans hu6 (fun _ _ f => f))
  have D6 := Lib.hid hd6
  have HW56 := Lib.hid hu6.size
  have HW45 := Lib.hid U4.out.size
  have HF6 := Lib.hid (show ∀ k, F6 k → w5.heap.size ≤ k from fun k hk => (hf6 k hk).resolve_left (fun f => f))
  have hvl : v < w5.heap.size := B4.out.lt
  generalize w5.heap.size + 1 = d at D6 ⊢
  clear hd6 hu6 hf6 B4 U4
  go_wp2_with fail
  obtain ⟨W7, hW7⟩ : ∃ x, x = (((w6.alloc (.cells #[.int .u8 1] 5)).alloc (.cells #[.int .u8 2] 5)).alloc (.cells #[.slice (some ⟨w6.heap.size, 0, none⟩) 1 1, .slice (some ⟨w6.heap.size + 1, 0, none⟩) 1 1] 36)) := ⟨_, rfl⟩
  have hu7 : Upd NoF w6 W7 := by rw [hW7]; exact (((Upd.refl NoF w6).alloc _).alloc _).alloc _
  have hT7 : TxR W7 (.slice (some ⟨w6.heap.size + 1 + 1, 0, none⟩) 2 2) [[1], [2]] := by
    have sz1 : (w6.alloc (.cells #[.int .u8 1] 5)).heap.size = w6.heap.size + 1 := by simp
    have sz2 : ((w6.alloc (.cells #[.int .u8 1] 5)).alloc (.cells #[.int .u8 2] 5)).heap.size = w6.heap.size + 1 + 1 := by simp
    have g1 := ((Blk.new w6 5 #[byteV 1]).alloc (.cells #[.int .u8 2] 5)).alloc (.cells #[.slice (some ⟨w6.heap.size, 0, none⟩) 1 1, .slice (some ⟨w6.heap.size + 1, 0, none⟩) 1 1] 36)
    have g2 := (Blk.new (w6.alloc (.cells #[.int .u8 1] 5)) 5 #[byteV 2]).alloc (.cells #[.slice (some ⟨w6.heap.size, 0, none⟩) 1 1, .slice (some ⟨w6.heap.size + 1, 0, none⟩) 1 1] 36)
    have g3 := Blk.new ((w6.alloc (.cells #[.int .u8 1] 5)).alloc (.cells #[.int .u8 2] 5)) 36 #[.slice (some ⟨w6.heap.size, 0, none⟩) 1 1, .slice (some ⟨w6.heap.size + 1, 0, none⟩) 1 1]
    rw [sz1] at g2
    rw [sz2] at g3
    rw [hW7]
    exact lit_texts g1 g2 g3
  rw [← hW7]
  clear hW7
  have CW := Lib.hid (Write_any (D6.out.upd hu7 (fun _ _ f => f)) (V := V2) ⟨SgR.nil W7, hT7⟩ [115] (by decide) (by decide) (by decide) (by rw [aw_enc2]; decide) (by decide) (by rw [aw_enc2]; decide))
  rw [aw_write] at CW
  have B7 := Lib.hid (hu7.blk B6.out (fun f => f))
  have U7 := Lib.hid (U6.out.trans hu7 (fun _ _ f => f))
  have HS7 := Lib.hid hu7.size
  clear hu7 hT7 D6 B6 U6
  refine CW.out.mono ?_
  rintro e w8 ⟨rfl, F8, hd8, hu8, hf8⟩
  have h5 := HF6.out
  have B8 := Lib.hid (hu8.blk B7.out (fun f => by have := h5 _ f; omega))
  have U8 := Lib.hid (U7.out.trans hu8 (fun k hk f => by have h1 := h5 _ f; have h2 := HW45.out; omega))
  have CR := Lib.hid (Read_any hd8 [115] (by decide) (by decide))
  rw [aw_read32] at CR
  clear hd8 hu8 hf8 h5 CW B7 U7
  unfold retE
  go_wp2_with fail
  refine CR.out.mono ?_
  rintro e w9 ⟨a9, b9, rfl, hv9, hu9⟩
  obtain ⟨Ax, cx, rfl, -, -⟩ := (hv9 w9 (Upd.refl _ _)).1.form
  obtain ⟨Ay, cy, rfl, -, -⟩ := (hv9 w9 (Upd.refl _ _)).2.form
  have B9 := Lib.hid ((hu9.blk B8.out (fun f => f)).alloc (.cells #[.slice Ax 0 cx, .slice Ay 2 cy] 25))
  have X9 := Lib.hid (Blk.new w9 25 #[.slice Ax 0 cx, .slice Ay 2 cy])
  have U9 := Lib.hid ((U8.out.trans hu9 (fun _ _ f => f)).alloc (.cells #[.slice Ax 0 cx, .slice Ay 2 cy] 25))
  have V9 := Lib.hid ((hv9 w9 (Upd.refl _ _)).keep ((Upd.refl NoF w9).alloc (.cells #[.slice Ax 0 cx, .slice Ay 2 cy] 25)))
  clear hv9 hu9 CR B8 U8
  have c0 : (w9.alloc (.cells #[.slice Ax 0 cx, .slice Ay 2 cy] 25)).cell? ⟨v, 0, none⟩ = some (.slice Aa 0 ca) := B9.out.cell 0
  have c1 : (w9.alloc (.cells #[.slice Ax 0 cx, .slice Ay 2 cy] 25)).cell? ⟨v, 1, none⟩ = some (.slice Ab 0 cb) := B9.out.cell 1
  go_wp2_with fail
  obtain ⟨x, hx⟩ : ∃ x, x = w9.heap.size := ⟨_, rfl⟩
  obtain ⟨w10, hw10⟩ : ∃ x, x = w9.alloc (.cells #[.slice Ax 0 cx, .slice Ay 2 cy] 25) := ⟨_, rfl⟩
  rw [← hw10] at B9 X9 U9 V9 ⊢
  rw [← hx] at X9 ⊢
  clear c0 c1 hx hw10
  refine (Equal_any V9.out V9.out (by decide) (by decide) (by decide) (by decide)).mono ?_
  rintro e w11 ⟨rfl, hu11⟩
  rw [show decide (V2 = V2) = true from by decide]
  have B11 := Lib.hid (hu11.blk B9.out (fun f => f))
  have X11 := Lib.hid (hu11.blk X9.out (fun f => f))
  have U11 := Lib.hid (U9.out.trans hu11 (fun _ _ f => f))
  have V11 := Lib.hid (V9.out.keep hu11)
  have c0 : w11.cell? ⟨v, 0, none⟩ = some (.slice Aa 0 ca) := B11.out.cell 0
  have c1 : w11.cell? ⟨v, 1, none⟩ = some (.slice Ab 0 cb) := B11.out.cell 1
  have c2 : w11.cell? ⟨x, 0, none⟩ = some (.slice Ax 0 cx) := X11.out.cell 0
  have c3 : w11.cell? ⟨x, 1, none⟩ = some (.slice Ay 2 cy) := X11.out.cell 1
  clear hu11 B9 X9 U9 V9
  go_wp2_with fail
  refine (Equal_any V11.out (HVV.out w11) (by decide) (by decide) (by decide) (by decide)).mono ?_
  rintro e w12 ⟨rfl, hu12⟩
  rw [show decide (V2 = V0) = false from by decide]
  have X12 := Lib.hid (hu12.blk X11.out (fun f => f))
  have U12 := Lib.hid (U11.out.trans hu12 (fun _ _ f => f))
  have V12 := Lib.hid (V11.out.keep hu12)
  have c2 : w12.cell? ⟨x, 0, none⟩ = some (.slice Ax 0 cx) := X12.out.cell 0
  have c3 : w12.cell? ⟨x, 1, none⟩ = some (.slice Ay 2 cy) := X12.out.cell 1
  clear hu12 B11 X11 U11 V11
  go_wp2_with fail
  refine (Union0_any V12.out.1 V12.out.2 V12.out.1 V12.out.2 (by decide) (by decide) (by decide)).mono ?_
  rw [aw_uni]
  rintro e w13 ⟨a, b, rfl, hv13, hu13⟩
  obtain ⟨Ap, cp, rfl, -, -⟩ := hv13.1.form
  obtain ⟨Aq, cq, rfl, -, -⟩ := hv13.2.form
  have U13 := Lib.hid (U12.out.trans hu13 (fun _ _ f => f))
  clear hv13 hu13
  have ff := field_view1 Ap Aq 0 2 cp cq w13
  go_wp2
  go_ret
  exact ⟨rfl, U13.out⟩
end

section
open Go.RowKit

theorem min_div (a c d : Nat) (_hd : 0 < d) (hc : c / d ≤ 1000) : ∃ q : Nat, (min (a : Int) (c : Int)).tdiv (d : Int) = (q : Int) ∧ q ≤ 1000 := by
  refine ⟨min a c / d, ?_, ?_⟩
  · have h : (min (a : Int) (c : Int)) = ((min a c : Nat) : Int) := by omega
    rw [h, Int.tdiv_eq_ediv_of_nonneg (by omega)]
    rfl
  · have := Nat.div_le_div_right (c := d) (Nat.min_le_right a c)
    omega
def HvRel (N L : Nat) (W : World) (n i : Value) (wr : World) : Prop := ∃ k x : Nat, n = .int .i64 (x : Int) ∧ i = .int .i64 (k : Int) ∧ k ≤ L ∧ N ≤ x ∧ x ≤ N + 1000 * k ∧ Upd NoF W wr
def HeavyPost (w : World) (V : ViewS) (e : Ending) (w' : World) : Prop := ∃ b : Bool, e = .returned (.bool b) ∧ (b = false → V.votes.length + V.texts.length ≤ 200) ∧ Upd NoF w w'
set_option maxRecDepth 100000 in
set_option maxHeartbeats 8000000 in
theorem heavy_any {w : World} {a b : Value} {V : ViewS} (h : VwR w a b V) (hs1 : V.votes.length ≤ 140737488355328) (hs2 : V.texts.length ≤ 140737488355328) : Calls Try.prog 4 #[.agg #[a, b]] w (HeavyPost w V) := by
  obtain ⟨A, ca, rfl, hlc, hcm⟩ := h.1.form
  obtain ⟨B, cb, rfl, hld, hdm⟩ := h.2.form
  have HV := Lib.hid h.1
  have HT := Lib.hid h.2
  obtain ⟨n, hn⟩ : ∃ n, V.votes.length = n := ⟨_, rfl⟩
  obtain ⟨m, hm⟩ : ∃ n, V.texts.length = n := ⟨_, rfl⟩
  have BV := Lib.hid (Blk.new w 25 #[.slice A V.votes.length ca, .slice B V.texts.length cb])
  have UW := Lib.hid ((Upd.refl NoF w).alloc (.cells #[.slice A V.votes.length ca, .slice B V.texts.length cb] 25))
  have HN := Lib.hid hn
  have HM := Lib.hid hm
  rw [hn] at hlc hs1 BV UW HV ⊢
  rw [hm] at hld hs2 BV UW HT ⊢
  obtain ⟨W1, hW1⟩ : ∃ x, x = w.alloc (.cells #[.slice A n ca, .slice B m cb] 25) := ⟨_, rfl⟩
  rw [← hW1] at BV UW
  clear h hn hm
  go_enter Try.func4, Try.ntmps4
  go_wp2
  rw [← hW1]
  clear hW1
  go_loopw [3, 4] (fun x i wr => HvRel (n + m) n W1 x i wr) (fun _ i _ => n - (intOf i).toNat)
  case atStart => exact ⟨0, n + m, by go_num, rfl, by omega, by omega, by omega, Upd.refl _ _⟩
  case round =>

    obtain ⟨k, x, rfl, rfl, hk, hx0, hx1, hu⟩ := hrel
    have HU := Lib.hid hu
    have c00 : wr.cell? ⟨w.heap.size, 0, none⟩ = some (.slice A n ca) := (hu.blk BV.out (fun h => h)).cell 0
    have hnn := HN.out
    by_cases hlt : k < n
    · have t1 : decide ((k : Int) < (n : Int)) = true := by simp; omega
      by_cases hle : x ≤ 200
      · have t2 : decide ((x : Int) ≤ 200) = true := by simp; omega
        have t2' : decide (x ≤ 200) = true := by simp; omega
        obtain ⟨s, hx⟩ : ∃ y, V.votes[k]? = some y := ⟨_, List.getElem?_eq_getElem (by omega)⟩
        obtain ⟨g, o, Au, cu, hA, r1, r2, -⟩ := (HV.out.keep (UW.out.trans hu (fun _ _ h => h))).at_ hx
        subst hA
        have y0 : wr.cell? ⟨g, o + k * 23 + 22, none⟩ = some (.slice Au s.sig.length cu) := range_sig (HV.out.fit hx) r1
        have q0 : (0 : Int) ≤ (k : Int) := by omega
        have q1 : (k : Int) < (n : Int) := by omega
        obtain ⟨q, hq, hq2⟩ : ∃ q : Nat, (min (s.sig.length : Int) 100000).tdiv 400 = (q : Int) ∧ q ≤ 1000 := min_div _ _ _ (by decide) (by decide)
        clear hx r1 r2 hu hnn
        go_wp2
        go_roundw
        case rel => exact ⟨k + 1, x + q, by go_num, by go_num, by omega, by omega, by omega, HU.out⟩
        case measure => simp [intOf]; omega
      · have t2 : decide ((x : Int) ≤ 200) = false := by simp; omega
        have t2' : decide (x ≤ 200) = false := by simp; omega
        clear hu
        go_wp2
        obtain ⟨wo, rfl⟩ : ∃ wo : World, wo = wr := ⟨_, rfl⟩
        have HX0 := Lib.hid hx0
        go_loopw [3, 5] (fun y i wr => HvRel x m W1 y i wr) (fun _ i _ => m - (intOf i).toNat)
        case atStart => exact ⟨0, x, by go_num, rfl, by omega, by omega, by omega, HU.out⟩
        case round =>
          clear t1 hlt hk c00 HU
          have hx00 := HX0.out
          obtain ⟨x0, rfl⟩ : ∃ y, y = x := ⟨_, rfl⟩
          have hxb := hx1
          clear hx0 hx1
          obtain ⟨k, x, rfl, rfl, hk, hx0, hx1, hu⟩ := hrel
          have HU := Lib.hid hu
          have c00 : wr.cell? ⟨w.heap.size, 1, none⟩ = some (.slice B m cb) := (hu.blk BV.out (fun h => h)).cell 1
          have hnn := HM.out
          by_cases hlt : k < m
          · have t1 : decide ((k : Int) < (m : Int)) = true := by simp; omega
            by_cases hle : x ≤ 200
            · exfalso; omega
            · have t2 : decide ((x : Int) ≤ 200) = false := by simp; omega
              have t2' : decide (x ≤ 200) = false := by simp; omega
              clear hu
              go_wp2
              go_ret
              refine ⟨_, rfl, fun hb => ?_, UW.out.trans HU.out (fun _ _ h => h)⟩
              have e1 := HN.out
              have e2 := HM.out
              simp at hb
              omega
          · have t1 : decide ((k : Int) < (m : Int)) = false := by simp; omega
            clear hu
            go_wp2
            go_ret
            refine ⟨_, rfl, fun hb => ?_, UW.out.trans HU.out (fun _ _ h => h)⟩
            have e1 := HN.out
            have e2 := HM.out
            simp at hb
            omega
    · have t1 : decide ((k : Int) < (n : Int)) = false := by simp; omega
      clear hu
      go_wp2
      obtain ⟨wo, rfl⟩ : ∃ wo : World, wo = wr := ⟨_, rfl⟩
      have HX0 := Lib.hid hx0
      go_loopw [3, 5] (fun y i wr => HvRel x m W1 y i wr) (fun _ i _ => m - (intOf i).toNat)
      case atStart => exact ⟨0, x, by go_num, rfl, by omega, by omega, by omega, HU.out⟩
      case round =>
        clear t1 hlt hk c00 HU
        have hx00 := HX0.out
        obtain ⟨x0, rfl⟩ : ∃ y, y = x := ⟨_, rfl⟩
        have hxb := hx1
        clear hx0 hx1
        obtain ⟨k, x, rfl, rfl, hk, hx0, hx1, hu⟩ := hrel
        have HU := Lib.hid hu
        have c00 : wr.cell? ⟨w.heap.size, 1, none⟩ = some (.slice B m cb) := (hu.blk BV.out (fun h => h)).cell 1
        have hnn := HM.out
        by_cases hlt : k < m
        · have t1 : decide ((k : Int) < (m : Int)) = true := by simp; omega
          by_cases hle : x ≤ 200
          · have t2 : decide ((x : Int) ≤ 200) = true := by simp; omega
            have t2' : decide (x ≤ 200) = true := by simp; omega
            obtain ⟨s, hx⟩ : ∃ y, V.texts[k]? = some y := ⟨_, List.getElem?_eq_getElem (by omega)⟩
            obtain ⟨g, o, Au, cu, hA, r1, r2, -⟩ := (HT.out.keep (UW.out.trans hu (fun _ _ h => h))).at_ hx
            subst hA
            have y0 : wr.cell? ⟨g, o + k, none⟩ = some (.slice Au s.length cu) := r1
            have q0 : (0 : Int) ≤ (k : Int) := by omega
            have q1 : (k : Int) < (m : Int) := by omega
            obtain ⟨q, hq, hq2⟩ : ∃ q : Nat, (min (s.length : Int) 1000000).tdiv 1000 = (q : Int) ∧ q ≤ 1000 := min_div _ _ _ (by decide) (by decide)
            clear hx r1 r2 hu hnn
            go_wp2
            go_roundw
            case rel => exact ⟨k + 1, x + q, by go_num, by go_num, by omega, by omega, by omega, HU.out⟩
            case measure => simp [intOf]; omega
          · have t2 : decide ((x : Int) ≤ 200) = false := by simp; omega
            have t2' : decide (x ≤ 200) = false := by simp; omega
            clear hu
            go_wp2
            go_ret
            refine ⟨_, rfl, fun hb => ?_, UW.out.trans HU.out (fun _ _ h => h)⟩
            have e1 := HN.out
            have e2 := HM.out
            simp at hb
            omega
        · have t1 : decide ((k : Int) < (m : Int)) = false := by simp; omega
          clear hu
          go_wp2
          go_ret
          refine ⟨_, rfl, fun hb => ?_, UW.out.trans HU.out (fun _ _ h => h)⟩
          have e1 := HN.out
          have e2 := HM.out
          simp at hb
          omega
end

section
open Go.Sort

section
variable {α : Type} [Inhabited α] {lt : α → α → Bool}
theorem get_eq {d : Array α} {x y : Nat} (h : x = y) : d[x]! = d[y]! := by rw [h]
/-- The exchange of two ranges. -/
def swpR (d : Array α) (x y : Nat) : Nat → Array α
  | 0 => d
  | n + 1 => swp (swpR d x y n) (x + n) (y + n)
theorem swpR_size (d : Array α) (x y : Nat) : ∀ n, (swpR d x y n).size = d.size
  | 0 => rfl
  | n + 1 => by rw [swpR, size_swp, swpR_size d x y n]
theorem swpR_get (d : Array α) (x y : Nat) : ∀ (n : Nat), x + n ≤ y → y + n ≤ d.size → ∀ t, (swpR d x y n)[t]! = if x ≤ t ∧ t < x + n then d[y + (t - x)]! else if y ≤ t ∧ t < y + n then d[x + (t - y)]! else d[t]!
  | 0, _, _, t => by rw [if_neg (by omega), if_neg (by omega)]; rfl
  | n + 1, h1, h2, t => by
    have ih := swpR_get d x y n (by omega) (by omega)
    rw [swpR, swp_get _ (by rw [swpR_size]; omega) (by rw [swpR_size]; omega)]
    by_cases a : t = y + n
    · rw [if_pos a, ih, if_neg (by omega), if_neg (by omega), if_neg (by omega), if_pos (by omega)]
      exact get_eq (by omega)
    · rw [if_neg a]
      by_cases b : t = x + n
      · rw [if_pos b, ih, if_neg (by omega), if_neg (by omega), if_pos (by omega)]
        exact get_eq (by omega)
      · rw [if_neg b, ih]
        by_cases c : x ≤ t ∧ t < x + n
        · rw [if_pos c, if_pos (by omega)]
        · rw [if_neg c]
          by_cases e : y ≤ t ∧ t < y + n
          · rw [if_pos e, if_neg (by omega), if_pos (by omega)]
          · rw [if_neg e, if_neg (by omega), if_neg (by omega)]
theorem swpR_perm (d : Array α) (x y lo hi : Nat) : ∀ (n : Nat), lo ≤ x → x + n ≤ hi → lo ≤ y → y + n ≤ hi → hi ≤ d.size → PermIn lo hi d (swpR d x y n)
  | 0, _, _, _, _, _ => permIn_refl d lo hi
  | n + 1, h1, h2, h3, h4, h5 => permIn_trans _ _ _ _ _ (swpR_perm d x y lo hi n h1 (by omega) h3 (by omega) h5) (swp_permIn _ _ _ _ _ (by omega) (by omega) (by omega) (by omega) (by rw [swpR_size]; exact h5))

/-- What lies at t behind the rotation of [lo, m) and [m, hi). -/
def rotAt (d : Array α) (lo m hi t : Nat) : α := if lo ≤ t ∧ t < lo + (hi - m) then d[m + (t - lo)]! else if lo + (hi - m) ≤ t ∧ t < hi then d[lo + (t - (lo + (hi - m)))]! else d[t]!
theorem rot_a {d : Array α} {lo m hi t : Nat} (h : lo ≤ t ∧ t < lo + (hi - m)) : rotAt d lo m hi t = d[m + (t - lo)]! := by unfold rotAt; rw [if_pos h]
theorem rot_b {d : Array α} {lo m hi t : Nat} (h1 : lo + (hi - m) ≤ t) (h2 : t < hi) : rotAt d lo m hi t = d[lo + (t - (lo + (hi - m)))]! := by unfold rotAt; rw [if_neg (by omega), if_pos ⟨h1, h2⟩]
theorem rot_c {d : Array α} {lo m hi t : Nat} (hm : lo ≤ m) (hh : m ≤ hi) (h : t < lo ∨ hi ≤ t) : rotAt d lo m hi t = d[t]! := by unfold rotAt; rw [if_neg (by omega), if_neg (by omega)]
theorem rot_none {d : Array α} {lo m hi : Nat} (hm : lo ≤ m) (hh : m ≤ hi) (h : lo = m ∨ m = hi) (t : Nat) : rotAt d lo m hi t = d[t]! := by
  rcases Nat.lt_or_ge t lo with a | a
  · exact rot_c hm hh (.inl a)
  · rcases Nat.lt_or_ge t hi with b | b
    · rcases h with h | h
      · rw [rot_a (by omega)]; exact get_eq (by omega)
      · rw [rot_b (by omega) b]; exact get_eq (by omega)
    · exact rot_c hm hh (.inr b)
theorem rot_step1 {d : Array α} {m i j : Nat} (hi : i ≤ m) (hij : j < i) (hs : m + j ≤ d.size) (t : Nat) : rotAt (swpR d (m - i) m j) (m - (i - j)) m (m + j) t = rotAt d (m - i) m (m + j) t := by
  have hg := swpR_get d (m - i) m j (by omega) hs
  rcases Nat.lt_or_ge t (m - i) with a | a
  · rw [rot_c (by omega) (by omega) (.inl (by omega)), rot_c (by omega) (by omega) (.inl a), hg, if_neg (by omega), if_neg (by omega)]
  rcases Nat.lt_or_ge t (m - i + j) with b | b
  · rw [rot_c (by omega) (by omega) (.inl (by omega)), rot_a (by omega), hg, if_pos (by omega)]
  rcases Nat.lt_or_ge t (m + j) with c | c
  · rw [rot_b (d := d) (by omega) c]
    rcases Nat.lt_or_ge t (m - i + j + j) with e | e
    · rw [rot_a (by omega), hg, if_neg (by omega), if_pos (by omega)]
      exact get_eq (by omega)
    · rw [rot_b (by omega) c, hg, if_neg (by omega), if_neg (by omega)]
      exact get_eq (by omega)
  · rw [rot_c (by omega) (by omega) (.inr c), rot_c (by omega) (by omega) (.inr c), hg, if_neg (by omega), if_neg (by omega)]
theorem rot_step2 {d : Array α} {m i j : Nat} (hi : i ≤ m) (hij : i < j) (hs : m + j ≤ d.size) (t : Nat) : rotAt (swpR d (m - i) (m + j - i) i) (m - i) m (m + (j - i)) t = rotAt d (m - i) m (m + j) t := by
  have hg := swpR_get d (m - i) (m + j - i) i (by omega) (by omega)
  rcases Nat.lt_or_ge t (m - i) with a | a
  · rw [rot_c (by omega) (by omega) (.inl a), rot_c (by omega) (by omega) (.inl a), hg, if_neg (by omega), if_neg (by omega)]
  rcases Nat.lt_or_ge t (m + j - i) with b | b
  · rw [rot_a (d := d) (by omega)]
    rcases Nat.lt_or_ge t (m - i + (j - i)) with e | e
    · rw [rot_a (by omega), hg, if_neg (by omega), if_neg (by omega)]
    · rw [rot_b (by omega) (by omega), hg, if_pos (by omega)]
      exact get_eq (by omega)
  rcases Nat.lt_or_ge t (m + j) with c | c
  · rw [rot_c (by omega) (by omega) (.inr (by omega)), rot_b (by omega) c, hg, if_neg (by omega), if_pos (by omega)]
    exact get_eq (by omega)
  · rw [rot_c (by omega) (by omega) (.inr (by omega)), rot_c (by omega) (by omega) (.inr c), hg, if_neg (by omega), if_neg (by omega)]
theorem rot_end {d : Array α} {m i : Nat} (hi : i ≤ m) (hs : m + i ≤ d.size) (t : Nat) : (swpR d (m - i) m i)[t]! = rotAt d (m - i) m (m + i) t := by
  rw [swpR_get d (m - i) m i (by omega) hs]
  rcases Nat.lt_or_ge t (m - i) with a | a
  · rw [rot_c (by omega) (by omega) (.inl a), if_neg (by omega), if_neg (by omega)]
  rcases Nat.lt_or_ge t m with b | b
  · rw [rot_a (by omega), if_pos (by omega)]
  rcases Nat.lt_or_ge t (m + i) with c | c
  · rw [rot_b (by omega) c, if_neg (by omega), if_pos (by omega)]
    exact get_eq (by omega)
  · rw [rot_c (by omega) (by omega) (.inr c), if_neg (by omega), if_neg (by omega)]

/-- One element has been carried up from a to k. -/
def upAt (d : Array α) (a k t : Nat) : α := if a ≤ t ∧ t < k then d[t + 1]! else if t = k then d[a]! else d[t]!
theorem up_start (d : Array α) (a t : Nat) : d[t]! = upAt d a a t := by
  unfold upAt
  rw [if_neg (by omega)]
  split
  · rename_i h; rw [h]
  · rfl
theorem up_step {d e : Array α} {a k : Nat} (hak : a ≤ k) (hk : k + 1 < e.size) (h : ∀ t, e[t]! = upAt d a k t) (t : Nat) : (swp e k (k + 1))[t]! = upAt d a (k + 1) t := by
  rw [swp_get e (by omega) hk]
  by_cases h1 : t = k + 1
  · rw [if_pos h1, h]
    unfold upAt
    rw [if_neg (by omega), if_pos rfl, if_neg (by omega), if_pos h1]
  · rw [if_neg h1]
    by_cases h2 : t = k
    · rw [if_pos h2, h]
      unfold upAt
      rw [if_neg (by omega), if_neg (by omega), if_pos (by omega)]
      exact get_eq (by omega)
    · rw [if_neg h2, h]
      unfold upAt
      by_cases h3 : a ≤ t ∧ t < k
      · rw [if_pos h3, if_pos (by omega)]
      · rw [if_neg h3, if_neg h2, if_neg (by omega), if_neg h1]
/-- One element has been carried down from m to k. -/
def downAt (d : Array α) (m k t : Nat) : α := if k < t ∧ t ≤ m then d[t - 1]! else if t = k then d[m]! else d[t]!
theorem down_start (d : Array α) (m t : Nat) : d[t]! = downAt d m m t := by
  unfold downAt
  rw [if_neg (by omega)]
  split
  · rename_i h; rw [h]
  · rfl
theorem down_step {d e : Array α} {m k : Nat} (hkm : k + 1 ≤ m) (hk : k + 1 < e.size) (h : ∀ t, e[t]! = downAt d m (k + 1) t) (t : Nat) : (swp e (k + 1) k)[t]! = downAt d m k t := by
  rw [swp_get e hk (by omega)]
  by_cases h1 : t = k
  · rw [if_pos h1, h]
    unfold downAt
    rw [if_neg (by omega), if_pos rfl, if_neg (by omega), if_pos h1]
  · rw [if_neg h1]
    by_cases h2 : t = k + 1
    · rw [if_pos h2, h]
      unfold downAt
      rw [if_neg (by omega), if_neg (by omega), if_pos (by omega)]
      exact get_eq (by omega)
    · rw [if_neg h2, h]
      unfold downAt
      by_cases h3 : k + 1 < t ∧ t ≤ m
      · rw [if_pos h3, if_pos (by omega)]
      · rw [if_neg h3, if_neg h2, if_neg (by omega), if_neg h1]

theorem sorted_le (hS : SWO lt) {a b : Nat} {d : Array α} (h : SortedIn lt a b d) {p q : Nat} (ha : a ≤ p) (hpq : p ≤ q) (hq : q < b) : lt d[q]! d[p]! = false := by
  rcases Nat.lt_or_ge p q with e | e
  · exact h p q ha e hq
  · rw [show q = p by omega]; exact hS.irrefl _
/-- data[a] carried into data[m:b], a + 1 = m. -/
theorem up_sorted (hS : SWO lt) {d e : Array α} {a b i : Nat} (h2 : SortedIn lt (a + 1) b d) (hi1 : a + 1 ≤ i) (hi2 : i ≤ b) (hl : i = a + 1 ∨ lt d[i - 1]! d[a]! = true) (hr : i = b ∨ lt d[i]! d[a]! = false) (he : ∀ t, e[t]! = upAt d a (i - 1) t) : SortedIn lt a b e := by
  have low : ∀ q, a + 1 ≤ q → q < i → lt d[a]! d[q]! = false := fun q h3 h4 => by
    rcases hl with hl | hl
    · omega
    · have h5 := sorted_le hS h2 h3 (show q ≤ i - 1 by omega) (by omega)
      have h6 : lt d[a]! d[i - 1]! = false := hS.asymmA hl
      exact hS.ntrans _ _ _ h6 h5
  have high : ∀ q, i ≤ q → q < b → lt d[q]! d[a]! = false := fun q h3 h4 => by
    rcases hr with hr | hr
    · omega
    · exact hS.ntrans _ _ _ (sorted_le hS h2 (by omega) h3 h4) hr
  intro p q hp hpq hq
  rw [he, he]
  unfold upAt
  by_cases c1 : a ≤ q ∧ q < i - 1
  · rw [if_pos c1, if_pos (by omega)]
    exact h2 _ _ (by omega) (by omega) (by omega)
  · rw [if_neg c1]
    by_cases c2 : q = i - 1
    · rw [if_pos c2, if_pos (by omega)]
      exact low _ (by omega) (by omega)
    · rw [if_neg c2]
      by_cases c3 : a ≤ p ∧ p < i - 1
      · rw [if_pos c3]
        exact h2 _ _ (by omega) (by omega) hq
      · rw [if_neg c3]
        by_cases c4 : p = i - 1
        · rw [if_pos c4]
          exact high q (by omega) hq
        · rw [if_neg c4]
          exact h2 _ _ (by omega) hpq hq
/-- data[m] carried into data[a:m], b = m + 1. -/
theorem down_sorted (hS : SWO lt) {d e : Array α} {a m i : Nat} (h1 : SortedIn lt a m d) (hi1 : a ≤ i) (hi2 : i ≤ m) (hl : i = a ∨ lt d[m]! d[i - 1]! = false) (hr : i = m ∨ lt d[m]! d[i]! = true) (he : ∀ t, e[t]! = downAt d m i t) : SortedIn lt a (m + 1) e := by
  have low : ∀ p, a ≤ p → p < i → lt d[m]! d[p]! = false := fun p h3 h4 => by
    rcases hl with hl | hl
    · omega
    · exact hS.ntrans _ _ _ hl (sorted_le hS h1 h3 (show p ≤ i - 1 by omega) (by omega))
  have high : ∀ q, i ≤ q → q < m → lt d[q]! d[m]! = false := fun q h3 h4 => by
    rcases hr with hr | hr
    · omega
    · exact hS.ntrans _ _ _ (sorted_le hS h1 hi1 h3 h4) (hS.asymmA hr)
  intro p q hp hpq hq
  rw [he, he]
  unfold downAt
  by_cases c1 : i < p ∧ p ≤ m
  · rw [if_pos c1, if_pos (by omega)]
    exact h1 _ _ (by omega) (by omega) (by omega)
  · rw [if_neg c1]
    by_cases c2 : p = i
    · rw [if_pos c2, if_pos (by omega)]
      exact high _ (by omega) (by omega)
    · rw [if_neg c2]
      by_cases c3 : i < q ∧ q ≤ m
      · rw [if_pos c3]
        rcases Nat.lt_or_ge p (q - 1) with c4 | c4
        · exact h1 _ _ hp c4 (by omega)
        · omega
      · rw [if_neg c3]
        by_cases c4 : q = i
        · rw [if_pos c4]
          exact low p hp (by omega)
        · rw [if_neg c4]
          exact h1 _ _ hp hpq (by omega)

/-- What the rotation leaves: four ascending runs, and nothing in the upper half is less than what lies in the lower one. -/
structure Halves (lt : α → α → Bool) (a st mid en b : Nat) (d : Array α) : Prop where
  s1 : SortedIn lt a st d
  s2 : SortedIn lt st mid d
  s3 : SortedIn lt mid en d
  s4 : SortedIn lt en b d
  lo : ∀ p q, a ≤ p → p < mid → mid ≤ q → q < b → lt d[q]! d[p]! = false
theorem halves (hS : SWO lt) {a m b mid st en : Nat} {d e : Array α} (h1 : SortedIn lt a m d) (h2 : SortedIn lt m b d) (b1 : a ≤ st) (b2 : st ≤ m) (b3 : m ≤ en) (b4 : en ≤ b) (hse : st + en = mid + m)
    (hi : st = a ∨ en = b ∨ lt d[en]! d[st - 1]! = false) (hii : st = m ∨ en = m ∨ lt d[st]! d[en - 1]! = false) (he : ∀ t, e[t]! = rotAt d st m en t) : Halves lt a st mid en b e := by
  have r1 : ∀ t, t < st → e[t]! = d[t]! := fun t ht => by rw [he, rot_c b2 b3 (.inl ht)]
  have r2 : ∀ t, st ≤ t → t < mid → e[t]! = d[m + (t - st)]! := fun t h3 h4 => by rw [he, rot_a (by omega)]
  have r3 : ∀ t, mid ≤ t → t < en → e[t]! = d[st + (t - mid)]! := fun t h3 h4 => by rw [he, rot_b (by omega) h4]; exact get_eq (by omega)
  have r4 : ∀ t, en ≤ t → e[t]! = d[t]! := fun t ht => by rw [he, rot_c b2 b3 (.inr ht)]
  refine ⟨fun p q hp hpq hq => ?_, fun p q hp hpq hq => ?_, fun p q hp hpq hq => ?_, fun p q hp hpq hq => ?_, fun p q hp hpm hq hqb => ?_⟩
  · rw [r1 p (by omega), r1 q hq]; exact h1 _ _ hp hpq (by omega)
  · rw [r2 p hp (by omega), r2 q (by omega) hq]; exact h2 _ _ (by omega) (by omega) (by omega)
  · rw [r3 p hp (by omega), r3 q (by omega) hq]; exact h1 _ _ (by omega) (by omega) (by omega)
  · rw [r4 p hp, r4 q (by omega)]; exact h2 _ _ (by omega) hpq hq
  · rcases Nat.lt_or_ge p st with c1 | c1
    · rw [r1 p c1]
      rcases Nat.lt_or_ge q en with c2 | c2
      · rw [r3 q hq c2]; exact sorted_le hS h1 hp (by omega) (by omega)
      · rw [r4 q c2]
        have h3 : lt d[en]! d[st - 1]! = false := by
          rcases hi with hi | hi | hi
          · omega
          · omega
          · exact hi
        exact hS.ntrans _ _ _ (hS.ntrans _ _ _ (sorted_le hS h2 b3 c2 hqb) h3) (sorted_le hS h1 hp (show p ≤ st - 1 by omega) (by omega))
    · rw [r2 p c1 hpm]
      rcases Nat.lt_or_ge q en with c2 | c2
      · rw [r3 q hq c2]
        have h3 : lt d[st]! d[en - 1]! = false := by
          rcases hii with hi | hi | hi
          · omega
          · omega
          · exact hi
        exact hS.ntrans _ _ _ (hS.ntrans _ _ _ (sorted_le hS h1 b1 (show st ≤ st + (q - mid) by omega) (by omega)) h3) (sorted_le hS h2 (show m ≤ m + (p - st) by omega) (show m + (p - st) ≤ en - 1 by omega) (by omega))
      · rw [r4 q c2]; exact sorted_le hS h2 (by omega) (by omega) hqb
theorem Halves.done (_hS : SWO lt) {a st mid en b : Nat} {e e1 e2 : Array α} (h : Halves lt a st mid en b e) (h0 : b ≤ e.size) (ha : a ≤ mid) (hb : mid ≤ b) (hp1 : PermIn a mid e e1) (hs1 : SortedIn lt a mid e1) (hp2 : PermIn mid b e1 e2) (hs2 : SortedIn lt mid b e2) : PermIn a b e e2 ∧ SortedIn lt a b e2 := by
  refine ⟨permIn_trans _ _ _ _ _ (permIn_mono e e1 a mid a b (Nat.le_refl _) hb h0 hp1) (permIn_mono e1 e2 mid b a b ha (Nat.le_refl _) (by rw [hp1.1]; exact h0) hp2), fun p q hp hpq hq => ?_⟩
  have l2 : ∀ t, t < mid → e2[t]! = e1[t]! := fun t ht => hp2.2.1 t (.inl ht)
  rcases Nat.lt_or_ge q mid with c1 | c1
  · rw [l2 p (by omega), l2 q c1]; exact hs1 p q hp hpq c1
  · rcases Nat.lt_or_ge p mid with c2 | c2
    · rw [l2 p c2]
      have k1 : ∀ i, a ≤ i → i < mid → ∀ x, (∃ q, mid ≤ q ∧ q < b ∧ x = e[q]!) → lt x e1[i]! = false :=
        permIn_all e e1 a mid (fun y => ∀ x, (∃ q, mid ≤ q ∧ q < b ∧ x = e[q]!) → lt x y = false) (by omega) hp1 (fun i hi1 hi2 x ⟨q, hq1, hq2, hx⟩ => by rw [hx]; exact h.lo i q hi1 hi2 hq1 hq2)
      have k2 := permIn_all e1 e2 mid b (fun x => lt x e1[p]! = false) (by rw [hp1.1]; exact h0) hp2 (fun i hi1 hi2 => k1 p hp c2 _ ⟨i, hi1, hi2, hp1.2.1 i (.inr hi1)⟩)
      exact k2 q c1 hq
    · exact hs2 p q c2 hpq hq
theorem sorted_empty {a b : Nat} {d : Array α} (h : b ≤ a + 1) : SortedIn lt a b d := fun p q h1 h2 h3 => by omega
theorem sorted_perm_out {a b lo hi : Nat} {d e : Array α} (h : SortedIn lt a b d) (hp : PermIn lo hi d e) (ho : b ≤ lo ∨ hi ≤ a) : SortedIn lt a b e := fun p q h1 h2 h3 => by
  rw [hp.2.1 p (by omega), hp.2.1 q (by omega)]
  exact h p q h1 h2 h3
end
end

section
open Go.RowKit Go.Sort Go.Shelf

/-- A signed vote with the value of its signature, which reads as long as only blocks of M are written. -/
abbrev VE (M : Nat → Prop) (w : World) : Type := { p : SignedS × Value // p.1.vote.Fit ∧ RdF M w 1 p.2 p.1.sig.length (p.1.sig.map byteV) }
instance (M : Nat → Prop) (w : World) : Inhabited (VE M w) := ⟨⟨(zeroS, nilV), zeroV_fit, RdF.nil _ _ _⟩⟩
abbrev encW {M : Nat → Prop} {w : World} (x : VE M w) : List Value := rowS x.1.1 x.1.2
def cmpSg (s t : SignedS) : Int := if lessS s t then -1 else if lessS t s then 1 else 0
abbrev cmpW {M : Nat → Prop} {w : World} (x y : VE M w) : Int := cmpSg x.1.1 y.1.1
abbrev ltW {M : Nat → Prop} {w : World} (x y : VE M w) : Bool := lessS x.1.1 y.1.1
theorem cmpSg_lt (s t : SignedS) : decide (cmpSg s t < 0) = lessS s t := by
  unfold cmpSg
  cases lessS s t with
  | true => rfl
  | false => cases lessS t s <;> rfl
section
variable {M : Nat → Prop} {w w0 W W' : World} {g S : Nat}
theorem encW_len (x : VE M w) : (encW x).length = 23 := rowS_len x.2.1 _
theorem encW_one (x : VE M w) : ∀ v ∈ encW x, v.oneCell' = true := fun v hv => by
  obtain ⟨A, c, e, -⟩ := x.2.2.now.slice
  have := row_one x.1.1 (u := x.1.2) (by rw [e]; rfl)
  rw [List.all_toArray, List.all_eq_true] at this
  exact this v hv

theorem upd_setCells {F : Nat → Prop} (b : Nat) : ∀ (vs : List Value) (o : Nat) (W : World), Upd F w W → (F b ∨ w.heap.size ≤ b) → Upd F w (W.setCells b o vs)
  | [], _, _, h, _ => h
  | v :: r, o, W, h, hb => by rw [World.setCells]; exact upd_setCells b r (o + 1) _ (h.setCell (p := ⟨b, o, none⟩) hb v) hb
theorem blk_setCells {t : TypeId} : ∀ (vs : List Value) (o : Nat) (W : World) (cur : Array Value), Blk W g t cur → ∃ cur', Blk (W.setCells g o vs) g t cur' ∧ cur'.size = cur.size
  | [], _, _, cur, h => ⟨cur, h, rfl⟩
  | v :: r, o, W, cur, h => by
    rw [World.setCells]
    obtain ⟨c2, h1, h2⟩ := blk_setCells r (o + 1) _ _ (h.put o v)
    exact ⟨c2, h1, by rw [h2]; simp⟩

/-- The block g holds the votes of d, one after another; nothing else has turned. -/
structure VS (w0 : World) (g S : Nat) (d : Array (VE M w0)) (W : World) : Prop where
  holds : HoldsK encW 23 W g 0 d
  upd : Upd (fun k => k = g) w0 W
  row : ∃ cur, Blk W g 38 cur ∧ cur.size = S
variable {d : Array (VE M w0)}
theorem VS.same (h : VS w0 g S d W) (hu : Upd NoF W W') : VS w0 g S d W' := by
  obtain ⟨cur, hb, hs⟩ := h.row
  have hb' := hu.blk hb (fun f => f)
  exact ⟨fun j hj => ⟨hu.cell (h.holds j hj).1 (fun f => f), hb'.frozen _⟩, h.upd.trans hu (fun _ _ f => f.elim), cur, hb', hs⟩
theorem VS.load (h : VS w0 g S d W) {i : Nat} (hi : i < d.size) : Sem.run Try.prog (loadCellsFrom ⟨g, i * 23, none⟩ 0 23 #[]) W = .ok (encW d[i]!).toArray W := by
  have := run_loadCellsFrom_list Try.prog W ⟨g, 0 + i * 23, none⟩ (encW d[i]!) 23 (encW_len _) (HoldsK.cells h.holds encW_len hi)
  rwa [Nat.zero_add] at this
theorem VS.st1 (h : VS w0 g S d W) {i : Nat} (hi : i < d.size) (y : VE M w0) : Sem.run Try.prog (storeCells ⟨g, i * 23, none⟩ (encW y) 0) W = .ok () (W.setCells g (i * 23) (encW y)) := by
  have := stores_of_holds Try.prog h.holds (i * 23) (encW y) (by rw [encW_len, size_flatK]; exact rowK_bnd d 23 i hi) (encW_one _)
  rwa [Nat.zero_add] at this
theorem VS.st2 (h : VS w0 g S d W) {i j : Nat} (hi : i < d.size) (hj : j < d.size) (y x : VE M w0) :
    Sem.run Try.prog (storeCells ⟨g, j * 23, none⟩ (encW x) 0) (W.setCells g (i * 23) (encW y)) = .ok () ((W.setCells g (i * 23) (encW y)).setCells g (j * 23) (encW x)) := by
  have h1 := holds_setCells_c h.holds (i * 23) (encW y) (by rw [encW_len, size_flatK]; exact rowK_bnd d 23 i hi)
  have := stores_of_holds Try.prog h1 (j * 23) (encW x) (by rw [encW_len, size_setMany, size_flatK]; exact rowK_bnd d 23 j hj) (encW_one _)
  rwa [Nat.zero_add, Nat.zero_add] at this
theorem VS.swapped (h : VS w0 g S d W) {i j : Nat} (hi : i < d.size) (hj : j < d.size) : VS w0 g S (swp d i j) ((W.setCells g (i * 23) (encW d[j]!)).setCells g (j * 23) (encW d[i]!)) := by
  refine ⟨?_, ?_, ?_⟩
  · have h1 := holds_setCells_c h.holds (i * 23) (encW d[j]!) (by rw [encW_len, size_flatK]; exact rowK_bnd d 23 i hi)
    have h2 := holds_setCells_c h1 (j * 23) (encW d[i]!) (by rw [encW_len, size_setMany, size_flatK]; exact rowK_bnd d 23 j hj)
    rw [setMany_swp encW 23 encW_len d i j hi hj, Nat.zero_add, Nat.zero_add] at h2
    exact h2
  · exact upd_setCells g _ _ _ (upd_setCells g _ _ _ h.upd (.inl rfl)) (.inl rfl)
  · obtain ⟨cur, hb, hs⟩ := h.row
    obtain ⟨c1, h1, e1⟩ := blk_setCells (encW d[j]!) (i * 23) _ _ hb
    obtain ⟨c2, h2, e2⟩ := blk_setCells (encW d[i]!) (j * 23) _ _ h1
    exact ⟨c2, h2, by rw [e2, e1, hs]⟩

/-- A world that has only grown. -/
structure UpdBy (w : World) where
  w' : World
  h : Upd NoF w w'
instance (w : World) : Inhabited (UpdBy w) := ⟨⟨w, Upd.refl NoF w⟩⟩
theorem wp_region_quiet_upd {P : Program} {id : Nat} {Q : Exit → Act → World → Prop} {a : Act} {w : World} {l : List Oper} (hm : P.follows .mixedOrders = true) (hB : Region.lexB .any l.toArray = true)
    (h : wpQuiet P l.toArray (fun w' => ∃ p : UpdBy w, w' = p.w') (fun a' => ∀ w', (∃ p : UpdBy w, w' = p.w') → Q .normal a' w') l a) : (Code.region id l.toArray true).wp P Q a w :=
  wp_region_quiet (C := fun w' => ∃ p : UpdBy w, w' = p.w') hm hB ⟨⟨w.drew, (Upd.refl NoF w).drew⟩, rfl⟩ (by simpa using h)
end

set_option maxRecDepth 100000 in
set_option maxHeartbeats 4000000 in
theorem compareVotes_any {s t : SignedS} {u v : Value} (hf : s.vote.Fit) (hg : t.vote.Fit) (w : World) (hu : Rd w 1 u s.sig.length (s.sig.map byteV)) (hv : Rd w 1 v t.sig.length (t.sig.map byteV)) : Calls Try.prog 19 #[.agg (rowS s u).toArray, .agg (rowS t v).toArray] w fun e w' => e = .returned (.int .i64 (cmpSg s t)) ∧ Upd NoF w w' := by
  have HZ := Lib.hid (show cmpSg s t = if lessS s t then -1 else if lessS t s then 1 else 0 from rfl)
  obtain ⟨A, c, rfl, hlc, hcm⟩ := hu.slice
  obtain ⟨B, d, rfl, hld, hdm⟩ := hv.slice
  have HF := Lib.hid hf
  have HG := Lib.hid hg
  have CL := Lib.hid (fun W (h : Upd NoF w W) => sLess_any hf hg W (hu.keep h) (hv.keep h))
  have CR := Lib.hid (fun W (h : Upd NoF w W) => sLess_any hg hf W (hv.keep h) (hu.keep h))
  obtain ⟨ra, hra⟩ : ∃ row, (rowS s (.slice A s.sig.length c)).toArray = row := ⟨_, rfl⟩
  obtain ⟨rb, hrb⟩ : ∃ row, (rowS t (.slice B t.sig.length d)).toArray = row := ⟨_, rfl⟩
  rw [hra, hrb] at CL CR ⊢
  have HRA := Lib.hid hra
  have HRB := Lib.hid hrb
  have RA := Lib.hid (show ∀ W, Blk W w.heap.size 38 ra → W.rangeAt w.heap.size 0 (rowS s (.slice A s.sig.length c)) from fun W h => by rw [← HRA.out] at h; exact range_blk h)
  have RB := Lib.hid (show ∀ W, Blk W (w.heap.size + 1) 38 rb → W.rangeAt (w.heap.size + 1) 0 (rowS t (.slice B t.sig.length d)) from fun W h => by rw [← HRB.out] at h; exact range_blk h)
  have BA := Lib.hid ((Blk.new w 38 ra).alloc (.cells rb 38))
  have BB := Lib.hid (show Blk ((w.alloc (.cells ra 38)).alloc (.cells rb 38)) (w.heap.size + 1) 38 rb by have := Blk.new (w.alloc (.cells ra 38)) 38 rb; simpa using this)
  have UW := Lib.hid (((Upd.refl NoF w).alloc (.cells ra 38)).alloc (.cells rb 38))
  clear hf hg hu hv hra hrb hcm hdm hlc hld
  go_enter Try.func19, Try.ntmps19
  go_wp2_with (first
    | (refine wpList_load_signed rfl (.tmp 2) rfl w.heap.size 0 rfl s _ HF.out (RA.out _ BA.out) (.agg ra) (by rw [HRA.out]) ?_)
    | (refine wpList_load_signed rfl (.tmp 3) rfl (w.heap.size + 1) 0 rfl t _ HG.out (RB.out _ BB.out) (.agg rb) (by rw [HRB.out]) ?_))
  refine (CL.out _ UW.out).mono ?_
  rintro e w3 ⟨rfl, hu3⟩
  have U3 := Lib.hid (UW.out.trans hu3 (fun _ _ f => f))
  have BA := Lib.hid (hu3.blk BA.out (fun f => f))
  have BB := Lib.hid (hu3.blk BB.out (fun f => f))
  clear hu3
  cases hst : lessS s t with
  | true =>
    rw [hst] at HZ
    go_wp2
    go_ret
    exact ⟨by rw [HZ.out]; rfl, U3.out⟩
  | false =>
    rw [hst] at HZ
    go_wp2_with (first
      | (refine wpList_load_signed rfl (.tmp 2) rfl w.heap.size 0 rfl s _ HF.out (RA.out _ BA.out) (.agg ra) (by rw [HRA.out]) ?_)
      | (refine wpList_load_signed rfl (.tmp 3) rfl (w.heap.size + 1) 0 rfl t _ HG.out (RB.out _ BB.out) (.agg rb) (by rw [HRB.out]) ?_))
    refine (CR.out _ U3.out).mono ?_
    rintro e w4 ⟨rfl, hu4⟩
    have U4 := Lib.hid (U3.out.trans hu4 (fun _ _ f => f))
    clear hu4
    cases hts : lessS t s with
    | true =>
      rw [hts] at HZ
      go_wp2
      go_ret
      exact ⟨by rw [HZ.out]; rfl, U4.out⟩
    | false =>
      rw [hts] at HZ
      go_wp2
      go_ret
      exact ⟨by rw [HZ.out]; rfl, U4.out⟩
end
end Go.Proofs.Ytbgificdilpdcaa
