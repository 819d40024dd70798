/- Sync, Truncate, Remove, Rename, Read, Arm, Off of package disk, each against its plain specification. Conditions: no name longer than memory. -/
import Derived.Test.YtmapijpphnlcmaaDisk9
namespace Go.Proofs.Ytmapijpphnlcmaa
open Go.RowKit Go.Maps

theorem call_sync1 (fb : Nat) (W : World) : (callFunc 41 (#[ptrV fb] ++ #[])).run Try.prog W = .ok (.enter 41 (#[ptrV fb] ++ #[])) W := by kernel_rfl
theorem call_truncate1 (a fb : Nat) (W : World) : (callFunc 70 (#[ptrV fb] ++ #[ptrV a])).run Try.prog W = .ok (.enter 70 (#[ptrV fb] ++ #[ptrV a])) W := by kernel_rfl
theorem call_remove1 (a b fb : Nat) (W : World) : (callFunc 47 (#[ptrV fb] ++ #[ptrV a, ptrV b])).run Try.prog W = .ok (.enter 47 (#[ptrV fb] ++ #[ptrV a, ptrV b])) W := by kernel_rfl
theorem call_rename1 (a b c fb : Nat) (W : World) : (callFunc 71 (#[ptrV fb] ++ #[ptrV a, ptrV b, ptrV c])).run Try.prog W = .ok (.enter 71 (#[ptrV fb] ++ #[ptrV a, ptrV b, ptrV c])) W := by kernel_rfl

section
variable {w : World} {d mb : Nat} {s : DSt} {F : Nat → Prop} {L : List FRec} {off armed : Bool} {left : Nat}

theorem TurnPost.step {w0 w w' : World} {r : FRec} {c' : List UInt8} {dur' : Nat} (h : DiskL w d mb off armed left L) (hr : r ∈ L) (ht : TurnPost w d mb off armed left L r c' dur' w') (hu : Upd (fun k => k = d) w0 w) :
    DiskStep w0 d ⟨setF r.nm ⟨c', dur'⟩ (absL L), off, armed, left⟩ (foot d mb L) w' := by
  obtain ⟨r', h1, h2, h3, h4, h5, h6, h7⟩ := ht.after hu
  refine ⟨_, ⟨mb, _, h5, ?_, rfl⟩, h6, h7⟩
  rw [absL_setR h hr h1 h2, h3, h4]

theorem sync_spec (h : DiskAt w d s F) (nm : List UInt8) (hm : nm.length ≤ maxLen) : Calls Try.prog 12 #[ptrV d, strV nm] w (ErrPost w d F (sSync s nm)) := by
  have C : Calls Try.prog 40 #[ptrV d, strV nm, .func (.func 41) #[] #[]] w (ErrPost w d F (sSync s nm)) := by
    refine change_spec h nm hm 41 #[] _ call_sync1 ?_
    rintro mb L r w1 hd rfl hs hr rfl hu
    refine (sync_turn hd hr).mono ?_
    rintro e w' ⟨rfl, ht⟩
    rw [hs]
    exact ⟨rfl, ht.step hd hr hu⟩
  have H := Lib.hid C
  clear C h hm
  go_enter Try.func12, Try.ntmps12
  go_wp2_with (go_at_call 40; refine H.out.mono ?_; rintro e w' ⟨rfl, hs⟩)
  go_ret
  exact ⟨rfl, hs⟩

theorem sync_nil (sn : ByteArray) (w : World) : Calls Try.prog 12 #[.pointer none, .string sn] w fun e w' => e = retE 1 ∧ w = w' := by
  go_enter Try.func12, Try.ntmps12
  go_wp2_with (go_at_call 40; refine (change_nil _ _ _).mono ?_; rintro e w' ⟨rfl, rfl⟩)
  go_ret
  exact ⟨rfl, rfl⟩

/-- A step of the disk behind a few new blocks. -/
theorem DiskStep.after {w0 w1 w' : World} (hu : Upd NoF w0 w1) (h : DiskStep w1 d s F w') : DiskStep w0 d s F w' := by
  obtain ⟨F', a, b, c⟩ := h
  refine ⟨F', a, (hu.mono (fun k _ e => e.elim)).trans b (fun _ _ h => h), fun k hk => ?_⟩
  rcases c k hk with e | e
  · exact .inl e
  · exact .inr (Nat.le_trans hu.size e)

theorem DiskAt.alloc (h : DiskAt w d s F) (o : Obj) : DiskAt (w.alloc o) d s F := h.upd ((Upd.refl NoF w).alloc o) (fun _ _ h => h)


theorem truncate_spec (h : DiskAt w d s F) (nm : List UInt8) (hm : nm.length ≤ maxLen) (size : Int) (h0 : -9223372036854775808 ≤ size) (h1 : size ≤ 9223372036854775807) :
    Calls Try.prog 48 #[ptrV d, strV nm, .int .i64 size] w (ErrPost w d F (sTruncate s nm size)) := by
  have hlt : ∀ {k}, F k → k < w.heap.size := fun hk => h.lt hk
  have C : Calls Try.prog 40 #[ptrV d, strV nm, .func (.func 70) #[] #[ptrV w.heap.size]] (w.alloc (.cells #[.int .i64 size] 3)) (ErrPost (w.alloc (.cells #[.int .i64 size] 3)) d F (sTruncate s nm size)) := by
    refine change_spec (h.alloc _) nm hm 70 #[ptrV w.heap.size] _ (call_truncate1 _) ?_
    rintro mb L r w1 hd rfl hs hr rfl hu
    have hb : Blk w1 w.heap.size 3 #[.int .i64 size] := hu.blk (Blk.new w _ _) (fun e => by have := hlt (.inl rfl : foot d mb L d); omega)
    refine (truncate_turn hd hr w.heap.size size hb h0 h1).mono ?_
    rintro e w' ⟨rfl, ht⟩
    rw [hs]
    exact ⟨rfl, ht.step hd hr hu⟩
  have H := Lib.hid C
  clear C h hm hlt h0 h1
  go_enter Try.func48, Try.ntmps48
  go_wp2_with (go_at_call 40; refine H.out.mono ?_; rintro e w' ⟨rfl, hs⟩)
  go_ret
  exact ⟨rfl, hs.after ((Upd.refl NoF w).alloc _)⟩

theorem remove_spec (h : DiskAt w d s F) (nm : List UInt8) (hm : nm.length ≤ maxLen) : Calls Try.prog 17 #[ptrV d, strV nm] w (ErrPost w d F (sRemove s nm)) := by
  have hlt : ∀ {k}, F k → k < w.heap.size := fun hk => h.lt hk
  have C : Calls Try.prog 40 #[ptrV d, strV nm, .func (.func 47) #[] #[ptrV w.heap.size, ptrV (w.heap.size + 1)]] ((w.alloc (.cells #[ptrV d] 25)).alloc (.cells #[strV nm] 9))
      (ErrPost ((w.alloc (.cells #[ptrV d] 25)).alloc (.cells #[strV nm] 9)) d F (sRemove s nm)) := by
    refine change_spec ((h.alloc _).alloc _) nm hm 47 _ _ (call_remove1 _ _) ?_
    rintro mb L r w1 hd rfl hs hr rfl hu
    have hdl := hlt (.inl rfl : foot d mb L d)
    have hb : Blk w1 w.heap.size 25 #[ptrV d] := hu.blk ((Blk.new w _ _).alloc _) (fun e => by omega)
    have hb2 : Blk w1 (w.heap.size + 1) 9 #[strV r.nm] := hu.blk (by simpa using Blk.new (w.alloc (.cells #[ptrV d] 25)) 9 #[strV r.nm]) (fun e => by omega)
    refine (remove1 (ptrV r.fb) _ _ r.nm w1 hd hb hb2 hm).mono ?_
    rintro e w' ⟨rfl, ht, hu2⟩
    rw [hs]
    refine ⟨rfl, _, ⟨mb, _, hd.drop r.nm hu2 ht, (absL_delR _ _).symm, rfl⟩, ?_, fun k hk => .inl (foot_delR r.nm hk)⟩
    exact (hu.mono (fun k _ e => .inl e)).trans hu2 (fun k _ e => .inr (.inl e))
  have H := Lib.hid C
  clear C h hm hlt
  go_enter Try.func17, Try.ntmps17
  go_wp2_with (go_at_call 40; refine H.out.mono ?_; rintro e w' ⟨rfl, hs⟩)
  go_ret
  exact ⟨rfl, hs.after (((Upd.refl NoF w).alloc _).alloc _)⟩

theorem rename_spec (h : DiskAt w d s F) (nm to : List UInt8) (hm : nm.length ≤ maxLen) (hto : to.length ≤ maxLen) (hL : s.fs.length < maxLen) : Calls Try.prog 49 #[ptrV d, strV nm, strV to] w (ErrPost w d F (sRename s nm to)) := by
  have hlt : ∀ {k}, F k → k < w.heap.size := fun hk => h.lt hk
  cases hne : to.isEmpty with
  | true =>
    have ht : to = [] := by simpa using hne
    subst ht
    have D := Lib.hid h
    clear h hlt
    go_enter Try.func49, Try.ntmps49
    go_wp2
    go_ret
    exact ⟨rfl, (DiskStep.refl (((D.out.alloc _).alloc _).alloc _)).after ((((Upd.refl NoF w).alloc _).alloc _).alloc _)⟩
  | false =>
    have hto' : to ≠ [] := by intro e; rw [e] at hne; cases hne
    have C : Calls Try.prog 40 #[ptrV d, strV nm, .func (.func 71) #[] #[ptrV w.heap.size, ptrV (w.heap.size + 1), ptrV (w.heap.size + 1 + 1)]] (((w.alloc (.cells #[ptrV d] 25)).alloc (.cells #[strV nm] 9)).alloc (.cells #[strV to] 9))
        (ErrPost (((w.alloc (.cells #[ptrV d] 25)).alloc (.cells #[strV nm] 9)).alloc (.cells #[strV to] 9)) d F (sRename s nm to)) := by
      unfold sRename
      rw [if_neg hto']
      refine change_spec (((h.alloc _).alloc _).alloc _) nm hm 71 _ _ (call_rename1 _ _ _) ?_
      rintro mb L r w1 hd rfl hs hr rfl hu
      have hdl := hlt (.inl rfl : foot d mb L d)
      have hb : Blk w1 w.heap.size 25 #[ptrV d] := hu.blk (((Blk.new w _ _).alloc _).alloc _) (fun e => by omega)
      have hb2 : Blk w1 (w.heap.size + 1) 9 #[strV r.nm] := hu.blk (Blk.alloc (by simpa using Blk.new (w.alloc (.cells #[ptrV d] 25)) 9 #[strV r.nm]) _) (fun e => by omega)
      have hb3 : Blk w1 (w.heap.size + 1 + 1) 9 #[strV to] := hu.blk (by simpa using Blk.new ((w.alloc (.cells #[ptrV d] 25)).alloc (.cells #[strV r.nm] 9)) 9 #[strV to]) (fun e => by omega)
      refine (rename1 r _ _ _ r.nm to w1 hd hb hb2 hb3 hm hto (by rw [hs] at hL; simpa [absL] using hL)).mono ?_
      rintro e w' ⟨rfl, ht, hu2⟩
      rw [hs]
      refine ⟨rfl, _, ⟨mb, _, hd.move hr to hto hu2 ht, ?_, rfl⟩, ?_, fun k hk => .inl (foot_move hr to hk)⟩
      · rw [absL_insR, absL_delR, absL_delR]; rfl
      · exact (hu.mono (fun k _ e => .inl e)).trans hu2 (fun k _ e => .inr (.inl e))
    have H := Lib.hid C
    clear C h hm hlt hto' hto hL
    go_enter Try.func49, Try.ntmps49
    go_wp2_with (go_at_call 40; refine H.out.mono ?_; rintro e w' ⟨rfl, hs⟩)
    go_ret
    exact ⟨rfl, hs.after ((((Upd.refl NoF w).alloc _).alloc _).alloc _)⟩

theorem arm_spec (h : DiskAt w d s F) (n : Int) (h0 : -9223372036854775808 ≤ n) (h1 : n ≤ 9223372036854775807) :
    Calls Try.prog 16 #[ptrV d, .int .i64 n] w fun e w' => e = .returned (.tuple #[]) ∧ DiskStep w d (sArm s n) F w' := by
  obtain ⟨mb, L, hd, hs, rfl⟩ := h
  refine (arm_any hd n h0 h1).mono ?_
  rintro e w' ⟨rfl, h2, h3⟩
  exact ⟨rfl, _, ⟨mb, L, h2, hs, rfl⟩, h3.mono (fun k _ e => .inl e), fun k hk => .inl hk⟩

theorem off_spec (h : DiskAt w d s F) : Calls Try.prog 18 #[ptrV d] w fun e w' => e = .returned (.bool s.off) ∧ w = w' := by
  obtain ⟨mb, L, hd, hs, rfl⟩ := h
  exact off_any hd

theorem new_spec (w : World) : Calls Try.prog 11 #[] w fun e w' => e = .returned (ptrV (w.heap.size + 1)) ∧ DiskStep w (w.heap.size + 1) sNew NoF w' := by
  refine (new_any w).mono ?_
  rintro e w' ⟨rfl, h1, h2⟩
  refine ⟨rfl, _, ⟨w.heap.size, [], h1, rfl, rfl⟩, h2, ?_⟩
  rintro k (rfl | rfl | ⟨r, hr, _⟩)
  · exact .inr (by omega)
  · exact .inr (Nat.le_refl _)
  · cases hr

/-- What Read returns: new memory. -/
def BytesErr (w : World) (r : List UInt8 × Int) (e : Ending) (w' : World) : Prop := ∃ A c, e = retPE (.slice A r.1.length c) r.2 ∧ NewB w r.1 (.slice A r.1.length c) w'

theorem NewB.nil (w : World) : NewB w [] (.slice none 0 0) w := ⟨Own.nil _ _ _, fun k hk => by simp [OwnB, Value.ownBlock] at hk, Upd.refl _ _⟩

theorem read_spec (h : DiskAt w d s F) (nm : List UInt8) (hm : nm.length ≤ maxLen) : Calls Try.prog 15 #[ptrV d, strV nm] w (BytesErr w (sRead s nm)) := by
  obtain ⟨fs, off, armed, left⟩ := s
  obtain ⟨mb, L, h1, h2, rfl⟩ := h
  simp only at h1 h2
  subst h2
  cases nm with
  | nil =>
    refine (read_arg d w).mono ?_
    rintro e w' ⟨rfl, rfl⟩
    exact ⟨none, 0, by simp [sRead], by simpa [sRead] using NewB.nil w⟩
  | cons c0 nm0 =>
    generalize hq : c0 :: nm0 = nm at *
    have hne : nm ≠ [] := by rw [← hq]; simp
    have hn : nm.isEmpty = false := by rw [← hq]; rfl
    clear hq
    cases off with
    | true =>
      refine (read_off h1 nm hn).mono ?_
      rintro e w' ⟨rfl, rfl⟩
      exact ⟨none, 0, by simp [sRead, hne], by simpa [sRead, hne] using NewB.nil w⟩
    | false =>
      cases hf : L.find? (fun r => r.nm == nm) with
      | none =>
        have hg : getF (absL L) nm = none := by rw [getF_absL, hf]; rfl
        refine (read_no h1 nm hn hm hf).mono ?_
        rintro e w' ⟨rfl, rfl⟩
        exact ⟨none, 0, by simp [sRead, hne, hg], by simpa [sRead, hne, hg] using NewB.nil w⟩
      | some r =>
        have hg : getF (absL L) nm = some ⟨r.c, r.dur⟩ := by rw [getF_absL, hf]; rfl
        refine (read_yes h1 nm hn hm r hf).mono ?_
        rintro e w' ⟨A, c, rfl, hnew⟩
        exact ⟨A, c, by simp [sRead, hne, hg], by simpa [sRead, hne, hg] using hnew⟩
end
end Go.Proofs.Ytmapijpphnlcmaa
