/- New, Off, Arm, Read, Append of package disk; bytes.Clone. No condition. -/
import Derived.Test.YtmapijpphnlcmaaDisk2
namespace Go.Proofs.Ytmapijpphnlcmaa
open Go.RowKit Go.Maps

theorem byte_info : (Try.prog.info? 5).map (fun i => (i.zero, i.size, i.bytes)) = some (some (.int .u8 0), 1, 1) := by kernel_rfl

/-- A new slice of bytes. -/
def NewB (w : World) (bs : List UInt8) (v : Value) (w' : World) : Prop :=
  Own w' 5 1 v bs.length (bs.map byteV) ∧ (∀ k, OwnB v k → w.heap.size ≤ k) ∧ Upd NoF w w'

theorem own_of_ownsRow {w : World} {base : Nat} {e : TypeId} {size n : Nat} {v : Value} {xs : List Value} (h : w.ownsRow base e size v n xs) : Own w e size v n xs ∧ ∀ k, OwnB v k → base ≤ k := by
  refine ⟨⟨h.1, ?_⟩, fun k hk => ?_⟩
  · rcases h.2 with h | ⟨g, cap, cur, rfl, _, hg, h1, h2, h3, h4⟩
    · exact .inl h
    · exact .inr ⟨g, cap, cur, rfl, hg, h1, h2, Nat.le_of_eq h3.symm, h4⟩
  · exact (h.lt k hk).1

def ClonePost (w : World) (bs : List UInt8) (e : Ending) (w' : World) : Prop := ∃ A c, e = .returned (.slice A bs.length c) ∧ NewB w bs (.slice A bs.length c) w'

theorem clone_any (v : Value) (bs : List UInt8) (w : World) (h : Rd w 1 v bs.length (bs.map byteV)) (hl : bs.length ≤ 140737488355328) : Calls Try.prog 46 #[v] w (ClonePost w bs) := by
  obtain ⟨A, c, rfl, hn, hc, hlen, hA⟩ := h
  cases A with
  | none =>
    have h0 : bs = [] := by
      cases bs with
      | nil => rfl
      | cons b l =>
        obtain ⟨g, o, h, _⟩ := hA (by simp)
        cases h
    subst h0
    refine (Try.bytes_Clone_nil 0 c w).mono ?_
    rintro e w' ⟨rfl, rfl⟩
    exact ⟨none, 0, rfl, Own.nil _ _ _, fun k hk => by simp [OwnB, Value.ownBlock] at hk, Upd.refl _ _⟩
  | some a =>
    refine (Try.bytes_Clone_at a bs.length c (bs.map fun b => (b.toNat : Int)) w (by simp) hl ?_).mono ?_
    · intro i hi
      obtain ⟨g, o, ha, hcell⟩ := hA (by omega)
      injection ha with ha
      subst ha
      have hadd : (⟨g, o, none⟩ : Addr).add i = ⟨g, o + i, none⟩ := by unfold Addr.add; split <;> simp_all
      rw [hadd, hcell i (byteV bs[i]) (by simp [hi])]
      simp [hi]
    · rintro e w' ⟨v', rfl, hrow, _, hb⟩
      obtain ⟨h1, h2⟩ := own_of_ownsRow hrow
      obtain ⟨A', c', rfl⟩ := h1.form
      refine ⟨A', c', rfl, ?_, h2, Upd.of_below hb (fun i hi h => by omega)⟩
      have : (bs.map fun b => (b.toNat : Int)).map (Value.int .u8) = bs.map byteV := by simp [byteV]
      rw [← this]
      exact h1

theorem new_any (w : World) : Calls Try.prog 11 #[] w fun e w' => e = .returned (ptrV (w.heap.size + 1)) ∧ DiskL w' (w.heap.size + 1) w.heap.size false false 0 [] ∧ Upd NoF w w' := by
  have hmm := @run_makeMap Try.prog
  go_enter Try.func11, Try.ntmps11
  go_wp2
  go_ret
  refine ⟨by simp, ?_, ((Upd.refl _ _).alloc _).alloc _⟩
  refine { head := by simpa using Blk.new (w.alloc (.map #[] 0)) 73 _, files := ?_, file := by simp, own := by simp, dur := by simp, nm := by simp, fbs := .nil, gs := .nil, lft := by simp, len := by simp }
  exact (World.ownsMap_made w Try.prog 9 fileR).alloc _

section
variable {w : World} {d mb : Nat} {off armed : Bool} {left : Nat} {L : List FRec}

theorem off_nil (w : World) : Calls Try.prog 18 #[.pointer none] w fun e w' => e = .returned (.bool true) ∧ w = w' := by
  go_enter Try.func18, Try.ntmps18
  go_wp2
  go_ret
  exact ⟨rfl, rfl⟩
theorem off_any (h : DiskL w d mb off armed left L) : Calls Try.prog 18 #[ptrV d] w fun e w' => e = .returned (.bool off) ∧ w = w' := by
  have h1 : w.cell? ⟨d, 1, none⟩ = some (.bool off) := h.head.cell 1
  clear h
  go_enter Try.func18, Try.ntmps18
  go_wp2
  go_ret
  exact ⟨rfl, rfl⟩

theorem arm_any (h : DiskL w d mb off armed left L) (n : Int) (h0 : -9223372036854775808 ≤ n) (h1 : n ≤ 9223372036854775807) :
    Calls Try.prog 16 #[ptrV d, .int .i64 n] w fun e w' => e = .returned (.tuple #[]) ∧ DiskL w' d mb off true n.toNat L ∧ Upd (fun k => k = d) w w' := by
  have c2 : w.cell? ⟨d, 2, none⟩ = some (.bool armed) := h.head.cell 2
  have c3 : w.cell? ⟨d, 3, none⟩ = some (.int .i64 left) := h.head.cell 3
  have f2 : w.frozen? ⟨d, 2, none⟩ = false := h.head.frozen 2
  have f3 : w.frozen? ⟨d, 3, none⟩ = false := h.head.frozen 3
  have fin : DiskL ((w.setCell ⟨d, 2, none⟩ (.bool true)).setCell ⟨d, 3, none⟩ (.int .i64 (n.toNat : Int))) d mb off true n.toNat L ∧ Upd (fun k => k = d) w ((w.setCell ⟨d, 2, none⟩ (.bool true)).setCell ⟨d, 3, none⟩ (.int .i64 (n.toNat : Int))) := by
    have hu : Upd (fun k => k = d) w ((w.setCell ⟨d, 2, none⟩ (.bool true)).setCell ⟨d, 3, none⟩ (.int .i64 (n.toNat : Int))) :=
      ((Upd.refl (fun k => k = d) w).setCell (p := ⟨d, 2, none⟩) (.inl rfl) _).setCell (p := ⟨d, 3, none⟩) (.inl rfl) _
    exact ⟨h.top hu ((h.head.put 2 _).put 3 _) (by omega), hu⟩
  have F := Lib.hid fin
  clear h fin
  go_enter Try.func16, Try.ntmps16
  go_wp2
  go_end0
  rw [show max n 0 = ((n.toNat : Nat) : Int) by omega]
  exact ⟨rfl, F.out⟩

theorem read_nil (s : ByteArray) (w : World) : Calls Try.prog 15 #[.pointer none, .string s] w fun e w' => e = retPE (.slice none 0 0) 1 ∧ w = w' := by
  go_enter Try.func15, Try.ntmps15
  go_wp2_with (go_at_call 45; refine (existing_nil _ _).mono ?_; rintro e w' ⟨rfl, rfl⟩)
  go_ret2
  exact ⟨rfl, rfl⟩
theorem read_arg (d : Nat) (w : World) : Calls Try.prog 15 #[ptrV d, strV []] w fun e w' => e = retPE (.slice none 0 0) 1 ∧ w = w' := by
  go_enter Try.func15, Try.ntmps15
  go_wp2_with (go_at_call 45; refine (existing_arg _ _).mono ?_; rintro e w' ⟨rfl, rfl⟩)
  go_ret2
  exact ⟨rfl, rfl⟩
theorem read_off (h : DiskL w d mb true armed left L) (nm : List UInt8) (hn : nm.isEmpty = false) : Calls Try.prog 15 #[ptrV d, strV nm] w fun e w' => e = retPE (.slice none 0 0) 103 ∧ w = w' := by
  have H := Lib.hid h
  clear h
  go_enter Try.func15, Try.ntmps15
  go_wp2_with (go_at_call 45; refine (existing_off H.out _ hn).mono ?_; rintro e w' ⟨rfl, rfl⟩)
  go_ret2
  exact ⟨rfl, rfl⟩
theorem read_no (h : DiskL w d mb false armed left L) (nm : List UInt8) (hn : nm.isEmpty = false) (hm : nm.length ≤ maxLen) (hf : L.find? (fun r => r.nm == nm) = none) :
    Calls Try.prog 15 #[ptrV d, strV nm] w fun e w' => e = retPE (.slice none 0 0) 6 ∧ w = w' := by
  have H := Lib.hid (existing_no h nm hn hm hf)
  clear h hf
  go_enter Try.func15, Try.ntmps15
  go_wp2_with (go_at_call 45; refine H.out.mono ?_; rintro e w' ⟨rfl, rfl⟩)
  go_ret2
  exact ⟨rfl, rfl⟩
/-- A file's content as it is read: new memory. -/
def ReadPost (w : World) (bs : List UInt8) (e : Ending) (w' : World) : Prop := ∃ A c, e = retPE (.slice A bs.length c) 0 ∧ NewB w bs (.slice A bs.length c) w'
theorem read_yes (h : DiskL w d mb false armed left L) (nm : List UInt8) (hn : nm.isEmpty = false) (hm : nm.length ≤ maxLen) (r : FRec) (hf : L.find? (fun r => r.nm == nm) = some r) :
    Calls Try.prog 15 #[ptrV d, strV nm] w (ReadPost w r.c) := by
  have hr : r ∈ L := List.mem_of_find?_eq_some hf
  have H := Lib.hid (existing_yes h nm hn hm r hf)
  have c0 : w.cell? ⟨r.fb, 0, none⟩ = some r.cv := (h.file r hr).cell 0
  have C := Lib.hid (clone_any r.cv r.c w (h.own r hr).rd (by have := h.len r hr; omega))
  clear h hf hr
  go_enter Try.func15, Try.ntmps15
  go_wp2_with (first | (go_at_call 45; refine H.out.mono ?_; rintro e w' ⟨rfl, rfl⟩) | (go_at_call 46; refine C.out.mono ?_; rintro e w' ⟨A, c, rfl, hnew⟩))
  go_ret2
  exact ⟨A, c, rfl, hnew⟩
end
end Go.Proofs.Ytmapijpphnlcmaa
