/- The small functions of package disk: write, open, existing. No condition. -/
import Derived.Test.YtmapijpphnlcmaaDisk
import Derived.Outline
namespace Go.Proofs.Ytmapijpphnlcmaa
open Go.RowKit Go.Maps

abbrev retPE (v : Value) (e : Int) : Ending := .returned (.tuple #[v, .int .i64 e])

theorem strV_empty : strV [] = .string ⟨#[]⟩ := rfl

theorem write_on (d : Nat) (m : Value) (o : Bool) (l : Int) (w : World) (h : Blk w d 73 #[m, .bool o, .bool false, .int .i64 l]) :
    Calls Try.prog 43 #[ptrV d] w fun e w' => e = .returned (.bool true) ∧ w = w' := by
  have h2 : w.cell? ⟨d, 2, none⟩ = some (.bool false) := h.cell 2
  clear h
  unfold ptrV
  go_enter Try.func43, Try.ntmps43
  go_wp2
  go_ret
  exact ⟨rfl, rfl⟩

theorem write_out (d : Nat) (m : Value) (o : Bool) (w : World) (h : Blk w d 73 #[m, .bool o, .bool true, .int .i64 0]) :
    Calls Try.prog 43 #[ptrV d] w fun e w' => e = .returned (.bool false) ∧ w.setCell ⟨d, 1, none⟩ (.bool true) = w' := by
  have h1 : w.cell? ⟨d, 1, none⟩ = some (.bool o) := h.cell 1
  have h2 : w.cell? ⟨d, 2, none⟩ = some (.bool true) := h.cell 2
  have h3 : w.cell? ⟨d, 3, none⟩ = some (.int .i64 0) := h.cell 3
  have f1 : w.frozen? ⟨d, 1, none⟩ = false := h.frozen 1
  clear h
  unfold ptrV
  go_enter Try.func43, Try.ntmps43
  go_wp2
  go_ret
  exact ⟨rfl, rfl⟩

theorem write_down (d : Nat) (m : Value) (o : Bool) (l : Nat) (w : World) (h : Blk w d 73 #[m, .bool o, .bool true, .int .i64 l]) (hl : 0 < l) (hm : l ≤ 9223372036854775807) :
    Calls Try.prog 43 #[ptrV d] w fun e w' => e = .returned (.bool true) ∧ w.setCell ⟨d, 3, none⟩ (.int .i64 ((l - 1 : Nat) : Int)) = w' := by
  obtain ⟨k, rfl⟩ : ∃ k, l = k + 1 := ⟨l - 1, by omega⟩
  have h2 : w.cell? ⟨d, 2, none⟩ = some (.bool true) := h.cell 2
  have h3 : w.cell? ⟨d, 3, none⟩ = some (.int .i64 ((k : Int) + 1)) := by simpa using h.cell 3
  have f3 : w.frozen? ⟨d, 3, none⟩ = false := h.frozen 3
  have hne : (((k : Int) + 1) == 0) = false := by simp; omega
  clear h
  unfold ptrV
  go_enter Try.func43, Try.ntmps43
  go_wp2
  go_ret
  refine ⟨rfl, ?_⟩
  simp

section
variable {w : World} {d mb : Nat} {off armed : Bool} {left : Nat} {L : List FRec}

theorem open_arg (v : Value) (w : World) (hv : v = .pointer none ∨ ∃ d, v = ptrV d) : Calls Try.prog 42 #[v, strV []] w fun e w' => e = retPE (.pointer none) 1 ∧ w = w' := by
  rw [strV_empty]
  rcases hv with rfl | ⟨d, rfl⟩
  · go_enter Try.func42, Try.ntmps42
    go_wp2
    go_ret2
    exact ⟨rfl, rfl⟩
  · unfold ptrV
    go_enter Try.func42, Try.ntmps42
    go_wp2
    go_ret2
    exact ⟨rfl, rfl⟩

theorem open_nil (s : ByteArray) (w : World) : Calls Try.prog 42 #[.pointer none, .string s] w fun e w' => e = retPE (.pointer none) 1 ∧ w = w' := by
  go_enter Try.func42, Try.ntmps42
  go_wp2
  go_ret2
  exact ⟨rfl, rfl⟩

theorem open_off (h : DiskL w d mb true armed left L) (nm : List UInt8) (hn : nm.isEmpty = false) : Calls Try.prog 42 #[ptrV d, strV nm] w fun e w' => e = retPE (.pointer none) 103 ∧ w = w' := by
  have h1 : w.cell? ⟨d, 1, none⟩ = some (.bool true) := h.head.cell 1
  clear h
  go_enter Try.func42, Try.ntmps42
  go_wp2
  go_ret2
  exact ⟨rfl, rfl⟩

/-- What the map holds under a name. -/
def atV (L : List FRec) (nm : List UInt8) : Value := match L.find? (fun r => r.nm == nm) with | some r => ptrV r.fb | none => .pointer none

theorem open_on (h : DiskL w d mb false armed left L) (nm : List UInt8) (hn : nm.isEmpty = false) (hm : nm.length ≤ maxLen) : Calls Try.prog 42 #[ptrV d, strV nm] w fun e w' => e = retPE (atV L nm) 0 ∧ w = w' := by
  have h0 : w.cell? ⟨d, 0, none⟩ = some (.map (some mb)) := h.head.cell 0
  have h1 : w.cell? ⟨d, 1, none⟩ = some (.bool false) := h.head.cell 1
  have hl : (Instr.lookup 71 (.map (some mb)) (strV nm) false).run Try.prog w = .ok (atV L nm) w := h.look hm
  clear h
  go_enter Try.func42, Try.ntmps42
  go_wp2
  go_ret2
  exact ⟨rfl, rfl⟩

theorem existing_nil (s : ByteArray) (w : World) : Calls Try.prog 45 #[.pointer none, .string s] w fun e w' => e = retPE (.pointer none) 1 ∧ w = w' := by
  go_enter Try.func45, Try.ntmps45
  go_wp2_with (go_at_call 42; refine (open_nil _ _).mono ?_; rintro e w' ⟨rfl, rfl⟩)
  go_ret2
  exact ⟨rfl, rfl⟩

theorem existing_arg (d : Nat) (w : World) : Calls Try.prog 45 #[ptrV d, strV []] w fun e w' => e = retPE (.pointer none) 1 ∧ w = w' := by
  go_enter Try.func45, Try.ntmps45
  go_wp2_with (go_at_call 42; refine (open_arg _ _ (.inr ⟨d, rfl⟩)).mono ?_; rintro e w' ⟨rfl, rfl⟩)
  go_ret2
  exact ⟨rfl, rfl⟩

theorem existing_off (h : DiskL w d mb true armed left L) (nm : List UInt8) (hn : nm.isEmpty = false) : Calls Try.prog 45 #[ptrV d, strV nm] w fun e w' => e = retPE (.pointer none) 103 ∧ w = w' := by
  have H := Lib.hid h
  clear h
  go_enter Try.func45, Try.ntmps45
  go_wp2_with (go_at_call 42; refine (open_off H.out _ hn).mono ?_; rintro e w' ⟨rfl, rfl⟩)
  go_ret2
  exact ⟨rfl, rfl⟩

theorem existing_no (h : DiskL w d mb false armed left L) (nm : List UInt8) (hn : nm.isEmpty = false) (hm : nm.length ≤ maxLen) (hf : L.find? (fun r => r.nm == nm) = none) :
    Calls Try.prog 45 #[ptrV d, strV nm] w fun e w' => e = retPE (.pointer none) 6 ∧ w = w' := by
  have ho : Calls Try.prog 42 #[ptrV d, strV nm] w fun e w' => e = retPE (.pointer none) 0 ∧ w = w' := by
    have := open_on h nm hn hm
    unfold atV at this
    rwa [hf] at this
  have H := Lib.hid ho
  clear h ho hf
  go_enter Try.func45, Try.ntmps45
  go_wp2_with (go_at_call 42; refine H.out.mono ?_; rintro e w' ⟨rfl, rfl⟩)
  go_ret2
  exact ⟨rfl, rfl⟩

theorem existing_yes (h : DiskL w d mb false armed left L) (nm : List UInt8) (hn : nm.isEmpty = false) (hm : nm.length ≤ maxLen) (r : FRec) (hf : L.find? (fun r => r.nm == nm) = some r) :
    Calls Try.prog 45 #[ptrV d, strV nm] w fun e w' => e = retPE (ptrV r.fb) 0 ∧ w = w' := by
  have ho : Calls Try.prog 42 #[ptrV d, strV nm] w fun e w' => e = retPE (ptrV r.fb) 0 ∧ w = w' := by
    have := open_on h nm hn hm
    unfold atV at this
    rwa [hf] at this
  have H := Lib.hid ho
  clear h ho hf
  go_enter Try.func45, Try.ntmps45
  go_wp2_with (go_at_call 42; refine H.out.mono ?_; rintro e w' ⟨rfl, rfl⟩)
  go_ret2
  exact ⟨rfl, rfl⟩
end
end Go.Proofs.Ytmapijpphnlcmaa
