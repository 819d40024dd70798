/- change of package disk, for whatever closure. No condition. -/
import Derived.Test.YtmapijpphnlcmaaDisk5
namespace Go.Proofs.Ytmapijpphnlcmaa
open Go.RowKit Go.Maps

section
variable {w : World} {d mb : Nat} {off armed : Bool} {left : Nat} {L : List FRec}

theorem change_nil (s : ByteArray) (v : Value) (w : World) : Calls Try.prog 40 #[.pointer none, .string s, v] w fun e w' => e = retE 1 ∧ w = w' := by
  go_enter Try.func40, Try.ntmps40
  go_wp2_with (go_at_call 45; refine (existing_nil _ _).mono ?_; rintro e w' ⟨rfl, rfl⟩)
  go_ret
  exact ⟨rfl, rfl⟩
theorem change_arg (d : Nat) (v : Value) (w : World) : Calls Try.prog 40 #[ptrV d, strV [], v] w fun e w' => e = retE 1 ∧ w = w' := by
  go_enter Try.func40, Try.ntmps40
  go_wp2_with (go_at_call 45; refine (existing_arg _ _).mono ?_; rintro e w' ⟨rfl, rfl⟩)
  go_ret
  exact ⟨rfl, rfl⟩
theorem change_off (h : DiskL w d mb true armed left L) (nm : List UInt8) (hn : nm.isEmpty = false) (v : Value) : Calls Try.prog 40 #[ptrV d, strV nm, v] w fun e w' => e = retE 103 ∧ w = w' := by
  have H := Lib.hid h
  clear h
  go_enter Try.func40, Try.ntmps40
  go_wp2_with (go_at_call 45; refine (existing_off H.out _ hn).mono ?_; rintro e w' ⟨rfl, rfl⟩)
  go_ret
  exact ⟨rfl, rfl⟩
theorem change_no (h : DiskL w d mb false armed left L) (nm : List UInt8) (hn : nm.isEmpty = false) (hm : nm.length ≤ maxLen) (hf : L.find? (fun r => r.nm == nm) = none) (v : Value) :
    Calls Try.prog 40 #[ptrV d, strV nm, v] w fun e w' => e = retE 6 ∧ w = w' := by
  have H := Lib.hid (existing_no h nm hn hm hf)
  clear h hf
  go_enter Try.func40, Try.ntmps40
  go_wp2_with (go_at_call 45; refine H.out.mono ?_; rintro e w' ⟨rfl, rfl⟩)
  go_ret
  exact ⟨rfl, rfl⟩
theorem change_out (h : DiskL w d mb false armed left L) (nm : List UInt8) (hn : nm.isEmpty = false) (hm : nm.length ≤ maxLen) (r : FRec) (hf : L.find? (fun r => r.nm == nm) = some r) (v : Value) (hwb : wrB armed left = false) :
    Calls Try.prog 40 #[ptrV d, strV nm, v] w fun e w' => e = retE 103 ∧ DiskL w' d mb true armed (wrL armed left) L ∧ Upd (fun k => k = d) w w' := by
  have H := Lib.hid (existing_yes h nm hn hm r hf)
  have D := Lib.hid h
  clear h hf
  go_enter Try.func40, Try.ntmps40
  go_wp2_with (first
    | (go_at_call 45; refine H.out.mono ?_; rintro e w' ⟨rfl, rfl⟩)
    | (go_at_call 43; refine (write_any D.out).mono ?_; rintro e w' ⟨rfl, hd2, hu2⟩; have hD2 := Lib.hid hd2; have hU2 := Lib.hid hu2; clear hd2 hu2))
  go_ret
  refine ⟨rfl, ?_, hU2.out⟩
  have := hD2.out
  rw [hwb] at this
  simpa using this

set_option maxRecDepth 100000 in
/-- The closure is called on the file. -/
theorem change_yes (h : DiskL w d mb false armed left L) (nm : List UInt8) (hn : nm.isEmpty = false) (hm : nm.length ≤ maxLen) (r : FRec) (hf : L.find? (fun r => r.nm == nm) = some r) (hwb : wrB armed left = true)
    (g : FuncId) (caps : Array Value) (Q : World → Prop) (hg : ∀ W : World, (callFunc g (#[ptrV r.fb] ++ caps)).run Try.prog W = .ok (.enter g (#[ptrV r.fb] ++ caps)) W)
    (hdo : ∀ w1, DiskL w1 d mb false armed (wrL armed left) L → Upd (fun k => k = d) w w1 → Calls Try.prog g (#[ptrV r.fb] ++ caps) w1 fun e w' => e = .returned (.tuple #[]) ∧ Q w') :
    Calls Try.prog 40 #[ptrV d, strV nm, .func (.func g) #[] caps] w fun e w' => e = retE 0 ∧ Q w' := by
  have H := Lib.hid (existing_yes h nm hn hm r hf)
  have D := Lib.hid h
  have DO := Lib.hid hdo
  clear h hf hdo
  go_enter Try.func40, Try.ntmps40
  go_wp2_with (first
    | (go_at_call 45; refine H.out.mono ?_; rintro e w' ⟨rfl, rfl⟩)
    | (go_at_call 43; refine (write_any D.out).mono ?_; rintro e w' ⟨rfl, hd2, hu2⟩; rw [hwb] at hd2; have hD2 := Lib.hid hd2; have hU2 := Lib.hid hu2; clear hd2 hu2))
  refine (DO.out _ (by simpa using hD2.out) hU2.out).mono ?_
  rintro e w2 ⟨rfl, hQ⟩
  go_wp2
  go_ret
  exact ⟨rfl, hQ⟩
end
end Go.Proofs.Ytmapijpphnlcmaa
