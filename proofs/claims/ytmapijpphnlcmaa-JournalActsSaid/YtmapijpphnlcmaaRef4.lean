/- The reference disk: what goes wrong. No condition. -/
import Derived.Test.YtmapijpphnlcmaaRef3
namespace Go.Proofs.Ytmapijpphnlcmaa
open Go.RowKit Go.Maps

section
variable {w : World} {m : Nat} {off armed : Bool} {left : Nat} {lv : Value} {R : List RRec}
set_option maxRecDepth 100000 in
theorem rsync_arg (m : Nat) (w : World) : Calls Try.prog 51 #[ptrV m, strV []] w fun e w' => e = retE 1 ∧ w = w' := by
  go_enter Try.func51, Try.ntmps51
  go_wp2
  go_ret
  exact ⟨rfl, rfl⟩
set_option maxRecDepth 100000 in
theorem rsync_off (h : RefL w m true armed left lv R) (nm : List UInt8) (hn : nm.isEmpty = false) : Calls Try.prog 51 #[ptrV m, strV nm] w fun e w' => e = retE 103 ∧ w = w' := by
  have c3 : w.cell? ⟨m, 3, none⟩ = some (.bool true) := h.head.cell 3
  clear h
  go_enter Try.func51, Try.ntmps51
  go_wp2
  go_ret
  exact ⟨rfl, rfl⟩
set_option maxRecDepth 100000 in
theorem rsync_no (h : RefL w m false armed left lv R) (nm : List UInt8) (hn : nm.isEmpty = false) (hi : idxR R nm = -1) : Calls Try.prog 51 #[ptrV m, strV nm] w fun e w' => e = retE 6 ∧ w = w' := by
  have c3 : w.cell? ⟨m, 3, none⟩ = some (.bool false) := h.head.cell 3
  have FI := find_any h nm
  rw [hi] at FI
  have HF := Lib.hid FI
  clear h FI hi
  go_enter Try.func51, Try.ntmps51
  go_wp2_with (go_at_call 54; refine HF.out.mono ?_; rintro e w' ⟨rfl, rfl⟩)
  go_ret
  exact ⟨rfl, rfl⟩
set_option maxRecDepth 100000 in
theorem rsync_out (h : RefL w m false armed left lv R) (nm : List UInt8) (hn : nm.isEmpty = false) (i : Nat) (hi : idxR R nm = i) (hwb : wrB armed left = false) : Calls Try.prog 51 #[ptrV m, strV nm] w fun e w' => e = retE 103 ∧ RefL w' m true armed (wrL armed left) lv R ∧ Upd (fun k => k = m) w w' := by
  have c3 : w.cell? ⟨m, 3, none⟩ = some (.bool false) := h.head.cell 3
  have FI := find_any h nm
  rw [hi] at FI
  have HF := Lib.hid FI
  have FA := fails_any h
  rw [hwb] at FA
  have HA := Lib.hid FA
  clear h FI FA hi hwb
  go_enter Try.func51, Try.ntmps51
  go_wp2_with (first
    | (go_at_call 54; refine HF.out.mono ?_; rintro e w' ⟨rfl, rfl⟩)
    | (go_at_call 65; refine HA.out.mono ?_; rintro e w2 ⟨rfl, hd2, hu2⟩; have D2 := Lib.hid hd2; have U2 := Lib.hid hu2; clear hd2 hu2))
  go_ret
  exact ⟨rfl, by simpa using D2.out, U2.out⟩
set_option maxRecDepth 100000 in
theorem rtruncate_arg (m : Nat) (w : World) (z : Int) : Calls Try.prog 50 #[ptrV m, strV [], .int .i64 z] w fun e w' => e = retE 1 ∧ w = w' := by
  go_enter Try.func50, Try.ntmps50
  go_wp2
  go_ret
  exact ⟨rfl, rfl⟩
set_option maxRecDepth 100000 in
theorem rtruncate_off (h : RefL w m true armed left lv R) (nm : List UInt8) (hn : nm.isEmpty = false) (z : Int) : Calls Try.prog 50 #[ptrV m, strV nm, .int .i64 z] w fun e w' => e = retE 103 ∧ w = w' := by
  have c3 : w.cell? ⟨m, 3, none⟩ = some (.bool true) := h.head.cell 3
  clear h
  go_enter Try.func50, Try.ntmps50
  go_wp2
  go_ret
  exact ⟨rfl, rfl⟩
set_option maxRecDepth 100000 in
theorem rtruncate_no (h : RefL w m false armed left lv R) (nm : List UInt8) (hn : nm.isEmpty = false) (hi : idxR R nm = -1) (z : Int) : Calls Try.prog 50 #[ptrV m, strV nm, .int .i64 z] w fun e w' => e = retE 6 ∧ w = w' := by
  have c3 : w.cell? ⟨m, 3, none⟩ = some (.bool false) := h.head.cell 3
  have FI := find_any h nm
  rw [hi] at FI
  have HF := Lib.hid FI
  clear h FI hi
  go_enter Try.func50, Try.ntmps50
  go_wp2_with (go_at_call 54; refine HF.out.mono ?_; rintro e w' ⟨rfl, rfl⟩)
  go_ret
  exact ⟨rfl, rfl⟩
set_option maxRecDepth 100000 in
theorem rtruncate_out (h : RefL w m false armed left lv R) (nm : List UInt8) (hn : nm.isEmpty = false) (i : Nat) (hi : idxR R nm = i) (hwb : wrB armed left = false) (z : Int) : Calls Try.prog 50 #[ptrV m, strV nm, .int .i64 z] w fun e w' => e = retE 103 ∧ RefL w' m true armed (wrL armed left) lv R ∧ Upd (fun k => k = m) w w' := by
  have c3 : w.cell? ⟨m, 3, none⟩ = some (.bool false) := h.head.cell 3
  have FI := find_any h nm
  rw [hi] at FI
  have HF := Lib.hid FI
  have FA := fails_any h
  rw [hwb] at FA
  have HA := Lib.hid FA
  clear h FI FA hi hwb
  go_enter Try.func50, Try.ntmps50
  go_wp2_with (first
    | (go_at_call 54; refine HF.out.mono ?_; rintro e w' ⟨rfl, rfl⟩)
    | (go_at_call 65; refine HA.out.mono ?_; rintro e w2 ⟨rfl, hd2, hu2⟩; have D2 := Lib.hid hd2; have U2 := Lib.hid hu2; clear hd2 hu2))
  go_ret
  exact ⟨rfl, by simpa using D2.out, U2.out⟩
set_option maxRecDepth 100000 in
theorem rremove_arg (m : Nat) (w : World) : Calls Try.prog 53 #[ptrV m, strV []] w fun e w' => e = retE 1 ∧ w = w' := by
  go_enter Try.func53, Try.ntmps53
  go_wp2
  go_ret
  exact ⟨rfl, rfl⟩
set_option maxRecDepth 100000 in
theorem rremove_off (h : RefL w m true armed left lv R) (nm : List UInt8) (hn : nm.isEmpty = false) : Calls Try.prog 53 #[ptrV m, strV nm] w fun e w' => e = retE 103 ∧ w = w' := by
  have c3 : w.cell? ⟨m, 3, none⟩ = some (.bool true) := h.head.cell 3
  clear h
  go_enter Try.func53, Try.ntmps53
  go_wp2
  go_ret
  exact ⟨rfl, rfl⟩
set_option maxRecDepth 100000 in
theorem rremove_no (h : RefL w m false armed left lv R) (nm : List UInt8) (hn : nm.isEmpty = false) (hi : idxR R nm = -1) : Calls Try.prog 53 #[ptrV m, strV nm] w fun e w' => e = retE 6 ∧ w = w' := by
  have c3 : w.cell? ⟨m, 3, none⟩ = some (.bool false) := h.head.cell 3
  have FI := find_any h nm
  rw [hi] at FI
  have HF := Lib.hid FI
  clear h FI hi
  go_enter Try.func53, Try.ntmps53
  go_wp2_with (go_at_call 54; refine HF.out.mono ?_; rintro e w' ⟨rfl, rfl⟩)
  go_ret
  exact ⟨rfl, rfl⟩
set_option maxRecDepth 100000 in
theorem rremove_out (h : RefL w m false armed left lv R) (nm : List UInt8) (hn : nm.isEmpty = false) (i : Nat) (hi : idxR R nm = i) (hwb : wrB armed left = false) : Calls Try.prog 53 #[ptrV m, strV nm] w fun e w' => e = retE 103 ∧ RefL w' m true armed (wrL armed left) lv R ∧ Upd (fun k => k = m) w w' := by
  have c3 : w.cell? ⟨m, 3, none⟩ = some (.bool false) := h.head.cell 3
  have FI := find_any h nm
  rw [hi] at FI
  have HF := Lib.hid FI
  have FA := fails_any h
  rw [hwb] at FA
  have HA := Lib.hid FA
  clear h FI FA hi hwb
  go_enter Try.func53, Try.ntmps53
  go_wp2_with (first
    | (go_at_call 54; refine HF.out.mono ?_; rintro e w' ⟨rfl, rfl⟩)
    | (go_at_call 65; refine HA.out.mono ?_; rintro e w2 ⟨rfl, hd2, hu2⟩; have D2 := Lib.hid hd2; have U2 := Lib.hid hu2; clear hd2 hu2))
  go_ret
  exact ⟨rfl, by simpa using D2.out, U2.out⟩
set_option maxRecDepth 100000 in
theorem rrename_arg (m : Nat) (w : World) (to : List UInt8) : Calls Try.prog 52 #[ptrV m, strV [], strV to] w fun e w' => e = retE 1 ∧ w = w' := by
  go_enter Try.func52, Try.ntmps52
  go_wp2
  go_ret
  exact ⟨rfl, rfl⟩
set_option maxRecDepth 100000 in
theorem rrename_off (h : RefL w m true armed left lv R) (nm : List UInt8) (hn : nm.isEmpty = false) (to : List UInt8) (ht : to.isEmpty = false) : Calls Try.prog 52 #[ptrV m, strV nm, strV to] w fun e w' => e = retE 103 ∧ w = w' := by
  have c3 : w.cell? ⟨m, 3, none⟩ = some (.bool true) := h.head.cell 3
  clear h
  go_enter Try.func52, Try.ntmps52
  go_wp2
  go_ret
  exact ⟨rfl, rfl⟩
set_option maxRecDepth 100000 in
theorem rrename_no (h : RefL w m false armed left lv R) (nm : List UInt8) (hn : nm.isEmpty = false) (hi : idxR R nm = -1) (to : List UInt8) (ht : to.isEmpty = false) : Calls Try.prog 52 #[ptrV m, strV nm, strV to] w fun e w' => e = retE 6 ∧ w = w' := by
  have c3 : w.cell? ⟨m, 3, none⟩ = some (.bool false) := h.head.cell 3
  have FI := find_any h nm
  rw [hi] at FI
  have HF := Lib.hid FI
  clear h FI hi
  go_enter Try.func52, Try.ntmps52
  go_wp2_with (go_at_call 54; refine HF.out.mono ?_; rintro e w' ⟨rfl, rfl⟩)
  go_ret
  exact ⟨rfl, rfl⟩
set_option maxRecDepth 100000 in
theorem rrename_out (h : RefL w m false armed left lv R) (nm : List UInt8) (hn : nm.isEmpty = false) (i : Nat) (hi : idxR R nm = i) (hwb : wrB armed left = false) (to : List UInt8) (ht : to.isEmpty = false) : Calls Try.prog 52 #[ptrV m, strV nm, strV to] w fun e w' => e = retE 103 ∧ RefL w' m true armed (wrL armed left) lv R ∧ Upd (fun k => k = m) w w' := by
  have c3 : w.cell? ⟨m, 3, none⟩ = some (.bool false) := h.head.cell 3
  have FI := find_any h nm
  rw [hi] at FI
  have HF := Lib.hid FI
  have FA := fails_any h
  rw [hwb] at FA
  have HA := Lib.hid FA
  clear h FI FA hi hwb
  go_enter Try.func52, Try.ntmps52
  go_wp2_with (first
    | (go_at_call 54; refine HF.out.mono ?_; rintro e w' ⟨rfl, rfl⟩)
    | (go_at_call 65; refine HA.out.mono ?_; rintro e w2 ⟨rfl, hd2, hu2⟩; have D2 := Lib.hid hd2; have U2 := Lib.hid hu2; clear hd2 hu2))
  go_ret
  exact ⟨rfl, by simpa using D2.out, U2.out⟩
set_option maxRecDepth 100000 in
theorem rread_arg (m : Nat) (w : World) : Calls Try.prog 22 #[ptrV m, strV []] w fun e w' => e = retPE (.slice none 0 0) 1 ∧ w = w' := by
  go_enter Try.func22, Try.ntmps22
  go_wp2
  go_ret2
  exact ⟨rfl, rfl⟩
set_option maxRecDepth 100000 in
theorem rread_off (h : RefL w m true armed left lv R) (nm : List UInt8) (hn : nm.isEmpty = false) : Calls Try.prog 22 #[ptrV m, strV nm] w fun e w' => e = retPE (.slice none 0 0) 103 ∧ w = w' := by
  have c3 : w.cell? ⟨m, 3, none⟩ = some (.bool true) := h.head.cell 3
  clear h
  go_enter Try.func22, Try.ntmps22
  go_wp2
  go_ret2
  exact ⟨rfl, rfl⟩
set_option maxRecDepth 100000 in
theorem rread_no (h : RefL w m false armed left lv R) (nm : List UInt8) (hn : nm.isEmpty = false) (hi : idxR R nm = -1) : Calls Try.prog 22 #[ptrV m, strV nm] w fun e w' => e = retPE (.slice none 0 0) 6 ∧ w = w' := by
  have c3 : w.cell? ⟨m, 3, none⟩ = some (.bool false) := h.head.cell 3
  have FI := find_any h nm
  rw [hi] at FI
  have HF := Lib.hid FI
  clear h FI hi
  go_enter Try.func22, Try.ntmps22
  go_wp2_with (go_at_call 54; refine HF.out.mono ?_; rintro e w' ⟨rfl, rfl⟩)
  go_ret2
  exact ⟨rfl, rfl⟩
set_option maxRecDepth 100000 in
theorem rappend_arg (m : Nat) (w : World) (v : Value) : Calls Try.prog 35 #[ptrV m, strV [], v] w fun e w' => e = retE 1 ∧ w = w' := by
  go_enter Try.func35, Try.ntmps35
  go_wp2
  go_ret
  exact ⟨rfl, rfl⟩
set_option maxRecDepth 100000 in
theorem rappend_off (h : RefL w m true armed left lv R) (nm : List UInt8) (hn : nm.isEmpty = false) (v : Value) : Calls Try.prog 35 #[ptrV m, strV nm, v] w fun e w' => e = retE 103 ∧ w = w' := by
  have c3 : w.cell? ⟨m, 3, none⟩ = some (.bool true) := h.head.cell 3
  clear h
  go_enter Try.func35, Try.ntmps35
  go_wp2
  go_ret
  exact ⟨rfl, rfl⟩
end
end Go.Proofs.Ytmapijpphnlcmaa
