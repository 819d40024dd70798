/- The sanity check of the statements on the disk returns true. No condition. -/
import Derived.Test.YtmapijpphnlcmaaDiskD
import Derived.Lib.SlBytesConst
import Derived.Laws.IdiomStrings
import Derived.Shelf.Bytes.SlSmallAll
namespace Go.Proofs.Ytmapijpphnlcmaa
open Go.RowKit Go.Maps

theorem crash_spec {w : World} {d : Nat} {s : DSt} {F : Nat → Prop} (h : DiskAt w d s F) (v : Value) (picks : List Int) (hv : RdI F w v picks) (hp : ∀ z ∈ picks, -9223372036854775808 ≤ z ∧ z ≤ 9223372036854775807) (hL : s.fs.length ≤ 8796093022208) :
    Calls Try.prog 14 #[ptrV d, v] w fun e w' => e = .returned (.tuple #[]) ∧ DiskStep w d (sCrash s picks) F w' := by
  obtain ⟨mb, L, hd, hs, rfl⟩ := h
  refine (crash_any hd v picks hv hp (by rw [hs] at hL; simpa [absL] using hL)).mono ?_
  rintro e w' ⟨rfl, L', h1, h2, h3, h4⟩
  exact ⟨rfl, _, ⟨mb, L', h1, by rw [h2, sCrash, hs], rfl⟩, h3, fun k hk => .inl (h4 k hk)⟩

/-- 'string(b)'. -/
theorem run_str {w : World} {v : Value} {bs : List UInt8} (h : Rd w 1 v bs.length (bs.map byteV)) : (convert 27 9 v).run Try.prog w = .ok (strV bs) w := by
  obtain ⟨A, c, rfl, hn, hc, hl, hA⟩ := h
  cases bs with
  | nil =>
    have := run_convert_bytes_zero (P := Try.prog) w 27 5 Try.underlying27 Try.underlying5 A c 9 Try.underlying9
    rw [List.length_nil, this]
    rfl
  | cons b l =>
    obtain ⟨g, o, rfl, hcell⟩ := hA (by simp)
    refine run_convert_bytes_back (P := Try.prog) w 27 9 5 ⟨g, o, none⟩ c (b :: l) Try.underlying27 Try.underlying5 Try.underlying9 ?_
    intro j hj
    have hadd : (⟨g, o, none⟩ : Addr).add j = ⟨g, o + j, none⟩ := by unfold Addr.add; split <;> simp_all
    rw [hadd]
    exact hcell j _ (by simp only [List.getElem?_map]; rw [List.getElem?_eq_getElem hj]; rfl)

theorem RdF.of_new {F : Nat → Prop} (w : World) (cs : Array Value) (t : TypeId) (fr : Nat × Nat) (hF : ¬ F w.heap.size) {size n c : Nat} {xs : List Value} (hn : n ≤ c) (hm : c ≤ maxLen) (hl : xs.length = n * size) (hx : ∀ (j : Nat) u, xs[j]? = some u → cs[j]? = some u) :
    RdF F (w.alloc (.cells cs t fr)) size (.slice (some ⟨w.heap.size, 0, none⟩) n c) n xs := by
  intro w' hu
  refine ⟨_, c, rfl, hn, hm, hl, fun _ => ⟨w.heap.size, 0, rfl, fun j u hj => ?_⟩⟩
  have hb : w'.heap[w.heap.size]? = some (.cells cs t fr) := (hu.block _ (by simp) hF).trans (heap_alloc_new w _)
  rw [Nat.zero_add, cell_of_row w' _ j cs t fr hb]
  exact hx j u hj

theorem DiskAt.fresh {w : World} {d : Nat} {s : DSt} {F : Nat → Prop} (h : DiskAt w d s F) : ¬ F w.heap.size := fun hk => by have := h.lt hk; omega

/-! ### a disk since the world w0, when its blocks were those of F0 -/
def Dk (w0 : World) (F0 : Nat → Prop) (d : Nat) (s : DSt) (w : World) : Prop := DiskStep w0 d s F0 w

section
variable {w0 w w' : World} {F0 : Nat → Prop} {d : Nat} {s : DSt}
theorem Dk.upd (h : Dk w0 F0 d s w) (hu : Upd NoF w w') : Dk w0 F0 d s w' := by
  obtain ⟨F, a, b, c⟩ := h
  exact ⟨F, a.upd hu (fun _ _ h => h), b.trans hu (fun _ _ h => h.elim), c⟩
theorem Dk.alloc (h : Dk w0 F0 d s w) (o : Obj) : Dk w0 F0 d s (w.alloc o) := h.upd ((Upd.refl NoF w).alloc o)
theorem Dk.drewN (h : Dk w0 F0 d s w) (n : Nat) : Dk w0 F0 d s (w.drewN n) := h.upd ((Upd.refl NoF w).drewN n)
theorem Dk.out (h : Dk w0 F0 d s w) : Upd F0 w0 w := by obtain ⟨F, a, b, c⟩ := h; exact b
theorem Dk.size (h : Dk w0 F0 d s w) : w0.heap.size ≤ w.heap.size := h.out.size
theorem Dk.lt (h : Dk w0 F0 d s w) : d < w.heap.size := by
  obtain ⟨F, ⟨mb, L, h1, h2, rfl⟩, b, c⟩ := h
  exact h1.head.lt
/-- The state as it is now, its blocks named. -/
theorem Dk.now (h : Dk w0 F0 d s w) : ∃ F, DiskAt w d s F ∧ (∀ k, F k → (F0 k ∨ w0.heap.size ≤ k) ∧ k < w.heap.size) := by
  obtain ⟨F, a, b, c⟩ := h
  exact ⟨F, a, fun k hk => ⟨c k hk, a.lt hk⟩⟩
theorem DiskAt.dk {F : Nat → Prop} (h : DiskAt w d s F) : Dk w F d s w := DiskStep.refl h
theorem Dk.upd' (h : Dk w0 F0 d s w) {G : Nat → Prop} (hu : Upd G w w') (hG : ∀ k, (F0 k ∨ w0.heap.size ≤ k) → k < w.heap.size → ¬ G k) (hG0 : ∀ k, k < w0.heap.size → G k → F0 k) : Dk w0 F0 d s w' := by
  obtain ⟨F, a, b, c⟩ := h
  exact ⟨F, a.upd hu (fun k hk => hG k (c k hk) (a.lt hk)), b.trans hu hG0, c⟩

def ErrDk (w0 : World) (F0 : Nat → Prop) (d : Nat) (r : Int × DSt) (e : Ending) (w' : World) : Prop := e = retE r.1 ∧ Dk w0 F0 d r.2 w'

theorem ErrPost.dk {F : Nat → Prop} {r : Int × DSt} {e : Ending} (hF : ∀ k, F k → F0 k ∨ w0.heap.size ≤ k) (hb : Upd F0 w0 w) (h : ErrPost w d F r e w') : ErrDk w0 F0 d r e w' := by
  obtain ⟨he, F2, a2, b2, c2⟩ := h
  refine ⟨he, F2, a2, hb.trans b2 (fun k hk f => (hF k f).resolve_right (by omega)), fun k hk => ?_⟩
  rcases c2 k hk with e | e
  · exact hF k e
  · exact .inr (Nat.le_trans hb.size e)

theorem append_dk (h : Dk w0 F0 d s w) {w1 : World} (hu : Upd NoF w w1) (nm : List UInt8) (hm : nm.length ≤ maxLen) (v : Value) (b : List UInt8) (hb : ∀ F : Nat → Prop, (∀ k, F k → (F0 k ∨ w0.heap.size ≤ k) ∧ k < w.heap.size) → RdB F w1 v b)
    (hl : ((getF s.fs nm).getD ⟨[], 0⟩).c.length + b.length ≤ 1099511627776) (hL : s.fs.length < maxLen) : Calls Try.prog 13 #[ptrV d, strV nm, v] w1 (ErrDk w0 F0 d (sAppend s nm b)) := by
  obtain ⟨F, a, b', c⟩ := h
  exact (append_spec (a.upd hu (fun _ _ h => h)) nm hm v b (hb F (fun k hk => ⟨c k hk, a.lt hk⟩)) hl hL).mono fun e w' he => he.dk c (b'.trans hu (fun _ _ h => h.elim))
theorem sync_dk (h : Dk w0 F0 d s w) (nm : List UInt8) (hm : nm.length ≤ maxLen) : Calls Try.prog 12 #[ptrV d, strV nm] w (ErrDk w0 F0 d (sSync s nm)) := by
  obtain ⟨F, a, b', c⟩ := h
  exact (sync_spec a nm hm).mono fun e w' he => he.dk c b'
theorem remove_dk (h : Dk w0 F0 d s w) (nm : List UInt8) (hm : nm.length ≤ maxLen) : Calls Try.prog 17 #[ptrV d, strV nm] w (ErrDk w0 F0 d (sRemove s nm)) := by
  obtain ⟨F, a, b', c⟩ := h
  exact (remove_spec a nm hm).mono fun e w' he => he.dk c b'
theorem crash_dk (h : Dk w0 F0 d s w) {w1 : World} (hu : Upd NoF w w1) (v : Value) (picks : List Int) (hv : ∀ F : Nat → Prop, (∀ k, F k → (F0 k ∨ w0.heap.size ≤ k) ∧ k < w.heap.size) → RdI F w1 v picks) (hp : ∀ z ∈ picks, -9223372036854775808 ≤ z ∧ z ≤ 9223372036854775807) (hL : s.fs.length ≤ 8796093022208) :
    Calls Try.prog 14 #[ptrV d, v] w1 fun e w' => e = .returned (.tuple #[]) ∧ Dk w0 F0 d (sCrash s picks) w' := by
  obtain ⟨F, a, b', c⟩ := h
  refine (crash_spec (a.upd hu (fun _ _ h => h)) v picks (hv F (fun k hk => ⟨c k hk, a.lt hk⟩)) hp hL).mono ?_
  rintro e w' ⟨rfl, hs⟩
  exact ⟨rfl, (ErrPost.dk (r := (0, sCrash s picks)) c (b'.trans hu (fun _ _ h => h.elim)) ⟨rfl, hs⟩).2⟩
theorem arm_dk (h : Dk w0 F0 d s w) (n : Int) (h0 : -9223372036854775808 ≤ n) (h1 : n ≤ 9223372036854775807) : Calls Try.prog 16 #[ptrV d, .int .i64 n] w fun e w' => e = .returned (.tuple #[]) ∧ Dk w0 F0 d (sArm s n) w' := by
  obtain ⟨F, a, b', c⟩ := h
  refine (arm_spec a n h0 h1).mono ?_
  rintro e w' ⟨rfl, hs⟩
  exact ⟨rfl, (ErrPost.dk (r := (0, sArm s n)) c b' ⟨rfl, hs⟩).2⟩
theorem off_dk (h : Dk w0 F0 d s w) : Calls Try.prog 18 #[ptrV d] w fun e w' => e = .returned (.bool s.off) ∧ w = w' := by
  obtain ⟨F, a, b', c⟩ := h
  exact off_spec a
theorem read_dk (h : Dk w0 F0 d s w) (nm : List UInt8) (hm : nm.length ≤ maxLen) : Calls Try.prog 15 #[ptrV d, strV nm] w (BytesErr w (sRead s nm)) := by
  obtain ⟨F, a, b', c⟩ := h
  exact read_spec a nm hm
theorem files_dk (h : Dk w0 F0 d s w) (hL : s.fs.length ≤ 8796093022208) : Calls Try.prog 39 #[ptrV d] w (StrsPost w (s.fs.map (·.1))) := by
  obtain ⟨F, a, b', c⟩ := h
  exact files_spec a hL

/-- A literal of bytes, just made. -/
theorem lit_rd (w : World) (cs : Array Value) (fr : Nat × Nat) (b : List UInt8) (n : Nat) (hn : b.length = n) (hcs : cs = (b.map byteV).toArray) (hm : n ≤ maxLen) :
    ∀ F : Nat → Prop, (∀ k, F k → (F0 k ∨ w0.heap.size ≤ k) ∧ k < w.heap.size) → RdB F (w.alloc (.cells cs 5 fr)) (.slice (some ⟨w.heap.size, 0, none⟩) n n) b := by
  intro F hF
  subst hn hcs
  exact RdF.of_new w _ _ fr (fun h => by have := (hF _ h).2; omega) (Nat.le_refl _) hm (by simp) (fun j u hu => by simpa using hu)
theorem ints_rd (w : World) (cs : Array Value) (fr : Nat × Nat) (b : List Int) (n : Nat) (hn : b.length = n) (hcs : cs = (b.map (Value.int .i64)).toArray) (hm : n ≤ maxLen) :
    ∀ F : Nat → Prop, (∀ k, F k → (F0 k ∨ w0.heap.size ≤ k) ∧ k < w.heap.size) → RdI F (w.alloc (.cells cs 3 fr)) (.slice (some ⟨w.heap.size, 0, none⟩) n n) b := by
  intro F hF
  subst hn hcs
  exact RdF.of_new w _ _ fr (fun h => by have := (hF _ h).2; omega) (Nat.le_refl _) hm (by simp) (fun j u hu => by simpa using hu)
theorem new_dk (w : World) : Calls Try.prog 11 #[] w fun e w' => e = .returned (ptrV (w.heap.size + 1)) ∧ Dk w NoF (w.heap.size + 1) sNew w' := new_spec w
end

set_option maxRecDepth 100000 in
set_option maxHeartbeats 2000000 in
theorem awake30 (w : World) : Calls Try.prog 10 #[] w fun e w' => e = .returned (.bool true) ∧ Upd NoF w w' := by
  have kc := fun (w : World) (C : Array Value) (n c : Nat) => Lib.run_convert_bytes_const (P := Try.prog) w 27 5 C n c Try.underlying27 Try.underlying5
  go_enter Try.func10, Try.ntmps10
  go_wp2_with fail
  refine (new_dk w).mono ?_
  rintro e w1 ⟨rfl, hd1⟩
  have D1 := Lib.hid hd1
  clear hd1
  go_wp2_with fail
  refine (append_dk D1.out ((Upd.refl NoF w1).alloc _) [102] (by decide) _ [97, 98, 99] (lit_rd w1 _ _ _ 3 rfl rfl (by decide)) (by decide) (by decide)).mono ?_
  rw [show sAppend sNew [102] [97, 98, 99] = (0, ⟨[([102], ⟨[97, 98, 99], 0⟩)], false, false, 0⟩) from rfl]
  rintro e w2 ⟨rfl, hd2⟩
  have D2 := Lib.hid hd2
  clear hd2
  go_wp2_with fail
  refine (sync_dk D2.out [102] (by decide)).mono ?_
  rw [show sSync ⟨[([102], ⟨[97, 98, 99], 0⟩)], false, false, 0⟩ [102] = (0, ⟨[([102], ⟨[97, 98, 99], 3⟩)], false, false, 0⟩) from rfl]
  rintro e w3 ⟨rfl, hd3⟩
  have D3 := Lib.hid hd3
  clear hd3
  go_wp2_with fail
  refine (append_dk D3.out ((Upd.refl NoF w3).alloc _) [102] (by decide) _ [100, 101, 102] (lit_rd w3 _ _ _ 3 rfl rfl (by decide)) (by decide) (by decide)).mono ?_
  rw [show sAppend ⟨[([102], ⟨[97, 98, 99], 3⟩)], false, false, 0⟩ [102] [100, 101, 102] = (0, ⟨[([102], ⟨[97, 98, 99, 100, 101, 102], 3⟩)], false, false, 0⟩) from rfl]
  rintro e w4 ⟨rfl, hd4⟩
  have D4 := Lib.hid hd4
  clear hd4
  go_wp2_with fail
  refine (crash_dk D4.out ((Upd.refl NoF w4).alloc _) _ [2, 0] (ints_rd w4 _ _ _ 2 rfl rfl (by decide)) (by decide) (by decide)).mono ?_
  rw [show sCrash ⟨[([102], ⟨[97, 98, 99, 100, 101, 102], 3⟩)], false, false, 0⟩ [2, 0] = ⟨[([102], ⟨[97, 98, 99, 100, 101], 5⟩)], false, false, 0⟩ from rfl]
  rintro e w5 ⟨rfl, hd5⟩
  have D5 := Lib.hid hd5
  clear hd5
  go_wp2_with fail
  refine (read_dk D5.out [102] (by decide)).mono ?_
  rw [show sRead ⟨[([102], ⟨[97, 98, 99, 100, 101], 5⟩)], false, false, 0⟩ [102] = ([97, 98, 99, 100, 101], 0) from rfl]
  rintro e w6 ⟨A, c, rfl, hnew⟩
  obtain ⟨F5, hd5, hF5⟩ := D5.out.now
  have D6 := Lib.hid (hd5.upd hnew.2.2 (fun _ _ h => h)).dk
  have U6 := Lib.hid ((D5.out.out).trans hnew.2.2 (fun _ _ h => h))
  have HF5 := Lib.hid hF5
  have R6 := Lib.hid (hnew.1.rdF (F := F5) (fun k hk h => by have := hnew.2.1 k hk; have := (hF5 k h).2; omega))
  clear hnew hd5 hF5
  go_wp2_with fail
  refine (arm_dk D6.out 0 (by decide) (by decide)).mono ?_
  rw [show sArm ⟨[([102], ⟨[97, 98, 99, 100, 101], 5⟩)], false, false, 0⟩ 0 = ⟨[([102], ⟨[97, 98, 99, 100, 101], 5⟩)], false, true, 0⟩ from rfl]
  rintro e w7 ⟨rfl, hd7⟩
  have D7 := Lib.hid hd7
  clear hd7
  go_wp2_with fail
  refine (append_dk D7.out ((Upd.refl NoF w7).alloc _) [102] (by decide) _ [103] (lit_rd w7 _ _ _ 1 rfl rfl (by decide)) (by decide) (by decide)).mono ?_
  rw [show sAppend ⟨[([102], ⟨[97, 98, 99, 100, 101], 5⟩)], false, true, 0⟩ [102] [103] = (103, ⟨[([102], ⟨[97, 98, 99, 100, 101, 103], 5⟩)], true, true, 0⟩) from rfl]
  rintro e w8 ⟨rfl, hd8⟩
  have D8 := Lib.hid hd8
  clear hd8
  go_wp2_with fail
  refine (read_nil _ _).mono ?_
  rintro e w' ⟨rfl, rfl⟩
  have hstr : (convert 27 9 (.slice A 5 c)).run Try.prog w8 = .ok (strV [97, 98, 99, 100, 101]) w8 := run_str (bs := [97, 98, 99, 100, 101]) (R6.out w8 D8.out.out)
  go_wp2_with fail
  refine (off_dk D8.out).mono ?_
  rintro e w' ⟨rfl, rfl⟩
  go_wp2_with fail
  refine (off_nil _).mono ?_
  rintro e w' ⟨rfl, rfl⟩
  go_wp2_with fail
  refine (files_nil _).mono ?_
  rintro e w' ⟨rfl, rfl⟩
  go_wp2_with fail
  refine (files_dk D8.out (by decide)).mono ?_
  rintro e w9 ⟨A9, c9, rfl, hn9⟩
  have U9 := Lib.hid hn9.2.2
  clear hn9
  go_wp2_with fail
  go_ret
  refine ⟨rfl, (U6.out.trans D8.out.out (fun k hk h => ?_)).trans U9.out (fun _ _ h => h)⟩
  exact ((HF5.out k h).1.resolve_right (by omega))
end Go.Proofs.Ytmapijpphnlcmaa
