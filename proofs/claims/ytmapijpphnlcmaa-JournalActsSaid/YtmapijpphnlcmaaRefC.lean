/- The reference disk: Files. No condition but the number of files. -/
import Derived.Test.YtmapijpphnlcmaaRefB
namespace Go.Proofs.Ytmapijpphnlcmaa
open Go.RowKit Go.Maps

theorem str_info : (Try.prog.info? 9).map (fun i => (i.zero, i.size, i.bytes)) = some (some (.string ⟨#[]⟩), 1, 16) := by kernel_rfl

def FilesRel (w : World) (R : List RRec) (out i : Value) (wr : World) : Prop :=
  ∃ k : Nat, k ≤ R.length ∧ i = .int .i64 k ∧ ∃ A c, out = .slice A k c ∧ Own wr 9 1 (.slice A k c) k (((R.map (·.nm)).take k).map strV) ∧ (∀ j, OwnB (.slice A k c) j → w.heap.size ≤ j) ∧ Upd NoF w wr

theorem FilesRel.next {w wr w1 : World} {R : List RRec} {k : Nat} {r : RRec} {A A' : Option Addr} {c c' : Nat} {o : Obj} (hr : R[k]? = some r) (hN : ∀ j, OwnB (.slice A k c) j → w.heap.size ≤ j) (hU : Upd NoF w wr)
    (ho : Own w1 9 1 (.slice A' (k + 1) c') (k + 1) (((R.map (·.nm)).take k).map strV ++ [strV r.nm])) (hu1 : Upd (OwnB (.slice A k c)) (wr.alloc o) w1) (hN1 : ∀ j, OwnB (.slice A' (k + 1) c') j → OwnB (.slice A k c) j ∨ (wr.alloc o).heap.size ≤ j) :
    FilesRel w R (.slice A' (k + 1) c') (.int .i64 ((k + 1 : Nat) : Int)) w1 := by
  have hk : k < R.length := (List.getElem?_eq_some_iff.1 hr).1
  refine ⟨k + 1, by omega, rfl, A', c', rfl, ?_, ?_, (hU.alloc _).trans hu1 (fun j hj e => by have := hN j e; omega)⟩
  · have e1 : ((R.map (·.nm)).take (k + 1)).map strV = ((R.map (·.nm)).take k).map strV ++ [strV r.nm] := by
      rw [List.take_add_one, List.getElem?_map, hr]
      simp
    rw [e1]
    exact ho
  · intro j hj
    rcases hN1 j hj with e | e
    · exact hN j e
    · have := hU.size
      simp at e
      omega

section
variable {w w' : World} {m : Nat} {off armed : Bool} {left : Nat} {lv : Value} {R : List RRec}

set_option maxRecDepth 100000 in
set_option maxHeartbeats 2000000 in
theorem rfiles_any (h : RefL w m off armed left lv R) (hR : R.length ≤ 4294967296) : Calls Try.prog 55 #[ptrV m] w (StrsPost w (R.map (·.nm))) := by
  obtain ⟨A0, c0, rfl, hn, hc, hx⟩ := h.form
  obtain ⟨i0, hi0, hz0, hz1, hz2⟩ := info_parts str_info
  have H := Lib.hid h
  have HX := Lib.hid hx
  clear h hx
  go_enter Try.func55, Try.ntmps55
  go_wp2
  go_loopw [3, 4] (fun out i wr => FilesRel w R out i wr) (fun _ i _ => R.length - (intOf i).toNat)
  case atStart => exact ⟨0, Nat.zero_le _, rfl, none, 0, rfl, Own.nil _ _ _, fun j hj => by simp [OwnB, Value.ownBlock] at hj, Upd.refl _ _⟩
  case round =>
    obtain ⟨k, hk, rfl, A, c, rfl, hO, hN, hU⟩ := hrel
    have hD := H.out.upd hU (fun _ _ h => h)
    have c0 : wr.cell? ⟨m, 0, none⟩ = some (.slice A0 R.length _) := hD.head.cell 0
    have hmz := hD.head.lt
    have HO := Lib.hid hO
    have HN := Lib.hid hN
    have HU := Lib.hid hU
    by_cases hlt : k < R.length
    · obtain ⟨r, hr⟩ : ∃ r, R[k]? = some r := ⟨_, List.getElem?_eq_getElem hlt⟩
      obtain ⟨g, hA, -, -, -, hgm, hgo, y0, -, -, -, -⟩ := hD.at_ hr
      subst hA
      have hgz := hD.list.lt hgo
      have HR := Lib.hid hr
      have t1 : decide ((k : Int) < R.length) = true := by simpa using hlt
      have t2 : (0:Int) ≤ k := by omega
      have t3 : (k:Int) < R.length := by omega
      clear hr hD hO hN hU hgo
      go_wp2_with (at_builtin; refine wpList_append_to _ rfl (.tmp 14) (.tmp 23) 69 rfl 9 i0 _ 1 16 Try.underlying69 hi0 hz0 hz1 hz2 rfl (.slice A k c) k (((R.map (·.nm)).take k).map strV) rfl (HO.out.upd ((Upd.refl NoF wr).alloc _) (fun _ _ h => h)) (.slice (some ⟨wr.heap.size, 0, none⟩) 1 1) 1 [strV r.nm] rfl (Rd.of_blk (Blk.new wr _ _) (by omega) (by unfold maxLen; omega) rfl (by intro j u hu; cases j with | zero => simpa using hu | succ j => simp at hu)) (by simp [strV, Value.oneCell']) (by unfold maxLen; omega) (by omega) ?_; intro A1 c1 w1 hown1 hupd1 hnew1; have O1 := Lib.hid hown1; have U1 := Lib.hid hupd1; have N1 := Lib.hid hnew1; clear hown1 hupd1 hnew1)
      go_roundw
      case rel => exact FilesRel.next HR.out HN.out HU.out O1.out U1.out N1.out
      case measure => simp [intOf]; omega
    · have hkn : k = R.length := by omega
      subst hkn
      clear hD hO hN hU
      go_wp2
      go_ret
      refine ⟨A, c, by simp, ?_, by simpa using HN.out, HU.out⟩
      have := HO.out
      rw [List.take_of_length_le (by simp)] at this
      simpa using this
end

theorem rfiles_spec {w : World} {m : Nat} {s : DSt} {F : Nat → Prop} (h : RefAt w m s F) (hL : s.fs.length ≤ 4294967296) : Calls Try.prog 55 #[ptrV m] w (StrsPost w (s.fs.map (·.1))) := by
  obtain ⟨lv, R, hd, hs, rfl⟩ := h
  rw [hs] at hL ⊢
  rw [show (R.map absRR).map (·.1) = R.map (·.nm) by simp [absRR, Function.comp_def]]
  exact rfiles_any hd (by simpa using hL)
end Go.Proofs.Ytmapijpphnlcmaa
