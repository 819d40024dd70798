/- Parse of package journal. Conditions: sizes. -/
import Derived.Test.YtmapijpphnlcmaaJr2
import Derived.Deep.QuietTactic
import Derived.BigQuiet
import Derived.IntWalk
namespace Go.Proofs.Ytmapijpphnlcmaa
open Go.RowKit

def ParsePost (w : World) (bs : List UInt8) (e : Ending) (w' : World) : Prop :=
  ∃ v F, e = .returned (.tuple #[v, .int .i64 ((parseS bs).2 : Int)]) ∧ RecsAt w' v (parseS bs).1 F ∧ (∀ k, F k → w.heap.size ≤ k) ∧ Upd NoF w w'
def PRel (w : World) (bs : List UInt8) (out at_ : Value) (wr : World) : Prop :=
  ∃ (l : List (List UInt8)) (a : Nat) (A : Option Addr) (c : Nat) (vs : List Value), out = .slice A l.length c ∧ at_ = .int .i64 a ∧ PAt bs l a ∧ RecsV wr (.slice A l.length c) l vs ∧ (∀ k, RecsF (.slice A l.length c) vs k → w.heap.size ≤ k) ∧ Upd NoF w wr
theorem ParsePost.mk {w wr w' : World} {bs : List UInt8} {l : List (List UInt8)} {a : Nat} {A : Option Addr} {c : Nat} {vs : List Value} (hP : PAt bs l a) (hs : parseStep bs a l.length = none) (hV : RecsV wr (.slice A l.length c) l vs) (hF : ∀ k, RecsF (.slice A l.length c) vs k → w.heap.size ≤ k) (hU : Upd NoF w wr) (hu : Upd NoF wr w') :
    ParsePost w bs (.returned (.tuple #[.slice A l.length c, .int .i64 (a : Int)])) w' := by
  unfold ParsePost
  rw [hP.stop hs]
  exact ⟨_, _, rfl, RecsAt.upd ⟨vs, hV, rfl⟩ hu (fun _ _ h => h), hF, hU.trans hu (fun _ _ h => h)⟩

theorem ps_short {bs : List UInt8} {a idx : Nat} (h : bs.length < a + 12) : parseStep bs a idx = none := by unfold parseStep; rw [if_neg (by omega)]
theorem ps_big {bs : List UInt8} {a idx : Nat} (h : ¬ (be ((bs.drop a).take 4) ≤ 65536 ∧ a + 12 + be ((bs.drop a).take 4) ≤ bs.length)) : parseStep bs a idx = none := by
  unfold parseStep
  split
  · first | rfl | rw [if_neg h]
  · rfl
theorem ps_sum {bs : List UInt8} {a idx : Nat} (h : ¬ (bs.drop (a + 4)).take 8 = jsumS idx ((bs.drop (a + 12)).take (be ((bs.drop a).take 4)))) : parseStep bs a idx = none := by
  unfold parseStep
  split
  · split
    · first | rfl | rw [if_neg h]
    · rfl
  · rfl
theorem ps_yes {bs : List UInt8} {a idx : Nat} (h1 : a + 12 ≤ bs.length) (h2 : be ((bs.drop a).take 4) ≤ 65536 ∧ a + 12 + be ((bs.drop a).take 4) ≤ bs.length) (h : (bs.drop (a + 4)).take 8 = jsumS idx ((bs.drop (a + 12)).take (be ((bs.drop a).take 4)))) :
    parseStep bs a idx = some ((bs.drop (a + 12)).take (be ((bs.drop a).take 4)), a + 12 + be ((bs.drop a).take 4)) := by
  unfold parseStep
  rw [if_pos h1, if_pos h2, if_pos h]

/-- A part of a slice of bytes. -/
theorem rd_part {w : World} {g o n c lo k m : Nat} {bs : List UInt8} (h : Rd w 1 (.slice (some ⟨g, o, none⟩) n c) n (bs.map byteV)) (hl : bs.length = n) (hk : lo + k ≤ n) (hm : k ≤ m) (hm2 : m ≤ maxLen) (A' : Option Addr) (hA : 0 < k → A' = some ⟨g, o + lo, none⟩) : Rd w 1 (.slice A' k m) ((bs.drop lo).take k).length (((bs.drop lo).take k).map byteV) := by
  have hlen : ((bs.drop lo).take k).length = k := by simp; omega
  obtain ⟨A, c', e, h1, h2, h3, hx⟩ := h
  rw [hlen]
  refine ⟨A', m, rfl, hm, hm2, by simp; omega, fun h0 => ?_⟩
  obtain ⟨g', o', e', hc⟩ := hx (by omega)
  injection e with e1
  rw [← e1] at e'
  injection e' with e'
  injection e' with e2 e3
  subst e2 e3
  refine ⟨g, o + lo, hA h0, fun j u hu => ?_⟩
  rw [Nat.add_assoc]
  refine hc (lo + j) u ?_
  rw [List.getElem?_map, List.getElem?_take] at hu
  split at hu
  · rw [List.getElem?_drop] at hu
    rw [List.getElem?_map]
    exact hu
  · cases hu

set_option maxRecDepth 100000 in
set_option maxHeartbeats 8000000 in
theorem jParse_any {w : World} {v : Value} {bs : List UInt8} (h : Rd w 1 v bs.length (bs.map byteV)) (hbl : bs.length ≤ 549755813888) : Calls Try.prog 25 #[v] w (ParsePost w bs) := by
  obtain ⟨A0, c0, rfl, hlc, hcm, _⟩ := id h
  have H := Lib.hid h
  obtain ⟨i0, hi0, hz0, hz1, hz2⟩ := info_parts bytes_info
  have hcm' : c0 ≤ 9223372036854775807 := by unfold maxLen at hcm; omega
  clear h hcm
  go_enter Try.func25, Try.ntmps25
  go_wp2
  go_loopw [4, 5] (fun out i wr => PRel w bs out i wr) (fun _ i _ => bs.length + 1 - (intOf i).toNat)
  case atStart =>
    obtain ⟨vs, hv, e⟩ := RecsAt.nil w
    refine ⟨[], 0, none, 0, [], rfl, rfl, PAt.start bs, ⟨Own.nil _ _ _, fun i b h => (by cases h)⟩, fun k hk => ?_, Upd.refl _ _⟩
    simp [RecsF, OwnB, Value.ownBlock] at hk
  case round =>
    obtain ⟨l, a, A, c, vs, rfl, rfl, hP, hV, hF, hU⟩ := hrel
    have hal : a ≤ bs.length := by obtain ⟨f, _, _, h3, _⟩ := hP; exact h3
    have hll : l.length ≤ bs.length := by obtain ⟨f, _, _, h3, h4⟩ := hP; omega
    have HP := Lib.hid hP
    have HV := Lib.hid hV
    have HF := Lib.hid hF
    have HU := Lib.hid hU
    have HR := Lib.hid (H.out.keep hU)
    have DONE := Lib.hid (show parseStep bs a l.length = none → ∀ w', Upd NoF wr w' → ParsePost w bs (.returned (.tuple #[.slice A l.length c, .int .i64 (a : Int)])) w' from fun hs w' hu => ParsePost.mk hP hs hV hF hU hu)
    clear hP hV hF hU
    by_cases h4 : a + 4 ≤ bs.length
    · have CU := Lib.hid (cUint_yes HR.out a 4 (by omega) (by omega) h4 (by omega))
      obtain ⟨n, hn⟩ : ∃ n, be ((bs.drop a).take 4) = n := ⟨_, rfl⟩
      rw [hn] at CU
      have HN := Lib.hid hn
      clear hn
      by_cases hbig : 65536 < n
      · have t1 : decide ((65536 : Int) < (n : Int)) = true := by simp; omega
        have t1' : decide (65536 < n) = true := by simp; omega
        go_wp2_with fail
        refine CU.out.mono ?_
        rintro e w' ⟨rfl, rfl⟩
        go_wp2
        go_ret2
        exact DONE.out (ps_big (by rw [HN.out]; omega)) _ (Upd.refl _ _)
      · have t1 : decide ((65536 : Int) < (n : Int)) = false := by simp; omega
        have t1' : decide (65536 < n) = false := by simp; omega
        by_cases hfit : a + 12 + n ≤ bs.length
        · have t2 : decide ((bs.length : Int) - (a : Int) - 12 < (n : Int)) = false := by simp; omega
          obtain ⟨g, o, rfl, -⟩ := rd_cells HR.out (by omega)
          obtain ⟨r, hr⟩ : ∃ r, (bs.drop (a + 12)).take n = r := ⟨_, rfl⟩
          have hrl : r.length = n := by rw [← hr]; simp; omega
          have RR := Lib.hid (show ∀ w', Upd NoF wr w' → ∀ A' m, n ≤ m → m ≤ maxLen → (0 < n → A' = some ⟨g, o + (a + 12), none⟩) → Rd w' 1 (.slice A' n m) r.length (r.map byteV) from fun w' hu A' m h1 h2 hA => by
            rw [← hr]
            exact rd_part (HR.out.keep hu) rfl (by omega) h1 h2 A' hA)
          have RS := Lib.hid (show ∀ w', Upd NoF wr w' → Rd w' 1 (.slice (some ⟨g, o + (a + 4), none⟩) 8 (c0 - (a + 4))) ((bs.drop (a + 4)).take 8).length (((bs.drop (a + 4)).take 8).map byteV) from fun w' hu =>
            rd_part (HR.out.keep hu) rfl (by omega) (by omega) (by unfold maxLen; omega) _ (fun _ => rfl))
          have HRR := Lib.hid hr
          have HRL := Lib.hid hrl
          clear hr hrl
          by_cases hn0 : 0 < n
          · have m0 : ¬ n = 0 := by omega
            have e0 : (a + 12 + n) - (a + 12) = n := by omega
            have q1 : (0 : Int) ≤ (a : Int) + 12 := by omega
            have q2 : (a : Int) + 12 ≤ (a : Int) + 12 + (n : Int) := by omega
            have q3 : (a : Int) + 12 + (n : Int) ≤ (c0 : Int) := by omega
            have q4 : ((a : Int) + 12).toNat = a + 12 := by omega
            have q5 : ((a : Int) + 12 + (n : Int)).toNat = (a + 12 + n) := by omega
            have q6 : IntKind.i64.wrap ((n : Nat) : Int) = ((n : Nat) : Int) := IntWalk.i64_in _ (by omega)
            have CS := Lib.hid (jsum_any (RR.out wr (Upd.refl NoF wr) (some ⟨g, o + (a + 12), none⟩) n (Nat.le_refl _) (by unfold maxLen; omega) (fun h => by first | rfl | omega)) (by rw [HRL.out]; omega) l.length (by omega))
            obtain ⟨b0, b1, b2, b3, b4, b5, b6, b7, l', hl'⟩ := eight (jsumS l.length r) (Nat.le_of_eq rfl)
            obtain rfl : l' = [] := by
              have := congrArg List.length hl'
              rw [jsumS_len] at this
              simpa using this
            rw [hl'] at CS
            have HL' := Lib.hid hl'
            clear hl'
            go_wp2_with fail
            refine CU.out.mono ?_
            rintro e w' ⟨rfl, rfl⟩
            go_wp2_with fail
            refine CS.out.mono ?_
            rintro e w1 ⟨rfl, hu1⟩
            have U1 := Lib.hid hu1
            clear hu1
            go_wp2
            obtain ⟨w2, hw2⟩ : ∃ w2, w2 = w1.alloc (.cells #[byteV b0, byteV b1, byteV b2, byteV b3, byteV b4, byteV b5, byteV b6, byteV b7] 95) := ⟨_, rfl⟩
            rw [← hw2]
            have B2 := Lib.hid (show Blk w2 w1.heap.size 95 #[byteV b0, byteV b1, byteV b2, byteV b3, byteV b4, byteV b5, byteV b6, byteV b7] ∧ Upd NoF wr w2 from by
              rw [hw2]
              exact ⟨Blk.new w1 _ _, U1.out.alloc _⟩)
            have CEQ := Lib.hid (show ∀ n', Calls Try.prog 59 #[.slice (some ⟨w1.heap.size, 0, none⟩) 8 8, .slice (some ⟨g, o + (a + 4), none⟩) 8 (c0 - (a + 4))] (w2.drewN n') fun e w'' => e = .returned (.bool ([b0, b1, b2, b3, b4, b5, b6, b7] == (bs.drop (a + 4)).take 8)) ∧ ∃ q, w'' = w2.drewN q from fun n' =>
              (bEqual_any (a := [b0, b1, b2, b3, b4, b5, b6, b7]) (b := (bs.drop (a + 4)).take 8) (Rd.of_blk (B2.out.1.drewN n') (by simp) (by unfold maxLen; omega) rfl (by intro j u hu; simpa using hu)) (RS.out _ (B2.out.2.drewN n'))).mono fun e w'' ⟨h1, h2⟩ => ⟨h1, n', h2⟩)
            clear hw2
            have p1 : IntKind.i64.wrap ((a : Int) + 4) = (a : Int) + 4 := IntWalk.i64_in _ (by omega)
            have p2 : IntKind.i64.wrap ((a : Int) + 12) = (a : Int) + 12 := IntWalk.i64_in _ (by omega)
            have p3 : ((a : Int) + 4).toNat = a + 4 := by omega
            have p4 : (0 : Int) ≤ (a : Int) + 4 := by omega
            have p5 : (a : Int) + 4 ≤ (a : Int) + 12 := by omega
            have p6 : (a : Int) + 12 ≤ (c0 : Int) := by omega
            have p7 : a + 12 - (a + 4) = 8 := by omega
            have p8 : ¬ c0 = a + 4 := by omega
            cases hq : ([b0, b1, b2, b3, b4, b5, b6, b7] == (bs.drop (a + 4)).take 8)
            · rw [hq] at CEQ
              have HQ := Lib.hid hq
              clear hq
              go_quiet ((go_at_call 59; exact CEQ.out _))
              clear p1 p2
              go_wp2
              go_ret2
              refine DONE.out (ps_sum ?_) _ (B2.out.2.drewN nq)
              rw [HN.out, HRR.out, HL'.out]
              intro e
              have := HQ.out
              rw [e] at this
              simp at this
            · rw [hq] at CEQ
              have hs : parseStep bs a l.length = some (r, (a + 12 + n)) := by
                have h1 := ps_yes (bs := bs) (a := a) (idx := l.length) (by omega) (by rw [HN.out]; exact ⟨by omega, by omega⟩) (by rw [HN.out, HRR.out, HL'.out]; exact (by simpa using hq : [b0, b1, b2, b3, b4, b5, b6, b7] = (bs.drop (a + 4)).take 8).symm)
                rw [HN.out, HRR.out] at h1
                exact h1
              have HS := Lib.hid hs
              clear hq hs
              go_quiet ((go_at_call 59; exact CEQ.out _))
              clear p1 p2
              obtain ⟨w3, hw3⟩ : ∃ w3, w3 = w2.drewN nq := ⟨_, rfl⟩
              rw [← hw3]
              have U3 := Lib.hid (show Upd NoF wr w3 from by rw [hw3]; exact B2.out.2.drewN nq)
              have CC := Lib.hid (clone_any _ r w3 (RR.out w3 U3.out (some ⟨g, o + (a + 12), none⟩) n (Nat.le_refl _) (by unfold maxLen; omega) (fun h => by first | rfl | omega)) (by rw [HRL.out]; omega))
              clear hw3
              go_wp2_with fail
              refine CC.out.mono ?_
              rintro e w4 ⟨A4, c4, rfl, hO4, hn4, hU4⟩
              have O4 := Lib.hid hO4
              have N4 := Lib.hid hn4
              have U4 := Lib.hid hU4
              clear hO4 hn4 hU4
              have V4 := Lib.hid (show Upd NoF wr w4 from U3.out.trans U4.out (fun _ _ h => h))
              go_wp2_with (at_builtin; refine wpList_append_to _ rfl (.tmp 61) (.tmp 64) 22 rfl 27 i0 _ 1 24 Try.underlying22 hi0 hz0 hz1 hz2 rfl (.slice A l.length c) l.length vs rfl (HV.out.1.upd (V4.out.alloc _) (fun _ _ h => h)) (.slice (some ⟨w4.heap.size, 0, none⟩) 1 1) 1 [.slice A4 r.length c4] rfl (Rd.of_blk (Blk.new w4 _ _) (by omega) (by unfold maxLen; omega) rfl (by intro j u hu; cases j with | zero => simpa using hu | succ j => simp at hu)) (by simp [Value.oneCell']) (by unfold maxLen; omega) (by omega) ?_; intro A5 c5 w5 hown5 hupd5 hnew5; have O5 := Lib.hid hown5; have U5 := Lib.hid hupd5; have N5 := Lib.hid hnew5; clear hown5 hupd5 hnew5)
              go_roundw
              case rel =>
                obtain ⟨g1, g2⟩ := RecsV.push HV.out (V4.out.alloc _) (O4.out.upd ((Upd.refl NoF w4).alloc _) (fun _ _ h => h)) O5.out U5.out N5.out
                have hwz := HU.out.size
                have hv4 := V4.out.size
                have hu3 := U3.out.size
                refine ⟨l ++ [r], (a + 12 + n), A5, c5, vs ++ [.slice A4 r.length c4], by simp, by go_num, HP.out.next HS.out, by rw [List.length_append, List.length_singleton]; exact g1, fun k hk => ?_, (HU.out.trans (V4.out.alloc _) (fun _ _ h => h)).trans U5.out (fun k hk e => by have := HF.out k (.inl e); omega)⟩
                rw [List.length_append, List.length_singleton] at hk
                rcases g2 k hk with e | e | e
                · exact HF.out k e
                · have := N4.out k e; omega
                · simp at e; omega
              case measure => simp [intOf]; omega
          · obtain rfl : n = 0 := by omega
            have t2' : decide ((bs.length : Int) - (a : Int) - 12 < 0) = false := by simp; omega
            have e0 : (a + 12) - (a + 12) = 0 := by omega
            have q1 : (0 : Int) ≤ (a : Int) + 12 := by omega
            have q2 : (a : Int) + 12 ≤ (a : Int) + 12 := by omega
            have q3 : (a : Int) + 12 ≤ (c0 : Int) := by omega
            have q4 : ((a : Int) + 12).toNat = a + 12 := by omega
            have q5 : ((a : Int) + 12).toNat = (a + 12) := by omega
            have q6 : IntKind.i64.wrap ((0 : Nat) : Int) = ((0 : Nat) : Int) := IntWalk.i64_in _ (by omega)
            have CS := Lib.hid (jsum_any (RR.out wr (Upd.refl NoF wr) (some ⟨g, o, none⟩) 0 (Nat.le_refl _) (by unfold maxLen; omega) (fun h => by first | rfl | omega)) (by rw [HRL.out]; omega) l.length (by omega))
            obtain ⟨b0, b1, b2, b3, b4, b5, b6, b7, l', hl'⟩ := eight (jsumS l.length r) (Nat.le_of_eq rfl)
            obtain rfl : l' = [] := by
              have := congrArg List.length hl'
              rw [jsumS_len] at this
              simpa using this
            rw [hl'] at CS
            have HL' := Lib.hid hl'
            clear hl'
            go_wp2_with fail
            refine CU.out.mono ?_
            rintro e w' ⟨rfl, rfl⟩
            go_wp2_with fail
            refine CS.out.mono ?_
            rintro e w1 ⟨rfl, hu1⟩
            have U1 := Lib.hid hu1
            clear hu1
            go_wp2
            obtain ⟨w2, hw2⟩ : ∃ w2, w2 = w1.alloc (.cells #[byteV b0, byteV b1, byteV b2, byteV b3, byteV b4, byteV b5, byteV b6, byteV b7] 95) := ⟨_, rfl⟩
            rw [← hw2]
            have B2 := Lib.hid (show Blk w2 w1.heap.size 95 #[byteV b0, byteV b1, byteV b2, byteV b3, byteV b4, byteV b5, byteV b6, byteV b7] ∧ Upd NoF wr w2 from by
              rw [hw2]
              exact ⟨Blk.new w1 _ _, U1.out.alloc _⟩)
            have CEQ := Lib.hid (show ∀ n', Calls Try.prog 59 #[.slice (some ⟨w1.heap.size, 0, none⟩) 8 8, .slice (some ⟨g, o + (a + 4), none⟩) 8 (c0 - (a + 4))] (w2.drewN n') fun e w'' => e = .returned (.bool ([b0, b1, b2, b3, b4, b5, b6, b7] == (bs.drop (a + 4)).take 8)) ∧ ∃ q, w'' = w2.drewN q from fun n' =>
              (bEqual_any (a := [b0, b1, b2, b3, b4, b5, b6, b7]) (b := (bs.drop (a + 4)).take 8) (Rd.of_blk (B2.out.1.drewN n') (by simp) (by unfold maxLen; omega) rfl (by intro j u hu; simpa using hu)) (RS.out _ (B2.out.2.drewN n'))).mono fun e w'' ⟨h1, h2⟩ => ⟨h1, n', h2⟩)
            clear hw2
            have p1 : IntKind.i64.wrap ((a : Int) + 4) = (a : Int) + 4 := IntWalk.i64_in _ (by omega)
            have p2 : IntKind.i64.wrap ((a : Int) + 12) = (a : Int) + 12 := IntWalk.i64_in _ (by omega)
            have p3 : ((a : Int) + 4).toNat = a + 4 := by omega
            have p4 : (0 : Int) ≤ (a : Int) + 4 := by omega
            have p5 : (a : Int) + 4 ≤ (a : Int) + 12 := by omega
            have p6 : (a : Int) + 12 ≤ (c0 : Int) := by omega
            have p7 : a + 12 - (a + 4) = 8 := by omega
            have p8 : ¬ c0 = a + 4 := by omega
            cases hq : ([b0, b1, b2, b3, b4, b5, b6, b7] == (bs.drop (a + 4)).take 8)
            · rw [hq] at CEQ
              have HQ := Lib.hid hq
              clear hq
              go_quiet ((go_at_call 59; exact CEQ.out _))
              clear p1 p2
              go_wp2
              go_ret2
              refine DONE.out (ps_sum ?_) _ (B2.out.2.drewN nq)
              rw [HN.out, HRR.out, HL'.out]
              intro e
              have := HQ.out
              rw [e] at this
              simp at this
            · rw [hq] at CEQ
              have hs : parseStep bs a l.length = some (r, (a + 12)) := by
                have h1 := ps_yes (bs := bs) (a := a) (idx := l.length) (by omega) (by rw [HN.out]; exact ⟨by omega, by omega⟩) (by rw [HN.out, HRR.out, HL'.out]; exact (by simpa using hq : [b0, b1, b2, b3, b4, b5, b6, b7] = (bs.drop (a + 4)).take 8).symm)
                rw [HN.out, HRR.out] at h1
                exact h1
              have HS := Lib.hid hs
              clear hq hs
              go_quiet ((go_at_call 59; exact CEQ.out _))
              clear p1 p2
              obtain ⟨w3, hw3⟩ : ∃ w3, w3 = w2.drewN nq := ⟨_, rfl⟩
              rw [← hw3]
              have U3 := Lib.hid (show Upd NoF wr w3 from by rw [hw3]; exact B2.out.2.drewN nq)
              have CC := Lib.hid (clone_any _ r w3 (RR.out w3 U3.out (some ⟨g, o, none⟩) 0 (Nat.le_refl _) (by unfold maxLen; omega) (fun h => by first | rfl | omega)) (by rw [HRL.out]; omega))
              clear hw3
              go_wp2_with fail
              refine CC.out.mono ?_
              rintro e w4 ⟨A4, c4, rfl, hO4, hn4, hU4⟩
              have O4 := Lib.hid hO4
              have N4 := Lib.hid hn4
              have U4 := Lib.hid hU4
              clear hO4 hn4 hU4
              have V4 := Lib.hid (show Upd NoF wr w4 from U3.out.trans U4.out (fun _ _ h => h))
              go_wp2_with (at_builtin; refine wpList_append_to _ rfl (.tmp 61) (.tmp 64) 22 rfl 27 i0 _ 1 24 Try.underlying22 hi0 hz0 hz1 hz2 rfl (.slice A l.length c) l.length vs rfl (HV.out.1.upd (V4.out.alloc _) (fun _ _ h => h)) (.slice (some ⟨w4.heap.size, 0, none⟩) 1 1) 1 [.slice A4 r.length c4] rfl (Rd.of_blk (Blk.new w4 _ _) (by omega) (by unfold maxLen; omega) rfl (by intro j u hu; cases j with | zero => simpa using hu | succ j => simp at hu)) (by simp [Value.oneCell']) (by unfold maxLen; omega) (by omega) ?_; intro A5 c5 w5 hown5 hupd5 hnew5; have O5 := Lib.hid hown5; have U5 := Lib.hid hupd5; have N5 := Lib.hid hnew5; clear hown5 hupd5 hnew5)
              go_roundw
              case rel =>
                obtain ⟨g1, g2⟩ := RecsV.push HV.out (V4.out.alloc _) (O4.out.upd ((Upd.refl NoF w4).alloc _) (fun _ _ h => h)) O5.out U5.out N5.out
                have hwz := HU.out.size
                have hv4 := V4.out.size
                have hu3 := U3.out.size
                refine ⟨l ++ [r], (a + 12), A5, c5, vs ++ [.slice A4 r.length c4], by simp, by go_num, HP.out.next HS.out, by rw [List.length_append, List.length_singleton]; exact g1, fun k hk => ?_, (HU.out.trans (V4.out.alloc _) (fun _ _ h => h)).trans U5.out (fun k hk e => by have := HF.out k (.inl e); omega)⟩
                rw [List.length_append, List.length_singleton] at hk
                rcases g2 k hk with e | e | e
                · exact HF.out k e
                · have := N4.out k e; omega
                · simp at e; omega
              case measure => simp [intOf]; omega
        · have t2 : decide ((bs.length : Int) - (a : Int) - 12 < (n : Int)) = true := by simp; omega
          go_wp2_with fail
          refine CU.out.mono ?_
          rintro e w' ⟨rfl, rfl⟩
          go_wp2
          go_ret2
          exact DONE.out (ps_big (by rw [HN.out]; omega)) _ (Upd.refl _ _)
    · have CU := Lib.hid (cUint_no HR.out a 4 (by omega) (by omega) (by omega) (by omega))
      go_wp2_with fail
      refine CU.out.mono ?_
      rintro e w' ⟨rfl, rfl⟩
      go_wp2
      go_ret2
      exact DONE.out (ps_short (by omega)) _ (Upd.refl _ _)
end Go.Proofs.Ytmapijpphnlcmaa
