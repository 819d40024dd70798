/- Decode of signed votes, of package signed and of the reference. Conditions: sizes. -/
import Derived.Test.YtbgificdilpdcaaVDec
namespace Go.Proofs.Ytbgificdilpdcaa
open Go.RowKit

def zeroS : SignedS := ⟨zeroV, []⟩
def nilV : Value := .slice none 0 0
def okDec (bs : List UInt8) : Bool := decide (bs.length = 393) && validB (decV (bs.take 23))
def zeroRow : Array Value := (rowS zeroS nilV).toArray
theorem zeroRow_size : zeroRow.size = 23 := by simp [zeroRow, rowS_len (s := zeroS) zeroV_fit]
theorem alloc_signed (w : World) : (Instr.alloc 38 true (.tuple #[])).run Try.prog w = .ok (.pointer (some ⟨w.heap.size, 0, none⟩)) (w.alloc (.cells zeroRow 38)) := by kernel_rfl
theorem build_signed0 (w : World) : (Instr.build 38 #[]).run Try.prog w = .ok (.agg zeroRow) w := by kernel_rfl
theorem build_signed' (z0 z1 z2 z3 z4 z5 : Int) (p0 p1 p2 p3 p4 p5 p6 p7 q0 q1 q2 q3 q4 q5 q6 q7 : UInt8) (A : Option Addr) (n c : Nat) (w : World) : (Instr.build 38 #[(0, .agg #[.int .i64 z0, .int .i64 z1, .int .i64 z2, .int .i64 z3, .int .i64 z4, .int .i64 z5, byteV p0, byteV p1, byteV p2, byteV p3, byteV p4, byteV p5, byteV p6, byteV p7, byteV q0, byteV q1, byteV q2, byteV q3, byteV q4, byteV q5, byteV q6, byteV q7]), (1, .slice A n c)]).run Try.prog w = .ok (.agg #[.int .i64 z0, .int .i64 z1, .int .i64 z2, .int .i64 z3, .int .i64 z4, .int .i64 z5, byteV p0, byteV p1, byteV p2, byteV p3, byteV p4, byteV p5, byteV p6, byteV p7, byteV q0, byteV q1, byteV q2, byteV q3, byteV q4, byteV q5, byteV q6, byteV q7, .slice A n c]) w := by kernel_rfl
theorem build_signed {v : VoteS} (hf : v.Fit) (A : Option Addr) (n c : Nat) (sig : List UInt8) (w : World) : (Instr.build 38 #[(0, voteV v), (1, .slice A n c)]).run Try.prog w = .ok (.agg (rowS ⟨v, sig⟩ (.slice A n c)).toArray) w := by
  obtain ⟨p0, p1, p2, p3, p4, p5, p6, p7, q0, q1, q2, q3, q4, q5, q6, q7, e1, e2⟩ := fit_spell hf
  unfold rowS voteV voteCells
  rw [e1, e2]
  exact build_signed' v.kind v.slot v.round v.choice v.signer v.support p0 p1 p2 p3 p4 p5 p6 p7 q0 q1 q2 q3 q4 q5 q6 q7 A n c w
theorem row_info {s : SignedS} (hf : s.vote.Fit) (u : Value) : (Try.prog.info? 38).map (·.size) = some (rowS s u).toArray.size := by rw [signed_size]; simp [rowS_len hf]
theorem row_one (s : SignedS) {u : Value} (hu : u.oneCell' = true) : (rowS s u).toArray.all (·.oneCell') = true := by
  have := vote_one s.vote
  simp only [List.all_toArray] at this ⊢
  unfold rowS
  rw [List.all_append, this]
  simp [hu]
/-- What Decode leaves where it refuses. -/
def SDecBad (w : World) (e : Ending) (w' : World) : Prop := ∃ c : Int, c ≠ 0 ∧ e = .returned (.tuple #[.agg zeroRow, .int .i64 c]) ∧ Upd NoF w w'
def SDecOk (w : World) (s : SignedS) (e : Ending) (w' : World) : Prop := ∃ A c, e = .returned (.tuple #[.agg (rowS s (.slice A s.sig.length c)).toArray, .int .i64 0]) ∧ RdF (fun k => k < w.heap.size) w' 1 (.slice A s.sig.length c) s.sig.length (s.sig.map byteV) ∧ Upd NoF w w'
def SigF (R : Nat) (sig : List UInt8) (v : Value) (w : World) : Prop := ∃ A c, v = .slice A sig.length c ∧ RdF (fun k => k ≤ R) w 1 v sig.length (sig.map byteV)
def RowF (R : Nat) (s : SignedS) (v : Value) (w : World) : Prop := ∃ A c, v = .agg (rowS s (.slice A s.sig.length c)).toArray ∧ RdF (fun k => k ≤ R) w 1 (.slice A s.sig.length c) s.sig.length (s.sig.map byteV)
theorem stb_sig (R : Nat) (sig : List UInt8) : Stb (fun w1 w2 => Upd (fun k => k = R) w1 w2) (SigF R sig) := fun _ _ _ ⟨A, c, e, h⟩ hu => ⟨A, c, e, h.upd (hu.mono (fun _ _ f => Nat.le_of_eq f))⟩
theorem stb_row (R : Nat) (s : SignedS) : Stb (fun w1 w2 => Upd (fun k => k = R) w1 w2) (RowF R s) := fun _ _ _ ⟨A, c, e, h⟩ hu => ⟨A, c, e, h.upd (hu.mono (fun _ _ f => Nat.le_of_eq f))⟩
/-- The variable of the result: zero until op b has stored a row into it. -/
structure ResVar (w0 : World) (R : Nat) (s : SignedS) (b : Nat) (L : Nat → Bool) (w : World) : Prop where
  upd : Upd (fun k => k = R) w0 w
  before : ∃ cs, Blk w R 38 cs ∧ cs.size = 23
  after : L b = true → ∃ A c, Blk w R 38 (rowS s (.slice A s.sig.length c)).toArray ∧ RdF (fun k => k ≤ R) w 1 (.slice A s.sig.length c) s.sig.length (s.sig.map byteV)
theorem ResVar.other {w0 w w' : World} {R : Nat} {s : SignedS} {b i : Nat} {L : Nat → Bool} (h : ResVar w0 R s b L w) (hb : b ≠ i) (hLb : L b = false) (hu : Upd (fun k => k = R) w w') (hk : ∃ cs, Blk w' R 38 cs ∧ cs.size = 23) : ResVar w0 R s b (fun j => j == i || L j) w' :=
  ⟨h.upd.trans hu (fun _ _ f => f), hk, (fun e => by simp [hb, hLb] at e)⟩
theorem ResVar.same {w0 w : World} {R : Nat} {s : SignedS} {b i : Nat} {L : Nat → Bool} (h : ResVar w0 R s b L w) (hb : b ≠ i) : ResVar w0 R s b (fun j => j == i || L j) w :=
  ⟨h.upd, h.before, fun e => h.after (by simpa [hb] using e)⟩


set_option maxRecDepth 100000 in
set_option maxHeartbeats 4000000 in
theorem sDecode_short {w : World} {v : Value} {bs : List UInt8} (h : Rd w 1 v bs.length (bs.map byteV)) (hl : bs.length < 393) : Calls Try.prog 39 #[v] w (SDecBad w) := by
  obtain ⟨A, c, rfl, hlc, hcm⟩ := h.slice
  have t1 : decide ((bs.length : Int) < 393) = true := by simp; omega
  have t1' : decide (bs.length < 393) = true := by simp; omega
  have t2 : decide ((393 : Int) < bs.length) = false := by simp; omega
  have t2' : decide (393 < bs.length) = false := by simp; omega
  have hb0 := build_signed0
  clear h
  go_enter Try.func39, Try.ntmps39
  go_wp2_with (first
    | (refine wpList_alloc_row rfl 38 rfl zeroRow alloc_signed ?_; intro w1 hb1 hu1 hs1; have B1 := Lib.hid hb1; have U1 := Lib.hid hu1; have S1 := Lib.hid hs1; clear hb1 hu1 hs1)
    | (refine wpList_store_row rfl 38 (.tmp 2) (.tmp 10) rfl w.heap.size rfl zeroRow rfl 38 _ B1.out rfl (by rw [signed_size, zeroRow_size]) (row_one zeroS rfl) ?_; intro w9 hb9 hu9 hs9))
  refine bodyPost_ret (results_cell_tmp Try.results39 _ _ w.heap.size (rowS zeroS nilV) _ rfl (range_blk hb9) Try.underlying38 rfl (by rw [signed_size, rowS_len (s := zeroS) zeroV_fit])) rfl ⟨2, by omega, rfl, ?_⟩
  exact U1.out.trans hu9 (fun k hk e => by have e : k = w.heap.size := e; omega)


set_option maxRecDepth 100000 in
set_option maxHeartbeats 4000000 in
theorem sDecode_long {w : World} {v : Value} {bs : List UInt8} (h : Rd w 1 v bs.length (bs.map byteV)) (hl : 393 < bs.length) : Calls Try.prog 39 #[v] w (SDecBad w) := by
  obtain ⟨A, c, rfl, hlc, hcm⟩ := h.slice
  have t1 : decide ((bs.length : Int) < 393) = false := by simp; omega
  have t1' : decide (bs.length < 393) = false := by simp; omega
  have t2 : decide ((393 : Int) < bs.length) = true := by simp; omega
  have t2' : decide (393 < bs.length) = true := by simp; omega
  have hb0 := build_signed0
  clear h
  go_enter Try.func39, Try.ntmps39
  go_wp2_with (first
    | (refine wpList_alloc_row rfl 38 rfl zeroRow alloc_signed ?_; intro w1 hb1 hu1 hs1; have B1 := Lib.hid hb1; have U1 := Lib.hid hu1; have S1 := Lib.hid hs1; clear hb1 hu1 hs1)
    | (refine wpList_store_row rfl 38 (.tmp 2) (.tmp 15) rfl w.heap.size rfl zeroRow rfl 38 _ B1.out rfl (by rw [signed_size, zeroRow_size]) (row_one zeroS rfl) ?_; intro w9 hb9 hu9 hs9))
  refine bodyPost_ret (results_cell_tmp Try.results39 _ _ w.heap.size (rowS zeroS nilV) _ rfl (range_blk hb9) Try.underlying38 rfl (by rw [signed_size, rowS_len (s := zeroS) zeroV_fit])) rfl ⟨3, by omega, rfl, ?_⟩
  exact U1.out.trans hu9 (fun k hk e => by have e : k = w.heap.size := e; omega)


set_option maxRecDepth 100000 in
set_option maxHeartbeats 4000000 in
theorem sDecode_inv {w : World} {v : Value} {bs : List UInt8} (h : Rd w 1 v bs.length (bs.map byteV)) (hl : bs.length = 393) (hv : validB (decV (bs.take 23)) = false) : Calls Try.prog 39 #[v] w (SDecBad w) := by
  obtain ⟨A, c, rfl, hlc, hcm⟩ := h.slice
  obtain ⟨g, o, rfl, -⟩ := rd_cells h (by omega)
  have t1 : decide ((bs.length : Int) < 393) = false := by simp; omega
  have t1' : decide (bs.length < 393) = false := by simp; omega
  have t2 : decide ((393 : Int) < bs.length) = false := by simp; omega
  have t2' : decide (393 < bs.length) = false := by simp; omega
  have HR := Lib.hid h
  have R23 := Lib.hid (show ∀ W, Upd (Ab w) w W → Rd W 1 (.slice (some ⟨g, o, none⟩) 23 c) (bs.take 23).length ((bs.take 23).map byteV) from fun W hu => by
    have := (h.abK hu).upto (k := 23) (by omega)
    rw [show (bs.take 23).length = 23 by simp; omega, List.map_take]
    exact this)
  have CV := Lib.hid (show ∀ W, Upd (Ab w) w W → Calls Try.prog 62 #[.slice (some ⟨g, o, none⟩) 23 c] W (DecVPost W (decVS (bs.take 23))) from fun W hu => vDecode_any (R23.out W hu))
  have q23 : (23 : Int) ≤ (c : Int) := by omega
  have hb0 := build_signed0
  have HD := Lib.hid (show decVS (bs.take 23) = (zeroV, 11) from by unfold decVS; rw [if_neg (by simp; omega), if_neg (by simp; omega), hv]; rfl)
  obtain ⟨vz, hvz⟩ : ∃ z, voteV zeroV = .agg z := ⟨_, rfl⟩
  have HVZ := Lib.hid hvz
  have VS := Lib.hid (show (voteCells zeroV).toArray.size = vz.size ∧ (Try.prog.info? 35).map (·.size) = some vz.size ∧ vz.all (·.oneCell') = true from by
    injection hvz with hvz
    rw [← hvz]
    exact ⟨rfl, vote_info _ zeroV_fit, vote_one _⟩)
  rw [hl]
  rw [hl] at hlc
  clear h hl hv hvz hlc
  go_enter Try.func39, Try.ntmps39
  go_wp2_with (first
    | (refine wpList_alloc_row rfl 38 rfl zeroRow alloc_signed ?_; intro w1 hb1 hu1 hs1; have B1 := Lib.hid hb1; have U1 := Lib.hid hu1; have S1 := Lib.hid hs1; clear hb1 hu1 hs1))
  refine (CV.out _ U1.out.toAb).mono ?_
  rintro e w2 ⟨rfl, hu2⟩
  rw [HD.out]
  rw [show voteV ((zeroV, (11 : Int)) : VoteS × Int).1 = .agg vz from HVZ.out]
  have U2 := Lib.hid (U1.out.trans hu2 (fun _ _ h => h))
  have B2 := Lib.hid (hu2.blk B1.out (fun h => h))
  have hR2 : w.heap.size < w2.heap.size := B2.out.lt
  clear hu2
  go_wp2_with (first
    | (refine wpList_alloc_row rfl 35 rfl (voteCells zeroV).toArray alloc_vote ?_; intro w3 hb3 hu3 hs3; have B3 := Lib.hid hb3; have U3 := Lib.hid hu3; have S3 := Lib.hid hs3; clear hb3 hu3 hs3)
    | (refine wpList_store_row rfl 35 (.tmp 4) (.tmp 20) rfl w2.heap.size rfl vz rfl 35 _ B3.out (VS.out.1) (VS.out.2.1) (VS.out.2.2) ?_; intro w4 hb4 hu4 hs4; have B4 := Lib.hid hb4; have U4 := Lib.hid hu4; have S4 := Lib.hid hs4; clear hb4 hu4 hs4)
    | (refine wpList_store_row rfl 38 (.tmp 2) (.tmp 24) rfl w.heap.size rfl zeroRow rfl 38 _ ((U4.out.blk (U3.out.blk B2.out (fun h => h)) (by have := hR2; omega))) rfl (by rw [signed_size, zeroRow_size]) (row_one zeroS rfl) ?_; intro w9 hb9 hu9 hs9))
  refine bodyPost_ret (results_cell_tmp Try.results39 _ _ w.heap.size (rowS zeroS nilV) _ rfl (range_blk hb9) Try.underlying38 rfl (by rw [signed_size, rowS_len (s := zeroS) zeroV_fit])) rfl ⟨11, by omega, rfl, ?_⟩
  exact ((U2.out.trans U3.out (fun _ _ h => h)).trans U4.out (fun k hk e => by have e : k = w2.heap.size := e; omega)).trans hu9 (fun k hk e => by have e : k = w.heap.size := e; omega)


set_option maxRecDepth 100000 in
set_option maxHeartbeats 8000000 in
theorem sDecode_ok {w : World} {v : Value} {bs : List UInt8} (h : Rd w 1 v bs.length (bs.map byteV)) (hl : bs.length = 393) (hv : validB (decV (bs.take 23)) = true) : Calls Try.prog 39 #[v] w (SDecOk w (decS bs)) := by
  obtain ⟨A, c, rfl, hlc, hcm⟩ := h.slice
  obtain ⟨g, o, rfl, -⟩ := rd_cells h (by omega)
  have t1 : decide ((bs.length : Int) < 393) = false := by simp; omega
  have t1' : decide (bs.length < 393) = false := by simp; omega
  have t2 : decide ((393 : Int) < bs.length) = false := by simp; omega
  have t2' : decide (393 < bs.length) = false := by simp; omega
  have HR := Lib.hid h
  have R23 := Lib.hid (show ∀ W, Upd (Ab w) w W → Rd W 1 (.slice (some ⟨g, o, none⟩) 23 c) (bs.take 23).length ((bs.take 23).map byteV) from fun W hu => by
    have := (h.abK hu).upto (k := 23) (by omega)
    rw [show (bs.take 23).length = 23 by simp; omega, List.map_take]
    exact this)
  have CV := Lib.hid (show ∀ W, Upd (Ab w) w W → Calls Try.prog 62 #[.slice (some ⟨g, o, none⟩) 23 c] W (DecVPost W (decVS (bs.take 23))) from fun W hu => vDecode_any (R23.out W hu))
  have q23 : (23 : Int) ≤ (c : Int) := by omega
  have hb0 := build_signed0
  have HD := Lib.hid (show decVS (bs.take 23) = (decV (bs.take 23), 0) from by unfold decVS; rw [if_neg (by simp; omega), if_neg (by simp; omega), hv]; rfl)
  have RS := Lib.hid (show ∀ W, Upd (Ab w) w W → Rd W 1 (.slice (some ⟨g, o + 23, none⟩) 370 (c - 23)) (bs.drop 23).length ((bs.drop 23).map byteV) from fun W hu => by
    have := rd_part (h.abK hu) rfl (lo := 23) (k := 370) (m := c - 23) (by omega) (by omega) (by omega) (some ⟨g, o + 23, none⟩) (fun _ => rfl)
    rw [show (bs.drop 23).take 370 = bs.drop 23 from List.take_of_length_le (by simp; omega)] at this
    exact this)
  have HSL := Lib.hid (show (bs.drop 23).length = 370 from by simp; omega)
  have HSG := Lib.hid (show (bs.drop 23).length = (decS bs).sig.length from rfl)
  have hfit : (decV (bs.take 23)).Fit := decV_fit (by simp; omega)
  have HF := Lib.hid hfit
  obtain ⟨vz, hvz⟩ : ∃ z, voteV (decV (bs.take 23)) = .agg z := ⟨_, rfl⟩
  have HVZ := Lib.hid hvz
  have VA := Lib.hid (show (voteCells (decV (bs.take 23))).toArray = vz from by injection hvz)
  have VS := Lib.hid (show (voteCells zeroV).toArray.size = vz.size ∧ (Try.prog.info? 35).map (·.size) = some vz.size ∧ vz.all (·.oneCell') = true from by
    rw [← VA.out]
    exact ⟨by simp [vc_len hfit, vc_len zeroV_fit], vote_info _ hfit, vote_one _⟩)
  have BD := Lib.hid (show ∀ A5 c5 W, (Instr.build 38 #[(0, .agg vz), (1, .slice A5 (decS bs).sig.length c5)]).run Try.prog W = .ok (.agg (rowS (decS bs) (.slice A5 (decS bs).sig.length c5)).toArray) W from fun A5 c5 W => by
    rw [← HVZ.out]
    exact build_signed hfit A5 _ c5 (decS bs).sig W)
  rw [hl]
  rw [hl] at hlc
  have qc : 393 ≤ c := hlc
  clear h hl hv hvz hlc hfit
  go_enter Try.func39, Try.ntmps39
  go_wp2_with (first
    | (refine wpList_alloc_row rfl 38 rfl zeroRow alloc_signed ?_; intro w1 hb1 hu1 hs1; have B1 := Lib.hid hb1; have U1 := Lib.hid hu1; have S1 := Lib.hid hs1; clear hb1 hu1 hs1))
  refine (CV.out _ U1.out.toAb).mono ?_
  rintro e w2 ⟨rfl, hu2⟩
  rw [HD.out]
  rw [show voteV ((decV (bs.take 23), (0 : Int)) : VoteS × Int).1 = .agg vz from HVZ.out]
  have U2 := Lib.hid (U1.out.trans hu2 (fun _ _ h => h))
  have B2 := Lib.hid (hu2.blk B1.out (fun h => h))
  have hR2 : w.heap.size < w2.heap.size := B2.out.lt
  clear hu2
  go_wp2_with (first
    | (refine wpList_alloc_row rfl 35 rfl (voteCells zeroV).toArray alloc_vote ?_; intro w3 hb3 hu3 hs3; have B3 := Lib.hid hb3; have U3 := Lib.hid hu3; have S3 := Lib.hid hs3; clear hb3 hu3 hs3)
    | (refine wpList_store_row rfl 35 (.tmp 4) (.tmp 20) rfl w2.heap.size rfl vz rfl 35 _ B3.out (VS.out.1) (VS.out.2.1) (VS.out.2.2) ?_; intro w4 hb4 hu4 hs4; have B4 := Lib.hid hb4; have U4 := Lib.hid hu4; have S4 := Lib.hid hs4; clear hb4 hu4 hs4))
  have B4R := Lib.hid (U4.out.blk (U3.out.blk B2.out (fun h => h)) (show ¬ w.heap.size = w2.heap.size by omega))
  have U4w := Lib.hid ((U2.out.trans U3.out (fun _ _ h => h)).trans U4.out (fun k hk e => by have e : k = w2.heap.size := e; omega))
  refine wp_region_rgw (rgR [isV (.agg vz), isV (.slice (some ⟨g, o, none⟩) 393 c), isV (.slice (some ⟨g, o + 23, none⟩) 370 (c - 23)), SigF w.heap.size (bs.drop 23), RowF w.heap.size (decS bs), anyV, isV (.int .i64 0)]) (fun w1 w2 => Upd (fun k => k = w.heap.size) w1 w2) (ResVar w4.drew w.heap.size (decS bs) 5) (by kernel_rfl) (by kernel_rfl) (by kernel_rfl) (by rfl) (fun w => Upd.refl _ _) (rgR_keep (by
    intro p hp; simp only [List.mem_cons, List.not_mem_nil, or_false] at hp; rcases hp with rfl | rfl | rfl | rfl | rfl | rfl | rfl <;> first | exact stb_isV _ | exact stb_any | exact stb_sig _ _ | exact stb_row _ _)) (⟨Upd.refl _ _, ⟨_, B4R.out.drew, zeroRow_size⟩, (fun e => by cases e)⟩) ?_ ?_
  · refine ⟨?_, ?_, ?_, ?_, ?_, ?_, ?_, trivial⟩
    · refine fun ρ w' L hW hLi hcl hd hdep hext hc hg hf => ?_
      rw [if_pos (show wantedR _ _ _ = true from rfl)]
      have e4 : ρ (.tmp 4) = .pointer (some ⟨w2.heap.size, 0, none⟩) := hext 4 (by kernel_rfl)
      clear hdep hext
      have hrg : w'.rangeAt w2.heap.size 0 (voteCells (decV (bs.take 23))) := by
        have := hW.upd.blk B4.out.drew (by omega)
        rw [← VA.out] at this
        exact range_blk this
      have HV0 := HVZ.out
      refine od_load_row 35 (.tmp 4) rfl w2.heap.size 0 e4 (voteCells (decV (bs.take 23))) _ hrg Try.underlying35 rfl (by rw [vote_size, vc_len HF.out]) ?_
      rw [VA.out]
      exact ⟨rfl, Upd.refl _ _, hW.same (by decide)⟩
    · refine fun ρ w' L hW hLi hcl hd hdep hext hc hg hf => ?_
      rw [if_pos (show wantedR _ _ _ = true from rfl)]
      have e0 : ρ (.tmp 0) = .slice (some ⟨g, o, none⟩) 393 c := hext 0 (by kernel_rfl)
      clear hdep hext hcl
      have HW := Lib.hid hW
      clear hW
      unfold OpDone
      go_simp
      exact ⟨rfl, Upd.refl _ _, HW.out.same (by decide)⟩
    · refine fun ρ w' L hW hLi hcl hd hdep hext hc hg hf => ?_
      rw [if_pos (show wantedR _ _ _ = true from rfl)]
      have e27 : ρ (.tmp 27) = .slice (some ⟨g, o, none⟩) 393 c := hdep 1 _ rfl (by kernel_rfl)
      have qq : (23 : Int) ≤ (c : Int) := by omega
      have qn : ¬ c = 23 := by omega
      clear hdep hext hcl
      have HW := Lib.hid hW
      clear hW
      unfold OpDone
      go_simp
      exact ⟨rfl, Upd.refl _ _, HW.out.same (by decide)⟩
    · refine fun ρ w' L hW hLi hcl hd hdep hext hc hg hf => ?_
      rw [if_pos (show wantedR _ _ _ = true from rfl)]
      have e28 : ρ (.tmp 28) = .slice (some ⟨g, o + 23, none⟩) 370 (c - 23) := hdep 2 _ rfl (by kernel_rfl)
      clear hdep hext
      have hab : Upd (Ab w) w w' := ((U4w.out.toAb).drew).trans hW.upd (fun k _ e => by have e : k = w.heap.size := e; unfold Ab; omega)
      obtain ⟨cs, hcs, hcz⟩ := hW.before
      have hlt := hcs.lt
      have hLb : L 5 = false := by
        cases hq : L 5 with
        | false => rfl
        | true => have := hcl 5 3 hq (by kernel_rfl); rw [this] at hLi; cases hLi
      have CA := Lib.hid (cAppendUint_any (RS.out w' hab) 0 (by omega) 0 (by omega) (by have := HSL.out; omega))
      have HW := Lib.hid hW
      have HCS := Lib.hid hcs
      clear hW hab hcs
      unfold OpDone
      go_simp
      refine CA.out.mono ?_
      rintro e w5 ⟨A5, c5, rfl, ho5, hn5, hu5⟩
      have e5 : (bs.drop 23) ++ beB 0 0 = (bs.drop 23) := by simp [beB]
      rw [e5] at ho5 hn5 ⊢
      exact ⟨_, rfl, ⟨A5, c5, rfl, ho5.rdF (fun k hk e => by have := hn5 k hk; have e : k ≤ w.heap.size := e; omega)⟩, hu5.mono (fun _ _ f => f.elim), HW.out.other (by decide) hLb (hu5.mono (fun _ _ f => f.elim)) ⟨cs, hu5.blk HCS.out (fun h => h), hcz⟩⟩
    · refine fun ρ w' L hW hLi hcl hd hdep hext hc hg hf => ?_
      rw [if_pos (show wantedR _ _ _ = true from rfl)]
      have e26 : ρ (.tmp 26) = .agg vz := hdep 0 _ rfl (by kernel_rfl)
      have e29 : (SigF w.heap.size (bs.drop 23)) (ρ (.tmp 29)) w' := hdep 3 _ rfl (by kernel_rfl)
      clear hdep hext
      obtain ⟨A5, c5, e5, hs5⟩ := e29
      have HS5 := Lib.hid hs5
      rw [HSG.out] at e5
      clear hs5
      refine od_build 38 _ rfl #[(0, .agg vz), (1, .slice A5 (decS bs).sig.length c5)] (by simp [e26, e5]) (BD.out A5 c5 w') ?_
      exact ⟨⟨A5, c5, rfl, by rw [e5] at HS5; exact HS5.out⟩, Upd.refl _ _, hW.same (by decide)⟩
    · refine fun ρ w' L hW hLi hcl hd hdep hext hc hg hf => ?_
      rw [if_pos (show wantedR _ _ _ = true from rfl)]
      have e2 : ρ (.tmp 2) = .pointer (some ⟨w.heap.size, 0, none⟩) := hext 2 (by kernel_rfl)
      have e30 : (RowF w.heap.size (decS bs)) (ρ (.tmp 30)) w' := hdep 4 _ rfl (by kernel_rfl)
      clear hdep hext
      obtain ⟨A6, c6, e6, hs6⟩ := e30
      obtain ⟨cs, hcs, hcz⟩ := hW.before
      refine od_store_row 38 (.tmp 2) (.tmp 30) rfl w.heap.size e2 _ e6 38 cs hcs (by rw [hcz]; simp [rowS_len (s := (decS bs)) HF.out]) (row_info (s := (decS bs)) HF.out _) (row_one _ rfl) (fun w5 hb5 hu5 hs5 => ?_)
      exact ⟨trivial, hu5, ⟨hW.upd.trans hu5 (fun _ _ f => f), ⟨_, hb5, by simp [rowS_len (s := (decS bs)) HF.out]⟩, fun _ => ⟨A6, c6, hb5, hs6.upd (hu5.mono (fun _ _ f => Nat.le_of_eq f))⟩⟩⟩
    · refine fun ρ w' L hW hLi hcl hd hdep hext hc hg hf => ?_
      rw [if_pos (show wantedR _ _ _ = true from rfl)]
      clear hdep hext hcl
      have HW := Lib.hid hW
      clear hW
      unfold OpDone
      go_simp
      exact ⟨rfl, Upd.refl _ _, HW.out.same (by decide)⟩
  intro vs W8 L8 hL8 hW8 hR
  have hv0 : vs 0 = .agg vz := hR 0 _ rfl
  have hv1 : vs 1 = .slice (some ⟨g, o, none⟩) 393 c := hR 1 _ rfl
  have hv2 : vs 2 = .slice (some ⟨g, o + 23, none⟩) 370 (c - 23) := hR 2 _ rfl
  have hr3 : (SigF w.heap.size (bs.drop 23)) (vs 3) W8 := hR 3 _ rfl
  obtain ⟨A5, c5, hv3, hs3⟩ := hr3
  have hr4 : (RowF w.heap.size (decS bs)) (vs 4) W8 := hR 4 _ rfl
  obtain ⟨A6, c6, hv4, hs4⟩ := hr4
  have hv6 : vs 6 = .int .i64 0 := hR 6 _ rfl
  simp only [putAll, Act.put, List.setIfInBounds_toArray, List.set_cons_zero, List.set_cons_succ, hv0, hv1, hv2, hv3, hv4, hv6]
  clear hR hv0 hv1 hv2 hv3 hv4 hv6
  obtain ⟨A9, c9, hb9, hr9⟩ := hW8.after (hL8 5 (by decide))
  have U9 := Lib.hid (show Upd NoF w W8 from (U4w.out.drew).trans hW8.upd (fun k hk e => by have e : k = w.heap.size := e; omega))
  have B9 := Lib.hid hb9
  have R9 := Lib.hid hr9
  clear hW8 hL8 hb9 hr9 hs3 hs4
  go_wp2
  refine bodyPost_ret (results_cell_tmp Try.results39 _ _ w.heap.size (rowS (decS bs) (.slice A9 (decS bs).sig.length c9)) _ rfl (range_blk B9.out) Try.underlying38 rfl (by rw [signed_size, rowS_len (s := (decS bs)) HF.out])) rfl ⟨A9, c9, rfl, R9.out.mono (fun _ _ f => Nat.le_of_lt f), U9.out⟩

theorem sDecode_bad {w : World} {v : Value} {bs : List UInt8} (h : Rd w 1 v bs.length (bs.map byteV)) (hb : okDec bs = false) : Calls Try.prog 39 #[v] w (SDecBad w) := by
  rcases Nat.lt_trichotomy bs.length 393 with h1 | h1 | h1
  · exact sDecode_short h h1
  · refine sDecode_inv h h1 ?_
    unfold okDec at hb
    simpa [h1] using hb
  · exact sDecode_long h h1
theorem sDecode_yes {w : World} {v : Value} {bs : List UInt8} (h : Rd w 1 v bs.length (bs.map byteV)) (hb : okDec bs = true) : Calls Try.prog 39 #[v] w (SDecOk w (decS bs)) := by
  unfold okDec at hb
  rw [Bool.and_eq_true, decide_eq_true_eq] at hb
  exact sDecode_ok h hb.1 hb.2


end Go.Proofs.Ytbgificdilpdcaa
