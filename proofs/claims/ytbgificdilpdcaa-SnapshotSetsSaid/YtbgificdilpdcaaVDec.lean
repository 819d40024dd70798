/- Decode of package vote and of the reference. Conditions: sizes. -/
import Derived.Test.YtbgificdilpdcaaJn7
import Derived.Test.YtbgificdilpdcaaJn8
import Derived.Outline
namespace Go.Proofs.Ytbgificdilpdcaa
open Go.RowKit

abbrev zeroV : VoteS := ⟨0, 0, 0, 0, 0, 0, zero8, zero8⟩
theorem in64_0 : in64 0 := ⟨by omega, by omega⟩
theorem zeroV_fit : zeroV.Fit := ⟨in64_0, in64_0, in64_0, in64_0, in64_0, in64_0, rfl, rfl⟩
def decVS (bs : List UInt8) : VoteS × Int := if bs.length < 23 then (zeroV, 2) else if 23 < bs.length then (zeroV, 3) else if validB (decV bs) then (decV bs, 0) else (zeroV, 11)
def DecVPost (w : World) (r : VoteS × Int) (e : Ending) (w' : World) : Prop := e = .returned (.tuple #[voteV r.1, .int .i64 r.2]) ∧ Upd NoF w w'

/-- Two results: a row that lies in a variable of the call's, and a slot. -/
theorem results_cell_tmp {P : Program} {fn : Func} {p u : Tmp} {ty : TypeId} (h : fn.results = #[.cell p ty, .tmp u]) (tmps : Array Value) (w : World) (g : Nat) (cs : List Value) (d : TypeDesc)
    (hp : tmps.getD p undef = .pointer (some ⟨g, 0, none⟩)) (hc : w.rangeAt g 0 cs) (hu : P.underlying ty = some d) (hd : d.isRow = true) (hi : (P.info? ty).map (·.size) = some cs.length) :
    (results fn tmps).run P w = .ok (.tuple #[.agg cs.toArray, tmps.getD u undef]) w := by
  have hp' : tmps[p]?.getD undef = .pointer (some ⟨g, 0, none⟩) := by simpa using hp
  simp [results, h, hp', asAddr, run_loadVar_mid w g 0 ty cs d hc hu hd hi]
theorem alloc_vote (w : World) : (Instr.alloc 35 true (.tuple #[])).run Try.prog w = .ok (.pointer (some ⟨w.heap.size, 0, none⟩)) (w.alloc (.cells (voteCells zeroV).toArray 35)) := by kernel_rfl
theorem vote_info (v : VoteS) (hf : v.Fit) : (Try.prog.info? 35).map (·.size) = some (voteCells v).toArray.size := by rw [vote_size]; simp [vc_len hf]
theorem vote_one (v : VoteS) : (voteCells v).toArray.all (·.oneCell') = true := by
  simp only [List.all_toArray, voteCells, List.all_append, Bool.and_eq_true, List.all_eq_true]
  refine ⟨⟨?_, fun x hx => bytes_oneCell _ x hx⟩, fun x hx => bytes_oneCell _ x hx⟩
  intro x hx
  simp only [List.mem_cons, List.not_mem_nil, or_false] at hx
  rcases hx with rfl | rfl | rfl | rfl | rfl | rfl <;> rfl
theorem voteCells_of {bs : List UInt8} {b0 b1 b2 b3 b4 : UInt8} (_hl : bs.length = 23) (h0 : bs[0]? = some b0) (h1 : bs[1]? = some b1) (h2 : bs[2]? = some b2) (h3 : bs[3]? = some b3) (h4 : bs[4]? = some b4) :
    voteCells (decV bs) = [.int .i64 b0.toNat, .int .i64 b1.toNat, .int .i64 b2.toNat, .int .i64 b3.toNat, .int .i64 b4.toNat, .int .i64 (be ((bs.drop 5).take 2))] ++ ((bs.drop 7).take 8).map byteV ++ ((bs.drop 15).take 8).map byteV := by
  unfold voteCells decV at8
  simp only [h0, h1, h2, h3, h4, Option.getD_some]
theorem bu8 (b : UInt8) : IntKind.i64.wrap (b.toNat : Int) = b.toNat := IntWalk.i64_in _ (by have := b.toNat_lt; omega)


set_option maxRecDepth 100000 in
set_option maxHeartbeats 4000000 in
theorem vDecode_short {w : World} {v : Value} {bs : List UInt8} (h : Rd w 1 v bs.length (bs.map byteV)) (hl : bs.length < 23) : Calls Try.prog 62 #[v] w (DecVPost w (decVS bs)) := by
  obtain ⟨A, c, rfl, hlc, hcm⟩ := h.slice
  rw [show decVS bs = (zeroV, 2) from by unfold decVS; rw [if_pos hl]]
  have t1 : decide ((bs.length : Int) < 23) = true := by simp; omega
  have t1' : decide (bs.length < 23) = true := by simp; omega
  have t2 : decide ((23 : Int) < bs.length) = false := by simp; omega
  have t2' : decide (23 < bs.length) = false := by simp; omega
  clear h
  go_enter Try.func62, Try.ntmps62
  go_wp2_with (first | (refine wpList_store_row rfl 35 (.tmp 2) (.tmp 11) rfl w.heap.size rfl (voteCells zeroV).toArray rfl 35 (voteCells zeroV).toArray (Blk.new w _ _) rfl (vote_info _ zeroV_fit) (vote_one _) ?_; intro w9 hb9 hu9 hs9))
  refine bodyPost_ret (results_cell_tmp Try.results62 _ _ w.heap.size (voteCells zeroV) _ rfl (range_blk hb9) Try.underlying35 rfl (by rw [vote_size]; rfl)) rfl ⟨rfl, ?_⟩
  exact ((Upd.refl NoF w).alloc _).trans hu9 (fun k hk e => by have e : k = w.heap.size := e; omega)


set_option maxRecDepth 100000 in
set_option maxHeartbeats 4000000 in
theorem vDecode_long {w : World} {v : Value} {bs : List UInt8} (h : Rd w 1 v bs.length (bs.map byteV)) (hl : 23 < bs.length) : Calls Try.prog 62 #[v] w (DecVPost w (decVS bs)) := by
  obtain ⟨A, c, rfl, hlc, hcm⟩ := h.slice
  rw [show decVS bs = (zeroV, 3) from by unfold decVS; rw [if_neg (by omega), if_pos hl]]
  have t1 : decide ((bs.length : Int) < 23) = false := by simp; omega
  have t1' : decide (bs.length < 23) = false := by simp; omega
  have t2 : decide ((23 : Int) < bs.length) = true := by simp; omega
  have t2' : decide (23 < bs.length) = true := by simp; omega
  clear h
  go_enter Try.func62, Try.ntmps62
  go_wp2_with (first | (refine wpList_store_row rfl 35 (.tmp 2) (.tmp 16) rfl w.heap.size rfl (voteCells zeroV).toArray rfl 35 (voteCells zeroV).toArray (Blk.new w _ _) rfl (vote_info _ zeroV_fit) (vote_one _) ?_; intro w9 hb9 hu9 hs9))
  refine bodyPost_ret (results_cell_tmp Try.results62 _ _ w.heap.size (voteCells zeroV) _ rfl (range_blk hb9) Try.underlying35 rfl (by rw [vote_size]; rfl)) rfl ⟨rfl, ?_⟩
  exact ((Upd.refl NoF w).alloc _).trans hu9 (fun k hk e => by have e : k = w.heap.size := e; omega)


set_option maxRecDepth 100000 in
set_option maxHeartbeats 8000000 in
theorem vDecode_t {w : World} {v : Value} {bs : List UInt8} (h : Rd w 1 v bs.length (bs.map byteV)) (hl : bs.length = 23) : Calls Try.prog 62 #[v] w (DecVPost w (decVS bs)) := by
  obtain ⟨S, hS⟩ : ∃ S, be ((bs.drop 5).take 2) = S := ⟨_, rfl⟩
  have hS2 : S < 65536 := by
    have := be_take_lt (bs.drop 5) 2
    omega
  have CU := Lib.hid (fun W (hu : Upd NoF w W) => cUint_yes (h.keep hu) 5 2 (by omega) (by omega) (by omega) (by omega))
  rw [hS] at CU
  obtain ⟨A, c, rfl, hlc, hcm⟩ := h.slice
  obtain ⟨g, o, rfl, hc⟩ := rd_cells h (by omega)
  obtain ⟨b0, h0⟩ : ∃ b, bs[0]? = some b := ⟨_, List.getElem?_eq_getElem (by omega)⟩
  obtain ⟨b1, h1⟩ : ∃ b, bs[1]? = some b := ⟨_, List.getElem?_eq_getElem (by omega)⟩
  obtain ⟨b2, h2⟩ : ∃ b, bs[2]? = some b := ⟨_, List.getElem?_eq_getElem (by omega)⟩
  obtain ⟨b3, h3⟩ : ∃ b, bs[3]? = some b := ⟨_, List.getElem?_eq_getElem (by omega)⟩
  obtain ⟨b4, h4⟩ : ∃ b, bs[4]? = some b := ⟨_, List.getElem?_eq_getElem (by omega)⟩
  obtain ⟨b5, h5⟩ : ∃ b, bs[5]? = some b := ⟨_, List.getElem?_eq_getElem (by omega)⟩
  obtain ⟨b6, h6⟩ : ∃ b, bs[6]? = some b := ⟨_, List.getElem?_eq_getElem (by omega)⟩
  have x0 : (w.alloc (.cells #[.int .i64 0, .int .i64 0, .int .i64 0, .int .i64 0, .int .i64 0, .int .i64 0, .int .u8 0, .int .u8 0, .int .u8 0, .int .u8 0, .int .u8 0, .int .u8 0, .int .u8 0, .int .u8 0, .int .u8 0, .int .u8 0, .int .u8 0, .int .u8 0, .int .u8 0, .int .u8 0, .int .u8 0, .int .u8 0] 35)).drew.cell? ⟨g, o + 0, none⟩ = some (byteV b0) := by
    have := hc 0 b0 h0
    exact (((Upd.refl NoF w).alloc _).drew).cell this (fun h => h)
  have x1 : (w.alloc (.cells #[.int .i64 0, .int .i64 0, .int .i64 0, .int .i64 0, .int .i64 0, .int .i64 0, .int .u8 0, .int .u8 0, .int .u8 0, .int .u8 0, .int .u8 0, .int .u8 0, .int .u8 0, .int .u8 0, .int .u8 0, .int .u8 0, .int .u8 0, .int .u8 0, .int .u8 0, .int .u8 0, .int .u8 0, .int .u8 0] 35)).drew.cell? ⟨g, o + 1, none⟩ = some (byteV b1) := by
    have := hc 1 b1 h1
    exact (((Upd.refl NoF w).alloc _).drew).cell this (fun h => h)
  have x2 : (w.alloc (.cells #[.int .i64 0, .int .i64 0, .int .i64 0, .int .i64 0, .int .i64 0, .int .i64 0, .int .u8 0, .int .u8 0, .int .u8 0, .int .u8 0, .int .u8 0, .int .u8 0, .int .u8 0, .int .u8 0, .int .u8 0, .int .u8 0, .int .u8 0, .int .u8 0, .int .u8 0, .int .u8 0, .int .u8 0, .int .u8 0] 35)).drew.cell? ⟨g, o + 2, none⟩ = some (byteV b2) := by
    have := hc 2 b2 h2
    exact (((Upd.refl NoF w).alloc _).drew).cell this (fun h => h)
  have x3 : (w.alloc (.cells #[.int .i64 0, .int .i64 0, .int .i64 0, .int .i64 0, .int .i64 0, .int .i64 0, .int .u8 0, .int .u8 0, .int .u8 0, .int .u8 0, .int .u8 0, .int .u8 0, .int .u8 0, .int .u8 0, .int .u8 0, .int .u8 0, .int .u8 0, .int .u8 0, .int .u8 0, .int .u8 0, .int .u8 0, .int .u8 0] 35)).drew.cell? ⟨g, o + 3, none⟩ = some (byteV b3) := by
    have := hc 3 b3 h3
    exact (((Upd.refl NoF w).alloc _).drew).cell this (fun h => h)
  have x4 : (w.alloc (.cells #[.int .i64 0, .int .i64 0, .int .i64 0, .int .i64 0, .int .i64 0, .int .i64 0, .int .u8 0, .int .u8 0, .int .u8 0, .int .u8 0, .int .u8 0, .int .u8 0, .int .u8 0, .int .u8 0, .int .u8 0, .int .u8 0, .int .u8 0, .int .u8 0, .int .u8 0, .int .u8 0, .int .u8 0, .int .u8 0] 35)).drew.cell? ⟨g, o + 4, none⟩ = some (byteV b4) := by
    have := hc 4 b4 h4
    exact (((Upd.refl NoF w).alloc _).drew).cell this (fun h => h)
  have x5 : (w.alloc (.cells #[.int .i64 0, .int .i64 0, .int .i64 0, .int .i64 0, .int .i64 0, .int .i64 0, .int .u8 0, .int .u8 0, .int .u8 0, .int .u8 0, .int .u8 0, .int .u8 0, .int .u8 0, .int .u8 0, .int .u8 0, .int .u8 0, .int .u8 0, .int .u8 0, .int .u8 0, .int .u8 0, .int .u8 0, .int .u8 0] 35)).drew.cell? ⟨g, o + 5, none⟩ = some (byteV b5) := by
    have := hc 5 b5 h5
    exact (((Upd.refl NoF w).alloc _).drew).cell this (fun h => h)
  have x6 : (w.alloc (.cells #[.int .i64 0, .int .i64 0, .int .i64 0, .int .i64 0, .int .i64 0, .int .i64 0, .int .u8 0, .int .u8 0, .int .u8 0, .int .u8 0, .int .u8 0, .int .u8 0, .int .u8 0, .int .u8 0, .int .u8 0, .int .u8 0, .int .u8 0, .int .u8 0, .int .u8 0, .int .u8 0, .int .u8 0, .int .u8 0] 35)).drew.cell? ⟨g, o + 6, none⟩ = some (byteV b6) := by
    have := hc 6 b6 h6
    exact (((Upd.refl NoF w).alloc _).drew).cell this (fun h => h)
  obtain ⟨row1, hr1⟩ : ∃ r, r = ((#[.int .i64 (b0.toNat : Int), .int .i64 (b1.toNat : Int), .int .i64 (b2.toNat : Int), .int .i64 (b3.toNat : Int), .int .i64 (b4.toNat : Int), .int .i64 (S : Int), .int .u8 0, .int .u8 0, .int .u8 0, .int .u8 0, .int .u8 0, .int .u8 0, .int .u8 0, .int .u8 0, .int .u8 0, .int .u8 0, .int .u8 0, .int .u8 0, .int .u8 0, .int .u8 0, .int .u8 0, .int .u8 0] : Array Value).toList.take 6 ++ (((bs.drop 7).take 16).take 8).map byteV ++ (#[.int .i64 (b0.toNat : Int), .int .i64 (b1.toNat : Int), .int .i64 (b2.toNat : Int), .int .i64 (b3.toNat : Int), .int .i64 (b4.toNat : Int), .int .i64 (S : Int), .int .u8 0, .int .u8 0, .int .u8 0, .int .u8 0, .int .u8 0, .int .u8 0, .int .u8 0, .int .u8 0, .int .u8 0, .int .u8 0, .int .u8 0, .int .u8 0, .int .u8 0, .int .u8 0, .int .u8 0, .int .u8 0] : Array Value).toList.drop (6 + 8)).toArray := ⟨_, rfl⟩
  obtain ⟨row2, hr2⟩ : ∃ r, r = (row1.toList.take 14 ++ (((bs.drop 15).take 8).take 8).map byteV ++ row1.toList.drop (14 + 8)).toArray := ⟨_, rfl⟩
  have HR1s := Lib.hid (show row1.size = 22 from by rw [hr1]; simp; omega)
  have hrow : row2 = (voteCells (decV bs)).toArray := by
    rw [voteCells_of hl h0 h1 h2 h3 h4, hS, hr2, hr1]
    simp only [List.take_take, show min 8 16 = 8 from rfl, show min 8 8 = 8 from rfl]
    have l7 : ((bs.drop 7).take 8).length = 8 := by simp; omega
    have l15 : ((bs.drop 15).take 8).length = 8 := by simp; omega
    generalize (bs.drop 7).take 8 = p at l7
    generalize (bs.drop 15).take 8 = q at l15
    obtain ⟨p0, p1, p2, p3, p4, p5, p6, p7, rfl⟩ := name_spell l7
    obtain ⟨q0, q1, q2, q3, q4, q5, q6, q7, rfl⟩ := name_spell l15
    rfl
  have Hrow1 := Lib.hid hr1
  have Hrow2 := Lib.hid hr2
  have HROW := Lib.hid hrow
  have RD := Lib.hid (show ∀ W', Upd (Ab w) w W' → ∀ lo k, lo + k ≤ 23 → Rd W' 1 (.slice (some ⟨g, o + lo, none⟩) k (c - lo)) k (((bs.drop lo).take k).map byteV) from fun W' hu lo k hk => by
    have := rd_part (h.abK hu) rfl (lo := lo) (k := k) (m := c - lo) (by omega) (by omega) (by omega) (some ⟨g, o + lo, none⟩) (fun _ => rfl)
    rw [show ((bs.drop lo).take k).length = k by simp; omega] at this
    exact this)
  have HF := Lib.hid (decV_fit hl)
  have CV := Lib.hid (fun w => valid_any (decV_fit hl) w)
  have HD := Lib.hid (show decVS bs = if validB (decV bs) then (decV bs, 0) else (zeroV, 11) from by unfold decVS; rw [if_neg (by omega), if_neg (by omega)])
  
  
  rw [hl] at hlc ⊢
  rw [hl] at CU
  generalize validB (decV bs) = vb at HD CV
  have VA := Lib.hid (show ∀ z, voteV (decV bs) = .agg z → (voteCells (decV bs)).toArray = z from fun z hz => by injection hz)
  generalize decVS bs = DV at HD ⊢
  obtain ⟨vz, hvz⟩ : ∃ z, voteV (decV bs) = .agg z := ⟨_, rfl⟩
  have HVZ := Lib.hid hvz
  have VA := Lib.hid (VA.out vz hvz)
  have VS := Lib.hid (show (#[.int .i64 0, .int .i64 0, .int .i64 0, .int .i64 0, .int .i64 0, .int .i64 0, .int .u8 0, .int .u8 0, .int .u8 0, .int .u8 0, .int .u8 0, .int .u8 0, .int .u8 0, .int .u8 0, .int .u8 0, .int .u8 0, .int .u8 0, .int .u8 0, .int .u8 0, .int .u8 0, .int .u8 0, .int .u8 0] : Array Value).size = vz.size ∧ (Try.prog.info? 35).map (·.size) = some vz.size ∧ vz.all (·.oneCell') = true from by
    rw [← VA.out]
    exact ⟨by simp [vc_len HF.out], vote_info _ HF.out, vote_one _⟩)
  rw [hvz] at CV
  have q23 : (23 : Int) ≤ (c : Int) := by omega
  clear h hc hl hS hr1 hr2 hrow h0 h1 h2 h3 h4 h5 h6 hvz
  go_enter Try.func62, Try.ntmps62
  go_wp2_with fail
  refine (CU.out _ ((Upd.refl NoF w).alloc _)).mono ?_
  rintro e w' ⟨rfl, rfl⟩
  go_wp2
  refine wp_region_rgw (rgR [isV (.slice (some ⟨g, o, none⟩) 23 c), isV (.pointer (some ⟨g, o, none⟩)), isV (byteV b0), isV (.int .i64 (b0.toNat : Int)), isV (.slice (some ⟨g, o, none⟩) 23 c), isV (.pointer (some ⟨g, o + 1, none⟩)), isV (byteV b1), isV (.int .i64 (b1.toNat : Int)), isV (.slice (some ⟨g, o, none⟩) 23 c), isV (.pointer (some ⟨g, o + 2, none⟩)), isV (byteV b2), isV (.int .i64 (b2.toNat : Int)), isV (.slice (some ⟨g, o, none⟩) 23 c), isV (.pointer (some ⟨g, o + 3, none⟩)), isV (byteV b3), isV (.int .i64 (b3.toNat : Int)), isV (.slice (some ⟨g, o, none⟩) 23 c), isV (.pointer (some ⟨g, o + 4, none⟩)), isV (byteV b4), isV (.int .i64 (b4.toNat : Int)), isV (u64V (S : Int)), isV (.int .i64 (S : Int)), isV (.agg (#[.int .i64 (b0.toNat : Int), .int .i64 (b1.toNat : Int), .int .i64 (b2.toNat : Int), .int .i64 (b3.toNat : Int), .int .i64 (b4.toNat : Int), .int .i64 (S : Int), .int .u8 0, .int .u8 0, .int .u8 0, .int .u8 0, .int .u8 0, .int .u8 0, .int .u8 0, .int .u8 0, .int .u8 0, .int .u8 0, .int .u8 0, .int .u8 0, .int .u8 0, .int .u8 0, .int .u8 0, .int .u8 0] : Array Value)), isV (.pointer (some ⟨w.heap.size + 1, 0, none⟩)), anyV]) (fun w1 w2 => Upd (fun k => k = w.heap.size + 1) w1 w2) (NewVar (w.alloc (.cells #[.int .i64 0, .int .i64 0, .int .i64 0, .int .i64 0, .int .i64 0, .int .i64 0, .int .u8 0, .int .u8 0, .int .u8 0, .int .u8 0, .int .u8 0, .int .u8 0, .int .u8 0, .int .u8 0, .int .u8 0, .int .u8 0, .int .u8 0, .int .u8 0, .int .u8 0, .int .u8 0, .int .u8 0, .int .u8 0] 35)).drew (w.heap.size + 1) 35 (#[.int .i64 (b0.toNat : Int), .int .i64 (b1.toNat : Int), .int .i64 (b2.toNat : Int), .int .i64 (b3.toNat : Int), .int .i64 (b4.toNat : Int), .int .i64 (S : Int), .int .u8 0, .int .u8 0, .int .u8 0, .int .u8 0, .int .u8 0, .int .u8 0, .int .u8 0, .int .u8 0, .int .u8 0, .int .u8 0, .int .u8 0, .int .u8 0, .int .u8 0, .int .u8 0, .int .u8 0, .int .u8 0] : Array Value) 23 24) (by kernel_rfl) (by kernel_rfl) (by kernel_rfl) (by rfl) (fun w => Upd.refl _ _) (rgR_keep (by
    intro p hp; simp only [List.mem_cons, List.not_mem_nil, or_false] at hp; rcases hp with rfl | rfl | rfl | rfl | rfl | rfl | rfl | rfl | rfl | rfl | rfl | rfl | rfl | rfl | rfl | rfl | rfl | rfl | rfl | rfl | rfl | rfl | rfl | rfl | rfl <;> first | exact stb_isV _ | exact stb_any)) (NewVar.start _ _ _ _ (by simp)) ?_ ?_
  · refine ⟨?_, ?_, ?_, ?_, ?_, ?_, ?_, ?_, ?_, ?_, ?_, ?_, ?_, ?_, ?_, ?_, ?_, ?_, ?_, ?_, ?_, ?_, ?_, ?_, ?_, trivial⟩
    · refine fun ρ w' L hW hLi hcl hd hdep hext hc hg hf => ?_
      rw [if_pos (show wantedR _ _ _ = true from rfl)]
      have e0 : ρ (.tmp 0) = .slice (some ⟨g, o, none⟩) 23 c := hext 0 (by kernel_rfl)
      clear hdep hext hcl
      unfold OpDone
      go_simp
      exact ⟨rfl, Upd.refl _ _, hW.other (by decide) (by decide)⟩
    · refine fun ρ w' L hW hLi hcl hd hdep hext hc hg hf => ?_
      rw [if_pos (show wantedR _ _ _ = true from rfl)]
      have e22 : ρ (.tmp 22) = .slice (some ⟨g, o, none⟩) 23 c := hdep 0 _ rfl (by kernel_rfl)
      clear hdep hext hcl
      unfold OpDone
      go_simp
      exact ⟨rfl, Upd.refl _ _, hW.other (by decide) (by decide)⟩
    · refine fun ρ w' L hW hLi hcl hd hdep hext hc hg hf => ?_
      rw [if_pos (show wantedR _ _ _ = true from rfl)]
      have e23 : ρ (.tmp 23) = .pointer (some ⟨g, o, none⟩) := hdep 1 _ rfl (by kernel_rfl)
      have xx : w'.cell? ⟨g, o, none⟩ = some (byteV b0) := hW.upd.cell x0 (fun h => h)
      clear hdep hext hcl
      unfold OpDone
      go_simp
      exact ⟨rfl, Upd.refl _ _, hW.other (by decide) (by decide)⟩
    · refine fun ρ w' L hW hLi hcl hd hdep hext hc hg hf => ?_
      rw [if_pos (show wantedR _ _ _ = true from rfl)]
      have e24 : ρ (.tmp 24) = byteV b0 := hdep 2 _ rfl (by kernel_rfl)
      have ww := bu8 b0
      clear hdep hext hcl
      unfold OpDone
      go_simp
      exact ⟨rfl, Upd.refl _ _, hW.other (by decide) (by decide)⟩
    · refine fun ρ w' L hW hLi hcl hd hdep hext hc hg hf => ?_
      rw [if_pos (show wantedR _ _ _ = true from rfl)]
      have e0 : ρ (.tmp 0) = .slice (some ⟨g, o, none⟩) 23 c := hext 0 (by kernel_rfl)
      clear hdep hext hcl
      unfold OpDone
      go_simp
      exact ⟨rfl, Upd.refl _ _, hW.other (by decide) (by decide)⟩
    · refine fun ρ w' L hW hLi hcl hd hdep hext hc hg hf => ?_
      rw [if_pos (show wantedR _ _ _ = true from rfl)]
      have e26 : ρ (.tmp 26) = .slice (some ⟨g, o, none⟩) 23 c := hdep 4 _ rfl (by kernel_rfl)
      clear hdep hext hcl
      unfold OpDone
      go_simp
      exact ⟨rfl, Upd.refl _ _, hW.other (by decide) (by decide)⟩
    · refine fun ρ w' L hW hLi hcl hd hdep hext hc hg hf => ?_
      rw [if_pos (show wantedR _ _ _ = true from rfl)]
      have e27 : ρ (.tmp 27) = .pointer (some ⟨g, o + 1, none⟩) := hdep 5 _ rfl (by kernel_rfl)
      have xx : w'.cell? ⟨g, o + 1, none⟩ = some (byteV b1) := hW.upd.cell x1 (fun h => h)
      clear hdep hext hcl
      unfold OpDone
      go_simp
      exact ⟨rfl, Upd.refl _ _, hW.other (by decide) (by decide)⟩
    · refine fun ρ w' L hW hLi hcl hd hdep hext hc hg hf => ?_
      rw [if_pos (show wantedR _ _ _ = true from rfl)]
      have e28 : ρ (.tmp 28) = byteV b1 := hdep 6 _ rfl (by kernel_rfl)
      have ww := bu8 b1
      clear hdep hext hcl
      unfold OpDone
      go_simp
      exact ⟨rfl, Upd.refl _ _, hW.other (by decide) (by decide)⟩
    · refine fun ρ w' L hW hLi hcl hd hdep hext hc hg hf => ?_
      rw [if_pos (show wantedR _ _ _ = true from rfl)]
      have e0 : ρ (.tmp 0) = .slice (some ⟨g, o, none⟩) 23 c := hext 0 (by kernel_rfl)
      clear hdep hext hcl
      unfold OpDone
      go_simp
      exact ⟨rfl, Upd.refl _ _, hW.other (by decide) (by decide)⟩
    · refine fun ρ w' L hW hLi hcl hd hdep hext hc hg hf => ?_
      rw [if_pos (show wantedR _ _ _ = true from rfl)]
      have e30 : ρ (.tmp 30) = .slice (some ⟨g, o, none⟩) 23 c := hdep 8 _ rfl (by kernel_rfl)
      clear hdep hext hcl
      unfold OpDone
      go_simp
      exact ⟨rfl, Upd.refl _ _, hW.other (by decide) (by decide)⟩
    · refine fun ρ w' L hW hLi hcl hd hdep hext hc hg hf => ?_
      rw [if_pos (show wantedR _ _ _ = true from rfl)]
      have e31 : ρ (.tmp 31) = .pointer (some ⟨g, o + 2, none⟩) := hdep 9 _ rfl (by kernel_rfl)
      have xx : w'.cell? ⟨g, o + 2, none⟩ = some (byteV b2) := hW.upd.cell x2 (fun h => h)
      clear hdep hext hcl
      unfold OpDone
      go_simp
      exact ⟨rfl, Upd.refl _ _, hW.other (by decide) (by decide)⟩
    · refine fun ρ w' L hW hLi hcl hd hdep hext hc hg hf => ?_
      rw [if_pos (show wantedR _ _ _ = true from rfl)]
      have e32 : ρ (.tmp 32) = byteV b2 := hdep 10 _ rfl (by kernel_rfl)
      have ww := bu8 b2
      clear hdep hext hcl
      unfold OpDone
      go_simp
      exact ⟨rfl, Upd.refl _ _, hW.other (by decide) (by decide)⟩
    · refine fun ρ w' L hW hLi hcl hd hdep hext hc hg hf => ?_
      rw [if_pos (show wantedR _ _ _ = true from rfl)]
      have e0 : ρ (.tmp 0) = .slice (some ⟨g, o, none⟩) 23 c := hext 0 (by kernel_rfl)
      clear hdep hext hcl
      unfold OpDone
      go_simp
      exact ⟨rfl, Upd.refl _ _, hW.other (by decide) (by decide)⟩
    · refine fun ρ w' L hW hLi hcl hd hdep hext hc hg hf => ?_
      rw [if_pos (show wantedR _ _ _ = true from rfl)]
      have e34 : ρ (.tmp 34) = .slice (some ⟨g, o, none⟩) 23 c := hdep 12 _ rfl (by kernel_rfl)
      clear hdep hext hcl
      unfold OpDone
      go_simp
      exact ⟨rfl, Upd.refl _ _, hW.other (by decide) (by decide)⟩
    · refine fun ρ w' L hW hLi hcl hd hdep hext hc hg hf => ?_
      rw [if_pos (show wantedR _ _ _ = true from rfl)]
      have e35 : ρ (.tmp 35) = .pointer (some ⟨g, o + 3, none⟩) := hdep 13 _ rfl (by kernel_rfl)
      have xx : w'.cell? ⟨g, o + 3, none⟩ = some (byteV b3) := hW.upd.cell x3 (fun h => h)
      clear hdep hext hcl
      unfold OpDone
      go_simp
      exact ⟨rfl, Upd.refl _ _, hW.other (by decide) (by decide)⟩
    · refine fun ρ w' L hW hLi hcl hd hdep hext hc hg hf => ?_
      rw [if_pos (show wantedR _ _ _ = true from rfl)]
      have e36 : ρ (.tmp 36) = byteV b3 := hdep 14 _ rfl (by kernel_rfl)
      have ww := bu8 b3
      clear hdep hext hcl
      unfold OpDone
      go_simp
      exact ⟨rfl, Upd.refl _ _, hW.other (by decide) (by decide)⟩
    · refine fun ρ w' L hW hLi hcl hd hdep hext hc hg hf => ?_
      rw [if_pos (show wantedR _ _ _ = true from rfl)]
      have e0 : ρ (.tmp 0) = .slice (some ⟨g, o, none⟩) 23 c := hext 0 (by kernel_rfl)
      clear hdep hext hcl
      unfold OpDone
      go_simp
      exact ⟨rfl, Upd.refl _ _, hW.other (by decide) (by decide)⟩
    · refine fun ρ w' L hW hLi hcl hd hdep hext hc hg hf => ?_
      rw [if_pos (show wantedR _ _ _ = true from rfl)]
      have e38 : ρ (.tmp 38) = .slice (some ⟨g, o, none⟩) 23 c := hdep 16 _ rfl (by kernel_rfl)
      clear hdep hext hcl
      unfold OpDone
      go_simp
      exact ⟨rfl, Upd.refl _ _, hW.other (by decide) (by decide)⟩
    · refine fun ρ w' L hW hLi hcl hd hdep hext hc hg hf => ?_
      rw [if_pos (show wantedR _ _ _ = true from rfl)]
      have e39 : ρ (.tmp 39) = .pointer (some ⟨g, o + 4, none⟩) := hdep 17 _ rfl (by kernel_rfl)
      have xx : w'.cell? ⟨g, o + 4, none⟩ = some (byteV b4) := hW.upd.cell x4 (fun h => h)
      clear hdep hext hcl
      unfold OpDone
      go_simp
      exact ⟨rfl, Upd.refl _ _, hW.other (by decide) (by decide)⟩
    · refine fun ρ w' L hW hLi hcl hd hdep hext hc hg hf => ?_
      rw [if_pos (show wantedR _ _ _ = true from rfl)]
      have e40 : ρ (.tmp 40) = byteV b4 := hdep 18 _ rfl (by kernel_rfl)
      have ww := bu8 b4
      clear hdep hext hcl
      unfold OpDone
      go_simp
      exact ⟨rfl, Upd.refl _ _, hW.other (by decide) (by decide)⟩
    · refine fun ρ w' L hW hLi hcl hd hdep hext hc hg hf => ?_
      rw [if_pos (show wantedR _ _ _ = true from rfl)]
      have e4 : ρ (.tmp 4) = u64V (S : Int) := hext 4 (by kernel_rfl)
      clear hdep hext hcl
      unfold OpDone
      go_simp
      exact ⟨rfl, Upd.refl _ _, hW.other (by decide) (by decide)⟩
    · refine fun ρ w' L hW hLi hcl hd hdep hext hc hg hf => ?_
      rw [if_pos (show wantedR _ _ _ = true from rfl)]
      have e42 : ρ (.tmp 42) = u64V (S : Int) := hdep 20 _ rfl (by kernel_rfl)
      have ww : IntKind.i64.wrap (S : Int) = S := IntWalk.i64_in _ (by omega)
      clear hdep hext hcl
      unfold OpDone
      go_simp
      exact ⟨rfl, Upd.refl _ _, hW.other (by decide) (by decide)⟩
    · refine fun ρ w' L hW hLi hcl hd hdep hext hc hg hf => ?_
      rw [if_pos (show wantedR _ _ _ = true from rfl)]
      have e25 : ρ (.tmp 25) = .int .i64 (b0.toNat : Int) := hdep 3 _ rfl (by kernel_rfl)
      have e29 : ρ (.tmp 29) = .int .i64 (b1.toNat : Int) := hdep 7 _ rfl (by kernel_rfl)
      have e33 : ρ (.tmp 33) = .int .i64 (b2.toNat : Int) := hdep 11 _ rfl (by kernel_rfl)
      have e37 : ρ (.tmp 37) = .int .i64 (b3.toNat : Int) := hdep 15 _ rfl (by kernel_rfl)
      have e41 : ρ (.tmp 41) = .int .i64 (b4.toNat : Int) := hdep 19 _ rfl (by kernel_rfl)
      have e43 : ρ (.tmp 43) = .int .i64 (S : Int) := hdep 21 _ rfl (by kernel_rfl)
      clear hdep hext hcl
      unfold OpDone
      go_simp
      exact ⟨rfl, Upd.refl _ _, hW.other (by decide) (by decide)⟩
    · refine fun ρ w' L hW hLi hcl hd hdep hext hc hg hf => ?_
      rw [if_pos (show wantedR _ _ _ = true from rfl)]
      clear hdep hext
      have hsz := hW.before hLi
      have hLb : L 24 = false := by
        cases hq : L 24 with
        | false => rfl
        | true => rw [hcl 24 23 hq (by kernel_rfl)] at hLi; cases hLi
      refine od_alloc_row 35 rfl (voteCells zeroV).toArray alloc_vote (fun w2 hb2 hu2 hs2 => ?_)
      rw [hsz] at hb2 ⊢
      exact ⟨rfl, hu2.mono (fun _ _ f => f.elim), hW.alloc hLb (by decide) (zs := (voteCells zeroV).toArray) rfl hb2 hu2⟩
    · refine fun ρ w' L hW hLi hcl hd hdep hext hc hg hf => ?_
      rw [if_pos (show wantedR _ _ _ = true from rfl)]
      have e6 : ρ (.tmp 6) = .pointer (some ⟨w.heap.size + 1, 0, none⟩) := hdep 23 _ rfl (by kernel_rfl)
      have e44 : ρ (.tmp 44) = .agg (#[.int .i64 (b0.toNat : Int), .int .i64 (b1.toNat : Int), .int .i64 (b2.toNat : Int), .int .i64 (b3.toNat : Int), .int .i64 (b4.toNat : Int), .int .i64 (S : Int), .int .u8 0, .int .u8 0, .int .u8 0, .int .u8 0, .int .u8 0, .int .u8 0, .int .u8 0, .int .u8 0, .int .u8 0, .int .u8 0, .int .u8 0, .int .u8 0, .int .u8 0, .int .u8 0, .int .u8 0, .int .u8 0] : Array Value) := hdep 22 _ rfl (by kernel_rfl)
      clear hdep hext
      have hLa : L 23 = true := hd 23 (by kernel_rfl)
      obtain ⟨cs, hcs, hss⟩ := hW.made hLa
      exact od_store_row 35 (.tmp 6) (.tmp 44) rfl (w.heap.size + 1) e6 (#[.int .i64 (b0.toNat : Int), .int .i64 (b1.toNat : Int), .int .i64 (b2.toNat : Int), .int .i64 (b3.toNat : Int), .int .i64 (b4.toNat : Int), .int .i64 (S : Int), .int .u8 0, .int .u8 0, .int .u8 0, .int .u8 0, .int .u8 0, .int .u8 0, .int .u8 0, .int .u8 0, .int .u8 0, .int .u8 0, .int .u8 0, .int .u8 0, .int .u8 0, .int .u8 0, .int .u8 0, .int .u8 0] : Array Value) e44 35 cs hcs hss (by rw [vote_size]; rfl) (by simp [Value.oneCell']) (fun w2 hb2 hu2 hs2 => ⟨trivial, hu2, hW.store hLa hb2 hu2⟩)
  intro vs W1 L1 hL1 hW1 hR
  have hv0 : vs 0 = .slice (some ⟨g, o, none⟩) 23 c := hR 0 _ rfl
  have hv1 : vs 1 = .pointer (some ⟨g, o, none⟩) := hR 1 _ rfl
  have hv2 : vs 2 = byteV b0 := hR 2 _ rfl
  have hv3 : vs 3 = .int .i64 (b0.toNat : Int) := hR 3 _ rfl
  have hv4 : vs 4 = .slice (some ⟨g, o, none⟩) 23 c := hR 4 _ rfl
  have hv5 : vs 5 = .pointer (some ⟨g, o + 1, none⟩) := hR 5 _ rfl
  have hv6 : vs 6 = byteV b1 := hR 6 _ rfl
  have hv7 : vs 7 = .int .i64 (b1.toNat : Int) := hR 7 _ rfl
  have hv8 : vs 8 = .slice (some ⟨g, o, none⟩) 23 c := hR 8 _ rfl
  have hv9 : vs 9 = .pointer (some ⟨g, o + 2, none⟩) := hR 9 _ rfl
  have hv10 : vs 10 = byteV b2 := hR 10 _ rfl
  have hv11 : vs 11 = .int .i64 (b2.toNat : Int) := hR 11 _ rfl
  have hv12 : vs 12 = .slice (some ⟨g, o, none⟩) 23 c := hR 12 _ rfl
  have hv13 : vs 13 = .pointer (some ⟨g, o + 3, none⟩) := hR 13 _ rfl
  have hv14 : vs 14 = byteV b3 := hR 14 _ rfl
  have hv15 : vs 15 = .int .i64 (b3.toNat : Int) := hR 15 _ rfl
  have hv16 : vs 16 = .slice (some ⟨g, o, none⟩) 23 c := hR 16 _ rfl
  have hv17 : vs 17 = .pointer (some ⟨g, o + 4, none⟩) := hR 17 _ rfl
  have hv18 : vs 18 = byteV b4 := hR 18 _ rfl
  have hv19 : vs 19 = .int .i64 (b4.toNat : Int) := hR 19 _ rfl
  have hv20 : vs 20 = u64V (S : Int) := hR 20 _ rfl
  have hv21 : vs 21 = .int .i64 (S : Int) := hR 21 _ rfl
  have hv22 : vs 22 = .agg (#[.int .i64 (b0.toNat : Int), .int .i64 (b1.toNat : Int), .int .i64 (b2.toNat : Int), .int .i64 (b3.toNat : Int), .int .i64 (b4.toNat : Int), .int .i64 (S : Int), .int .u8 0, .int .u8 0, .int .u8 0, .int .u8 0, .int .u8 0, .int .u8 0, .int .u8 0, .int .u8 0, .int .u8 0, .int .u8 0, .int .u8 0, .int .u8 0, .int .u8 0, .int .u8 0, .int .u8 0, .int .u8 0] : Array Value) := hR 22 _ rfl
  have hv23 : vs 23 = .pointer (some ⟨w.heap.size + 1, 0, none⟩) := hR 23 _ rfl
  simp only [putAll, Act.put, List.setIfInBounds_toArray, List.set_cons_zero, List.set_cons_succ, hv0, hv1, hv2, hv3, hv4, hv5, hv6, hv7, hv8, hv9, hv10, hv11, hv12, hv13, hv14, hv15, hv16, hv17, hv18, hv19, hv20, hv21, hv22, hv23]
  clear hR hv0 hv1 hv2 hv3 hv4 hv5 hv6 hv7 hv8 hv9 hv10 hv11 hv12 hv13 hv14 hv15 hv16 hv17 hv18 hv19 hv20 hv21 hv22 hv23
  have B1 := Lib.hid (hW1.stored (hL1 24 (by decide)))
  have U1 := Lib.hid (show Upd NoF w W1 from (((Upd.refl NoF w).alloc _).drew).trans hW1.upd (fun _ _ f => f))
  have R1 := Lib.hid (hW1.upd.blk (Blk.new w 35 #[.int .i64 0, .int .i64 0, .int .i64 0, .int .i64 0, .int .i64 0, .int .i64 0, .int .u8 0, .int .u8 0, .int .u8 0, .int .u8 0, .int .u8 0, .int .u8 0, .int .u8 0, .int .u8 0, .int .u8 0, .int .u8 0, .int .u8 0, .int .u8 0, .int .u8 0, .int .u8 0, .int .u8 0, .int .u8 0]).drew (fun h => h))
  clear hW1 hL1
  go_wp2
  refine wp_region_rgw (rgR [isV (.pointer (some ⟨w.heap.size + 1, 6, none⟩)), isV (.slice (some ⟨w.heap.size + 1, 6, none⟩) 8 8), isV (.slice (some ⟨g, o, none⟩) 23 c), isV (.slice (some ⟨g, o + 7, none⟩) 16 (c - 7)), isV (.int .i64 8)]) (fun w1 w2 => Upd (fun k => k = w.heap.size + 1) w1 w2) (ChgVar W1.drew (w.heap.size + 1) 35 (#[.int .i64 (b0.toNat : Int), .int .i64 (b1.toNat : Int), .int .i64 (b2.toNat : Int), .int .i64 (b3.toNat : Int), .int .i64 (b4.toNat : Int), .int .i64 (S : Int), .int .u8 0, .int .u8 0, .int .u8 0, .int .u8 0, .int .u8 0, .int .u8 0, .int .u8 0, .int .u8 0, .int .u8 0, .int .u8 0, .int .u8 0, .int .u8 0, .int .u8 0, .int .u8 0, .int .u8 0, .int .u8 0] : Array Value) row1 4) (by kernel_rfl) (by kernel_rfl) (by kernel_rfl) (by rfl) (fun w => Upd.refl _ _) (rgR_keep (by
    intro p hp; simp only [List.mem_cons, List.not_mem_nil, or_false] at hp; rcases hp with rfl | rfl | rfl | rfl | rfl <;> first | exact stb_isV _ | exact stb_any)) (ChgVar.start _ _ B1.out.drew) ?_ ?_
  · refine ⟨?_, ?_, ?_, ?_, ?_, trivial⟩
    · refine fun ρ w' L hW hLi hcl hd hdep hext hc hg hf => ?_
      rw [if_pos (show wantedR _ _ _ = true from rfl)]
      have e6 : ρ (.tmp 6) = .pointer (some ⟨w.heap.size + 1, 0, none⟩) := hext 6 (by kernel_rfl)
      clear hdep hext hcl
      unfold OpDone
      go_simp
      exact ⟨rfl, Upd.refl _ _, hW.other (by decide)⟩
    · refine fun ρ w' L hW hLi hcl hd hdep hext hc hg hf => ?_
      rw [if_pos (show wantedR _ _ _ = true from rfl)]
      have e45 : ρ (.tmp 45) = .pointer (some ⟨w.heap.size + 1, 6, none⟩) := hdep 0 _ rfl (by kernel_rfl)
      clear hdep hext hcl
      unfold OpDone
      go_simp
      exact ⟨rfl, Upd.refl _ _, hW.other (by decide)⟩
    · refine fun ρ w' L hW hLi hcl hd hdep hext hc hg hf => ?_
      rw [if_pos (show wantedR _ _ _ = true from rfl)]
      have e0 : ρ (.tmp 0) = .slice (some ⟨g, o, none⟩) 23 c := hext 0 (by kernel_rfl)
      clear hdep hext hcl
      unfold OpDone
      go_simp
      exact ⟨rfl, Upd.refl _ _, hW.other (by decide)⟩
    · refine fun ρ w' L hW hLi hcl hd hdep hext hc hg hf => ?_
      rw [if_pos (show wantedR _ _ _ = true from rfl)]
      have e47 : ρ (.tmp 47) = .slice (some ⟨g, o, none⟩) 23 c := hdep 2 _ rfl (by kernel_rfl)
      have qq : (7 : Int) ≤ (c : Int) := by omega
      have qr : (15 : Int) ≤ (c : Int) := by omega
      have qn : ¬ c = 7 := by omega
      clear hdep hext hcl
      unfold OpDone
      go_simp
      exact ⟨rfl, Upd.refl _ _, hW.other (by decide)⟩
    · refine fun ρ w' L hW hLi hcl hd hdep hext hc hg hf => ?_
      rw [if_pos (show wantedR _ _ _ = true from rfl)]
      have e46 : ρ (.tmp 46) = .slice (some ⟨w.heap.size + 1, 6, none⟩) 8 8 := hdep 1 _ rfl (by kernel_rfl)
      have e48 : ρ (.tmp 48) = .slice (some ⟨g, o + 7, none⟩) 16 (c - 7) := hdep 3 _ rfl (by kernel_rfl)
      clear hdep hext
      have hu1 : Upd (Ab w) w w' := ((U1.toAb).drew).trans hW.upd (fun k _ e => by have e : k = w.heap.size + 1 := e; unfold Ab; omega)
      obtain ⟨w2, hr2, hb2, hu2⟩ := run_copy_bytes (dl := 8) (dc := 8) (o := 6) (hW.before hLi) (n := 16) (bs := (bs.drop 7).take 16) (RD.out w' hu1 7 16 (by omega)) (by omega) 8 (by rfl) (by simp) 3
      have HU2 := Lib.hid hu2
      have HB2 := Lib.hid hb2
      clear hu2 hb2 hu1
      unfold OpDone
      go_simp
      exact ⟨rfl, HU2.out, hW.turn (by rw [Hrow1.out]; exact HB2.out) HU2.out⟩
  intro vs W2 L2 hL2 hW2 hR
  have hv0 : vs 0 = .pointer (some ⟨w.heap.size + 1, 6, none⟩) := hR 0 _ rfl
  have hv1 : vs 1 = .slice (some ⟨w.heap.size + 1, 6, none⟩) 8 8 := hR 1 _ rfl
  have hv2 : vs 2 = .slice (some ⟨g, o, none⟩) 23 c := hR 2 _ rfl
  have hv3 : vs 3 = .slice (some ⟨g, o + 7, none⟩) 16 (c - 7) := hR 3 _ rfl
  have hv4 : vs 4 = .int .i64 8 := hR 4 _ rfl
  simp only [putAll, Act.put, List.setIfInBounds_toArray, List.set_cons_zero, List.set_cons_succ, hv0, hv1, hv2, hv3, hv4]
  clear hR hv0 hv1 hv2 hv3 hv4
  have B2 := Lib.hid (hW2.after (hL2 4 (by decide)))
  have U2 := Lib.hid (show Upd NoF w W2 from (U1.out.drew).trans hW2.upd (fun k hk e => by have e : k = w.heap.size + 1 := e; omega))
  have R2 := Lib.hid (hW2.upd.blk R1.out.drew (by simp))
  clear hW2 hL2
  go_wp2
  refine wp_region_rgw (rgR [isV (.pointer (some ⟨w.heap.size + 1, 14, none⟩)), isV (.slice (some ⟨w.heap.size + 1, 14, none⟩) 8 8), isV (.slice (some ⟨g, o, none⟩) 23 c), isV (.slice (some ⟨g, o + 15, none⟩) 8 (c - 15)), isV (.int .i64 8)]) (fun w1 w2 => Upd (fun k => k = w.heap.size + 1) w1 w2) (ChgVar W2.drew (w.heap.size + 1) 35 row1 row2 4) (by kernel_rfl) (by kernel_rfl) (by kernel_rfl) (by rfl) (fun w => Upd.refl _ _) (rgR_keep (by
    intro p hp; simp only [List.mem_cons, List.not_mem_nil, or_false] at hp; rcases hp with rfl | rfl | rfl | rfl | rfl <;> first | exact stb_isV _ | exact stb_any)) (ChgVar.start _ _ B2.out.drew) ?_ ?_
  · refine ⟨?_, ?_, ?_, ?_, ?_, trivial⟩
    · refine fun ρ w' L hW hLi hcl hd hdep hext hc hg hf => ?_
      rw [if_pos (show wantedR _ _ _ = true from rfl)]
      have e6 : ρ (.tmp 6) = .pointer (some ⟨w.heap.size + 1, 0, none⟩) := hext 6 (by kernel_rfl)
      clear hdep hext hcl
      unfold OpDone
      go_simp
      exact ⟨rfl, Upd.refl _ _, hW.other (by decide)⟩
    · refine fun ρ w' L hW hLi hcl hd hdep hext hc hg hf => ?_
      rw [if_pos (show wantedR _ _ _ = true from rfl)]
      have e50 : ρ (.tmp 50) = .pointer (some ⟨w.heap.size + 1, 14, none⟩) := hdep 0 _ rfl (by kernel_rfl)
      clear hdep hext hcl
      unfold OpDone
      go_simp
      exact ⟨rfl, Upd.refl _ _, hW.other (by decide)⟩
    · refine fun ρ w' L hW hLi hcl hd hdep hext hc hg hf => ?_
      rw [if_pos (show wantedR _ _ _ = true from rfl)]
      have e0 : ρ (.tmp 0) = .slice (some ⟨g, o, none⟩) 23 c := hext 0 (by kernel_rfl)
      clear hdep hext hcl
      unfold OpDone
      go_simp
      exact ⟨rfl, Upd.refl _ _, hW.other (by decide)⟩
    · refine fun ρ w' L hW hLi hcl hd hdep hext hc hg hf => ?_
      rw [if_pos (show wantedR _ _ _ = true from rfl)]
      have e52 : ρ (.tmp 52) = .slice (some ⟨g, o, none⟩) 23 c := hdep 2 _ rfl (by kernel_rfl)
      have qq : (15 : Int) ≤ (c : Int) := by omega
      have qr : (23 : Int) ≤ (c : Int) := by omega
      have qn : ¬ c = 15 := by omega
      clear hdep hext hcl
      unfold OpDone
      go_simp
      exact ⟨rfl, Upd.refl _ _, hW.other (by decide)⟩
    · refine fun ρ w' L hW hLi hcl hd hdep hext hc hg hf => ?_
      rw [if_pos (show wantedR _ _ _ = true from rfl)]
      have e51 : ρ (.tmp 51) = .slice (some ⟨w.heap.size + 1, 14, none⟩) 8 8 := hdep 1 _ rfl (by kernel_rfl)
      have e53 : ρ (.tmp 53) = .slice (some ⟨g, o + 15, none⟩) 8 (c - 15) := hdep 3 _ rfl (by kernel_rfl)
      clear hdep hext
      have hu1 : Upd (Ab w) w w' := ((U2.toAb).drew).trans hW.upd (fun k _ e => by have e : k = w.heap.size + 1 := e; unfold Ab; omega)
      obtain ⟨w2, hr2, hb2, hu2⟩ := run_copy_bytes (dl := 8) (dc := 8) (o := 14) (hW.before hLi) (n := 8) (bs := (bs.drop 15).take 8) (RD.out w' hu1 15 8 (by omega)) (by omega) 8 (by rfl) (by have := HR1s.out; omega) 3
      have HU2 := Lib.hid hu2
      have HB2 := Lib.hid hb2
      clear hu2 hb2 hu1
      unfold OpDone
      go_simp
      exact ⟨rfl, HU2.out, hW.turn (by rw [Hrow2.out]; exact HB2.out) HU2.out⟩
  intro vs W3 L3 hL3 hW3 hR
  have hv0 : vs 0 = .pointer (some ⟨w.heap.size + 1, 14, none⟩) := hR 0 _ rfl
  have hv1 : vs 1 = .slice (some ⟨w.heap.size + 1, 14, none⟩) 8 8 := hR 1 _ rfl
  have hv2 : vs 2 = .slice (some ⟨g, o, none⟩) 23 c := hR 2 _ rfl
  have hv3 : vs 3 = .slice (some ⟨g, o + 15, none⟩) 8 (c - 15) := hR 3 _ rfl
  have hv4 : vs 4 = .int .i64 8 := hR 4 _ rfl
  simp only [putAll, Act.put, List.setIfInBounds_toArray, List.set_cons_zero, List.set_cons_succ, hv0, hv1, hv2, hv3, hv4]
  clear hR hv0 hv1 hv2 hv3 hv4
  have hb3 := hW3.after (hL3 4 (by decide))
  rw [HROW.out] at hb3
  have B3 := Lib.hid hb3
  have U3 := Lib.hid (show Upd NoF w W3 from (U2.out.drew).trans hW3.upd (fun k hk e => by have e : k = w.heap.size + 1 := e; omega))
  have R3 := Lib.hid (hW3.upd.blk R2.out.drew (by simp))
  clear hW3 hL3 hb3
  go_wp2_with (refine wpList_load_vote' rfl (.tmp 6) rfl (w.heap.size + 1) 0 rfl (decV bs) HF.out (range_blk B3.out) (.agg vz) HVZ.out ?_)
  refine (CV.out _).mono ?_
  rintro e w4 ⟨rfl, hu4⟩
  have B4 := Lib.hid (hu4.blk B3.out (fun h => h))
  have R4 := Lib.hid (hu4.blk R3.out (fun h => h))
  have U4 := Lib.hid (U3.out.trans hu4 (fun _ _ h => h))
  clear hu4
  cases vb with
  | false =>
    rw [if_neg (by simp)] at HD
    go_wp2_with (refine wpList_store_row rfl 35 (.tmp 2) (.tmp 58) rfl w.heap.size rfl (voteCells zeroV).toArray rfl 35 #[.int .i64 0, .int .i64 0, .int .i64 0, .int .i64 0, .int .i64 0, .int .i64 0, .int .u8 0, .int .u8 0, .int .u8 0, .int .u8 0, .int .u8 0, .int .u8 0, .int .u8 0, .int .u8 0, .int .u8 0, .int .u8 0, .int .u8 0, .int .u8 0, .int .u8 0, .int .u8 0, .int .u8 0, .int .u8 0] R4.out rfl (vote_info _ zeroV_fit) (vote_one _) ?_; intro w9 hb9 hu9 hs9)
    refine bodyPost_ret (results_cell_tmp Try.results62 _ _ w.heap.size (voteCells zeroV) _ rfl (range_blk hb9) Try.underlying35 rfl (by rw [vote_size]; rfl)) rfl ⟨by rw [HD.out]; rfl, ?_⟩
    exact U4.out.trans hu9 (fun k hk e => by have e : k = w.heap.size := e; omega)
  | true =>
    rw [if_pos rfl] at HD
    go_wp2_with (first
      | (refine wpList_load_vote' rfl (.tmp 6) rfl (w.heap.size + 1) 0 rfl (decV bs) HF.out (range_blk B4.out) (.agg vz) HVZ.out ?_)
      | (refine wpList_store_row rfl 35 (.tmp 2) (.tmp 59) rfl w.heap.size rfl vz rfl 35 #[.int .i64 0, .int .i64 0, .int .i64 0, .int .i64 0, .int .i64 0, .int .i64 0, .int .u8 0, .int .u8 0, .int .u8 0, .int .u8 0, .int .u8 0, .int .u8 0, .int .u8 0, .int .u8 0, .int .u8 0, .int .u8 0, .int .u8 0, .int .u8 0, .int .u8 0, .int .u8 0, .int .u8 0, .int .u8 0] R4.out (VS.out.1) (VS.out.2.1) (VS.out.2.2) ?_; intro w9 hb9 hu9 hs9))
    have hb9' : Blk w9 w.heap.size 35 (voteCells (decV bs)).toArray := by rw [VA.out]; exact hb9
    refine bodyPost_ret (results_cell_tmp Try.results62 _ _ w.heap.size (voteCells (decV bs)) _ rfl (range_blk hb9') Try.underlying35 rfl (by rw [vote_size, vc_len HF.out])) rfl ⟨by rw [HD.out]; rfl, ?_⟩
    exact U4.out.trans hu9 (fun k hk e => by have e : k = w.heap.size := e; omega)

theorem vDecode_any {w : World} {v : Value} {bs : List UInt8} (h : Rd w 1 v bs.length (bs.map byteV)) : Calls Try.prog 62 #[v] w (DecVPost w (decVS bs)) := by
  rcases Nat.lt_trichotomy bs.length 23 with h1 | h1 | h1
  · exact vDecode_short h h1
  · exact vDecode_t h h1
  · exact vDecode_long h h1


end Go.Proofs.Ytbgificdilpdcaa
