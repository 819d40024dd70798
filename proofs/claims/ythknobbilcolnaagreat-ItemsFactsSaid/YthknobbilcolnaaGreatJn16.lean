/- Votes and signed votes as rows of cells: equality, encoding, name, order. Conditions: sizes. The literal that exchanges two elements of a slice of structs; rows of elements. No condition. Objects behind the first ones let go; slots forgotten; tests whose way is known; values in interfaces. No condition. The symmetric merge of the stable sort, on plain arrays. No condition. sort.SliceStable of signed votes on top of sort.stable_func, by abstract values. Conditions: sizes. sort.SliceStable of signed votes on top of sort.stable_func, by abstract values. Conditions: sizes. bytes.Compare, by abstract values. No condition. -/
import Derived.Test.YthknobbilcolnaaGreatJn15
import Derived.Lib.ReflectliteSwap
import Derived.Shelf.GgSortFunc.SmallK
import Derived.Sort.LotA
import Derived.Test.YthknobbilcolnaaGreatLay7
import Derived.Test.YthknobbilcolnaaGreatJn11
import Derived.Test.YthknobbilcolnaaGreatJn14
import Derived.Lib.Bytealg
import Derived.Lib.Hide
import Derived.Lib.BytesEntry
namespace Go.Proofs.YthknobbilcolnaaGreat
section
open Go.RowKit
set_option maxRecDepth 10000
attribute [-simp] List.map_take List.map_drop UInt8.ofNat_add List.map_flatten

def vV (v : VoteS) : List Value := .int .i64 v.kind :: .int .i64 v.slot :: .int .i64 v.round :: .int .i64 v.choice :: .int .i64 v.signer :: .int .i64 v.support :: ((v.parent ++ v.value).map byteV')
theorem vA_vV (v : VoteS) : vA v = .agg ((vV v).map .c) := by
  unfold vA vC vV
  simp [List.map_append, Function.comp_def, byteV']
theorem vV_len {v : VoteS} (h : v.Fit) : (vV v).length = 22 := by simp [vV, h.parent, h.value]
theorem vV_kin (a b : VoteS) : Kin (vV a) (vV b) := by
  intro i u v h1 h2
  rcases i with _ | _ | _ | _ | _ | _ | i
  iterate 6 (simp only [vV, List.getElem?_cons_zero, List.getElem?_cons_succ, Option.some.injEq] at h1 h2; subst h1; subst h2; exact ⟨_, _, _, rfl, rfl⟩)
  simp only [vV, List.getElem?_cons_succ] at h1 h2
  obtain ⟨x, -, rfl⟩ := List.mem_map.1 (List.mem_of_getElem? h1)
  obtain ⟨y, -, rfl⟩ := List.mem_map.1 (List.mem_of_getElem? h2)
  exact ⟨_, _, _, rfl, rfl⟩
theorem vV_inj {a b : VoteS} (ha : a.Fit) (hb : b.Fit) : vV a = vV b ↔ a = b := by
  refine ⟨fun h => ?_, fun h => by rw [h]⟩
  simp only [vV, List.cons.injEq, Value.int.injEq, true_and] at h
  obtain ⟨h1, h2, h3, h4, h5, h6, h7⟩ := h
  have e := bytes_inj.1 h7
  obtain ⟨e1, e2⟩ := List.append_inj e (by rw [ha.parent, hb.parent])
  exact VoteS.ext' h1 h2 h3 h4 h5 h6 e1 e2
theorem eqT_v : eqT Tryz.prog 36 = some 22 := by kernel_rfl
theorem bin_v {ox oy : Operand} {a b : VoteS} (ha : a.Fit) (hb : b.Fit) : binA Tryz.prog .eql 36 ox oy (vA a) (vA b) = some (.c (.bool (decide (a = b)))) ∧ binA Tryz.prog .neq 36 ox oy (vA a) (vA b) = some (.c (.bool (!decide (a = b)))) := by
  obtain ⟨z, h1, h2, h3⟩ := binA_rows (ox := ox) (oy := oy) eqT_v (vV_len ha) (vV_len hb) (vV_kin a b)
  have e : z = decide (a = b) := by rw [Bool.eq_iff_iff, h1, vV_inj ha hb]; simp
  rw [vA_vV, vA_vV, h2, h3, e]
  exact ⟨rfl, rfl⟩
@[simp] theorem eql_v {ox oy : Operand} {a b : VoteS} (ha : a.Fit) (hb : b.Fit) : binA Tryz.prog .eql 36 ox oy (vA a) (vA b) = some (.c (.bool (decide (a = b)))) := (bin_v ha hb).1
@[simp] theorem neq_v {ox oy : Operand} {a b : VoteS} (ha : a.Fit) (hb : b.Fit) : binA Tryz.prog .neq 36 ox oy (vA a) (vA b) = some (.c (.bool (!decide (a = b)))) := (bin_v ha hb).2
@[simp] theorem vA_stA (v : VoteS) : (vA v).stA = true := rfl
theorem take_vC {v : VoteS} (h : v.Fit) : (vC v).take 22 = vC v := List.take_of_length_le (by rw [vC_len h]; exact Nat.le_refl _)
theorem agg_vC (v : VoteS) : AV.agg (vC v) = vA v := rfl

def voteNm (v : VoteS) : List UInt8 := if validB v then tagged 0x40 (encV v) else zero8
theorem voteNm_len (v : VoteS) : (voteNm v).length = 8 := by unfold voteNm; split <;> rfl
theorem byteZ_A (z : Int) : AV.c (.int .u8 (IntKind.u8.wrap z)) = byteA (byteZ z) := by
  have h := byteZ_nat (z % 256) (by omega) (by omega)
  have e : byteZ (z % 256) = byteZ z := by unfold byteZ; rw [Int.emod_emod_of_dvd _ (by decide)]
  rw [e] at h
  rw [wrap_u8, ← h]
set_option maxHeartbeats 4000000 in
/-- vote.Encode of a valid vote. -/
theorem vEncode_ok (v : VoteS) (h : v.Fit) (hv : validB v = true) : PCall Tryz.prog 205 [vA v] [] (fun x _ => Bd 0 x ∧ x = .tup [bytesA (encV v), .c (.bool true)]) := by
  have hV := Valid_any v h
  rw [hv] at hV
  have hl := vC_len h
  have ht := take_vC h
  obtain ⟨-, -, -, -, -, -, p8, x8⟩ := h
  refine PCall.viewR (PCall.enter mixed Tryz.func205 rfl Tryz.ntmps205 Tryz.results205 (by simp) (by kernel_rfl) ?_)
  simp [List.replicate, hl, ht, agg_vC]
  refine hV.use (by simp) ?_
  simp [vC, p8, x8]
  have hv' := validB_true.1 hv
  have hw : IntKind.u64.wrap v.support = v.support := by
    obtain ⟨-, -, -, -, h0, h1, -⟩ := hv'
    obtain ⟨n, hn⟩ := Int.eq_ofNat_of_zero_le h0
    rw [hn] at h1 ⊢
    exact wrap_u64_nat _ (by omega)
  simp only [hw, byteZ_A]
  refine PCall.freeze (id := 3) (args' := [bytesA [byteZ v.kind, byteZ v.slot, byteZ v.round, byteZ v.choice, byteZ v.signer], .c (.int .u64 v.support), .c (.int .i64 2)]) rfl ?_ ?_
  · simp
    exact Fz_bytes (bs := [byteZ v.kind, byteZ v.slot, byteZ v.round, byteZ v.choice, byteZ v.signer]) rfl
  refine (PCall.fresh (AppendUint_any [byteZ v.kind, byteZ v.slot, byteZ v.round, byteZ v.choice, byteZ v.signer] v.support 2 (by simp) (by simp)) (by simp) (bdB _) (.own 0 _ 1)).goes ?_
  simp [p8, x8]
  have hb2 := beB_len v.support 2
  have e : byteA (byteZ v.kind) :: byteA (byteZ v.slot) :: byteA (byteZ v.round) :: byteA (byteZ v.choice) :: byteA (byteZ v.signer) :: (List.take 10 (List.map byteA (List.take 2 (beB v.support 2)) ++ List.map byteA v.parent) ++ List.map byteA (List.take 8 v.value)) = (encV v).map byteA := by
    rw [List.take_of_length_le (i := 2) (by omega), List.take_of_length_le (i := 10) (by simp [hb2, p8]), List.take_of_length_le (i := 8) (by omega)]
    simp [encV]
  rw [e]
  exact ⟨by decide, _, View.fz1 (id := 6) rfl (Fz.tupP ⟨Fz_bytes (encV_len p8 x8), .same _, trivial⟩)⟩
/-- .. of one that is not valid. -/
theorem vEncode_no (v : VoteS) (h : v.Fit) (hv : validB v = false) : PCall Tryz.prog 205 [vA v] [] (fun x _ => Bd 0 x ∧ x = .tup [.c (.slice none 0 0), .c (.bool false)]) := by
  have hV := Valid_any v h
  rw [hv] at hV
  have hl := vC_len h
  have ht := take_vC h
  refine PCall.enter mixed Tryz.func205 rfl Tryz.ntmps205 Tryz.results205 (by simp) (by kernel_rfl) ?_
  simp [List.replicate, hl, ht, agg_vC]
  refine hV.use (by simp) ?_
  simp
/-- vote.Name. -/
theorem vName_any (v : VoteS) (h : v.Fit) : PCall Tryz.prog 131 [vA v] [] (fun x _ => Bd 0 x ∧ x = nmA (voteNm v)) := by
  have hl := vC_len h
  have ht := take_vC h
  refine PCall.enter mixed Tryz.func131 rfl Tryz.ntmps131 Tryz.results131 (by simp) (by kernel_rfl) ?_
  simp [List.replicate, hl, ht, agg_vC]
  by_cases hv : validB v = true
  · refine (vEncode_ok v h hv).use (by simp) ?_
    simp
    refine (Tagged_any 64 _ (by rw [encV_len h.parent h.value]; decide)).use (by simp) ?_
    simp [voteNm, hv, List.take_of_length_le]
  · rw [Bool.not_eq_true] at hv
    refine (vEncode_no v h hv).use (by simp) ?_
    simp [voteNm, hv, z8A, z8B]
    rfl
/-- A signed vote's cells. -/
def sC (s : SignedS) : List AV := vC s.vote ++ [bytesA s.sig]
def sA (s : SignedS) : AV := .agg (sC s)
@[simp] theorem sA_cells (s : SignedS) : (sA s).cells = sC s := rfl
@[simp] theorem sA_stA (s : SignedS) : (sA s).stA = true := rfl
theorem agg_sC (s : SignedS) : AV.agg (sC s) = sA s := rfl
theorem sC_len {s : SignedS} (h : s.vote.Fit) : (sC s).length = 23 := by simp [sC, vC_len h]
theorem take_sC {s : SignedS} (h : s.vote.Fit) : (sC s).take 23 = sC s := List.take_of_length_le (by rw [sC_len h]; exact Nat.le_refl _)
theorem take_sv {s : SignedS} (h : s.vote.Fit) : (sC s).take 22 = vC s.vote := by
  unfold sC
  rw [List.take_append_of_le_length (by rw [vC_len h]; exact Nat.le_refl _), take_vC h]
theorem get_sig {s : SignedS} (h : s.vote.Fit) (hh : 22 < (sC s).length) : (sC s)[22] = bytesA s.sig := by
  simp [sC, List.getElem_append_right, vC_len h]
theorem get_signer (s : SignedS) (h : 4 < (sC s).length) : (sC s)[4] = .c (.int .i64 s.vote.signer) := rfl
@[simp] theorem bd_sA (n : Nat) (s : SignedS) : Bd n (sA s) := by
  refine .agg (fun a ha => ?_)
  rcases List.mem_append.1 ha with h | h
  · have := bd_vA n s.vote
    unfold vA at this
    cases this with
    | agg g => exact g a h
  · rw [List.mem_singleton.1 h]
    simp
def sgV (k : List UInt8) (s : SignedS) : Bool := validB s.vote && verS k (voteNm s.vote) s.sig
set_option maxHeartbeats 1000000 in
/-- signed.Verify. -/
theorem sVerify_any (k : List UInt8) (s : SignedS) (hk : k.length = 8) (h : s.vote.Fit) (hs : s.sig.length ≤ 100000) : PCall Tryz.prog 79 [nmA k, sA s] [] (fun x _ => Bd 0 x ∧ x = .c (.bool (sgV k s))) := by
  have hl := sC_len h
  have ht := take_sv h
  have hg := get_sig h
  refine PCall.enter mixed Tryz.func79 rfl Tryz.ntmps79 Tryz.results79 (by simp) (by kernel_rfl) ?_
  simp (decide := true) [List.replicate, hl, ht, agg_vC]
  have hn := voteNm_len s.vote
  refine nextDC.use (Valid_any s.vote h) (by simp) ?_
  by_cases hv : validB s.vote = true
  · rw [hv]
    simp [hl, ht, hk, agg_vC, List.take_of_length_le]
    refine nextDC.use (vName_any s.vote h) (by simp) ?_
    simp [hl, hg]
    refine nextDC.use (mVerify_any k _ s.sig hk hn hs) (by simp) ?_
    simp [sgV, hv]
  · rw [Bool.not_eq_true] at hv
    rw [hv]
    simp [sgV, hv]
def vfy (K : List (List UInt8)) (s : SignedS) : Bool := decide (0 ≤ s.vote.signer) && match K[s.vote.signer.toNat]? with
  | some k => sgV k s
  | none => false
set_option maxHeartbeats 1000000 in
/-- evidence.verifies. -/
theorem verifies_any (K : List (List UInt8)) (s : SignedS) (hK : ∀ k ∈ K, k.length = 8) (_hKl : K.length ≤ 100000) (h : s.vote.Fit) (hs : s.sig.length ≤ 100000) : PCall Tryz.prog 45 [namesA K, sA s] [] (fun x _ => Bd 0 x ∧ x = .c (.bool (vfy K s))) := by
  have hl := sC_len h
  have ht := take_sC h
  have hg := get_signer s
  refine PCall.enter mixed Tryz.func45 rfl Tryz.ntmps45 Tryz.results45 (by simp) (by kernel_rfl) ?_
  simp (decide := true) [List.replicate, hl, hg]
  by_cases h0 : 0 ≤ s.vote.signer
  · obtain ⟨i, hi⟩ := Int.eq_ofNat_of_zero_le h0
    by_cases h1 : i < K.length
    · have hk8 := hK K[i] (List.getElem_mem h1)
      have hv : vfy K s = sgV K[i] s := by simp [vfy, hi, h1]
      rw [hv]
      simp [hl, ht, hi, h1, hk8, agg_sC]
      refine ⟨⟨nextDC.use (sVerify_any K[i] s hk8 h hs) (by simp) ?_, fun h => absurd h1 (Nat.not_lt.2 h)⟩, fun h => by omega⟩
      simp
    · have hv : vfy K s = false := by simp [vfy, hi, h1]
      simp [hi, h1, hv]
  · have hv : vfy K s = false := by simp [vfy, h0]
    simp [h0, hv]
set_option maxHeartbeats 1000000 in
/-- vote.Less. -/
theorem vLess_any (a b : VoteS) (ha : a.Fit) (hb : b.Fit) : PCall Tryz.prog 81 [vA a, vA b] [] (fun x _ => Bd 0 x ∧ x = .c (.bool (lessV a b))) := by
  have a8 := ha.parent
  have b8 := hb.parent
  have ax := ha.value
  have bx := hb.value
  refine PCall.enter mixed Tryz.func81 rfl Tryz.ntmps81 Tryz.results81 (by simp) (by kernel_rfl) ?_
  simp [List.replicate, vA, vC, a8, b8, ax, bx]
  refine ⟨fun hne => (Less_any _ _ a8 b8).use (by simp) ?_, fun he => ?_⟩
  · simp [lessV, hne, lessN]
  refine W_loop (fun n env H => ∃ i : Nat, n = 5 - i ∧ i ≤ 5 ∧ (∀ j < i, ([a.slot, a.round, a.kind, a.signer, a.choice] : List Int)[j]? = [b.slot, b.round, b.kind, b.signer, b.choice][j]?) ∧ env = [.any, .any, .ptr 0 0, .ptr 1 0, .c (.bool false), .ptr 2 0, .ptr 3 0] ++ List.replicate 33 .any ++ [.c (.int .i64 i)] ++ List.replicate 32 .any ∧ H = [.row 1000036 false (vC a), .row 1000036 false (vC b), .row 1000233 false [.c (.int .i64 a.slot), .c (.int .i64 a.round), .c (.int .i64 a.kind), .c (.int .i64 a.signer), .c (.int .i64 a.choice)], .row 1000233 false [.c (.int .i64 b.slot), .c (.int .i64 b.round), .c (.int .i64 b.kind), .c (.int .i64 b.signer), .c (.int .i64 b.choice)]]) 5 ?_ ?_
  · refine ⟨_, _, ?_, 0, by simp, by simp, by simp, rfl, rfl⟩
    refine View.renum [0, 1, 2, 3] (by simp) (by simp [vC, or_imp, forall_and]) ?_
    simp [List.replicate]
  · rintro n env H ⟨i, rfl, hi, heq, rfl, rfl⟩
    have e0 : 0 < i → a.slot = b.slot := fun h => by simpa using heq 0 h
    have e1 : 1 < i → a.round = b.round := fun h => by simpa using heq 1 h
    have e2 : 2 < i → a.kind = b.kind := fun h => by simpa using heq 2 h
    have e3 : 3 < i → a.signer = b.signer := fun h => by simpa using heq 3 h
    have e4 : 4 < i → a.choice = b.choice := fun h => by simpa using heq 4 h
    rcases (show i = 5 ∨ i = 0 ∨ i = 1 ∨ i = 2 ∨ i = 3 ∨ i = 4 by omega) with rfl | hi4
    · simp at e0 e1 e2 e3 e4
      simp [List.replicate, vC, a8, b8, ax, bx, List.take_of_length_le]
      refine ⟨fun hne => (Less_any _ _ ax bx).use (by simp) ?_, fun he2 => ?_⟩
      · simp [lessV, he, e0, e1, e2, e3, e4, hne, lessN]
      · simp [lessV, he, e0, e1, e2, e3, e4, he2]
    · rcases hi4 with rfl | rfl | rfl | rfl | rfl
      all_goals
        simp at e0 e1 e2 e3 e4
        simp (decide := true) [List.replicate]
      · refine ⟨fun hne => ?_, fun hee => ⟨4, by decide, _, _, View.renum [0, 1, 2, 3] (by simp) (by simp [vC, or_imp, forall_and]) ?_, 1, rfl, by decide, fun j hj => ?_, rfl, rfl⟩⟩
        · simp [lessV, he, hne]
        · simp
        · rcases Nat.lt_or_eq_of_le (Nat.le_of_lt_succ hj) with hj | rfl
          · exact heq j hj
          · simp [hee]
      · refine ⟨fun hne => ?_, fun hee => ⟨3, by decide, _, _, View.renum [0, 1, 2, 3] (by simp) (by simp [vC, or_imp, forall_and]) ?_, 2, rfl, by decide, fun j hj => ?_, rfl, rfl⟩⟩
        · simp [lessV, he, e0, hne]
        · simp
        · rcases Nat.lt_or_eq_of_le (Nat.le_of_lt_succ hj) with hj | rfl
          · exact heq j hj
          · simp [hee]
      · refine ⟨fun hne => ?_, fun hee => ⟨2, by decide, _, _, View.renum [0, 1, 2, 3] (by simp) (by simp [vC, or_imp, forall_and]) ?_, 3, rfl, by decide, fun j hj => ?_, rfl, rfl⟩⟩
        · simp [lessV, he, e0, e1, hne]
        · simp
        · rcases Nat.lt_or_eq_of_le (Nat.le_of_lt_succ hj) with hj | rfl
          · exact heq j hj
          · simp [hee]
      · refine ⟨fun hne => ?_, fun hee => ⟨1, by decide, _, _, View.renum [0, 1, 2, 3] (by simp) (by simp [vC, or_imp, forall_and]) ?_, 4, rfl, by decide, fun j hj => ?_, rfl, rfl⟩⟩
        · simp [lessV, he, e0, e1, e2, hne]
        · simp
        · rcases Nat.lt_or_eq_of_le (Nat.le_of_lt_succ hj) with hj | rfl
          · exact heq j hj
          · simp [hee]
      · refine ⟨fun hne => ?_, fun hee => ⟨_, _, View.renum [0, 1, 2, 3] (by simp) (by simp [vC, or_imp, forall_and]) ?_, 5, rfl, by decide, fun j hj => ?_, rfl, rfl⟩⟩
        · simp [lessV, he, e0, e1, e2, e3, hne]
        · simp
        · rcases Nat.lt_or_eq_of_le (Nat.le_of_lt_succ hj) with hj | rfl
          · exact heq j hj
          · simp [hee]
end

section
open Go.RowKit Go.Shelf

section
variable {P : Program} {F : Nat → Prop} {β : Loc} {H : List AObj} {w : World}
theorem setCells_store {t : TypeId} {b o : Nat} {us : List Value} {w' : World} (ht : w.there b o us.length) (hi : (P.info? t).map (·.size) = some us.length) (h1 : Ones us) (h : (Instr.storeAt t (.pointer (some ⟨b, o, none⟩)) (.agg us.toArray)).run P w = .ok () w') : w' = w.setCells b o us := by
  have h2 : us.toArray.all (·.oneCell') = true := by
    rw [List.all_toArray, List.all_eq_true]
    exact h1
  have := run_storeVar_mid (P := P) w b o t us.toArray (by simpa using ht) (by simpa using hi) h2
  simp only [Instr.storeAt, Instr.sureAddr, Sem.run_bind, Sem.run_pure, Result.andThen_ok, this] at h
  cases h
  rfl
theorem V.part {id : Nat} {t : TypeId} {cs : List AV} (hr : Rep F β H w) (hi : H[id]? = some (.row t false cs)) {b s : Nat} (hb : β id = some (b, s)) (ht : t < 2000000) {o k : Nat} (ho : o + k ≤ cs.length) : ∃ us : List Value, us.length = k ∧ Ones us ∧ (∀ j u, us[j]? = some u → w.cell? ⟨b, o + j, none⟩ = some u) ∧ w.there b o k ∧ V F β H w (.agg ((cs.drop o).take k)) (.agg us.toArray) := by
  obtain ⟨C, vs, -, -, hC, k1, k2, k3, k4⟩ := (hr.row id _ _ _ hi).at_ hb ht
  have hl : ((vs.drop o).take k).length = k := by simp; omega
  have hC' : ∀ i u, vs[i]? = some u → C[i]? = some u := fun i u h => by
    rw [← k2, List.getElem?_take] at h
    split at h
    · simpa using h
    · cases h
  have hcs : vs.length ≤ C.size := by
    have := congrArg List.length k2
    rw [List.length_take] at this
    simp at this
    omega
  refine ⟨(vs.drop o).take k, hl, fun u hu => k3 u (List.mem_of_mem_drop (List.mem_of_mem_take hu)), fun j u hu => ?_, ?_, .agg (by rw [hl]; simp; omega) (fun u hu => k3 u (List.mem_of_mem_drop (List.mem_of_mem_take hu))) (fun i a v ha hv => ?_)⟩
  · rw [List.getElem?_take] at hu
    split at hu
    · rw [List.getElem?_drop] at hu
      rw [hC.1.cell]
      exact hC' _ _ hu
    · cases hu
  · intro j hj
    refine ⟨?_, hC.1.frozen _⟩
    rw [hC.1.cell, Array.getElem?_eq_getElem (by omega)]
    rfl
  · rw [List.getElem?_take] at ha hv
    split at ha
    · rw [if_pos (by assumption)] at hv
      rw [List.getElem?_drop] at ha hv
      exact k4.1 _ a v ha hv
    · cases ha
/-- Two elements of a row exchanged. -/
theorem PCall.swap {sf : FuncId} (hx : extS P sf = true) (hrun : ∀ args W, (callFunc sf args).run P W = ((Extern.ReflectliteSwapper.swap false args).run P W).andThen fun v w' => .ok (.value v) w') {e : TypeId} {ie : TypeInfo} (hie : P.info? e = some ie) (hagg : ∀ w, (isAgg e).run P w = .ok true w)
    {id : Nat} {t : TypeId} {cs : List AV} (hi : H[id]? = some (.row t false cs)) (ht : t < 2000000) {n k i j : Nat} (hk : ie.size = k) (hcs : n * k ≤ cs.length) (hi' : i < n) (hj' : j < n) :
    PCall P sf [.c (.int .i64 i), .c (.int .i64 j), .own id 0 n k, .c (typeHandle P e)] H (fun x H' => x = .tup [] ∧ H' = H.set id (.row t false (splice (splice cs (i * k) ((cs.drop (j * k)).take k)) (j * k) ((cs.drop (i * k)).take k)))) := by
  intro F β w vs hr hvl
  have hlen := hvl.1
  match vs, hlen with
  | [v0, v1, v2, v3], _ =>
    have e0 := (hvl.2 0 _ _ rfl rfl).lit
    have e1 := (hvl.2 1 _ _ rfl rfl).lit
    have e3 := (hvl.2 3 _ _ rfl rfl).lit
    have h2 := hvl.2 2 _ _ rfl rfl
    subst e0 e1 e3
    have hid := (List.getElem?_eq_some_iff.1 hi).1
    cases h2 with
    | leaf h2 =>
      obtain ⟨-, -, h2⟩ := h2
      obtain ⟨-, -, h2⟩ := h2 _ _ _ hi
      rcases h2 with ⟨h0, -⟩ | ⟨b, s, cap, hb, rfl, -⟩
      · omega
      have ik : i * k + k ≤ n * k := by rw [← Nat.succ_mul]; exact Nat.mul_le_mul_right _ hi'
      have jk : j * k + k ≤ n * k := by rw [← Nat.succ_mul]; exact Nat.mul_le_mul_right _ hj'
      obtain ⟨X, x1, x2, x3, x4, x5⟩ := V.part hr hi hb ht (o := i * k) (k := k) (by omega)
      obtain ⟨Y, y1, y2, y3, y4, y5⟩ := V.part hr hi hb ht (o := j * k) (k := k) (by omega)
      have hp : ∀ (H : List AObj) (β : Loc) (w : World) (cs : List AV), H[id]? = some (.row t false cs) → β id = some (b, s) → ∀ o, V F β H w (.ptr id o) (.pointer (some ⟨b, o, none⟩)) := fun H β w cs h hb o => .leaf ⟨(List.getElem?_eq_some_iff.1 h).1, ⟨⟨_, rfl⟩, fun t' fz' c' h' => by rw [h] at h'; cases h'; exact ht⟩, fun _ _ _ _ => ⟨b, s, hb, rfl⟩⟩
      have hil : ((cs.drop (i * k)).take k).length = k := by simp; omega
      have hjl : ((cs.drop (j * k)).take k).length = k := by simp; omega
      obtain ⟨w1, r1, rep1, ext1⟩ := store_ok (P := P) hr (t := e) (hp H β w cs hi hb (i * k)) y5 (H' := H.set id (.row t false (splice cs (i * k) ((cs.drop (j * k)).take k)))) (by
        simp only [storeA, hie, hi, AV.cells, AV.stA]
        rw [if_pos ⟨by rw [hjl, hk], by omega, trivial⟩])
      have ew1 := setCells_store (by rw [y1]; exact x4) (by rw [hie]; simp [hk, y1]) y2 r1
      have hi1 : (H.set id (.row t false (splice cs (i * k) ((cs.drop (j * k)).take k))))[id]? = some (.row t false (splice cs (i * k) ((cs.drop (j * k)).take k))) := get_set_eq hid
      have hl1 : (splice cs (i * k) ((cs.drop (j * k)).take k)).length = cs.length := splice_len (by omega)
      obtain ⟨U, u1, u2, u3, u4, u5⟩ := V.part rep1 hi1 hb ht (o := j * k) (k := k) (by omega)
      obtain ⟨w2, r2, rep2, ext2⟩ := store_ok (P := P) rep1 (t := e) (hp _ β w1 _ hi1 hb (j * k)) (x5.ext ext1) (H' := (H.set id (.row t false (splice cs (i * k) ((cs.drop (j * k)).take k)))).set id (.row t false (splice (splice cs (i * k) ((cs.drop (j * k)).take k)) (j * k) ((cs.drop (i * k)).take k)))) (by
        simp only [storeA, hie, hi1, AV.cells, AV.stA]
        rw [if_pos ⟨by rw [hil, hk], by omega, trivial⟩])
      have ew2 := setCells_store (by rw [x1]; exact u4) (by rw [hie]; simp [hk, x1]) x2 r2
      rw [List.set_set] at rep2 ext2
      have hrun2 := Lib.run_swap_cells (P := P) false e ie hie hagg b 0 n cap i j hi' hj' X Y (by rw [x1, hk]) (by rw [y1, hk]) x2 y2 w (fun q v h => by rw [hk, Nat.zero_add]; exact x3 q v h) (fun q v h => by rw [hk, Nat.zero_add]; exact y3 q v h) (fun q h => by rw [hk, Nat.zero_add]; exact (x4 q (by omega)).2) (fun q h => by rw [hk, Nat.zero_add]; exact (y4 q (by omega)).2)
      rw [hk, Nat.zero_add, Nat.zero_add] at hrun2
      refine .inr ⟨hx, .tuple #[], w2, ?_, .tup [], _, β, .tuple #[], rfl, ⟨rfl, rfl⟩, rep2, ext1.trans ext2, VR.undef⟩
      rw [hrun, ew2, ew1]
      exact congrArg (Result.andThen · _) hrun2
end
end

section
open Go.RowKit
/-- The first objects, and slots that name no others. -/
theorem View.drop {L : Nat} {env env' : List AV} {H : List AObj} (J : List AObj) (hL : L ≤ H.length) (hin : ∀ (i : Nat) (t : TypeId) (fz : Bool) (cs : List AV), H[i]? = some (.row t fz cs) → ∀ a ∈ cs, Rn L H.length id a a) (h : Pw (Rn L H.length id) env env') : View L env (H ++ J) env' H :=
  View.gc id ⟨fun _ _ => rfl, fun _ _ _ _ h => h, hL, fun i t fz cs' hi => ⟨cs', by
    have hl := (List.getElem?_eq_some_iff.1 hi).1
    rw [id, List.getElem?_append_left hl]
    exact hi, rfl, fun j a b h1 h2 => by
    rw [h1] at h2
    cases h2
    exact hin i t fz cs' hi a (List.mem_of_getElem? h1)⟩⟩ h.at_.1 h.at_.2
/-- Slots forgotten. -/
theorem View.forget {L : Nat} {env env' : List AV} {H : List AObj} (h : Pw (fun a b => b = a ∨ b = .any) env env') : View L env H env' H :=
  ⟨h.at_.1, _root_.id, fun F β0 H0 w0 β w _ _ hr he => ⟨β, hr, he, fun i a a' v h1 h2 hv => by
    rcases h.at_.2 i a a' h1 h2 with rfl | rfl
    · exact hv
    · exact .any v⟩⟩
theorem W_ifT {P : Program} {L : Nat} {c : Operand} {x y : Code} {Q : Exit → Env → List AObj → Prop} {env : Env} {H : List AObj} (hv : evA env c = .c (.bool true)) (h : W P L x Q env H) : W P L (.cond c x y) Q env H := by
  rw [W_cond, hv]
  exact ⟨fun _ => h, fun e => by cases e⟩
theorem W_ifF {P : Program} {L : Nat} {c : Operand} {x y : Code} {Q : Exit → Env → List AObj → Prop} {env : Env} {H : List AObj} (hv : evA env c = .c (.bool false)) (h : W P L y Q env H) : W P L (.cond c x y) Q env H := by
  rw [W_cond, hv]
  exact ⟨fun e => (by cases e), fun _ => h⟩
section
variable {P : Program} {H : List AObj} {ρ : Operand → AV} {d : Option Tmp} {ty : TypeId} {pos : String} {after : Array Edge} {g : Option (Nat × Bool)}
@[simp] theorem opA_ifc (t : TypeId) (x : Operand) : opA P H ρ ⟨d, .makeInterface t x, ty, pos, after, g⟩ = (ifcA P t (ρ x)).map (.val · H) := _root_.id rfl
end
end

section
open Go.Sort

section
variable {α : Type} [Inhabited α] {lt : α → α → Bool}
theorem get_eq {d : Array α} {x y : Nat} (h : x = y) : d[x]! = d[y]! := by rw [h]
/-- The exchange of two ranges. -/
def swpR (d : Array α) (x y : Nat) : Nat → Array α
  | 0 => d
  | n + 1 => swp (swpR d x y n) (x + n) (y + n)
theorem swpR_size (d : Array α) (x y : Nat) : ∀ n, (swpR d x y n).size = d.size
  | 0 => rfl
  | n + 1 => by rw [swpR, size_swp, swpR_size d x y n]
theorem swpR_get (d : Array α) (x y : Nat) : ∀ (n : Nat), x + n ≤ y → y + n ≤ d.size → ∀ t, (swpR d x y n)[t]! = if x ≤ t ∧ t < x + n then d[y + (t - x)]! else if y ≤ t ∧ t < y + n then d[x + (t - y)]! else d[t]!
  | 0, _, _, t => by rw [if_neg (by omega), if_neg (by omega)]; rfl
  | n + 1, h1, h2, t => by
    have ih := swpR_get d x y n (by omega) (by omega)
    rw [swpR, swp_get _ (by rw [swpR_size]; omega) (by rw [swpR_size]; omega)]
    by_cases a : t = y + n
    · rw [if_pos a, ih, if_neg (by omega), if_neg (by omega), if_neg (by omega), if_pos (by omega)]
      exact get_eq (by omega)
    · rw [if_neg a]
      by_cases b : t = x + n
      · rw [if_pos b, ih, if_neg (by omega), if_neg (by omega), if_pos (by omega)]
        exact get_eq (by omega)
      · rw [if_neg b, ih]
        by_cases c : x ≤ t ∧ t < x + n
        · rw [if_pos c, if_pos (by omega)]
        · rw [if_neg c]
          by_cases e : y ≤ t ∧ t < y + n
          · rw [if_pos e, if_neg (by omega), if_pos (by omega)]
          · rw [if_neg e, if_neg (by omega), if_neg (by omega)]
theorem swpR_perm (d : Array α) (x y lo hi : Nat) : ∀ (n : Nat), lo ≤ x → x + n ≤ hi → lo ≤ y → y + n ≤ hi → hi ≤ d.size → PermIn lo hi d (swpR d x y n)
  | 0, _, _, _, _, _ => permIn_refl d lo hi
  | n + 1, h1, h2, h3, h4, h5 => permIn_trans _ _ _ _ _ (swpR_perm d x y lo hi n h1 (by omega) h3 (by omega) h5) (swp_permIn _ _ _ _ _ (by omega) (by omega) (by omega) (by omega) (by rw [swpR_size]; exact h5))

/-- What lies at t behind the rotation of [lo, m) and [m, hi). -/
def rotAt (d : Array α) (lo m hi t : Nat) : α := if lo ≤ t ∧ t < lo + (hi - m) then d[m + (t - lo)]! else if lo + (hi - m) ≤ t ∧ t < hi then d[lo + (t - (lo + (hi - m)))]! else d[t]!
theorem rot_a {d : Array α} {lo m hi t : Nat} (h : lo ≤ t ∧ t < lo + (hi - m)) : rotAt d lo m hi t = d[m + (t - lo)]! := by unfold rotAt; rw [if_pos h]
theorem rot_b {d : Array α} {lo m hi t : Nat} (h1 : lo + (hi - m) ≤ t) (h2 : t < hi) : rotAt d lo m hi t = d[lo + (t - (lo + (hi - m)))]! := by unfold rotAt; rw [if_neg (by omega), if_pos ⟨h1, h2⟩]
theorem rot_c {d : Array α} {lo m hi t : Nat} (hm : lo ≤ m) (hh : m ≤ hi) (h : t < lo ∨ hi ≤ t) : rotAt d lo m hi t = d[t]! := by unfold rotAt; rw [if_neg (by omega), if_neg (by omega)]
theorem rot_none {d : Array α} {lo m hi : Nat} (hm : lo ≤ m) (hh : m ≤ hi) (h : lo = m ∨ m = hi) (t : Nat) : rotAt d lo m hi t = d[t]! := by
  rcases Nat.lt_or_ge t lo with a | a
  · exact rot_c hm hh (.inl a)
  · rcases Nat.lt_or_ge t hi with b | b
    · rcases h with h | h
      · rw [rot_a (by omega)]; exact get_eq (by omega)
      · rw [rot_b (by omega) b]; exact get_eq (by omega)
    · exact rot_c hm hh (.inr b)
theorem rot_step1 {d : Array α} {m i j : Nat} (hi : i ≤ m) (hij : j < i) (hs : m + j ≤ d.size) (t : Nat) : rotAt (swpR d (m - i) m j) (m - (i - j)) m (m + j) t = rotAt d (m - i) m (m + j) t := by
  have hg := swpR_get d (m - i) m j (by omega) hs
  rcases Nat.lt_or_ge t (m - i) with a | a
  · rw [rot_c (by omega) (by omega) (.inl (by omega)), rot_c (by omega) (by omega) (.inl a), hg, if_neg (by omega), if_neg (by omega)]
  rcases Nat.lt_or_ge t (m - i + j) with b | b
  · rw [rot_c (by omega) (by omega) (.inl (by omega)), rot_a (by omega), hg, if_pos (by omega)]
  rcases Nat.lt_or_ge t (m + j) with c | c
  · rw [rot_b (d := d) (by omega) c]
    rcases Nat.lt_or_ge t (m - i + j + j) with e | e
    · rw [rot_a (by omega), hg, if_neg (by omega), if_pos (by omega)]
      exact get_eq (by omega)
    · rw [rot_b (by omega) c, hg, if_neg (by omega), if_neg (by omega)]
      exact get_eq (by omega)
  · rw [rot_c (by omega) (by omega) (.inr c), rot_c (by omega) (by omega) (.inr c), hg, if_neg (by omega), if_neg (by omega)]
theorem rot_step2 {d : Array α} {m i j : Nat} (hi : i ≤ m) (hij : i < j) (hs : m + j ≤ d.size) (t : Nat) : rotAt (swpR d (m - i) (m + j - i) i) (m - i) m (m + (j - i)) t = rotAt d (m - i) m (m + j) t := by
  have hg := swpR_get d (m - i) (m + j - i) i (by omega) (by omega)
  rcases Nat.lt_or_ge t (m - i) with a | a
  · rw [rot_c (by omega) (by omega) (.inl a), rot_c (by omega) (by omega) (.inl a), hg, if_neg (by omega), if_neg (by omega)]
  rcases Nat.lt_or_ge t (m + j - i) with b | b
  · rw [rot_a (d := d) (by omega)]
    rcases Nat.lt_or_ge t (m - i + (j - i)) with e | e
    · rw [rot_a (by omega), hg, if_neg (by omega), if_neg (by omega)]
    · rw [rot_b (by omega) (by omega), hg, if_pos (by omega)]
      exact get_eq (by omega)
  rcases Nat.lt_or_ge t (m + j) with c | c
  · rw [rot_c (by omega) (by omega) (.inr (by omega)), rot_b (by omega) c, hg, if_neg (by omega), if_pos (by omega)]
    exact get_eq (by omega)
  · rw [rot_c (by omega) (by omega) (.inr (by omega)), rot_c (by omega) (by omega) (.inr c), hg, if_neg (by omega), if_neg (by omega)]
theorem rot_end {d : Array α} {m i : Nat} (hi : i ≤ m) (hs : m + i ≤ d.size) (t : Nat) : (swpR d (m - i) m i)[t]! = rotAt d (m - i) m (m + i) t := by
  rw [swpR_get d (m - i) m i (by omega) hs]
  rcases Nat.lt_or_ge t (m - i) with a | a
  · rw [rot_c (by omega) (by omega) (.inl a), if_neg (by omega), if_neg (by omega)]
  rcases Nat.lt_or_ge t m with b | b
  · rw [rot_a (by omega), if_pos (by omega)]
  rcases Nat.lt_or_ge t (m + i) with c | c
  · rw [rot_b (by omega) c, if_neg (by omega), if_pos (by omega)]
    exact get_eq (by omega)
  · rw [rot_c (by omega) (by omega) (.inr c), if_neg (by omega), if_neg (by omega)]

/-- One element has been carried up from a to k. -/
def upAt (d : Array α) (a k t : Nat) : α := if a ≤ t ∧ t < k then d[t + 1]! else if t = k then d[a]! else d[t]!
theorem up_start (d : Array α) (a t : Nat) : d[t]! = upAt d a a t := by
  unfold upAt
  rw [if_neg (by omega)]
  split
  · rename_i h; rw [h]
  · rfl
theorem up_step {d e : Array α} {a k : Nat} (hak : a ≤ k) (hk : k + 1 < e.size) (h : ∀ t, e[t]! = upAt d a k t) (t : Nat) : (swp e k (k + 1))[t]! = upAt d a (k + 1) t := by
  rw [swp_get e (by omega) hk]
  by_cases h1 : t = k + 1
  · rw [if_pos h1, h]
    unfold upAt
    rw [if_neg (by omega), if_pos rfl, if_neg (by omega), if_pos h1]
  · rw [if_neg h1]
    by_cases h2 : t = k
    · rw [if_pos h2, h]
      unfold upAt
      rw [if_neg (by omega), if_neg (by omega), if_pos (by omega)]
      exact get_eq (by omega)
    · rw [if_neg h2, h]
      unfold upAt
      by_cases h3 : a ≤ t ∧ t < k
      · rw [if_pos h3, if_pos (by omega)]
      · rw [if_neg h3, if_neg h2, if_neg (by omega), if_neg h1]
/-- One element has been carried down from m to k. -/
def downAt (d : Array α) (m k t : Nat) : α := if k < t ∧ t ≤ m then d[t - 1]! else if t = k then d[m]! else d[t]!
theorem down_start (d : Array α) (m t : Nat) : d[t]! = downAt d m m t := by
  unfold downAt
  rw [if_neg (by omega)]
  split
  · rename_i h; rw [h]
  · rfl
theorem down_step {d e : Array α} {m k : Nat} (hkm : k + 1 ≤ m) (hk : k + 1 < e.size) (h : ∀ t, e[t]! = downAt d m (k + 1) t) (t : Nat) : (swp e (k + 1) k)[t]! = downAt d m k t := by
  rw [swp_get e hk (by omega)]
  by_cases h1 : t = k
  · rw [if_pos h1, h]
    unfold downAt
    rw [if_neg (by omega), if_pos rfl, if_neg (by omega), if_pos h1]
  · rw [if_neg h1]
    by_cases h2 : t = k + 1
    · rw [if_pos h2, h]
      unfold downAt
      rw [if_neg (by omega), if_neg (by omega), if_pos (by omega)]
      exact get_eq (by omega)
    · rw [if_neg h2, h]
      unfold downAt
      by_cases h3 : k + 1 < t ∧ t ≤ m
      · rw [if_pos h3, if_pos (by omega)]
      · rw [if_neg h3, if_neg h2, if_neg (by omega), if_neg h1]

theorem sorted_le (hS : SWO lt) {a b : Nat} {d : Array α} (h : SortedIn lt a b d) {p q : Nat} (ha : a ≤ p) (hpq : p ≤ q) (hq : q < b) : lt d[q]! d[p]! = false := by
  rcases Nat.lt_or_ge p q with e | e
  · exact h p q ha e hq
  · rw [show q = p by omega]; exact hS.irrefl _
/-- data[a] carried into data[m:b], a + 1 = m. -/
theorem up_sorted (hS : SWO lt) {d e : Array α} {a b i : Nat} (h2 : SortedIn lt (a + 1) b d) (hi1 : a + 1 ≤ i) (hi2 : i ≤ b) (hl : i = a + 1 ∨ lt d[i - 1]! d[a]! = true) (hr : i = b ∨ lt d[i]! d[a]! = false) (he : ∀ t, e[t]! = upAt d a (i - 1) t) : SortedIn lt a b e := by
  have low : ∀ q, a + 1 ≤ q → q < i → lt d[a]! d[q]! = false := fun q h3 h4 => by
    rcases hl with hl | hl
    · omega
    · have h5 := sorted_le hS h2 h3 (show q ≤ i - 1 by omega) (by omega)
      have h6 : lt d[a]! d[i - 1]! = false := hS.asymmA hl
      exact hS.ntrans _ _ _ h6 h5
  have high : ∀ q, i ≤ q → q < b → lt d[q]! d[a]! = false := fun q h3 h4 => by
    rcases hr with hr | hr
    · omega
    · exact hS.ntrans _ _ _ (sorted_le hS h2 (by omega) h3 h4) hr
  intro p q hp hpq hq
  rw [he, he]
  unfold upAt
  by_cases c1 : a ≤ q ∧ q < i - 1
  · rw [if_pos c1, if_pos (by omega)]
    exact h2 _ _ (by omega) (by omega) (by omega)
  · rw [if_neg c1]
    by_cases c2 : q = i - 1
    · rw [if_pos c2, if_pos (by omega)]
      exact low _ (by omega) (by omega)
    · rw [if_neg c2]
      by_cases c3 : a ≤ p ∧ p < i - 1
      · rw [if_pos c3]
        exact h2 _ _ (by omega) (by omega) hq
      · rw [if_neg c3]
        by_cases c4 : p = i - 1
        · rw [if_pos c4]
          exact high q (by omega) hq
        · rw [if_neg c4]
          exact h2 _ _ (by omega) hpq hq
/-- data[m] carried into data[a:m], b = m + 1. -/
theorem down_sorted (hS : SWO lt) {d e : Array α} {a m i : Nat} (h1 : SortedIn lt a m d) (hi1 : a ≤ i) (hi2 : i ≤ m) (hl : i = a ∨ lt d[m]! d[i - 1]! = false) (hr : i = m ∨ lt d[m]! d[i]! = true) (he : ∀ t, e[t]! = downAt d m i t) : SortedIn lt a (m + 1) e := by
  have low : ∀ p, a ≤ p → p < i → lt d[m]! d[p]! = false := fun p h3 h4 => by
    rcases hl with hl | hl
    · omega
    · exact hS.ntrans _ _ _ hl (sorted_le hS h1 h3 (show p ≤ i - 1 by omega) (by omega))
  have high : ∀ q, i ≤ q → q < m → lt d[q]! d[m]! = false := fun q h3 h4 => by
    rcases hr with hr | hr
    · omega
    · exact hS.ntrans _ _ _ (sorted_le hS h1 hi1 h3 h4) (hS.asymmA hr)
  intro p q hp hpq hq
  rw [he, he]
  unfold downAt
  by_cases c1 : i < p ∧ p ≤ m
  · rw [if_pos c1, if_pos (by omega)]
    exact h1 _ _ (by omega) (by omega) (by omega)
  · rw [if_neg c1]
    by_cases c2 : p = i
    · rw [if_pos c2, if_pos (by omega)]
      exact high _ (by omega) (by omega)
    · rw [if_neg c2]
      by_cases c3 : i < q ∧ q ≤ m
      · rw [if_pos c3]
        rcases Nat.lt_or_ge p (q - 1) with c4 | c4
        · exact h1 _ _ hp c4 (by omega)
        · omega
      · rw [if_neg c3]
        by_cases c4 : q = i
        · rw [if_pos c4]
          exact low p hp (by omega)
        · rw [if_neg c4]
          exact h1 _ _ hp hpq (by omega)

/-- What the rotation leaves: four ascending runs, and nothing in the upper half is less than what lies in the lower one. -/
structure Halves (lt : α → α → Bool) (a st mid en b : Nat) (d : Array α) : Prop where
  s1 : SortedIn lt a st d
  s2 : SortedIn lt st mid d
  s3 : SortedIn lt mid en d
  s4 : SortedIn lt en b d
  lo : ∀ p q, a ≤ p → p < mid → mid ≤ q → q < b → lt d[q]! d[p]! = false
theorem halves (hS : SWO lt) {a m b mid st en : Nat} {d e : Array α} (h1 : SortedIn lt a m d) (h2 : SortedIn lt m b d) (b1 : a ≤ st) (b2 : st ≤ m) (b3 : m ≤ en) (b4 : en ≤ b) (hse : st + en = mid + m)
    (hi : st = a ∨ en = b ∨ lt d[en]! d[st - 1]! = false) (hii : st = m ∨ en = m ∨ lt d[st]! d[en - 1]! = false) (he : ∀ t, e[t]! = rotAt d st m en t) : Halves lt a st mid en b e := by
  have r1 : ∀ t, t < st → e[t]! = d[t]! := fun t ht => by rw [he, rot_c b2 b3 (.inl ht)]
  have r2 : ∀ t, st ≤ t → t < mid → e[t]! = d[m + (t - st)]! := fun t h3 h4 => by rw [he, rot_a (by omega)]
  have r3 : ∀ t, mid ≤ t → t < en → e[t]! = d[st + (t - mid)]! := fun t h3 h4 => by rw [he, rot_b (by omega) h4]; exact get_eq (by omega)
  have r4 : ∀ t, en ≤ t → e[t]! = d[t]! := fun t ht => by rw [he, rot_c b2 b3 (.inr ht)]
  refine ⟨fun p q hp hpq hq => ?_, fun p q hp hpq hq => ?_, fun p q hp hpq hq => ?_, fun p q hp hpq hq => ?_, fun p q hp hpm hq hqb => ?_⟩
  · rw [r1 p (by omega), r1 q hq]; exact h1 _ _ hp hpq (by omega)
  · rw [r2 p hp (by omega), r2 q (by omega) hq]; exact h2 _ _ (by omega) (by omega) (by omega)
  · rw [r3 p hp (by omega), r3 q (by omega) hq]; exact h1 _ _ (by omega) (by omega) (by omega)
  · rw [r4 p hp, r4 q (by omega)]; exact h2 _ _ (by omega) hpq hq
  · rcases Nat.lt_or_ge p st with c1 | c1
    · rw [r1 p c1]
      rcases Nat.lt_or_ge q en with c2 | c2
      · rw [r3 q hq c2]; exact sorted_le hS h1 hp (by omega) (by omega)
      · rw [r4 q c2]
        have h3 : lt d[en]! d[st - 1]! = false := by
          rcases hi with hi | hi | hi
          · omega
          · omega
          · exact hi
        exact hS.ntrans _ _ _ (hS.ntrans _ _ _ (sorted_le hS h2 b3 c2 hqb) h3) (sorted_le hS h1 hp (show p ≤ st - 1 by omega) (by omega))
    · rw [r2 p c1 hpm]
      rcases Nat.lt_or_ge q en with c2 | c2
      · rw [r3 q hq c2]
        have h3 : lt d[st]! d[en - 1]! = false := by
          rcases hii with hi | hi | hi
          · omega
          · omega
          · exact hi
        exact hS.ntrans _ _ _ (hS.ntrans _ _ _ (sorted_le hS h1 b1 (show st ≤ st + (q - mid) by omega) (by omega)) h3) (sorted_le hS h2 (show m ≤ m + (p - st) by omega) (show m + (p - st) ≤ en - 1 by omega) (by omega))
      · rw [r4 q c2]; exact sorted_le hS h2 (by omega) (by omega) hqb
theorem Halves.done (_hS : SWO lt) {a st mid en b : Nat} {e e1 e2 : Array α} (h : Halves lt a st mid en b e) (h0 : b ≤ e.size) (ha : a ≤ mid) (hb : mid ≤ b) (hp1 : PermIn a mid e e1) (hs1 : SortedIn lt a mid e1) (hp2 : PermIn mid b e1 e2) (hs2 : SortedIn lt mid b e2) : PermIn a b e e2 ∧ SortedIn lt a b e2 := by
  refine ⟨permIn_trans _ _ _ _ _ (permIn_mono e e1 a mid a b (Nat.le_refl _) hb h0 hp1) (permIn_mono e1 e2 mid b a b ha (Nat.le_refl _) (by rw [hp1.1]; exact h0) hp2), fun p q hp hpq hq => ?_⟩
  have l2 : ∀ t, t < mid → e2[t]! = e1[t]! := fun t ht => hp2.2.1 t (.inl ht)
  rcases Nat.lt_or_ge q mid with c1 | c1
  · rw [l2 p (by omega), l2 q c1]; exact hs1 p q hp hpq c1
  · rcases Nat.lt_or_ge p mid with c2 | c2
    · rw [l2 p c2]
      have k1 : ∀ i, a ≤ i → i < mid → ∀ x, (∃ q, mid ≤ q ∧ q < b ∧ x = e[q]!) → lt x e1[i]! = false :=
        permIn_all e e1 a mid (fun y => ∀ x, (∃ q, mid ≤ q ∧ q < b ∧ x = e[q]!) → lt x y = false) (by omega) hp1 (fun i hi1 hi2 x ⟨q, hq1, hq2, hx⟩ => by rw [hx]; exact h.lo i q hi1 hi2 hq1 hq2)
      have k2 := permIn_all e1 e2 mid b (fun x => lt x e1[p]! = false) (by rw [hp1.1]; exact h0) hp2 (fun i hi1 hi2 => k1 p hp c2 _ ⟨i, hi1, hi2, hp1.2.1 i (.inr hi1)⟩)
      exact k2 q c1 hq
    · exact hs2 p q c2 hpq hq
theorem sorted_perm_out {a b lo hi : Nat} {d e : Array α} (h : SortedIn lt a b d) (hp : PermIn lo hi d e) (ho : b ≤ lo ∨ hi ≤ a) : SortedIn lt a b e := fun p q h1 h2 h3 => by
  rw [hp.2.1 p (by omega), hp.2.1 q (by omega)]
  exact h p q h1 h2 h3
end
end

section
open Go.RowKit Go.Sort Go.Shelf
set_option maxRecDepth 10000
attribute [-simp] List.map_take List.map_drop UInt8.ofNat_add List.map_flatten

/-- Signed votes as memory can hold them. -/
abbrev FS : Type := { s : SignedS // s.vote.Fit }
def zeroF : FS := ⟨⟨⟨0, 0, 0, 0, 0, 0, zero8, zero8⟩, []⟩, by constructor <;> first | rfl | (constructor <;> decide)⟩
instance : Inhabited FS := ⟨zeroF⟩
abbrev ltF (x y : FS) : Bool := lessS x.1 y.1
theorem swoF : SWO ltF := ⟨fun x => lessS_irrefl x.1, fun x y z => lessS_trans x.2 y.2 z.2, fun x y z => lessS_ntrans x.2 y.2 z.2⟩
def esF (d : Array FS) : List AV := d.toList.map fun x => sA x.1
def rowF (d : Array FS) : AObj := .row 38 false (flat (esF d))
abbrev HF (d : Array FS) (n : Nat) : List AObj := [rowF d, .row 1000026 false [.own 0 0 n 23]]
noncomputable abbrev hdl : AV := .c (typeHandle Tryz.prog 38)
/-- The two closures. -/
noncomputable abbrev cloF (n : Nat) : AV := .agg [.fn 77 [.ptr 1 0], .fn 198 [.own 0 0 n 23, hdl]]
abbrev SymQ (n a b : Nat) (d : Array FS) (x : AV) (H : List AObj) : Prop := x = .tup [] ∧ ∃ d' junk, PermIn a b d d' ∧ SortedIn ltF a b d' ∧ H = HF d' n ++ junk
theorem esF_len (d : Array FS) : (esF d).length = d.size := by simp [esF]
theorem esF_23 (d : Array FS) : ∀ e ∈ esF d, e.cells.length = 23 := by
  intro e he
  obtain ⟨x, -, rfl⟩ := List.mem_map.1 he
  exact sC_len x.2
theorem flat_lenK {k : Nat} : ∀ {es : List AV}, (∀ e ∈ es, e.cells.length = k) → (flat es).length = es.length * k
  | [], _ => by simp [flat]
  | e :: es, h => by
    rw [flat_cons, List.length_append, h e (List.mem_cons_self ..), flat_lenK (fun x hx => h x (List.mem_cons_of_mem _ hx)), List.length_cons, Nat.succ_mul]
    omega
theorem flat_partK {k : Nat} : ∀ {es : List AV} {i : Nat} {e : AV}, (∀ e ∈ es, e.cells.length = k) → es[i]? = some e → ((flat es).drop (i * k)).take k = e.cells
  | [], _, _, _, h => by simp at h
  | x :: es, 0, e, hk, h => by
    simp at h
    subst h
    rw [flat_cons, Nat.zero_mul, List.drop_zero, List.take_append_of_le_length (by rw [hk x (List.mem_cons_self ..)]; exact Nat.le_refl _), List.take_of_length_le (by rw [hk x (List.mem_cons_self ..)]; exact Nat.le_refl _)]
  | x :: es, i + 1, e, hk, h => by
    have hx := hk x (List.mem_cons_self ..)
    rw [flat_cons, List.drop_append, List.drop_of_length_le (by rw [hx, Nat.succ_mul]; omega), List.nil_append, hx, show (i + 1) * k - k = i * k by rw [Nat.succ_mul]; omega]
    exact flat_partK (fun y hy => hk y (List.mem_cons_of_mem _ hy)) (by simpa using h)
theorem flat_set {k : Nat} : ∀ {es : List AV} {i : Nat} {e : AV}, (∀ e ∈ es, e.cells.length = k) → e.cells.length = k → i < es.length → splice (flat es) (i * k) e.cells = flat (es.set i e)
  | [], _, _, _, _, h => by simp at h
  | x :: es, 0, e, hk, he, h => by
    have hx := hk x (List.mem_cons_self ..)
    simp [splice, flat_cons, he, hx]
  | x :: es, i + 1, e, hk, he, h => by
    have hx := hk x (List.mem_cons_self ..)
    have ih := flat_set (e := e) (i := i) (fun y hy => hk y (List.mem_cons_of_mem _ hy)) he (by simpa using h)
    rw [List.set_cons_succ, flat_cons, flat_cons, ← ih]
    unfold splice
    have e1 : (i + 1) * k = k + i * k := by rw [Nat.succ_mul]; omega
    rw [e1, List.take_append, List.take_of_length_le (by omega), hx, Nat.add_sub_cancel_left, Nat.add_assoc, List.drop_append, List.drop_of_length_le (by omega), hx, Nat.add_sub_cancel_left]
    simp
theorem esF_get {d : Array FS} {i : Nat} (hi : i < d.size) : (esF d)[i]? = some (sA d[i]!.1) := by
  simp [esF, hi]
theorem esF_swp {d : Array FS} {i j : Nat} (_hi : i < d.size) (_hj : j < d.size) : ((esF d).set i (sA d[j]!.1)).set j (sA d[i]!.1) = esF (swp d i j) := by
  simp [esF, swp, List.map_set]
theorem rowF_swp {d : Array FS} {i j : Nat} (hi : i < d.size) (hj : j < d.size) : splice (splice (flat (esF d)) (i * 23) (((flat (esF d)).drop (j * 23)).take 23)) (j * 23) (((flat (esF d)).drop (i * 23)).take 23) = flat (esF (swp d i j)) := by
  have h23 := esF_23 d
  have hi23 : (sA d[i]!.1).cells.length = 23 := sC_len (d[i]!).2
  have hj23 : (sA d[j]!.1).cells.length = 23 := sC_len (d[j]!).2
  rw [flat_partK h23 (esF_get hi), flat_partK h23 (esF_get hj), flat_set h23 hj23 (by rw [esF_len]; exact hi), flat_set (fun e he => ?_) hi23 (by rw [List.length_set, esF_len]; exact hj), esF_swp hi hj]
  rcases List.mem_or_eq_of_mem_set he with he | rfl
  · exact h23 e he
  · exact hj23
theorem swapF {d : Array FS} {n i j : Nat} (hn : d.size = n) (hi : i < n) (hj : j < n) : PCall Tryz.prog 198 [.c (.int .i64 i), .c (.int .i64 j), .own 0 0 n 23, hdl] (HF d n) (fun x H' => x = .tup [] ∧ H' = HF (swp d i j) n) := by
  obtain ⟨ie, hie⟩ : ∃ i, Tryz.prog.info? 38 = some i := Option.isSome_iff_exists.1 (by kernel_rfl)
  have hs : ie.size = 23 := by
    have : (Tryz.prog.info? 38).map (·.size) = some 23 := by kernel_rfl
    rw [hie] at this
    simpa using this
  have := PCall.swap (P := Tryz.prog) (by kernel_rfl) (fun args W => run_callFunc_extern Tryz.func198 (by kernel_rfl) (by kernel_rfl) (by kernel_rfl) (e := Extern.ReflectliteSwapper.swap false) (by kernel_rfl) args W) hie (fun w => by kernel_rfl) (H := HF d n) (id := 0) rfl (by decide) hs (n := n) (by rw [flat_lenK (esF_23 d), esF_len, hn]; exact Nat.le_refl _) hi hj
  rw [rowF_swp (by omega) (by omega)] at this
  exact this
theorem sortedIn_tiny {a b : Nat} {d : Array FS} (h : b ≤ a + 1) : SortedIn ltF a b d := fun p q h1 h2 h3 => by omega
end

section
open Go.RowKit Go.Sort Go.Shelf Go.Lib
set_option maxRecDepth 10000

set_option maxHeartbeats 600000 in
theorem SliceStable_of {d : Array FS} {n : Nat} (hn : d.size = n) (hb : n ≤ 100000) (hst : 2 ≤ n → PCall Tryz.prog 127 [cloF n, .c (.int .i64 n)] (HF d n) (SymQ n 0 n d)) : PCall Tryz.prog 76 [.ifc 26 (.own 0 0 n 23), .fn 77 [.ptr 1 0]] (HF d n) (SymQ n 0 n d) := by
  obtain ⟨ti, hti⟩ : ∃ i, Tryz.prog.info? 26 = some i := Option.isSome_iff_exists.1 (by kernel_rfl)
  obtain ⟨ie, hie⟩ : ∃ i, Tryz.prog.info? 38 = some i := Option.isSome_iff_exists.1 (by kernel_rfl)
  have htd : ti.desc = .slice 38 := by
    have : (Tryz.prog.info? 26).map (·.desc) = some (.slice 38) := by kernel_rfl
    rw [hti] at this
    simpa using this
  have hie2 : ie.size = 23 ∧ ie.hasPointers = true ∧ ie.bytes = 88 := by
    have : (Tryz.prog.info? 38).map (fun i => (i.size, i.hasPointers, i.bytes)) = some (23, true, 88) := by kernel_rfl
    rw [hie] at this
    simpa using this
  intro F β w vs hr hvl
  have hlen := hvl.1
  match vs, hlen with
  | [v0, v1], _ =>
    have h0 := hvl.2 0 _ _ rfl rfl
    have h1 := hvl.2 1 _ _ rfl rfl
    cases h0 with
    | leaf h0 => exact h0.elim
    | ifc h0 =>
    rename_i v0
    cases h1 with
    | leaf h1 => exact h1.elim
    | fn hl1 hu1 =>
    rename_i us
    have h0' := h0
    cases h0' with
    | leaf h0' =>
    obtain ⟨A, c, rfl, -⟩ := h0'.2.1.1
    refine .inl ⟨⟨_, _, Tryz.func76, rfl⟩, ?_⟩
    by_cases h2 : 2 ≤ n
    · have hk9 : swapperK n ie 25 = 9 := by
        unfold swapperK
        rw [hie2.2.1, hie2.2.2]
        have a0 : (n == 0) = false := by simp; omega
        have a1 : (n == 1) = false := by simp; omega
        rw [a0, a1]
        rfl
      have hf9 : Tryz.prog.funcs.findIdx? (·.name == "internal/reflectlite" ++ ".Swapper$" ++ toString (swapperK n ie 25)) = some 198 := by rw [hk9]; kernel_rfl
      refine (Any.sort_SliceStable_of_stable Tryz.laysGt8 26 38 ti ie hti htd (by kernel_rfl) hie 25 (fun w => by kernel_rfl) A n c (by omega) 198 hf9 (.func 77) #[] us.toArray w (fun w' => ∃ H' β', (∃ d' junk, PermIn 0 n d d' ∧ SortedIn ltF 0 n d' ∧ H' = HF d' n ++ junk) ∧ Rep F β' H' w' ∧ Ext β (HF d n) w β' H' w') ?_).mono ?_
      · have hu : Upd NoF w (stableWorld Tryz.prog Tryz.laysGt8_ren 26 A n c w) := ((Upd.refl _ _).alloc _).alloc _
        have rep1 := hr.upd hu
        have ext1 := Ext.of_upd hu hr
        have hB : sliceBound Tryz.prog 38 ie 25 A n c = #[.slice A n c, typeHandle Tryz.prog 38] := by
          unfold sliceBound
          rw [if_neg (by rw [hk9]; decide)]
        rw [hB]
        have key := hst h2 F β _ [.agg #[.func (.func 77) #[] us.toArray, .func (.func 198) #[] #[.slice A n c, typeHandle Tryz.prog 38]], .int .i64 n] rep1 ⟨rfl, fun i a v ha hv => ?_⟩
        · rcases key with ⟨-, key⟩ | ⟨hx, -⟩
          · refine Calls.mono key ?_
            rintro e w' ⟨x, H', β', v, rfl, ⟨rfl, hq⟩, r1, x1, v1⟩
            obtain rfl := v1.undef_
            exact ⟨rfl, H', β', hq, r1, ext1.trans x1⟩
          · exact (extS_body hx ⟨_, _, Tryz.func127, rfl⟩).elim
        · match i with
          | 0 =>
            cases ha
            cases hv
            refine VR.agg (vs := [.func (.func 77) #[] us.toArray, .func (.func 198) #[] #[.slice A n c, typeHandle Tryz.prog 38]]) rfl (by intro u hu; simp at hu; rcases hu with rfl | rfl <;> rfl) (fun i a v ha hv => ?_)
            match i with
            | 0 =>
              cases ha
              cases hv
              exact VR.fn hl1 (fun i a v ha hv => (show V F β (HF d n) w a v from hu1 i a v ha hv).ext ext1)
            | 1 =>
              cases ha
              cases hv
              refine VR.fn (vs := [.slice A n c, typeHandle Tryz.prog 38]) rfl (fun i a v ha hv => ?_)
              match i with
              | 0 =>
                cases ha
                cases hv
                exact (show V F β (HF d n) w _ _ from h0).ext ext1
              | 1 =>
                cases ha
                cases hv
                exact .c rfl
              | i + 2 => simp at ha
            | i + 2 => simp at ha
          | 1 =>
            cases ha
            cases hv
            exact .c rfl
          | i + 2 => simp at ha
      · rintro e w' ⟨rfl, H', β', hq, r1, x1⟩
        exact ⟨.tup [], H', β', .tuple #[], rfl, ⟨rfl, hq⟩, r1, x1, VR.undef⟩
    · have key : ∀ f, Tryz.prog.funcs.findIdx? (·.name == "internal/reflectlite" ++ ".Swapper$" ++ toString (swapperK n ie 25)) = some f → Calls Tryz.prog 76 #[.iface 26 (.slice A n c), .func (.func 77) #[] us.toArray] w fun e w' => e = .returned (.tuple #[]) ∧ Upd NoF w w' := fun f hf' => by
        refine (Any.sort_SliceStable_tiny Tryz.laysGt8 26 38 ti ie hti htd (by kernel_rfl) hie 25 (fun w => by kernel_rfl) A n c (by omega) f hf' (.func 77) #[] us.toArray w).mono ?_
        rintro e w' ⟨rfl, os, rfl⟩
        refine ⟨rfl, rfl, rfl, rfl, by simp [grow], fun k hk _ => ?_⟩
        simp [grow, Array.getElem?_append_left hk]
      have hc : Calls Tryz.prog 76 #[.iface 26 (.slice A n c), .func (.func 77) #[] us.toArray] w fun e w' => e = .returned (.tuple #[]) ∧ Upd NoF w w' := by
        rcases (show n = 0 ∨ n = 1 from by omega) with h | h
        · refine key 190 ?_
          rw [h, show swapperK 0 ie 25 = 1 from rfl]
          kernel_rfl
        · refine key 191 ?_
          rw [h, show swapperK 1 ie 25 = 2 from rfl]
          kernel_rfl
      refine Calls.mono hc ?_
      rintro e w' ⟨rfl, hu⟩
      exact ⟨.tup [], _, β, .tuple #[], rfl, ⟨rfl, d, [], permIn_refl _ _ _, sortedIn_tiny (by omega), rfl⟩, hr.upd hu, Ext.of_upd hu hr, VR.undef⟩
end

section
open Go.RowKit

def cmpB (a b : List UInt8) : Int := Lib.compareBytes a b
theorem cmpB_lt : ∀ (a b : List UInt8), decide (cmpB a b < 0) = lessT a b
  | [], [] => rfl
  | [], _ :: _ => rfl
  | _ :: _, [] => rfl
  | a :: l, b :: r => by
    have ih := cmpB_lt l r
    unfold cmpB lessT at ih ⊢
    unfold Lib.compareBytes Op.bytesLess
    by_cases h1 : a < b
    · simp [h1]
    · by_cases h2 : b < a
      · have h3 : ¬ a = b := fun e => by subst e; exact h1 h2
        simp [h1, h2, h3]
      · have h3 : a = b := by
          apply UInt8.toNat.inj
          rw [UInt8.lt_iff_toNat_lt] at h1 h2
          omega
        subst h3
        simp [h1, ih]

theorem run_bytesOf {w : World} {v : Value} {bs : List UInt8} (h : Rd w 1 v bs.length (bs.map byteV)) : (Extern.Bytes.bytesOf v).run Tryz.prog w = .ok ⟨bs.toArray⟩ w := by
  obtain ⟨A, c, rfl, hn, hc, hl, hA⟩ := h
  have hb : ∀ l : List UInt8, Lib.bytesOf (l.map fun b => (b.toNat : Int)) = l := fun l => by
    simp [Lib.bytesOf, List.map_map, Function.comp_def]
  cases A with
  | none =>
    have h0 : bs.length = 0 := by
      rcases Nat.eq_zero_or_pos bs.length with h | h
      · exact h
      · obtain ⟨g, o, e, _⟩ := hA h; cases e
    obtain rfl : bs = [] := List.eq_nil_of_length_eq_zero h0
    simp [Extern.Bytes.bytesOf]
    rfl
  | some a =>
    have := Lib.run_loadBytesX (P := Tryz.prog) w (bs.map fun b => (b.toNat : Int)) a .empty (fun j x hj => by
      rw [List.getElem?_map] at hj
      obtain ⟨b, hb1, rfl⟩ := Option.map_eq_some_iff.1 hj
      have hlt : j < bs.length := (List.getElem?_eq_some_iff.1 hb1).1
      obtain ⟨g, o, e, hx⟩ := hA (by omega)
      injection e with e
      subst e
      have hadd : (⟨g, o, none⟩ : Addr).add j = ⟨g, o + j, none⟩ := by unfold Addr.add; split <;> simp_all
      rw [hadd]
      exact hx j _ (by rw [List.getElem?_map, hb1]; rfl))
    rw [List.length_map, hb] at this
    simp only [Extern.Bytes.bytesOf, this]
    simp
theorem run_acompare {w : World} {u v : Value} {a b : List UInt8} (ha : Rd w 1 u a.length (a.map byteV)) (hb : Rd w 1 v b.length (b.map byteV)) : (Extern.BytealgCompare.compare #[u, v]).run Tryz.prog w = .ok (.int .i64 (cmpB a b)) w := by
  change Sem.run Tryz.prog (do pure (goInt (Extern.BytealgCompare.cmp (← Extern.Bytes.bytesOf u) (← Extern.Bytes.bytesOf v)))) w = _
  simp only [Sem.run_bind, run_bytesOf ha, run_bytesOf hb, Sem.run_pure, Result.andThen, Lib.cmp_eq]
  rfl
set_option maxRecDepth 100000 in
theorem bCompare_any {w : World} {u v : Value} {a b : List UInt8} (ha : Rd w 1 u a.length (a.map byteV)) (hb : Rd w 1 v b.length (b.map byteV)) : Calls Tryz.prog 21 #[u, v] w fun e w' => e = .returned (.int .i64 (cmpB a b)) ∧ w = w' := by
  have CA := Lib.hid (run_acompare ha hb)
  clear ha hb
  generalize cmpB a b = z at CA ⊢
  go_enter Tryz.func21, Tryz.ntmps21
  go_wp2
  rw [run_callFunc_extern Tryz.func49 (by kernel_rfl) (by kernel_rfl) (by kernel_rfl) (e := Extern.BytealgCompare.compare) (by kernel_rfl), CA.out]
  simp only [Result.andThen]
  rw [Oper.upon_value]
  go_wp2
  go_ret
  exact ⟨rfl, rfl⟩

section
variable {F : Nat → Prop} {β : Loc} {H : List AObj} {w : World}
/-- An immutable slice of bytes, read out of memory. -/
theorem V.rdB {l : List UInt8} {v : Value} (h : V F β H w (bytesA l) v) : Rd w 1 v l.length (l.map byteV) := by
  have hb : ∀ {vs : List Value}, vs.length = (flat (l.map byteA)).length → (∀ (i : Nat) (a : AV) (v : Value), (flat (l.map byteA))[i]? = some a → vs[i]? = some v → V F β H w a v) → vs = l.map byteV := by
    intro vs hl hv
    rw [flat_bytes] at hl hv
    refine List.ext_getElem? fun i => ?_
    cases hc : vs[i]? with
    | none =>
      rw [List.getElem?_eq_none_iff] at hc
      rw [List.getElem?_eq_none (by simp at hl ⊢; omega)]
    | some u =>
      have hi := (List.getElem?_eq_some_iff.1 hc).1
      have hl' : i < l.length := by simp at hl; omega
      have := (hv i _ u (by rw [List.getElem?_map, List.getElem?_eq_getElem hl']; rfl) hc).lit
      rw [List.getElem?_map, List.getElem?_eq_getElem hl', this]
      rfl
  change V F β H w (.ls 1 (l.map byteA)) v at h
  generalize hes : l.map byteA = es at h
  cases h with
  | leaf h => exact h.elim
  | ls hbk hk hn hm hl ho hc hv =>
    rename_i vs b o cap
    subst hes
    have e := hb hl hv
    subst e
    simp at hn
    refine ⟨_, cap, by simp, by simpa using hn, hm, by simp, fun _ => ⟨b, o, rfl, fun j x hx => hc j x hx⟩⟩
  | ls0 a hm =>
    rename_i cap
    have : l = [] := by simpa using hes
    subst this
    exact ⟨_, cap, rfl, Nat.zero_le _, hm, rfl, fun h => absurd h (by simp)⟩
end
theorem Compare_any (a b : List UInt8) : PCall Tryz.prog 21 [bytesA a, bytesA b] [] (fun x _ => Bd 0 x ∧ x = .c (.int .i64 (cmpB a b))) := by
  intro F β w vs hr hvl
  have hlen := hvl.1
  match vs, hlen with
  | [u, v], _ =>
    have h0 := (hvl.2 0 _ _ rfl rfl).rdB
    have h1 := (hvl.2 1 _ _ rfl rfl).rdB
    refine .inl ⟨⟨_, _, Tryz.func21, rfl⟩, Calls.mono (bCompare_any h0 h1) ?_⟩
    rintro e w' ⟨rfl, rfl⟩
    exact ⟨_, [], β, _, rfl, ⟨.c _, rfl⟩, hr, Ext.refl _ _ _, .c rfl⟩
end
end Go.Proofs.YthknobbilcolnaaGreat
