/- A call that knows the first objects alone leaves the others as they are. No condition. Contracts of the old kind as calls on abstract values. No condition. Closed facts of the program on top of the rules: names are compared byte by byte. No condition. The hash of the implementation, by abstract values: rotations, numbers of names, mix. No condition. Trees of names, by abstract values: a single leaf. No condition. merkle.Depth, by abstract values. No condition. Votes, signed votes and views on plain data: what Valid, Encode, Decode and the orders of the program and of the reference compute, and that Decode inverts Encode. No condition. The order of texts, sorting and striking repetitions on plain lists. No condition. Striking repetitions, on plain lists. No condition. Names in ascending order; walking a graph of items from its references, on plain data. No condition. Signatures of names on plain data: one-time keys, paths to a root, the keys of two levels. No condition. -/
import Derived.Test.YthknobbilcolnaaGreatJn13
import Derived.Test.YthknobbilcolnaaGreatTy
namespace Go.Proofs.YthknobbilcolnaaGreat
section
open Go.RowKit

section
variable {P : Program} {f : FuncId} {args : List AV} {H0 H1 : List AObj}
/-- The cells of the first n objects name no others. -/
def InB (n : Nat) (H : List AObj) : Prop := ∀ (j : Nat) (t : TypeId) (fz : Bool) (cs : List AV), H[j]? = some (.row t fz cs) → ∀ a ∈ cs, Bd n a
theorem get_fst {i : Nat} (h : i < H0.length) : (H0 ++ H1)[i]? = H0[i]? := List.getElem?_append_left h
theorem get_snd {i : Nat} (h : H0.length ≤ i) : (H0 ++ H1)[i]? = H1[i - H0.length]? := List.getElem?_append_right h
theorem PCall.frame {Q : AV → List AObj → Prop} (ha : ∀ a ∈ args, Bd H0.length a) (hH : InB H0.length H0) (h : PCall P f args H0 (fun r H' => ∃ G junk, H' = G ++ junk ∧ G.length = H0.length ∧ Bd H0.length r ∧ InB H0.length G ∧ Q r G)) :
    PCall P f args (H0 ++ H1) (fun r H' => ∃ G, H' = G ++ H1 ∧ G.length = H0.length ∧ Q r G) := by
  intro F β w vs hr hvl
  let F1 : Nat → Prop := fun b => F b ∨ ∃ j s, H0.length ≤ j ∧ mutb (H0 ++ H1) j ∧ β j = some (b, s)
  have mu : ∀ {j}, mutb H0 j → mutb (H0 ++ H1) j ∧ j < H0.length := fun ⟨t, cs, hj⟩ => by
    have hl := (List.getElem?_eq_some_iff.1 hj).1
    exact ⟨⟨t, cs, by rw [get_fst hl]; exact hj⟩, hl⟩
  have hI : ∀ b, Im F β (H0 ++ H1) w b → Im F1 β H0 w b := fun b hb => ⟨hb.1, fun hf => hf.elim hb.2.1 (fun ⟨j, s, _, hm, e⟩ => hb.2.2 ⟨j, s, hm, e⟩), fun ⟨j, s, hm, e⟩ => hb.2.2 ⟨j, s, (mu hm).1, e⟩⟩
  have hL : ∀ x v, Bd H0.length x → LV β (H0 ++ H1) x v → LV β H0 x v := by
    intro x v hb hl
    have nm : ∀ {id}, id < H0.length → noMap (H0 ++ H1) id → noMap H0 id := fun hi h t fz cs hj => h t fz cs (by rw [get_fst hi]; exact hj)
    cases x <;> try exact hl.elim
    case own id off n k =>
      cases hb with
      | own hb => exact ⟨hb, ⟨hl.2.1.1, nm hb hl.2.1.2⟩, fun t fz cs hj => hl.2.2 t fz cs (by rw [get_fst hb]; exact hj)⟩
    case ptr id off =>
      cases hb with
      | ptr hb => exact ⟨hb, ⟨hl.2.1.1, nm hb hl.2.1.2⟩, fun t fz cs hj => hl.2.2 t fz cs (by rw [get_fst hb]; exact hj)⟩
    case mh id =>
      cases hb with
      | mh hb => exact ⟨hb, hl.2.1, fun t fz cs hj => hl.2.2 t fz cs (by rw [get_fst hb]; exact hj)⟩
  have hV : ∀ {a v}, Bd H0.length a → V F β (H0 ++ H1) w a v → V F1 β H0 w a v := fun hb hv => hv.bd (n := H0.length) hI (fun _ _ => Kept.refl _ _) hL hb
  have al : ∀ {j}, alive H0 j → alive (H0 ++ H1) j := fun ⟨t, fz, cs, hj⟩ => ⟨t, fz, cs, by rw [get_fst (List.getElem?_eq_some_iff.1 hj).1]; exact hj⟩
  have hrep : Rep F1 β H0 w := by
    refine ⟨fun b hb => hb.elim (hr.far b) (fun ⟨j, s, _, hm, e⟩ => (hr.lt hm.alive e).1), fun j t fz cs hj => ?_, fun i j hi hj => hr.inj i j (al hi) (al hj)⟩
    have hl := (List.getElem?_eq_some_iff.1 hj).1
    rcases hr.row j t fz cs (by rw [get_fst hl]; exact hj) with h1 | ⟨b, C, us, h1, h2, h3, h4, h5, h6, h7⟩
    · exact .inl h1
    · refine .inr ⟨b, C, us, h1, fun hf => hf.elim h2 (fun ⟨i, s, hge, hm, e⟩ => ?_), h3, h4, h5, h6, fun i a v ha hv => hV (hH j t fz cs hj a (List.mem_of_getElem? ha)) (h7 i a v ha hv)⟩
      have := hr.inj i j hm.alive (al ⟨_, _, _, hj⟩) b s _ e h1
      omega
  have hvl1 : VL F1 β H0 w args vs := ⟨hvl.1, fun i a v h1 h2 => hV (ha a (List.mem_of_getElem? h1)) (hvl.2 i a v h1 h2)⟩
  refine CallsX.mono (h F1 β w vs hrep hvl1) (fun e w' ⟨r, H', β', v, e1, ⟨G, junk, e2, e3, e4, e5, e6⟩, r1, x1, v1⟩ => ?_)
  subst e2
  have gG : ∀ {i : Nat}, i < H0.length → (G ++ junk)[i]? = G[i]? := fun hi => List.getElem?_append_left (by omega)
  have gN : ∀ {i : Nat}, i < H0.length → (G ++ H1)[i]? = G[i]? := fun hi => List.getElem?_append_left (by omega)
  have gS : ∀ {i : Nat}, H0.length ≤ i → (G ++ H1)[i]? = (H0 ++ H1)[i]? := fun hi => by rw [List.getElem?_append_right (by omega), get_snd hi, e3]
  have alG : ∀ {i : Nat}, i < H0.length → alive (G ++ H1) i → alive (G ++ junk) i := fun hi ⟨t, fz, cs, hj⟩ => ⟨t, fz, cs, by rw [gG hi, ← gN hi]; exact hj⟩
  have hβ : ∀ {i : Nat}, i < H0.length → alive (G ++ junk) i → alive H0 i ∧ β' i = β i := fun hi h => x1.keep _ hi h
  have mb : ∀ b, MB β (G ++ H1) b → MB β (H0 ++ H1) b := by
    intro b ⟨j, s, ⟨t, c, hj⟩, e⟩
    rcases Nat.lt_or_ge j H0.length with hl | hg
    · have a0 := (hβ hl (alG hl ⟨t, false, c, hj⟩)).1
      obtain ⟨t0, f0, c0, h0⟩ := a0
      have hj' : (G ++ junk)[j]? = some (.row t false c) := by rw [gG hl, ← gN hl]; exact hj
      -- an object that may be written behind was one before
      by_cases hlt : b < w.heap.size
      · have e' : β' j = some (b, s) := by rw [(hβ hl ⟨_, _, _, hj'⟩).2]; exact e
        obtain ⟨i, s', hm, q⟩ := x1.new b ⟨j, s, ⟨t, c, hj'⟩, e'⟩ hlt
        exact ⟨i, s', (mu hm).1, q⟩
      · exact absurd (hr.lt (al ⟨t0, f0, c0, h0⟩) e).1 hlt
    · rw [gS hg] at hj
      exact ⟨j, s, ⟨t, c, hj⟩, e⟩
  have hupd : Upd (MB β (H0 ++ H1)) w w' := x1.upd.mono (fun k _ ⟨j, s, hm, e⟩ => ⟨j, s, (mu hm).1, e⟩)
  have hext : Ext β (H0 ++ H1) w β (G ++ H1) w' := by
    refine ⟨hupd, by simp [e3], fun j hj ⟨t, fz, c, hq⟩ => ⟨?_, rfl⟩, fun j t1 f1 c1 t2 f2 c2 h1 h2 => ?_, fun b hb _ => mb b hb⟩
    · rcases Nat.lt_or_ge j H0.length with hl | hg
      · exact al (hβ hl (alG hl ⟨t, fz, c, hq⟩)).1
      · rw [gS hg] at hq; exact ⟨_, _, _, hq⟩
    · rcases Nat.lt_or_ge j H0.length with hl | hg
      · rw [get_fst hl] at h1
        rw [gN hl] at h2
        exact x1.size j _ _ _ _ _ _ h1 (by rw [gG hl]; exact h2)
      · rw [gS hg, h1] at h2; cases h2; exact ⟨rfl, fun _ => Nat.le_refl _⟩
  have hI2 : ∀ b, Im F1 β' (G ++ junk) w' b → Im F β (G ++ H1) w' b := by
    intro b hb
    refine ⟨hb.1, fun f => hb.2.1 (.inl f), fun ⟨j, s, ⟨t, c, hj⟩, e⟩ => ?_⟩
    rcases Nat.lt_or_ge j H0.length with hl | hg
    · have hj' : (G ++ junk)[j]? = some (.row t false c) := by rw [gG hl, ← gN hl]; exact hj
      exact hb.2.2 ⟨j, s, ⟨t, c, hj'⟩, by rw [(hβ hl ⟨_, _, _, hj'⟩).2]; exact e⟩
    · exact hb.2.1 (.inr ⟨j, s, hg, ⟨t, c, by rw [← gS hg]; exact hj⟩, e⟩)
  have hL2 : ∀ x v, Bd H0.length x → LV β' (G ++ junk) x v → LV β (G ++ H1) x v := by
    intro x v hb hl
    have nm : ∀ {id}, id < H0.length → noMap (G ++ junk) id → noMap (G ++ H1) id := fun hi h t fz cs hj => h t fz cs (by rw [gG hi, ← gN hi]; exact hj)
    have hlen : H0.length ≤ (G ++ H1).length := by simp [e3]
    cases x <;> try exact hl.elim
    case own id off n k =>
      cases hb with
      | own hb => exact ⟨by omega, ⟨hl.2.1.1, nm hb hl.2.1.2⟩, fun t fz cs hj => by
          have hj' : (G ++ junk)[id]? = some (.row t fz cs) := by rw [gG hb, ← gN hb]; exact hj
          have := hl.2.2 t fz cs hj'
          rwa [(hβ hb ⟨_, _, _, hj'⟩).2] at this⟩
    case ptr id off =>
      cases hb with
      | ptr hb => exact ⟨by omega, ⟨hl.2.1.1, nm hb hl.2.1.2⟩, fun t fz cs hj => by
          have hj' : (G ++ junk)[id]? = some (.row t fz cs) := by rw [gG hb, ← gN hb]; exact hj
          have := hl.2.2 t fz cs hj'
          rwa [(hβ hb ⟨_, _, _, hj'⟩).2] at this⟩
    case mh id =>
      cases hb with
      | mh hb => exact ⟨by omega, hl.2.1, fun t fz cs hj => by
          have hj' : (G ++ junk)[id]? = some (.row t fz cs) := by rw [gG hb, ← gN hb]; exact hj
          have := hl.2.2 t fz cs hj'
          rwa [(hβ hb ⟨_, _, _, hj'⟩).2] at this⟩
  have hV2 : ∀ {a v}, Bd H0.length a → V F1 β' (G ++ junk) w' a v → V F β (G ++ H1) w' a v := fun hb hv => hv.bd (n := H0.length) hI2 (fun _ _ => Kept.refl _ _) hL2 hb
  refine ⟨r, _, β, v, e1, ⟨G, rfl, e3, e6⟩, ⟨fun b hb => Nat.lt_of_lt_of_le (hr.far b hb) hupd.size, fun j t fz c hj => ?_, fun i j ai aj b s s' q1 q2 => ?_⟩, hext, hV2 e4 v1⟩
  · rcases Nat.lt_or_ge j H0.length with hl | hg
    · have hj' : (G ++ junk)[j]? = some (.row t fz c) := by rw [gG hl, ← gN hl]; exact hj
      have hb := (hβ hl ⟨_, _, _, hj'⟩).2
      rcases r1.row j t fz c hj' with ⟨h1, h2⟩ | ⟨b, C, us, h1, h2, h3, h4, h5, h6, h7⟩
      · exact .inl ⟨h1, by rw [← hb]; exact h2⟩
      · exact .inr ⟨b, C, us, by rw [← hb]; exact h1, fun f => h2 (.inl f), h3, h4, h5, h6, fun i a v ha hv => hV2 (e5 j t fz c (by rw [← gN hl]; exact hj) a (List.mem_of_getElem? ha)) (h7 i a v ha hv)⟩
    · have hj' := hj
      rw [gS hg] at hj'
      refine (hr.row j t fz c hj').ext hext rfl (fun b s hb => ?_)
      refine x1.upd.block b (hr.lt ⟨_, _, _, hj'⟩ hb).1 (fun ⟨i, s', hm, e⟩ => ?_)
      have := hr.inj i j (mu hm).1.alive ⟨_, _, _, hj'⟩ b s' s e hb
      have := (mu hm).2
      omega
  · have a0 : ∀ {i}, alive (G ++ H1) i → alive (H0 ++ H1) i := by
      intro i ⟨t, fz, c, hq⟩
      rcases Nat.lt_or_ge i H0.length with hl | hg
      · exact al (hβ hl (alG hl ⟨t, fz, c, hq⟩)).1
      · rw [gS hg] at hq; exact ⟨_, _, _, hq⟩
    exact hr.inj i j (a0 ai) (a0 aj) b s s' q1 q2
end
end

section
open Go.RowKit

section
variable {P : Program} {F : Nat → Prop} {β : Loc} {H : List AObj} {w w' : World} {f : FuncId}
theorem VL.lits {us vs : List Value} (h : VL F β H w (us.map .c) vs) : vs = us := by
  refine List.ext_getElem? (fun i => ?_)
  rcases Nat.lt_or_ge i us.length with hl | hg
  · have h1 : (us.map AV.c)[i]? = some (.c us[i]) := by simp [List.getElem?_eq_getElem hl]
    have hl2 : i < vs.length := by rw [h.1]; simpa using hl
    have := h.2 i _ _ h1 (List.getElem?_eq_getElem hl2)
    rw [List.getElem?_eq_getElem hl2, List.getElem?_eq_getElem hl, this.lit]
  · rw [List.getElem?_eq_none hg, List.getElem?_eq_none (by rw [h.1]; simpa using hg)]
/-- A function of plain values with a plain answer. -/
theorem PCall.lits {us : List Value} {r : Value} (hr : plainV r = true) (hB : hasBody P f) (h : ∀ w, Calls P f us.toArray w fun e w' => e = .returned r ∧ Upd NoF w w') (H : List AObj) : PCall P f (us.map .c) H (fun x H' => x = .c r ∧ H' = H) := by
  intro F β w vs hrep hvl
  obtain rfl := hvl.lits
  refine CallsX.mono (.inl ⟨hB, h w⟩) (fun e w' ⟨h1, h2⟩ => ?_)
  exact ⟨_, H, β, r, h1, ⟨rfl, rfl⟩, hrep.upd h2, Ext.of_upd h2 hrep, .c hr⟩
/-- A slice in a new block, read as an immutable one. -/
theorem V.fresh (hrep : Rep F β H w) {k n : Nat} {ty : TypeId} {v : Value} {xs : List Value} {es : List AV} (ho : Own w' ty k v n xs) (hn : ∀ b, OwnB v b → w.heap.size ≤ b) (hk : ∀ e ∈ es, e.cells.length = k) (hl : es.length = n) (hf : flat es = xs.map .c) (hp : ∀ x ∈ xs, plainV x = true) : V F β H w' (.ls k es) v := by
  obtain ⟨A, c, rfl, hnc, hcm, hxl, hA⟩ := ho.rd
  subst hl
  cases hes : es with
  | nil => exact .ls0 A (by simpa using hcm)
  | cons e0 el =>
    obtain ⟨g, o, rfl, hc⟩ := hA (by rw [hes]; simp)
    rw [← hes]
    have hI : Im F β H w' g := ⟨ho.lt rfl, fun f => absurd (hrep.far g f) (Nat.not_lt.2 (hn g rfl)), fun m => absurd (hrep.mb_lt m).1 (Nat.not_lt.2 (hn g rfl))⟩
    exact .ls hI hk hnc hcm (by rw [hf]; simp) (fun u hu => plain_one (hp u hu)) (fun j u hu => hc j u hu) (fun i a u ha hu => by
      rw [hf, List.getElem?_map, hu] at ha
      cases ha
      exact .c (hp u (List.mem_of_getElem? hu)))
/-- A function of plain values that answers a new slice of plain cells. -/
theorem PCall.newRow {us xs : List Value} {es : List AV} {k : Nat} {ty : TypeId} (hk : ∀ e ∈ es, e.cells.length = k) (hf : flat es = xs.map .c) (hp : ∀ x ∈ xs, plainV x = true) (hB : hasBody P f) (h : ∀ w, Calls P f us.toArray w fun e w' => ∃ v, e = .returned v ∧ Own w' ty k v es.length xs ∧ (∀ b, OwnB v b → w.heap.size ≤ b) ∧ Upd NoF w w') (H : List AObj) : PCall P f (us.map .c) H (fun x H' => x = .ls k es ∧ H' = H) := by
  intro F β w vs hrep hvl
  obtain rfl := hvl.lits
  refine CallsX.mono (.inl ⟨hB, h w⟩) (fun e w' ⟨v, h1, h2, h3, h4⟩ => ?_)
  exact ⟨_, H, β, v, h1, ⟨rfl, rfl⟩, hrep.upd h4, Ext.of_upd h4 hrep, V.fresh hrep h2 h3 hk rfl hf hp⟩
end
end

section
open Go.RowKit
@[simp] theorem eqT_34 : eqT Tryz.prog 34 = some 8 := by kernel_rfl
@[simp] theorem eql_nm {ox oy : Operand} {a b : List UInt8} (ha : a.length = 8) (hb : b.length = 8) : binA Tryz.prog .eql 34 ox oy (nmA a) (nmA b) = some (.c (.bool (decide (a = b)))) := (binA_nm eqT_34 ha hb).1
@[simp] theorem neq_nm {ox oy : Operand} {a b : List UInt8} (ha : a.length = 8) (hb : b.length = 8) : binA Tryz.prog .neq 34 ox oy (nmA a) (nmA b) = some (.c (.bool (!decide (a = b)))) := (binA_nm eqT_34 ha hb).2
end

section
open Go.RowKit
set_option maxRecDepth 10000
attribute [-simp] List.map_take List.map_drop

theorem rotl_13 (y : Int) (H : List AObj) : PCall Tryz.prog 152 [.c (.int .u64 y), .c (.int .i64 13)] H (fun x H' => x = .c (.int .u64 (rot13 y)) ∧ H' = H) := by
  refine PCall.enter mixed Tryz.func152 rfl Tryz.ntmps152 Tryz.results152 (by simp) (by kernel_rfl) ?_
  have e1 : bits .and .u64 (IntKind.u64.wrap 13) 63 = 13 := by decide
  have e2 : IntKind.u64.wrap 51 = 51 := by decide
  simp [List.replicate, e1, e2, rot13]
theorem rotl_32 (y : Int) (H : List AObj) : PCall Tryz.prog 152 [.c (.int .u64 y), .c (.int .i64 32)] H (fun x H' => x = .c (.int .u64 (rot32 y)) ∧ H' = H) := by
  refine PCall.enter mixed Tryz.func152 rfl Tryz.ntmps152 Tryz.results152 (by simp) (by kernel_rfl) ?_
  have e2 : IntKind.u64.wrap 32 = 32 := by decide
  have e1 : bits .and .u64 32 63 = 32 := by decide
  simp [List.replicate, e1, e2, rot32]

/-- hash.Number: the number whose bytes are the name's. -/
theorem Number_any (n : List UInt8) (hn : n.length = 8) : PCall Tryz.prog 123 [nmA n] [] (fun x _ => Bd 0 x ∧ x = .c (.int .u64 (be n))) := by
  refine PCall.enter mixed Tryz.func123 rfl Tryz.ntmps123 Tryz.results123 (by simp) (by kernel_rfl) ?_
  simp [List.replicate, hn]
  refine W_loop (fun m env H => ∃ i : Nat, m = 8 - i ∧ i ≤ 8 ∧ env = [.any, .any, .any, .c (.int .u64 (be (n.take i))), .any, .any, nmA n, .c (.int .i64 i), .any, .any, .any, .any, .any, .any, .any, .any, .any] ∧ H = []) 8 ?_ ?_
  · refine ⟨_, _, ?_, 0, by simp, by simp, rfl, rfl⟩
    refine View.renum [] (by simp) (by simp) ?_
    simp [List.take_of_length_le, hn, be]
  · rintro m env H ⟨i, rfl, hi, rfl, rfl⟩
    simp
    refine ⟨fun hlt => ?_, fun hge => ?_⟩
    · obtain ⟨c, hc⟩ : ∃ c, n[i]? = some c := ⟨_, List.getElem?_eq_getElem (by omega)⟩
      have hb := be_take_lt n i
      have hb2 : be (n.take i) < 72057594037927936 := Nat.lt_of_lt_of_le hb (Nat.pow_le_pow_right (n := 256) (by decide) (show i ≤ 7 by omega))
      have hw : IntKind.u64.wrap (c.toNat : Int) = (c.toNat : Int) := wrap_u64_nat _ (by have := c.toNat_lt; omega)
      simp [hc, byteA, hw, or_byte _ _ hb2]
      refine ⟨by omega, by omega, 8 - (i + 1), by omega, _, _, View.renum [] (by simp) (by simp) ?_, i + 1, rfl, by omega, rfl, rfl⟩
      simp [be_take_succ _ _ _ hc]
    · obtain rfl : i = 8 := by omega
      simp [hn, List.take_of_length_le]
/-- (*state).mix n times. -/
theorem mix_any (k : Nat) (hk : k ≤ 100) (a b : Int) : PCall Tryz.prog 107 [.ptr 0 0, .c (.int .i64 k)] [.row 1000182 false [.c (.int .u64 a), .c (.int .u64 b)]] (fun x H' => Bd 0 x ∧ x = .tup [] ∧ ∃ junk, H' = .row 1000182 false [.c (.int .u64 (mixN k (a, b)).1), .c (.int .u64 (mixN k (a, b)).2)] :: junk) := by
  refine PCall.enter mixed Tryz.func107 rfl Tryz.ntmps107 Tryz.results107 (by simp) (by kernel_rfl) ?_
  simp [List.replicate]
  refine W_loop (fun m env H => ∃ i : Nat, m = k - i ∧ i ≤ k ∧ env = [.ptr 0 0, .any, .any, .any, .c (.int .i64 k), .c (.int .i64 i)] ++ List.replicate 35 .any ∧ H = [.row 1000182 false [.c (.int .u64 (mixN i (a, b)).1), .c (.int .u64 (mixN i (a, b)).2)]]) k ?_ ?_
  · refine ⟨_, _, ?_, 0, by simp, by simp, rfl, rfl⟩
    refine View.renumL [0] (by simp) (by simp) (by decide) (by simp [mixN]) ?_
    simp [List.replicate]
  · rintro m env H ⟨i, rfl, hi, rfl, rfl⟩
    simp [List.replicate]
    refine ⟨fun hlt => ?_, fun hge => ?_⟩
    · simp (decide := true)
      refine nextDC_of _ (rotl_13 _) ?_
      simp (decide := true)
      refine (rotl_32 _ _).to ?_
      simp
      refine ⟨by omega, k - (i + 1), by omega, _, _, ?_, i + 1, rfl, by omega, rfl, rfl⟩
      refine View.renumL [0] (by simp) (by simp) (by decide) (by simp [mixN, mixS]) ?_
      simp
    · obtain rfl : i = k := by omega
      simp
/-- hash.word: the first eight bytes as a number. -/
theorem word_any (bs : List UInt8) : PCall Tryz.prog 106 [bytesA bs] [] (fun x _ => Bd 0 x ∧ x = .c (.int .u64 (wordN bs))) := by
  refine PCall.enter mixed Tryz.func106 rfl Tryz.ntmps106 Tryz.results106 (by simp) (by kernel_rfl) ?_
  simp [List.replicate]
  refine ⟨fun h8 => ?_, fun h8 => ?_⟩
  · obtain ⟨b0, b1, b2, b3, b4, b5, b6, b7, l, rfl⟩ := eight bs (by omega)
    have := word8w b0 b1 b2 b3 b4 b5 b6 b7 l
    simp (decide := true) [this]
  · have h9 : bs.length < 8 := by omega
    have e1 : bs.length.min 8 = bs.length := Nat.min_eq_left (by omega)
    have e2 : splice ((List.replicate 8 (0 : UInt8)).map byteA) 0 (bs.map byteA) = (bs ++ List.replicate (8 - bs.length) 0).map byteA := by
      rw [splice_bytes, List.drop_replicate]; simp
    have hl : (bs ++ List.replicate (8 - bs.length) (0 : UInt8)).length = 8 := by simp; omega
    rw [e1, List.take_of_length_le (Nat.le_refl _), zeros8, e2]
    simp only [List.length_map, hl, map_take', agg_nm, List.take_of_length_le (Nat.le_of_eq hl)]
    refine ⟨by decide, by omega, Nat.le_refl _, (Number_any _ hl).use (by simp) ?_⟩
    simp [be_pad, wordN, List.take_of_length_le (Nat.le_of_lt h9)]
theorem Of_any (v : Int) : PCall Tryz.prog 108 [.c (.int .u64 v)] [] (fun x _ => Bd 0 x ∧ x = nmA (ofV v)) := by
  refine PCall.enter mixed Tryz.func108 rfl Tryz.ntmps108 Tryz.results108 (by simp) (by kernel_rfl) ?_
  simp [List.replicate, nmA, ofV, wrap_u8]
  omega
theorem hk_succ (bs : List UInt8) (k : Nat) : hk bs (k + 1) = mixN 2 (bits .xor .u64 (hk bs k).1 (wordN (bs.drop (8 * k))), (hk bs k).2) := rfl
/-- hash.Sum. -/
theorem Sum_any (bs : List UInt8) (hb : bs.length < 100000000000) : PCall Tryz.prog 58 [bytesA bs] [] (fun x _ => Bd 0 x ∧ x = nmA (hsum bs)) := by
  refine PCall.enter mixed Tryz.func58 rfl Tryz.ntmps58 Tryz.results58 (by simp) (by kernel_rfl) ?_
  simp [List.replicate]
  refine W_loop (fun m env H => ∃ i : Nat, m = (bs.length + 7) / 8 - i ∧ 8 * i ≤ bs.length + 7 ∧ env = [bytesA bs, .any, .ptr 0 0, .ptr 1 0, .c (.int .i64 (8 * i : Nat))] ++ List.replicate 30 .any ∧ H = [.row 1000034 false ((List.replicate 8 (0 : UInt8)).map byteA), .row 1000182 false [.c (.int .u64 (hk bs i).1), .c (.int .u64 (hk bs i).2)]]) ((bs.length + 7) / 8) ?_ ?_
  · refine ⟨_, _, ?_, 0, by simp, by simp, rfl, rfl⟩
    refine View.renum [0, 1] (by simp) (by simp [hk]) ?_
    simp [List.replicate]
  · rintro m env H ⟨i, rfl, hi, rfl, rfl⟩
    simp [List.replicate]
    refine ⟨fun hlt => ?_, fun hge => ?_⟩
    · simp (decide := true)
      refine ⟨by omega, nextDC.use (word_any _) (by simp) ?_⟩
      have e8 : (8 * (i : Int)).toNat = 8 * i := by omega
      simp [e8]
      refine (mix_any 2 (by decide) _ _).lend1 (id := 1) rfl (by simp) (by simp) (by simp) ?_
      simp
      refine ⟨by omega, (bs.length + 7) / 8 - (i + 1), by omega, _, _, ?_, i + 1, rfl, by omega, rfl, rfl⟩
      refine View.renum [0, 1] (by simp) (by simp [hk_succ]) ?_
      simp
      rw [show 8 * (i : Int) + 8 = 8 * ((i : Int) + 1) by omega]
      exact .c _
    · refine (mix_any 4 (by decide) _ _).lend1 (id := 1) rfl (by simp) (by simp) (by simp) ?_
      simp
      refine (Of_any _).use (by simp) ?_
      obtain rfl : i = (bs.length + 7) / 8 := by omega
      simp [List.take_of_length_le, wrap_u64_nat bs.length (by omega)]
      rfl
/-- hash.Tagged. -/
theorem Tagged_any (tag : UInt8) (bs : List UInt8) (hb : bs.length < 10000000000) : PCall Tryz.prog 206 [byteA tag, bytesA bs] [] (fun x _ => Bd 0 x ∧ x = nmA (tagged tag bs)) := by
  refine PCall.enter mixed Tryz.func206 rfl Tryz.ntmps206 Tryz.results206 (by simp) (by kernel_rfl) ?_
  simp [List.replicate]
  refine ⟨by omega, ?_⟩
  refine PCall.freeze (id := 4) (args' := [bytesA (tag :: bs)]) rfl ?_ ?_
  · simp
    exact Fz.whole (by simp) (by simp; omega) (flat_bytes (tag :: bs))
  refine (Sum_any (tag :: bs) (by simp; omega)).use (by simp) ?_
  simp [List.take_of_length_le]
  rfl
/-- hash.Pair. -/
theorem Pair_any (tag : UInt8) (l r : List UInt8) (hl : l.length = 8) (hr : r.length = 8) : PCall Tryz.prog 332 [byteA tag, nmA l, nmA r] [] (fun x _ => Bd 0 x ∧ x = nmA (tagged tag (l ++ r))) := by
  refine PCall.enter mixed Tryz.func332 rfl Tryz.ntmps332 Tryz.results332 (by simp) (by kernel_rfl) ?_
  simp (decide := true) [List.replicate, hl, hr]
  have t8 : ∀ {x : List UInt8}, x.length = 8 → x.take 8 = x := fun h => List.take_of_length_le (Nat.le_of_eq h)
  have z16 : ([.c (.int .u8 0), .c (.int .u8 0), .c (.int .u8 0), .c (.int .u8 0), .c (.int .u8 0), .c (.int .u8 0), .c (.int .u8 0), .c (.int .u8 0), .c (.int .u8 0), .c (.int .u8 0), .c (.int .u8 0), .c (.int .u8 0), .c (.int .u8 0), .c (.int .u8 0), .c (.int .u8 0), .c (.int .u8 0)] : List AV) = (List.replicate 16 (0 : UInt8)).map byteA := rfl
  have e2 : (l ++ List.replicate 8 (0 : UInt8)).take 8 = l := by rw [List.take_append_of_le_length (by omega), t8 hl]
  have e3 : (l ++ List.replicate 8 (0 : UInt8)).drop 16 = [] := List.drop_of_length_le (by simp [hl])
  simp only [t8 hl, t8 hr, z16, splice_bytes, hl, hr, List.drop_replicate, List.take_zero, List.nil_append, e2, e3, List.append_nil]
  simp [hl, hr]
  refine PCall.freeze (id := 3) (args' := [byteA tag, bytesA (l ++ r)]) rfl ?_ ?_
  · simp
    rw [← List.map_append]
    exact Fz_bytes (by simp [hl, hr])
  refine (Tagged_any tag (l ++ r) (by simp [hl, hr])).use (by simp) ?_
  simp [List.take_of_length_le]
/-- hash.Less. -/
theorem Less_any (l r : List UInt8) (hl : l.length = 8) (hr : r.length = 8) : PCall Tryz.prog 132 [nmA l, nmA r] [] (fun x _ => Bd 0 x ∧ x = .c (.bool (decide (be l < be r)))) := by
  refine PCall.enter mixed Tryz.func132 rfl Tryz.ntmps132 Tryz.results132 (by simp) (by kernel_rfl) ?_
  simp (decide := true) [List.replicate, hl, hr, List.take_of_length_le]
  refine ⟨fun e => by simp [e], fun e => ?_⟩
  refine nextDC.use (Number_any l hl) (by simp) ?_
  simp [hr, List.take_of_length_le]
  refine nextDC.use (Number_any r hr) (by simp) ?_
  simp
end

section
open Go.RowKit
set_option maxRecDepth 10000
attribute [-simp] List.map_take List.map_drop

theorem single_any (n : List UInt8) (hn : n.length = 8) : PCall Tryz.prog 331 [nmA n] [] (fun x _ => Bd 0 x ∧ x = nmA (tagged 17 n)) := by
  refine PCall.enter mixed Tryz.func331 rfl Tryz.ntmps331 Tryz.results331 (by simp) (by kernel_rfl) ?_
  simp (decide := true) [List.replicate, hn]
  refine PCall.freeze (id := 0) (args' := [byteA 17, bytesA n]) rfl ?_ ?_
  · simp
    exact ⟨.same _, Fz_bytes hn⟩
  refine (Tagged_any 17 n (by omega)).use (by simp) ?_
  simp [List.take_of_length_le]
/-- merkle.split of a power of two: its half. -/
theorem split_any (d : Nat) (hd : d ≤ 40) : PCall Tryz.prog 330 [.c (.int .i64 ((2 ^ (d + 1) : Nat) : Int))] [] (fun x _ => Bd 0 x ∧ x = .c (.int .i64 ((2 ^ d : Nat) : Int))) := by
  refine PCall.enter mixed Tryz.func330 rfl Tryz.ntmps330 Tryz.results330 (by simp) (by kernel_rfl) ?_
  have hb : 2 ^ d ≤ 2 ^ 40 := Nat.pow_le_pow_right (by decide) hd
  generalize hM : 2 ^ (d + 1) = M
  have hM2 : M = 2 ^ d * 2 := by rw [← hM, Nat.pow_succ]
  simp [List.replicate]
  refine W_loop (fun m env H => ∃ i : Nat, m = d - i ∧ i ≤ d ∧ env = [.c (.int .i64 (M : Int)), .any, .any, .c (.int .i64 ((2 ^ i : Nat) : Int))] ++ List.replicate 8 .any ∧ H = []) d ?_ ?_
  · refine ⟨_, _, ?_, 0, by simp, by simp, rfl, rfl⟩
    refine View.renum [] (by simp) (by simp) ?_
    simp [List.replicate]
  · rintro m env H ⟨i, rfl, hi, rfl, rfl⟩
    have hp : 2 ^ i ≤ 2 ^ d := Nat.pow_le_pow_right (by decide) hi
    have hlt : i < d → 2 ^ i * 2 ≤ 2 ^ d := fun h => by rw [← Nat.pow_succ]; exact Nat.pow_le_pow_right (by decide) h
    have hps : 2 ^ (i + 1) = 2 ^ i * 2 := Nat.pow_succ ..
    have h1 : 0 < 2 ^ i := Nat.pow_pos (by decide)
    generalize hK : 2 ^ i = K at *
    simp [List.replicate]
    refine ⟨by omega, fun hc => ?_, fun hc => ?_⟩
    · have hid : i < d := by
        rcases Nat.lt_or_ge i d with h | h
        · exact h
        · obtain rfl : i = d := by omega
          omega
      have := hlt hid
      refine ⟨by omega, d - (i + 1), by omega, _, _, ?_, i + 1, rfl, by omega, rfl, rfl⟩
      refine View.renum [] (by simp) (by simp) ?_
      have hq : (2 : Int) ^ (i + 1) = (K : Int) * 2 := by have := congrArg (fun x : Nat => (x : Int)) hps; simpa using this
      simp [hq]
    · have hid : i = d := by
        rcases Nat.lt_or_ge i d with h | h
        · have := hlt h; omega
        · omega
      subst hid
      have := congrArg (fun x : Nat => (x : Int)) hK
      simpa using this.symm
end

section
open Go.RowKit
set_option maxRecDepth 10000
attribute [-simp] List.map_take List.map_drop

def dpI (d : Nat) (m : Nat) (env : Env) (H : List AObj) : Prop := ∃ (k z N : Nat), m = d - k ∧ k ≤ d ∧ N = 2 ^ (d - k) ∧ z < N ∧ env = [.c (.int .i64 z), .c (.int .i64 N), .any, .any, .any, .c (.int .i64 k)] ++ List.replicate 25 .any ∧ H = []
theorem dpI.mk {d : Nat} (k z N : Nat) (hk : k ≤ d) (hN : N = 2 ^ (d - k)) (hz : z < N) : dpI d (d - k) ([.c (.int .i64 z), .c (.int .i64 N), .any, .any, .any, .c (.int .i64 k)] ++ List.replicate 25 .any) [] := ⟨k, z, N, rfl, hk, hN, hz, rfl, rfl⟩
theorem Depth_any (d : Nat) (hd : d ≤ 40) (i : Int) : PCall Tryz.prog 298 [.c (.int .i64 i), .c (.int .i64 ((2 ^ d : Nat) : Int))] [] (fun x _ => Bd 0 x ∧ x = .c (.int .i64 (if 0 ≤ i ∧ i < ((2 ^ d : Nat) : Int) then (d : Int) else -1))) := by
  refine PCall.enter mixed Tryz.func298 rfl Tryz.ntmps298 Tryz.results298 (by simp) (by kernel_rfl) ?_
  have hb : 2 ^ d ≤ 2 ^ 40 := Nat.pow_le_pow_right (by decide) hd
  generalize hM : 2 ^ d = M
  simp [List.replicate]
  refine ⟨fun h0 => ⟨fun h1 _ => h1, fun h1 => ?_⟩, fun h0 h => by omega⟩
  refine W_loop (dpI d) d ?_ ?_
  · obtain ⟨z, rfl⟩ : ∃ z : Nat, i = z := ⟨i.toNat, by omega⟩
    refine ⟨_, _, ?_, dpI.mk 0 z M (by omega) hM.symm (by omega)⟩
    refine View.renum [] (by simp) (by simp) ?_
    simp [List.replicate]
  · rintro m env H ⟨k, z, N, rfl, hk, hN, hz, rfl, rfl⟩
    have hNb : N ≤ 2 ^ 40 := by rw [hN]; exact Nat.pow_le_pow_right (by decide) (by omega)
    simp [List.replicate]
    refine ⟨fun hc => ?_, fun hc => ?_⟩
    · obtain ⟨e, he⟩ : ∃ e, d - k = e + 1 := ⟨d - k - 1, by
        have : d - k ≠ 0 := fun h0 => by rw [h0] at hN; omega
        omega⟩
      rw [he] at hN
      have hsp := split_any e (by omega)
      rw [← hN] at hsp
      have hN2 : N = 2 ^ e * 2 := by rw [hN, Nat.pow_succ]
      refine hsp.use (by simp) ?_
      generalize hE : 2 ^ e = E at *
      have he2 : d - (k + 1) = e := by omega
      simp
      refine ⟨fun h => ⟨by omega, d - (k + 1), by omega, _, _, ?_, dpI.mk (k + 1) z E (by omega) (by rw [he2, hE]) h⟩, fun h => ⟨by omega, by omega, by omega, d - (k + 1), by omega, _, _, ?_, dpI.mk (k + 1) (z - E) E (by omega) (by rw [he2, hE]) (by omega)⟩⟩
      · refine View.renum [] (by simp) (by simp) ?_
        simp [List.replicate]
      · have e1 : (z : Int) - E = ((z - E : Nat) : Int) := by omega
        have e2 : (N : Int) - E = (E : Int) := by omega
        refine View.renum [] (by simp) (by simp) ?_
        simp [List.replicate, e1, e2]
    · have hkd : k = d := by
        rcases Nat.lt_or_ge k d with h | h
        · have : 2 ^ 1 ≤ 2 ^ (d - k) := Nat.pow_le_pow_right (by decide) (by omega)
          omega
        · omega
      rw [if_pos ⟨h0, h1⟩, hkd]
end

section
open Go

structure VoteS where
  kind : Int
  slot : Int
  round : Int
  choice : Int
  signer : Int
  support : Int
  parent : List UInt8
  value : List UInt8

structure SignedS where
  vote : VoteS
  sig : List UInt8

structure ViewS where
  votes : List SignedS
  texts : List (List UInt8)

theorem VoteS.ext' {a b : VoteS} (h1 : a.kind = b.kind) (h2 : a.slot = b.slot) (h3 : a.round = b.round) (h4 : a.choice = b.choice) (h5 : a.signer = b.signer) (h6 : a.support = b.support) (h7 : a.parent = b.parent) (h8 : a.value = b.value) : a = b := by
  cases a; cases b; simp_all
theorem SignedS.ext' {a b : SignedS} (h1 : a.vote = b.vote) (h2 : a.sig = b.sig) : a = b := by cases a; cases b; simp_all
theorem ViewS.ext' {a b : ViewS} (h1 : a.votes = b.votes) (h2 : a.texts = b.texts) : a = b := by cases a; cases b; simp_all

instance : DecidableEq VoteS := fun a b => decidable_of_iff (a.kind = b.kind ∧ a.slot = b.slot ∧ a.round = b.round ∧ a.choice = b.choice ∧ a.signer = b.signer ∧ a.support = b.support ∧ a.parent = b.parent ∧ a.value = b.value)
  ⟨fun ⟨h1, h2, h3, h4, h5, h6, h7, h8⟩ => VoteS.ext' h1 h2 h3 h4 h5 h6 h7 h8, fun h => by subst h; simp⟩
instance : DecidableEq SignedS := fun a b => decidable_of_iff (a.vote = b.vote ∧ a.sig = b.sig) ⟨fun ⟨h1, h2⟩ => SignedS.ext' h1 h2, fun h => by subst h; simp⟩
instance : DecidableEq ViewS := fun a b => decidable_of_iff (a.votes = b.votes ∧ a.texts = b.texts) ⟨fun ⟨h1, h2⟩ => ViewS.ext' h1 h2, fun h => by subst h; simp⟩

def in64 (z : Int) : Prop := -9223372036854775808 ≤ z ∧ z ≤ 9223372036854775807
/-- A vote as memory can hold it. -/
structure VoteS.Fit (v : VoteS) : Prop where
  kind : in64 v.kind
  slot : in64 v.slot
  round : in64 v.round
  choice : in64 v.choice
  signer : in64 v.signer
  support : in64 v.support
  parent : v.parent.length = 8
  value : v.value.length = 8

abbrev zero8 : List UInt8 := [0, 0, 0, 0, 0, 0, 0, 0]

def slotsOf (k : Int) : Int := if k ≤ 4 then 9 else 0
def roundsOk (v : VoteS) : Prop :=
  if v.kind = 3 then 1 ≤ v.round ∧ v.round ≤ 12 ∧ 0 ≤ v.choice ∧ v.choice ≤ 1 ∧ (v.round ≠ 1 ∨ v.choice ≠ 0 ∨ v.support = 0)
  else if v.kind = 4 then 1 ≤ v.round ∧ v.round ≤ 12 ∧ 0 ≤ v.choice ∧ v.choice ≤ 2
  else v.round = 0 ∧ v.support = 0 ∧ v.choice = 1
def ValidP (v : VoteS) : Prop :=
  1 ≤ v.kind ∧ v.kind ≤ 7 ∧ 0 ≤ v.signer ∧ v.signer ≤ 9 ∧ 0 ≤ v.support ∧ v.support ≤ 1023 ∧ (v.choice = 1 ↔ v.value ≠ zero8) ∧ 0 ≤ v.slot ∧ v.slot ≤ slotsOf v.kind ∧ roundsOk v
instance (v : VoteS) : Decidable (roundsOk v) := by unfold roundsOk; infer_instance
instance (v : VoteS) : Decidable (ValidP v) := by unfold ValidP; infer_instance
def validB (v : VoteS) : Bool := decide (ValidP v)
theorem validB_true {v : VoteS} : validB v = true ↔ ValidP v := by simp [validB]

def byteZ (z : Int) : UInt8 := UInt8.ofNat (z % 256).toNat
theorem byteZ_nat (z : Int) (h0 : 0 ≤ z) (h1 : z < 256) : (byteZ z).toNat = z := by
  unfold byteZ
  simp
  omega
def encV (v : VoteS) : List UInt8 := [byteZ v.kind, byteZ v.slot, byteZ v.round, byteZ v.choice, byteZ v.signer] ++ beB v.support 2 ++ v.parent ++ v.value
def at8 (b : List UInt8) (i : Nat) : UInt8 := b[i]?.getD 0
def decV (b : List UInt8) : VoteS :=
  ⟨(at8 b 0).toNat, (at8 b 1).toNat, (at8 b 2).toNat, (at8 b 3).toNat, (at8 b 4).toNat, be ((b.drop 5).take 2), (b.drop 7).take 8, (b.drop 15).take 8⟩

theorem encV_len {v : VoteS} (h1 : v.parent.length = 8) (h2 : v.value.length = 8) : (encV v).length = 23 := by simp [encV, beB_len, h1, h2]

theorem beB_two (v : Int) : beB v 2 = [UInt8.ofNat ((v / 256) % 256).toNat, UInt8.ofNat (v % 256).toNat] := by
  simp [beB, byteAt]
/-! ### orders -/
def lessN (a b : List UInt8) : Bool := decide (be a < be b)
def lessV (a b : VoteS) : Bool :=
  if a.parent = b.parent then
    if a.slot = b.slot then if a.round = b.round then if a.kind = b.kind then if a.signer = b.signer then if a.choice = b.choice then
      if a.value = b.value then decide (a.support < b.support) else lessN a.value b.value
    else decide (a.choice < b.choice) else decide (a.signer < b.signer) else decide (a.kind < b.kind) else decide (a.round < b.round) else decide (a.slot < b.slot)
  else lessN a.parent b.parent
def lessT (a b : List UInt8) : Bool := Op.bytesLess a b
def lessS (a b : SignedS) : Bool := if a.vote = b.vote then lessT a.sig b.sig else lessV a.vote b.vote

def chainB {α : Type} (r : α → α → Bool) : List α → Bool
  | a :: b :: l => r a b && chainB r (b :: l)
  | _ => true
/-! ### signed votes -/
def okS (s : SignedS) : Bool := validB s.vote && s.sig.length == 370
def encS (s : SignedS) : List UInt8 := encV s.vote ++ s.sig
def decS (b : List UInt8) : SignedS := ⟨decV (b.take 23), b.drop 23⟩
/-! ### views -/
def encT (t : List UInt8) : List UInt8 := beB t.length 2 ++ t
def encView (V : ViewS) : List UInt8 := beB V.votes.length 4 ++ (V.votes.map encS).flatten ++ beB V.texts.length 4 ++ (V.texts.map encT).flatten
def okT (t : List UInt8) : Bool := decide (t.length ≤ 65535)
def argB (V : ViewS) : Bool := V.votes.all okS && V.texts.all okT
def ordB (V : ViewS) : Bool := chainB lessS V.votes && chainB lessT V.texts
/-- What Encode returns. -/
def encodeS (V : ViewS) : List UInt8 × Int := if argB V then if ordB V then (encView V, 0) else ([], 10) else ([], 1)

def decVotes : Nat → List UInt8 → Option (List SignedS × List UInt8)
  | 0, b => some ([], b)
  | n + 1, b => if b.length < 393 then none else if validB (decS (b.take 393)).vote then (decVotes n (b.drop 393)).map (fun p => (decS (b.take 393) :: p.1, p.2)) else none
def decTexts : Nat → List UInt8 → Option (List (List UInt8) × List UInt8)
  | 0, b => some ([], b)
  | n + 1, b => if b.length < 2 then none else if b.length < 2 + be (b.take 2) then none else (decTexts n (b.drop (2 + be (b.take 2)))).map (fun p => ((b.drop 2).take (be (b.take 2)) :: p.1, p.2))
def decRest (vs : List SignedS) (b : List UInt8) : Option ViewS :=
  if b.length < 4 then none else
  match decTexts (be (b.take 4)) (b.drop 4) with
  | none => none
  | some (ts, r) => if r = [] then if ordB ⟨vs, ts⟩ then some ⟨vs, ts⟩ else none else none
/-- What Decode returns (none: ErrForm). -/
def decodeS (b : List UInt8) : Option ViewS :=
  if b.length < 4 then none else
  match decVotes (be (b.take 4)) (b.drop 4) with
  | none => none
  | some (vs, r) => decRest vs r
end

section
open Go

theorem lessT_irrefl : ∀ a : List UInt8, lessT a a = false
  | [] => rfl
  | x :: l => by
    have ih := lessT_irrefl l
    unfold lessT at ih ⊢
    simp [Op.bytesLess, ih]
theorem lessT_trans : ∀ a b c : List UInt8, lessT a b = true → lessT b c = true → lessT a c = true
  | _, [], _, h, _ => by simp [lessT, Op.bytesLess] at h
  | _, _ :: _, [], _, h => by simp [lessT, Op.bytesLess] at h
  | [], _ :: _, _ :: _, _, _ => rfl
  | x :: l, y :: m, z :: n, h1, h2 => by
    have ih := lessT_trans l m n
    unfold lessT at ih h1 h2 ⊢
    simp only [Op.bytesLess, Bool.or_eq_true, decide_eq_true_eq, Bool.and_eq_true, beq_iff_eq] at h1 h2 ⊢
    rcases h1 with h1 | ⟨rfl, h1⟩
    · rcases h2 with h2 | ⟨rfl, h2⟩
      · exact .inl (UInt8.lt_trans h1 h2)
      · exact .inl h1
    · rcases h2 with h2 | ⟨rfl, h2⟩
      · exact .inl h2
      · exact .inr ⟨rfl, ih h1 h2⟩
theorem lessT_total : ∀ a b : List UInt8, lessT a b = false → lessT b a = false → a = b
  | [], [], _, _ => rfl
  | [], _ :: _, h, _ => by simp [lessT, Op.bytesLess] at h
  | _ :: _, [], _, h => by simp [lessT, Op.bytesLess] at h
  | x :: l, y :: m, h1, h2 => by
    have ih := lessT_total l m
    unfold lessT at ih h1 h2
    simp only [Op.bytesLess, Bool.or_eq_false_iff, decide_eq_false_iff_not, Bool.and_eq_false_imp, beq_iff_eq] at h1 h2
    have e : x = y := by
      have a1 := h1.1
      have a2 := h2.1
      rw [UInt8.lt_iff_toNat_lt] at a1 a2
      exact UInt8.toNat.inj (by omega)
    subst e
    rw [ih (h1.2 rfl) (h2.2 rfl)]
theorem lessT_ntrans (a b c : List UInt8) (h1 : lessT a b = false) (h2 : lessT b c = false) : lessT a c = false := by
  cases h : lessT a c with
  | false => rfl
  | true =>
    exfalso
    cases h3 : lessT b a with
    | true => rw [lessT_trans b a c h3 h] at h2; cases h2
    | false =>
      have := lessT_total a b h1 h3
      subst this
      rw [h] at h2; cases h2
theorem lessT_asymm {a b : List UInt8} (h : lessT a b = true) : lessT b a = false := by
  cases h1 : lessT b a with
  | false => rfl
  | true => have := lessT_trans a b a h h1; rw [lessT_irrefl] at this; cases this

/-! ### one order, any type -/
section
variable {α : Type} (lt : α → α → Bool)
def insL (x : α) : List α → List α
  | [] => [x]
  | y :: l => if lt y x then y :: insL x l else x :: y :: l
/-- The list in ascending order. -/
def sortL : List α → List α
  | [] => []
  | x :: l => insL lt x (sortL l)
def AscL (l : List α) : Prop := l.Pairwise (fun a b => lt b a = false)
variable {lt}
theorem insL_perm (x : α) : ∀ l : List α, (insL lt x l).Perm (x :: l)
  | [] => List.Perm.refl _
  | y :: l => by
    unfold insL
    split
    · exact ((insL_perm x l).cons y).trans (List.Perm.swap x y l)
    · exact List.Perm.refl _
theorem sortL_perm : ∀ l : List α, (sortL lt l).Perm l
  | [] => List.Perm.refl _
  | x :: l => (insL_perm x (sortL lt l)).trans ((sortL_perm l).cons x)
theorem insL_asc (hs : ∀ a b, lt a b = true → lt b a = false) (ht : ∀ a b c, lt a b = false → lt b c = false → lt a c = false) (x : α) : ∀ l : List α, AscL lt l → AscL lt (insL lt x l)
  | [], _ => by simp [insL, AscL]
  | y :: l, h => by
    unfold insL
    unfold AscL at *
    rw [List.pairwise_cons] at h
    by_cases hc : lt y x = true
    · rw [if_pos hc, List.pairwise_cons]
      refine ⟨fun z hz => ?_, insL_asc hs ht x l h.2⟩
      have := (insL_perm x l).mem_iff.1 hz
      rcases List.mem_cons.1 this with rfl | hz'
      · exact hs _ _ hc
      · exact h.1 z hz'
    · rw [if_neg hc, List.pairwise_cons]
      have hxy : lt y x = false := by simpa using hc
      refine ⟨fun z hz => ?_, List.pairwise_cons.2 h⟩
      rcases List.mem_cons.1 hz with rfl | hz'
      · exact hxy
      · exact ht _ _ _ (h.1 z hz') hxy
theorem sortL_asc (hs : ∀ a b, lt a b = true → lt b a = false) (ht : ∀ a b c, lt a b = false → lt b c = false → lt a c = false) : ∀ l : List α, AscL lt (sortL lt l)
  | [] => by simp [sortL, AscL]
  | x :: l => insL_asc hs ht x _ (sortL_asc hs ht l)
theorem asc_unique (hto : ∀ a b, lt a b = false → lt b a = false → a = b) : ∀ l m : List α, AscL lt l → AscL lt m → l.Perm m → l = m
  | [], m, _, _, hp => (List.Perm.nil_eq hp)
  | x :: l, [], _, _, hp => by have := hp.length_eq; simp at this
  | x :: l, y :: m, h1, h2, hp => by
    unfold AscL at h1 h2
    rw [List.pairwise_cons] at h1 h2
    have e : x = y := by
      have hx : x ∈ y :: m := hp.mem_iff.1 (by simp)
      have hy : y ∈ x :: l := hp.mem_iff.2 (by simp)
      rcases List.mem_cons.1 hx with h | h
      · exact h
      · rcases List.mem_cons.1 hy with h' | h'
        · exact h'.symm
        · exact hto _ _ (h2.1 x h) (h1.1 y h') |>.symm ▸ rfl
    subst e
    rw [asc_unique hto l m h1.2 h2.2 (List.Perm.cons_inv hp)]
end
theorem sortT_unique {l m : List (List UInt8)} (h1 : AscL lessT m) (hp : m.Perm l) : m = sortL lessT l :=
  asc_unique lessT_total _ _ h1 (sortL_asc (fun _ _ h => lessT_asymm h) lessT_ntrans l) (hp.trans (sortL_perm l).symm)

/-- A list without neighbours that are equal. -/
def compL {α : Type} [DecidableEq α] : List α → List α
  | a :: b :: l => if a = b then compL (b :: l) else a :: compL (b :: l)
  | l => l
end

section
open Go
theorem take_two {α : Type} {l : List α} {k : Nat} {a b : α} (h1 : l[k]? = some a) (h2 : l[k + 1]? = some b) : l.take (k + 1 + 1) = l.take k ++ [a] ++ [b] := by
  obtain ⟨x1, y1⟩ := List.getElem?_eq_some_iff.1 h1
  obtain ⟨x2, y2⟩ := List.getElem?_eq_some_iff.1 h2
  rw [List.take_succ_eq_append_getElem x2, List.take_succ_eq_append_getElem x1, y1, y2]
theorem take_one {α : Type} {l : List α} {k : Nat} {a : α} (h1 : l[k]? = some a) : l.take (k + 1) = l.take k ++ [a] := by
  obtain ⟨x1, y1⟩ := List.getElem?_eq_some_iff.1 h1
  rw [List.take_succ_eq_append_getElem x1, y1]
section
variable {α : Type} [DecidableEq α]
theorem compL_two (a b : α) (l : List α) : compL (a :: b :: l) = if a = b then compL (b :: l) else a :: compL (b :: l) := by rw [compL]
theorem compL_snoc : ∀ (m : List α) (a b : α), compL (m ++ [a] ++ [b]) = if a = b then compL (m ++ [a]) else compL (m ++ [a]) ++ [b]
  | [], a, b => by
    simp only [List.nil_append, List.singleton_append]
    rw [compL_two]
    split
    · next h => rw [h]
    · rfl
  | [x], a, b => by
    have ih := compL_snoc [] a b
    simp only [List.nil_append, List.cons_append] at ih ⊢
    rw [compL_two x a [b], compL_two x a [], ih]
    by_cases h1 : x = a
    · simp only [if_pos h1]
    · simp only [if_neg h1]
      by_cases h2 : a = b
      · simp only [if_pos h2]
      · simp only [if_neg h2, List.cons_append]
  | x :: y :: m, a, b => by
    have ih := compL_snoc (y :: m) a b
    simp only [List.cons_append] at ih ⊢
    rw [compL_two x y (m ++ [a] ++ [b]), compL_two x y (m ++ [a]), ih]
    by_cases h1 : x = y
    · simp only [if_pos h1]
    · simp only [if_neg h1]
      by_cases h2 : a = b
      · simp only [if_pos h2]
      · simp only [if_neg h2, List.cons_append]
/-- One element more. -/
theorem comp_next {l : List α} {k : Nat} {a b : α} (h1 : l[k]? = some a) (h2 : l[k + 1]? = some b) : compL (l.take (k + 1 + 1)) = if a = b then compL (l.take (k + 1)) else compL (l.take (k + 1)) ++ [b] := by
  rw [take_two h1 h2, compL_snoc, take_one h1]
theorem comp_one (l : List α) : compL (l.take 1) = l.take 1 := by
  cases l <;> rfl
theorem comp_two {l : List α} {k : Nat} {a b : α} (h1 : l[k]? = some a) (h2 : l[k + 1]? = some b) (hne : a ≠ b) (h : compL (l.take (k + 1)) = l.take (k + 1)) : compL (l.take (k + 1 + 1)) = l.take (k + 1 + 1) := by
  rw [comp_next h1 h2, if_neg hne, h, take_two h1 h2, take_one h1]
theorem comp_small {l : List α} (h : l.length < 2) : compL l = l := by
  match l, h with
  | [], _ => rfl
  | [a], _ => rfl
end
end

section
open Go

/-! ### lists of names in ascending order -/
def AscN (l : List (List UInt8)) : Prop := l.Pairwise fun a b => be a < be b
def All8 (l : List (List UInt8)) : Prop := ∀ n ∈ l, n.length = 8
/-- A name put into an ascending list, unless it is there. -/
def insN (n : List UInt8) : List (List UInt8) → List (List UInt8)
  | [] => [n]
  | x :: l => if be x < be n then x :: insN n l else if x = n then x :: l else n :: x :: l
def ascSet (l : List (List UInt8)) : List (List UInt8) := l.foldl (fun o n => insN n o) []
/-- A list without repetitions beside one another. -/
def compN : List (List UInt8) → List (List UInt8)
  | [] => []
  | [x] => [x]
  | x :: y :: l => if x = y then compN (y :: l) else x :: compN (y :: l)
/-! ### items and their references -/
structure ItP where
  name : List UInt8
  kind : Int
  parent : List UInt8
  heads : List (Int × List UInt8)
  tips : List (List UInt8)
def rawPar (i : ItP) : List (List UInt8) := if i.kind = 3 then [i.parent] else if i.kind = 4 then i.parent :: i.heads.map (·.2) ++ i.tips else []
structure ItP.Fit (i : ItP) : Prop where
  name : i.name.length = 8
  parent : i.parent.length = 8
  heads : ∀ h ∈ i.heads, h.2.length = 8
  tips : All8 i.tips
def parents (i : ItP) : List (List UInt8) := ascSet (rawPar i)
/-- The first item with a name. -/
def itemOf (l : List ItP) (n : List UInt8) : Option ItP := l.find? fun i => i.name = n
/-- Going through what is reached from the names that wait: the last one first. -/
inductive Clo (l : List ItP) : List (List UInt8) → List (List UInt8) → List (List UInt8) → Prop
  | done (seen) : Clo l [] seen seen
  | skip {todo n seen fin} : (itemOf l n = none ∨ n ∈ seen) → Clo l todo seen fin → Clo l (todo ++ [n]) seen fin
  | take {todo n seen fin i} : itemOf l n = some i → n ∉ seen → Clo l (todo ++ parents i) (seen ++ [n]) fin → Clo l (todo ++ [n]) seen fin
theorem snoc_inj {α : Type} {a b : List α} {x y : α} (h : a ++ [x] = b ++ [y]) : a = b ∧ x = y := by
  have := List.append_inj' h rfl
  exact ⟨this.1, by simpa using this.2⟩
theorem Clo.det {l : List ItP} {todo seen fin fin' : List (List UInt8)} (h : Clo l todo seen fin) (h' : Clo l todo seen fin') : fin = fin' := by
  induction h generalizing fin' with
  | done seen =>
    generalize hm : ([] : List (List UInt8)) = m at h'
    cases h' with
    | done => rfl
    | skip => simp at hm
    | take => simp at hm
  | @skip todo n seen fin hc _ ih =>
    generalize hm : todo ++ [n] = m at h'
    cases h' with
    | done => simp at hm
    | skip _ h2 => obtain ⟨rfl, rfl⟩ := snoc_inj hm; exact ih h2
    | take h1 h2 _ =>
      obtain ⟨rfl, rfl⟩ := snoc_inj hm
      rcases hc with hc | hc
      · rw [hc] at h1; cases h1
      · exact absurd hc h2
  | @take todo n seen fin i h1 h2 _ ih =>
    generalize hm : todo ++ [n] = m at h'
    cases h' with
    | done => simp at hm
    | skip hc _ =>
      obtain ⟨rfl, rfl⟩ := snoc_inj hm
      rcases hc with hc | hc
      · rw [hc] at h1; cases h1
      · exact absurd hc h2
    | take h3 _ h5 =>
      obtain ⟨rfl, rfl⟩ := snoc_inj hm
      rw [h1] at h3
      cases h3
      exact ih h5
/-- Going down from a name by parents, until the genesis, a name that is not there, or one that was seen. -/
inductive Dwn (l : List ItP) : List UInt8 → List (List UInt8) → List (List UInt8) → Prop
  | stop {n seen} : (itemOf l n = none ∨ n ∈ seen) → Dwn l n seen seen
  | root {n seen i} : itemOf l n = some i → n ∉ seen → i.kind = 1 → Dwn l n seen (seen ++ [n])
  | step {n seen fin i} : itemOf l n = some i → n ∉ seen → i.kind ≠ 1 → Dwn l i.parent (seen ++ [n]) fin → Dwn l n seen fin
theorem Dwn.det {l : List ItP} {n : List UInt8} {seen fin fin' : List (List UInt8)} (h : Dwn l n seen fin) (h' : Dwn l n seen fin') : fin = fin' := by
  induction h generalizing fin' with
  | stop hc =>
    cases h' with
    | stop => rfl
    | root h1 h2 => rcases hc with hc | hc; (· rw [hc] at h1; cases h1); exact absurd hc h2
    | step h1 h2 => rcases hc with hc | hc; (· rw [hc] at h1; cases h1); exact absurd hc h2
  | root h1 h2 h3 =>
    cases h' with
    | stop hc => rcases hc with hc | hc; (· rw [hc] at h1; cases h1); exact absurd hc h2
    | root => rfl
    | step h4 _ h6 => rw [h1] at h4; cases h4; exact absurd h3 h6
  | step h1 h2 h3 _ ih =>
    cases h' with
    | stop hc => rcases hc with hc | hc; (· rw [hc] at h1; cases h1); exact absurd hc h2
    | root h4 _ h6 => rw [h1] at h4; cases h4; exact absurd h6 h3
    | step h4 _ _ h7 => rw [h1] at h4; cases h4; exact ih h7
/-- How many names of the list have not been seen. -/
def unseen (l : List ItP) (seen : List (List UInt8)) : Nat := (l.filter fun i => !seen.contains i.name).length
end

section
open Go

/-- The two halvesB of a byte. -/
def halvesB (c : UInt8) : List Nat := [c.toNat / 16, c.toNat % 16]
def halfSum (l : List UInt8) : Nat := l.foldl (fun s c => s + (c.toNat / 16 + c.toNat % 16)) 0
/-- The digits that a one-time signature of a name uses. -/
def digitsS (m : List UInt8) : List Nat := (m.map halvesB).flatten ++ [(240 - halfSum m) / 16, (240 - halfSum m) % 16]
/-- One step of a chain. -/
def stepS (v : List UInt8) (c p : Nat) : List UInt8 := tagged 0x21 (v ++ [UInt8.ofNat c, UInt8.ofNat p])
/-- n steps of chain c, from position p on. -/
def walkS (c : Nat) : Nat → Nat → List UInt8 → List UInt8
  | 0, _, v => v
  | n + 1, p, v => walkS c n (p + 1) (stepS v c p)
/-- What the values at the last positions of all chains are called. -/
def endsS (l : List (List UInt8)) : List UInt8 := tagged 0x22 l.flatten
/-- The last values of the chains from c on, by the digits and the values of a signature. -/
def recTo : Nat → List Nat → List (List UInt8) → List (List UInt8)
  | c, d :: ds, v :: vs => walkS c (15 - d) d v :: recTo (c + 1) ds vs
  | _, _, _ => []
def recoverS (m : List UInt8) (sig : List (List UInt8)) : List UInt8 := endsS (recTo 0 (digitsS m) sig)
/-- The root above leaf i of 2 ^ d, by its path. -/
def followS (leaf : List UInt8) : Nat → Nat → List (List UInt8) → List UInt8
  | 0, _, _ => tagged 0x11 leaf
  | d + 1, i, path =>
    if i < 2 ^ d then tagged 0x12 (followS leaf d i path.dropLast ++ path.getLastD [])
    else tagged 0x12 (path.getLastD [] ++ followS leaf d (i - 2 ^ d) path.dropLast)
/-- n names at an offset. -/
def namesS (b : List UInt8) (o n : Nat) : List (List UInt8) := (List.range n).map fun i => (b.drop (o + 8 * i)).take 8
def climbS (sig : List UInt8) (o j : Nat) (m : List UInt8) : List UInt8 := followS (recoverS m (namesS sig o 18)) 5 j (namesS sig (o + 144) 5)
def leafS (sig : List UInt8) : Nat := be (sig.take 2)
/-- A signature of m under a public name of two levels. -/
def verS (pub m sig : List UInt8) : Bool := decide (sig.length = 370) && decide (leafS sig < 1024) && decide (climbS sig 186 (leafS sig / 32) (climbS sig 2 (leafS sig % 32) m) = pub)
theorem walkS_len {c : Nat} : ∀ {n p : Nat} {v : List UInt8}, v.length = 8 → (walkS c n p v).length = 8
  | 0, _, _, h => h
  | n + 1, p, v, _ => by
    show (walkS c n (p + 1) (stepS v c p)).length = 8
    exact walkS_len (tagged_len _ _)
theorem walkS_snoc {c : Nat} : ∀ {n p : Nat} {v : List UInt8}, walkS c (n + 1) p v = stepS (walkS c n p v) c (p + n)
  | 0, _, _ => rfl
  | n + 1, p, v => by
    show walkS c (n + 1) (p + 1) (stepS v c p) = stepS (walkS c n (p + 1) (stepS v c p)) c (p + (n + 1))
    rw [walkS_snoc (n := n), show p + 1 + n = p + (n + 1) from by omega]
theorem digitsS_len {m : List UInt8} (h : m.length = 8) : (digitsS m).length = 18 := by
  match m, h with
  | [_, _, _, _, _, _, _, _], _ => rfl
theorem recoverS_len (m : List UInt8) (sig : List (List UInt8)) : (recoverS m sig).length = 8 := rfl
theorem followS_len (leaf : List UInt8) : ∀ (d i : Nat) (path : List (List UInt8)), (followS leaf d i path).length = 8
  | 0, _, _ => rfl
  | d + 1, i, path => by unfold followS; split <;> rfl
theorem climbS_len (sig : List UInt8) (o j : Nat) (m : List UInt8) : (climbS sig o j m).length = 8 := followS_len _ _ _ _
end
end Go.Proofs.YthknobbilcolnaaGreat
