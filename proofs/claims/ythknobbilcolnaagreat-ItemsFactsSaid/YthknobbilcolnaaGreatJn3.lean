/- Operations on abstract values: append and copy. Conditions: sizes (at most 2^47 bytes). Operations on abstract values: copy, rows built, make, pure operations, strings out of bytes. No condition. -/
import Derived.Test.YthknobbilcolnaaGreatJn2
namespace Go.Proofs.YthknobbilcolnaaGreat
section
open Go.RowKit

section
variable {P : Program} {F : Nat → Prop} {β β' : Loc} {H H' : List AObj} {w w' : World}

/-- The elements of a slice, as cells (k an element). -/
def srcA (H : List AObj) (k : Nat) : AV → Option (Nat × List AV)
  | .ls k' es => if k' = k then some (es.length, flat es) else none
  | .own id off n k' => match H[id]? with
    | some (.row _ _ cs) => if k' = k then some (n, (cs.drop off).take (n * k)) else none
    | _ => none
  | .nil0 => some (0, [])
  | .c (.slice none 0 0) => some (0, [])
  | _ => none

theorem src_ok (hr : Rep F β H w) {k m : Nat} {y : AV} {ys : List AV} {v : Value} (hy : V F β H w y v) (h : srcA H k y = some (m, ys)) : ∃ us : List Value, Rd w k v m us ∧ us.length = ys.length ∧ Ones us ∧ ∀ (i : Nat) (a : AV) (u : Value), ys[i]? = some a → us[i]? = some u → V F β H w a u := by
  have empty : ∀ a c, c ≤ maxLen → ∃ us : List Value, Rd w k (.slice a 0 c) 0 us ∧ us.length = ([] : List AV).length ∧ Ones us ∧ ∀ (i : Nat) (a : AV) (u : Value), ([] : List AV)[i]? = some a → us[i]? = some u → V F β H w a u :=
    fun a c hc => ⟨[], ⟨a, c, rfl, Nat.zero_le _, hc, by simp, fun h => absurd h (by omega)⟩, rfl, (fun u hu => by cases hu), (fun i a u h => by simp at h)⟩
  unfold srcA at h
  split at h
  · rename_i k' es
    split at h
    · rename_i hk
      cases h
      subst hk
      cases hy with
      | leaf hy => exact hy.elim
      | ls0 a hm => exact empty a _ hm
      | ls hb hk hn hm hl ho hc hv =>
        rename_i vs b o cap
        exact ⟨vs, ⟨_, cap, rfl, hn, hm, by rw [hl, flat_len hk], fun _ => ⟨b, o, rfl, hc⟩⟩, hl, ho, hv⟩
    · cases h
  · rename_i id off n k'
    split at h
    · rename_i t fz cs hrow
      split at h
      · rename_i hk
        cases h
        subst hk
        cases hy with
        | leaf hy =>
          obtain ⟨k1, k2, k3⟩ := hy.2.2 _ _ _ hrow
          rcases k3 with ⟨hz, a, rfl⟩ | ⟨b, s, cap, hb, rfl, k4, k5, k6⟩
          · subst hz; simpa using empty a 0 (Nat.zero_le _)
          · obtain ⟨C, vs, -, -, -, h1, -, h3, h4, h5⟩ := (hr.row id _ _ _ hrow).at_ hb (hy.2.1.2 _ _ _ hrow)
            refine ⟨(vs.drop off).take (m * k'), ⟨_, cap, rfl, k4, k5, sub_len (by omega), fun _ => ⟨b, off, rfl, fun j u hu => ?_⟩⟩, by rw [sub_len (by omega), sub_len (by omega)], h3.sub _ _, fun i a u ha hu => h4 _ a u (sub_get ha) (sub_get hu)⟩
            have := rangeAt_sub h5 off (m * k') j u hu
            rwa [Nat.zero_add] at this
      · cases h
    · cases h
  · cases h
    cases hy with
    | leaf hy => exact hy.elim
    | nil0 a => exact empty a 0 (Nat.zero_le _)
  · cases h
    cases hy with
    | leaf hy => exact hy.elim
    | c hp => exact empty none 0 (Nat.zero_le _)
  · cases h

/-- Append to a slice without room. -/
theorem run_append_none {P : Program} (w : World) (t ty e : TypeId) (i : TypeInfo) (z : Value) (ht : P.underlying t = some (.slice e)) (hi : P.info? e = some i) (hz : i.zero = some z)
    (hzs : z.cells.size = i.size) (a : Option Addr) (s : Value) (m : Nat) (ys : List Value) (hs : Rd w i.size s m ys) (h63 : m ≤ maxLen) (hbytes : m * i.bytes ≤ 140737488355328) :
    ∃ v' w', (Builtin.append_ #[t, t] ty #[.slice a 0 0, s]).run P w = .ok v' w' ∧ ((m = 0 ∧ v' = .slice a 0 0 ∧ w' = w) ∨
      (0 < m ∧ ∃ cap more, v' = .slice (some ⟨w.heap.size, 0, none⟩) m cap ∧ Blk w' w.heap.size e (ys ++ more).toArray ∧ Upd NoF w w' ∧ m ≤ cap ∧ cap ≤ maxLen ∧ cap * i.size ≤ (ys ++ more).length)) := by
  obtain ⟨A, c, rfl, hmc, hc, hyl, hA⟩ := hs
  rcases Nat.eq_zero_or_pos m with hm | hm
  · subst hm
    refine ⟨.slice a 0 0, w, ?_, .inl ⟨rfl, rfl, rfl⟩⟩
    cases a <;> cases A <;> simp [Builtin.append_, run_underlying ht, sizeOf, typeInfo, hi, Builtin.lenOf, Builtin.firstCells, storeCells, loadCells, loadCellsFrom]
  · obtain ⟨g0, o0, rfl, hcell⟩ := hA hm
    have hcells : ∀ j u, ys[j]? = some u → w.cell? ((⟨g0, o0, none⟩ : Addr).add j) = some u := by
      intro j u hu
      rw [Addr.add_mid']
      exact hcell j u hu
    have h63' : (m : Int) ≤ 9223372036854775807 := by simp only [maxLen] at h63; omega
    have hge := grownCap_ge w m 0 e
    have hcm : grownCap w m 0 e ≤ maxLen := grownCap_le_maxLen w m 0 e h63
    have hr : (Builtin.append_ #[t, t] ty #[.slice a 0 0, .slice (some ⟨g0, o0, none⟩) m c]).run P w = .ok (.slice (some ⟨w.heap.size, 0, none⟩) m (grownCap w m 0 e)) (w.drew.alloc (.cells (ys.toArray ++ Builtin.zeroCells z.cells (grownCap w m 0 e - m)) e)) := by
      cases a with
      | none => exact run_append_nil (P := P) w t ty e i z ht hi hz ⟨g0, o0, none⟩ m c ys hyl hcells hm h63' (by omega)
      | some b =>
        have := run_append_grow (P := P) w t ty e i z ht hi hz b 0 0 [] (by simp) (by simp) ⟨g0, o0, none⟩ m c ys hyl hcells (by omega) (by simpa using h63') (growslice_fits (by omega) (by simpa using hbytes))
        simpa using this
    refine ⟨_, _, hr, .inr ⟨hm, _, (Builtin.zeroCells z.cells (grownCap w m 0 e - m)).toList, rfl, ?_, ((Upd.refl _ w).drew).alloc _, hge, hcm, ?_⟩⟩
    · have : (ys ++ (Builtin.zeroCells z.cells (grownCap w m 0 e - m)).toList).toArray = ys.toArray ++ Builtin.zeroCells z.cells (grownCap w m 0 e - m) := by
        apply Array.ext'; simp
      rw [this]
      exact Blk.new w.drew _ _
    · show _ ≤ (ys ++ (Builtin.zeroCells z.cells (grownCap w m 0 e - m)).toList).length
      have hzl : (Builtin.zeroCells z.cells (grownCap w m 0 e - m)).toList.length = (grownCap w m 0 e - m) * i.size := by rw [Array.length_toList, size_zeroCells, hzs]
      rw [List.length_append, hzl, hyl, ← Nat.add_mul]
      exact Nat.le_of_eq (by congr 1; omega)

def appendA (P : Program) (H : List AObj) (t : TypeId) (x y : AV) : Option (AV × List AObj) :=
  match P.underlying t with
  | some (.slice e) => match P.info? e with
    | some i => match i.zero with
      | some z => if z.cells.size = i.size ∧ e < 1000000 then
          match srcA H i.size y with
          | some (m, ys) =>
            if m ≤ 100000000000 ∧ i.bytes ≤ 1000 then
              match x with
              | .nil0 => some (.own H.length 0 m i.size, H ++ [.row e false ys])
              | .c (.slice none 0 0) => some (.own H.length 0 m i.size, H ++ [.row e false ys])
              | .own id 0 n k => match H[id]? with
                | some (.row t' false cs) => if t' = e ∧ k = i.size ∧ n + m ≤ 100000000000 then some (.own H.length 0 (n + m) k, H.set id .dead ++ [.row e false (cs.take (n * k) ++ ys)])
                  else if 1000000 ≤ t' ∧ t' < 2000000 ∧ k = i.size ∧ 0 < k ∧ n * k = cs.length ∧ 0 < m ∧ n + m ≤ 100000000000 then some (.own H.length 0 (n + m) k, H ++ [.row e false (cs ++ ys)]) else none
                | _ => none
              | _ => none
            else none
          | none => none
        else none
      | none => none
    | none => none
  | _ => none

theorem append_none_ok (hr : Rep F β H w) {t ty e : TypeId} {i : TypeInfo} {z : Value} {a : Option Addr} {y : AV} {u : Value} {m : Nat} {ys : List AV} (ht : P.underlying t = some (.slice e)) (hi : P.info? e = some i) (hz : i.zero = some z) (hzs : z.cells.size = i.size) (hy : V F β H w y u) (hs : srcA H i.size y = some (m, ys)) (h63 : m ≤ maxLen) (hb : m * i.bytes ≤ 140737488355328) (he : e < 1000000) :
    Gives P F β H w (Builtin.append_ #[t, t] ty #[.slice a 0 0, u]) (.own H.length 0 m i.size) (H ++ [.row e false ys]) := by
  obtain ⟨us, e1, e2, e3, e4⟩ := src_ok hr hy hs
  have hul := e1.len
  obtain ⟨v', w', hrun, hcase⟩ := run_append_none (P := P) w t ty e i z ht hi hz hzs a u m us e1 h63 hb
  rcases hcase with ⟨rfl, rfl, rfl⟩ | ⟨hm, cap, more, rfl, hb', hu, h1, h2, h3⟩
  · have hys : ys = [] := List.eq_nil_of_length_eq_zero (by rw [← e2, hul]; simp)
    subst hys
    have hx : ∀ b s, (none : Option (Nat × Nat)) = some (b, s) → w'.heap.size ≤ b := fun b s h => by cases h
    exact ⟨_, w', setL β H.length none, hrun, rep_push hr (Upd.refl _ _) none hx (fun b s h => by cases h) (.inl ⟨rfl, setL_same _ _ _⟩), ext_push hr (Upd.refl _ _) _ none hx, .leaf ⟨by simp, ⟨sl0.zero _ _, noMap_last (ty_c he)⟩, fun t' fz' cs' hr' => ⟨by simp, by omega, .inl ⟨rfl, a, rfl⟩⟩⟩⟩
  · obtain ⟨r1, r2⟩ := push_row (t := e) hr more e2 e3 e4 hu (ty_c he) (by rw [Nat.mod_eq_of_lt he]; exact hb') (fun h => ty_d he h)
    exact ⟨_, w', _, hrun, r1, r2, .leaf ⟨by simp, ⟨sl0.some_ _ _ _, noMap_last (ty_c he)⟩, fun t' fz' cs' hr' => by
      rw [get_last] at hr'
      cases hr'
      exact ⟨by rw [← e2, hul]; omega, h63, .inr ⟨_, _, cap, setL_same _ _ _, rfl, h1, h2, by omega⟩⟩⟩⟩

/-- Append to a slice that reaches the end of a block that is no longer: a new block, the old one stays. -/
theorem append_exact_ok (hr : Rep F β H w) {t ty e : TypeId} {i : TypeInfo} {z : Value} {id n : Nat} {t' : TypeId} {cs : List AV} {y : AV} {x u : Value} {m : Nat} {ys : List AV} (ht : P.underlying t = some (.slice e)) (hi : P.info? e = some i) (hz : i.zero = some z) (hzs : z.cells.size = i.size) (hrow : H[id]? = some (.row t' false cs)) (hx : V F β H w (.own id 0 n i.size) x) (hy : V F β H w y u) (hs : srcA H i.size y = some (m, ys)) (hk : 0 < i.size) (hm : 0 < m) (h1 : 1000000 ≤ t') (hn : n * i.size = cs.length) (h63 : n + m ≤ maxLen) (hb : (n + m) * i.bytes ≤ 140737488355328) (he : e < 1000000) :
    Gives P F β H w (Builtin.append_ #[t, t] ty #[x, u]) (.own H.length 0 (n + m) i.size) (H ++ [.row e false (cs ++ ys)]) := by
  obtain ⟨us, e1, e2, e3, e4⟩ := src_ok hr hy hs
  have hul := e1.len
  cases hx with
  | leaf hx =>
    obtain ⟨k1, k2, k3⟩ := hx.2.2 _ _ _ hrow
    rw [Nat.zero_add] at k1
    rcases k3 with ⟨rfl, a, rfl⟩ | ⟨b, s, cap, hb', rfl, k4, k5, k6⟩
    · have hc0 : cs = [] := List.eq_nil_of_length_eq_zero (by rw [← hn]; simp)
      subst hc0
      simpa using append_none_ok (P := P) (ty := ty) (a := a) hr ht hi hz hzs hy hs (by omega) (by simpa using hb) he
    · obtain ⟨C, vs, rfl, -, hC, q1, q2, q3, q4, q5⟩ := (hr.row id _ _ _ hrow).at_ hb' (hx.2.1.2 _ _ _ hrow)
      have hsz := hC.2 h1
      have hcap : cap = n := by
        have : cap * i.size ≤ n * i.size := by omega
        have := Nat.le_of_mul_le_mul_right this hk
        omega
      subst hcap
      obtain ⟨A, c, rfl, hmc, hcm, hyl, hA⟩ := e1
      obtain ⟨g0, o0, rfl, hcell⟩ := hA hm
      have hcells : ∀ j u, us[j]? = some u → w.cell? ((⟨g0, o0, none⟩ : Addr).add j) = some u := by
        intro j u hu
        rw [Addr.add_mid']
        exact hcell j u hu
      have h63' : ((cap + m : Nat) : Int) ≤ 9223372036854775807 := by simp only [maxLen] at h63; omega
      have hold : ∀ j u, vs[j]? = some u → w.cell? ((⟨b, 0, none⟩ : Addr).add j) = some u := by
        intro j u hu
        rw [Addr.add_mid']
        exact q5 j u hu
      have hge := grownCap_ge w (cap + m) cap e
      have hcm' : grownCap w (cap + m) cap e ≤ maxLen := grownCap_le_maxLen w (cap + m) cap e h63
      have hrun := run_append_grow (P := P) w t ty e i z ht hi hz ⟨b, 0, none⟩ cap cap vs (by omega) hold ⟨g0, o0, none⟩ m c us hyl hcells (by omega) (by simpa using h63') (growslice_fits (by omega) hb)
      obtain ⟨r1, r2⟩ := push_row (t := e) (cs := cs ++ ys) (vs := vs ++ us) hr (Builtin.zeroCells z.cells (grownCap w (cap + m) cap e - (cap + m))).toList (by simp; omega) (fun u hu => (List.mem_append.1 hu).elim (q3 u) (e3 u)) (fun j a u ha hu => by
        rw [List.getElem?_append] at ha hu
        rw [q1] at hu
        split at ha
        · rw [if_pos (by assumption)] at hu; exact q4 j a u ha hu
        · rw [if_neg (by assumption)] at hu; exact e4 _ a u ha hu) (((Upd.refl _ w).drew).alloc _) (ty_c he) (by
          rw [Nat.mod_eq_of_lt he]
          have : (vs ++ us ++ (Builtin.zeroCells z.cells (grownCap w (cap + m) cap e - (cap + m))).toList).toArray = (vs ++ us).toArray ++ Builtin.zeroCells z.cells (grownCap w (cap + m) cap e - (cap + m)) := by
            apply Array.ext'; simp
          rw [this]
          exact Blk.new w.drew _ _) (fun h => ty_d he h)
      refine ⟨_, _, _, by simpa using hrun, r1, r2, .leaf ⟨by simp, ⟨sl0.some_ _ _ _, noMap_last (ty_c he)⟩, fun t2 fz' cs' hr' => ?_⟩⟩
      rw [get_last] at hr'
      cases hr'
      refine ⟨by rw [List.length_append, ← hn, ← e2, hul, Nat.add_mul]; omega, h63, .inr ⟨_, _, _, setL_same _ _ _, rfl, hge, hcm', ?_⟩⟩
      have hzl : (Builtin.zeroCells z.cells (grownCap w (cap + m) cap e - (cap + m))).toList.length = (grownCap w (cap + m) cap e - (cap + m)) * i.size := by rw [Array.length_toList, size_zeroCells, hzs]
      rw [Nat.zero_add, List.length_append, hzl, List.length_append, hul, q1, ← hn, ← Nat.add_mul, ← Nat.add_mul]
      exact Nat.le_of_eq (by congr 1; omega)

theorem append_ok (hr : Rep F β H w) {t ty : TypeId} {x y a : AV} {v u : Value} (hx : V F β H w x v) (hy : V F β H w y u) (h : appendA P H t x y = some (a, H')) : Gives P F β H w (Builtin.append_ #[t, t] ty #[v, u]) a H' := by
  unfold appendA at h
  split at h
  · rename_i e ht
    split at h
    · rename_i i hi
      split at h
      · rename_i z hz
        split at h
        · rename_i hzs0
          obtain ⟨hzs, he0⟩ := hzs0
          split at h
          · rename_i m ys hsrc
            split at h
            · rename_i hbd0
              have room : ∀ j, j ≤ 100000000000 → j ≤ maxLen ∧ j * i.bytes ≤ 140737488355328 := fun j hj => by
                have := Nat.mul_le_mul hj hbd0.2
                exact ⟨by simp only [maxLen]; omega, by omega⟩
              have hbd := room m hbd0.1
              split at h
              · cases h
                cases hx with
                | leaf hx => exact hx.elim
                | nil0 a => exact append_none_ok hr ht hi hz hzs hy hsrc hbd.1 hbd.2 he0
              · cases h
                cases hx with
                | leaf hx => exact hx.elim
                | c hp => exact append_none_ok hr ht hi hz hzs hy hsrc hbd.1 hbd.2 he0
              · rename_i id n k
                split at h
                · rename_i t' cs hrow
                  split at h
                  · rename_i hc
                    obtain ⟨rfl, rfl, h630⟩ := hc
                    obtain ⟨h63, hby⟩ := room _ h630
                    cases h
                    obtain ⟨us, e1, e2, e3, e4⟩ := src_ok hr hy hsrc
                    have hul := e1.len
                    have hlt := (List.getElem?_eq_some_iff.1 hrow).1
                    cases hx with
                    | leaf hx =>
                      obtain ⟨k1, k2, k3⟩ := hx.2.2 _ _ _ hrow
                      rw [Nat.zero_add] at k1
                      obtain ⟨d1, d2⟩ := drop_row hr id
                      have hlen : (H.set id .dead).length = H.length := by simp
                      rcases k3 with ⟨rfl, a, rfl⟩ | ⟨b, s, cap, hb, rfl, k4, k5, k6⟩
                      · have hsrc' : ∀ (i : Nat) (a : AV) (u : Value), ys[i]? = some a → us[i]? = some u → V F β (H.set id .dead) w a u := fun i a u h1 h2 => (e4 i a u h1 h2).ext d2
                        obtain ⟨v', w', hrun, hcase⟩ := run_append_none (P := P) w t ty t' i z ht hi hz hzs a u m us e1 hbd.1 hbd.2
                        simp only [Nat.zero_mul, List.take_zero, List.nil_append, Nat.zero_add]
                        rcases hcase with ⟨rfl, rfl, rfl⟩ | ⟨hm, cap, more, rfl, hb', hu, h1, h2, h3⟩
                        · have hys : ys = [] := List.eq_nil_of_length_eq_zero (by rw [← e2, hul]; simp)
                          subst hys
                          have hx0 : ∀ b s, (none : Option (Nat × Nat)) = some (b, s) → w'.heap.size ≤ b := fun b s h => by cases h
                          refine ⟨_, w', setL β (H.set id .dead).length none, hrun, rep_push d1 (Upd.refl _ _) none hx0 (fun b s h => by cases h) (.inl ⟨rfl, setL_same _ _ _⟩), d2.trans (ext_push d1 (Upd.refl _ _) _ none hx0), .leaf ⟨by simp, ⟨sl0.zero _ _, by rw [← hlen]; exact noMap_last (ty_c he0)⟩, fun t' fz' cs' hr' => ⟨by simp, by omega, .inl ⟨rfl, a, rfl⟩⟩⟩⟩
                        · obtain ⟨r1, r2⟩ := push_row d1 (t := t') more e2 e3 hsrc' hu (ty_c he0) (by rw [Nat.mod_eq_of_lt he0]; exact hb') (fun h => ty_d he0 h)
                          exact ⟨_, w', _, hrun, r1, d2.trans r2, .leaf ⟨by simp, ⟨sl0.some_ _ _ _, by rw [← hlen]; exact noMap_last (ty_c he0)⟩, fun t2 fz' cs' hr' => by
                            rw [← hlen, get_last] at hr'
                            cases hr'
                            exact ⟨by rw [← e2, hul]; omega, hbd.1, .inr ⟨_, _, cap, by rw [← hlen]; exact setL_same _ _ _, rfl, h1, h2, by omega⟩⟩⟩⟩
                      · obtain ⟨C, vs, rfl, -, hC0, q1, q2, q3, q4, q5⟩ := (hr.row id _ _ _ hrow).at_ hb (hx.2.1.2 _ _ _ hrow)
                        have hC : Blk w b t' C := by have := hC0.1; rwa [Nat.mod_eq_of_lt he0] at this
                        have hCl : vs.length ≤ C.toList.length := by
                          have := congrArg List.length q2
                          rw [List.length_take] at this
                          omega
                        have hown : Own w t' i.size (.slice (some ⟨b, 0, none⟩) n cap) n (vs.take (n * i.size)) := by
                          refine ⟨by rw [List.length_take]; omega, .inr ⟨b, cap, C, rfl, hC, k4, k5, by omega, ?_⟩⟩
                          rw [← q2, List.take_take, Nat.min_eq_left (by omega)]
                        obtain ⟨v', w', hrun, hown', hupd, hnew⟩ := run_append (P := P) w t ty t' i z i.size i.bytes ht hi hz rfl rfl hzs _ n _ hown u m us e1 e3 h63 hby
                        have hbn : ∀ k, OwnB (.slice (some ⟨b, 0, none⟩) n cap) k ↔ k = b := fun k => by simp [OwnB, Value.ownBlock]; exact eq_comm
                        have hblt := (hr.lt ⟨_, _, _, hrow⟩ hb)
                        -- the state between: the object given up, its block turned
                        have hnb : ∀ j, alive (H.set id .dead) j → ∀ b' s', β j = some (b', s') → b' ≠ b := by
                          rintro j ⟨t2, f2, c2, hj⟩ b' s' hb' rfl
                          have hne : id ≠ j := fun e => by subst e; rw [get_set_eq hlt] at hj; cases hj
                          rw [get_set_ne hne] at hj
                          exact hne (hr.inj id j ⟨_, _, _, hrow⟩ ⟨_, _, _, hj⟩ _ _ _ hb hb')
                        obtain ⟨hxs, hform⟩ := hown'
                        have hv' : ∃ x : Option (Nat × Nat), (∀ g s, x = some (g, s) → g = b ∨ w.heap.size ≤ g) ∧ RowOk F (setL β (H.set id .dead).length x) (H.set id .dead ++ [.row t' false (cs.take (n * i.size) ++ ys)]) w' (H.set id .dead).length t' (cs.take (n * i.size) ++ ys) ∧ V F (setL β (H.set id .dead).length x) (H.set id .dead ++ [.row t' false (cs.take (n * i.size) ++ ys)]) w' (.own H.length 0 (n + m) i.size) v' ∧ Ext β H w (setL β (H.set id .dead).length x) (H.set id .dead ++ [.row t' false (cs.take (n * i.size) ++ ys)]) w' := by
                          have ext : ∀ x : Option (Nat × Nat), (∀ g s, x = some (g, s) → g = b ∨ w.heap.size ≤ g) → Ext β H w (setL β (H.set id .dead).length x) (H.set id .dead ++ [.row t' false (cs.take (n * i.size) ++ ys)]) w' := by
                            intro x hx
                            refine ⟨hupd.mono (fun k _ hk => by rw [(hbn k).1 hk]; exact ⟨id, _, ⟨_, _, hrow⟩, hb⟩), by simp, fun j hj ha => ?_, fun j t1 f1 c1 t2 f2 c2 h1 h2 => ?_, fun k hk hlt' => ?_⟩
                            · rcases alive_push ha with ⟨l1, a1⟩ | e
                              · rw [setL_ne _ _ (by omega)]
                                exact ⟨(d2.keep j hj a1).1, rfl⟩
                              · omega
                            · have hl1 := (List.getElem?_eq_some_iff.1 h1).1
                              rw [get_push (by omega)] at h2
                              exact d2.size j _ _ _ _ _ _ h1 h2
                            · obtain ⟨j, s', hm', he'⟩ := hk
                              rcases alive_push hm'.alive with ⟨l1, -⟩ | rfl
                              · rw [setL_ne _ _ (by omega)] at he'
                                obtain ⟨t2, c2, h2⟩ := hm'
                                rw [get_push l1] at h2
                                exact d2.new k ⟨j, s', ⟨t2, c2, h2⟩, he'⟩ hlt'
                              · rw [setL_same] at he'
                                rcases hx k s' he' with rfl | hge
                                · exact ⟨id, _, ⟨_, _, hrow⟩, hb⟩
                                · omega
                          have cellsV : ∀ {β2 : Loc} {H2 : List AObj} {w2 : World}, Ext β H w β2 H2 w2 → ∀ (j : Nat) (a : AV) (u : Value), (cs.take (n * i.size) ++ ys)[j]? = some a → (vs.take (n * i.size) ++ us)[j]? = some u → V F β2 H2 w2 a u := by
                            intro β2 H2 w2 he j a u ha hu
                            have hl1 : (cs.take (n * i.size)).length = n * i.size := by rw [List.length_take]; omega
                            have hl2 : (vs.take (n * i.size)).length = n * i.size := by rw [List.length_take]; omega
                            rw [List.getElem?_append, hl1] at ha
                            rw [List.getElem?_append, hl2] at hu
                            split at ha
                            · rw [if_pos (by assumption)] at hu
                              rw [List.getElem?_take] at ha hu
                              rw [if_pos (by assumption)] at ha hu
                              exact (q4 j a u ha hu).ext he
                            · rw [if_neg (by assumption)] at hu
                              exact (e4 _ a u ha hu).ext he
                          have onesV : Ones (vs.take (n * i.size) ++ us) := fun x hx => (List.mem_append.1 hx).elim (fun h => q3 x (List.mem_of_mem_take h)) (e3 x)
                          have lenV : (vs.take (n * i.size) ++ us).length = (cs.take (n * i.size) ++ ys).length := by simp; omega
                          rcases hform with ⟨rfl, hz0⟩ | ⟨g', cap', cur, rfl, hB, p1, p2, p3, p4⟩
                          · refine ⟨none, (fun g s h => by cases h), .inl ⟨?_, setL_same _ _ _⟩, ?_, ext none (fun g s h => by cases h)⟩
                            · exact List.eq_nil_of_length_eq_zero (by rw [← lenV, hxs, hz0]; simp)
                            · refine .leaf ⟨by simp, ⟨by rw [hz0]; exact sl0.zero _ _, by rw [← hlen]; exact noMap_last (ty_c he0)⟩, fun t2 fz' cs' hr' => ?_⟩
                              rw [hz0]
                              exact ⟨by simp, by simp, .inl ⟨rfl, none, rfl⟩⟩
                          · have hx0 : ∀ g s, some (g', cur.size) = some (g, s) → g = b ∨ w.heap.size ≤ g := by
                              intro g s h
                              cases h
                              rcases hnew g' (by simp [OwnB, Value.ownBlock]) with h | h
                              · exact .inl ((hbn _).1 h)
                              · exact .inr h
                            have hF : ¬ F g' := fun f => by
                              rcases hx0 g' _ rfl with rfl | h
                              · exact hblt.2 f
                              · exact absurd (hr.far g' f) (by omega)
                            refine ⟨some (g', cur.size), hx0, .inr ⟨g', cur, vs.take (n * i.size) ++ us, by rw [szR_lt (ty_c he0)]; exact setL_same _ _ _, hF, ⟨.of (ty_c he0) (by rw [Nat.mod_eq_of_lt he0]; exact hB), fun h => ty_d he0 h⟩, lenV, by rw [hxs]; exact p4, onesV, cellsV (ext _ hx0)⟩, ?_, ext _ hx0⟩
                            refine .leaf ⟨by simp, ⟨sl0.some_ _ _ _, by rw [← hlen]; exact noMap_last (ty_c he0)⟩, fun t2 fz' cs' hr' => ?_⟩
                            rw [← hlen, get_last] at hr'
                            cases hr'
                            exact ⟨by rw [← lenV, hxs]; omega, h63, .inr ⟨g', cur.size, cap', by rw [← hlen]; exact setL_same _ _ _, rfl, p1, p2, by omega⟩⟩
                        obtain ⟨x, hx0, hrow', hV, hE⟩ := hv'
                        rw [hlen] at hE hrow' hV
                        refine ⟨v', w', _, hrun, ⟨fun k hk => Nat.lt_of_lt_of_le (hr.far k hk) hupd.size, fun j t2 f2 c2 hj => ?_, fun i' j' ai aj b1 s1 s2 h1 h2 => ?_⟩, hE, hV⟩
                        · rcases alive_push (id := j) ⟨_, _, _, hj⟩ with ⟨l1, -⟩ | e
                          · have hj2 := hj
                            rw [get_push l1] at hj2
                            have hal : alive (H.set id .dead) j := ⟨_, _, _, hj2⟩
                            have hne : id ≠ j := fun e => by subst e; rw [get_set_eq hlt] at hj2; cases hj2
                            have hj3 := hj2
                            rw [get_set_ne hne] at hj3
                            refine (hr.row j _ _ _ hj3).ext hE (setL_ne _ _ (by omega)) (fun b1 s1 hb1 => ?_)
                            exact hupd.block b1 (hr.lt ⟨_, _, _, hj3⟩ hb1).1 (fun hk => hnb j hal b1 s1 hb1 ((hbn _).1 hk))
                          · rw [hlen] at e
                            subst e
                            rw [← hlen, get_last] at hj
                            cases hj
                            exact hrow'
                        · have key : ∀ j, alive (H.set id .dead) j → j < H.length → ∀ b1 s1 s2, β j = some (b1, s1) → x = some (b1, s2) → False := by
                            intro j hj hjl b1 s1 s2 hb1 hb2
                            rcases hx0 b1 s2 hb2 with rfl | hge
                            · exact hnb j hj _ _ hb1 rfl
                            · exact absurd (d1.lt hj hb1).1 (by omega)
                          rcases alive_push ai with ⟨li, ai⟩ | ei <;> rcases alive_push aj with ⟨lj, aj⟩ | ej
                          · rw [setL_ne _ _ (by omega)] at h1 h2
                            exact d1.inj i' j' ai aj b1 s1 s2 h1 h2
                          · rw [hlen] at ej; subst ej
                            rw [setL_ne _ _ (by omega)] at h1
                            rw [setL_same] at h2
                            exact (key i' ai (by omega) b1 s1 s2 h1 h2).elim
                          · rw [hlen] at ei; subst ei
                            rw [setL_ne _ _ (by omega)] at h2
                            rw [setL_same] at h1
                            exact (key j' aj (by omega) b1 s2 s1 h2 h1).elim
                          · omega
                  · split at h
                    · rename_i hc
                      obtain ⟨c1, c2, rfl, c3, c4, c5, c6⟩ := hc
                      cases h
                      obtain ⟨h63, hby⟩ := room _ c6
                      exact append_exact_ok hr ht hi hz hzs hrow hx hy hsrc c3 c5 c1 c4 h63 hby he0
                    · cases h
                · cases h
              · cases h
            · cases h
          · cases h
        · cases h
      · cases h
    · cases h
  · cases h
end
end

section
open Go.RowKit

section
variable {P : Program} {F : Nat → Prop} {β β' : Loc} {H H' : List AObj} {w w' : World}

/-! ### copy -/
def copyA (P : Program) (H : List AObj) (t : TypeId) (x y : AV) : Option (AV × List AObj) :=
  match P.underlying t with
  | some (.slice e) => if (P.info? e).map (·.size) = some 1 then
      match x, srcA H 1 y with
      | .own id off n k, some (m, ys) => match H[id]? with
        | some (.row t' false cs) => if k = 1 ∧ off + Nat.min m n ≤ cs.length then some (.c (.int .i64 (Nat.min m n : Nat)), H.set id (.row t' false (splice cs off (ys.take (Nat.min m n))))) else none
        | _ => none
      | _, _ => none
    else none
  | _ => none
theorem set_same {H : List AObj} {id : Nat} {o : AObj} (h : H[id]? = some o) : H.set id o = H := by
  obtain ⟨hl, rfl⟩ := List.getElem?_eq_some_iff.1 h
  exact List.set_getElem_self hl
theorem splice_nil (cs : List AV) (off : Nat) : splice cs off [] = cs := by simp [splice]
theorem copy_ok (hr : Rep F β H w) {t ty : TypeId} {x y a : AV} {v u : Value} (hx : V F β H w x v) (hy : V F β H w y u) (h : copyA P H t x y = some (a, H')) : Gives P F β H w (Builtin.copy_ #[t, t] ty #[v, u]) a H' := by
  unfold copyA at h
  split at h
  · rename_i e ht
    split at h
    · rename_i hs
      split at h
      · rename_i id off n k m ys hsrc
        split at h
        · rename_i t' cs hrow
          split at h
          · rename_i hc
            obtain ⟨rfl, hfit⟩ := hc
            cases h
            obtain ⟨us, e1, e2, e3, e4⟩ := src_ok hr hy hsrc
            have hul := e1.len
            rw [Nat.mul_one] at hul
            obtain ⟨A, c, rfl, hmc, hcm, -, hA⟩ := e1
            by_cases hz : Nat.min m n = 0
            · rw [hz, List.take_zero, splice_nil, set_same hrow]
              obtain ⟨d, cap, rfl⟩ : ∃ d cap, v = .slice d n cap := len_form (x := .own id off n 1) (by simp [liveB, hrow]) hx rfl
              exact Gives.same hr (run_copy_none (P := P) w t t ty e d A n cap m c ht hs hz) (.c rfl)
            · have hm : 0 < m := by
                rcases Nat.eq_zero_or_pos m with h | h
                · subst h; exact absurd (Nat.zero_min n) hz
                · exact h
              have hn : n ≠ 0 := fun h => by subst h; exact hz (Nat.min_zero m)
              obtain ⟨g, o, rfl, hcell⟩ := hA hm
              cases hx with
              | leaf hx =>
                obtain ⟨k1, k2, k3⟩ := hx.2.2 _ _ _ hrow
                rcases k3 with ⟨hn0, -⟩ | ⟨b, s, cap, hb, rfl, k4, k5, k6⟩
                · exact absurd hn0 hn
                · obtain ⟨C, vs, -, -, hC0, q1, q2, -, -, -⟩ := (hr.row id _ _ _ hrow).at_ hb (hx.2.1.2 _ _ _ hrow)
                  have hC := hC0.1
                  have hCl : vs.length ≤ C.size := by
                    have := congrArg List.length q2
                    rw [List.length_take] at this
                    simp at this
                    omega
                  have hmin : Nat.min m n ≤ m := Nat.min_le_left _ _
                  have hl1 : (us.take (Nat.min m n)).length = Nat.min m n := by rw [List.length_take]; omega
                  have hl2 : (ys.take (Nat.min m n)).length = Nat.min m n := by rw [List.length_take]; omega
                  have run := run_copy_row (P := P) w t t ty e b off n cap ⟨g, o, none⟩ m c C (t' % 1000000) (us.take (Nat.min m n)) ht hs hC hl1 (fun j v hv => by
                    rw [Addr.add_mid']
                    rw [List.getElem?_take] at hv
                    split at hv
                    · exact hcell j v hv
                    · cases hv) (by rw [hl1]; omega) (fun v hv => e3 v (List.mem_of_mem_take hv))
                  rw [hl1] at run
                  obtain ⟨r1, r2⟩ := store_row hr hrow hb (off := off) (az := ys.take (Nat.min m n)) (us := us.take (Nat.min m n)) (by omega) (hx.2.1.2 _ _ _ hrow) hC (by omega) (fun v hv => e3 v (List.mem_of_mem_take hv)) (fun i a v ha hv => by
                    rw [List.getElem?_take] at ha hv
                    split at ha
                    · rw [if_pos (by assumption)] at hv; exact e4 i a v ha hv
                    · cases ha)
                  rw [hl1] at r1 r2
                  exact ⟨_, _, β, run, r1, r2, .c rfl⟩
          · cases h
        · cases h
      · cases h
    · cases h
  · cases h

/-! ### plain values: the machine's own pure operations -/
def pv (P : Program) {α : Type} : Sem α → Option α
  | .pure a => some a
  | .program k => pv P (k P)
  | .mark _ k => pv P k
  | _ => none
theorem run_pv {α : Type} {s : Sem α} {a : α} (h : pv P s = some a) : s.run P w = .ok a w := by
  induction s with
  | pure b => cases h; rfl
  | program k ih => exact ih P h
  | mark m k ih => exact ih h
  | _ => cases h

def plainC : AV → Option Value
  | .c v => if plainV v = true then some v else none
  | _ => none
def toV : AV → Option Value
  | .c v => if plainV v = true then some v else none
  | .agg cs => (cs.mapM plainC).map fun l => .agg l.toArray
  | _ => none
def fromV : Value → AV
  | .agg cs => if cs.all plainV = true then .agg (cs.toList.map .c) else .any
  | .tuple vs => if vs.all plainV = true then .tup (vs.toList.map .c) else .any
  | v => if plainV v = true then .c v else .any
theorem V.plainC {a : AV} {v u : Value} (h : V F β H w a v) (hu : plainC a = some u) : v = u := by
  cases a <;> simp only [Proofs.YthknobbilcolnaaGreat.plainC] at hu <;> try cases hu
  split at hu
  · cases hu
    cases h with
    | leaf h => exact h.elim
    | c h => rfl
  · cases hu
theorem mapM_get {cs : List AV} : ∀ {l : List Value}, cs.mapM plainC = some l → l.length = cs.length ∧ ∀ (i : Nat) (a : AV), cs[i]? = some a → ∃ u, l[i]? = some u ∧ plainC a = some u := by
  induction cs with
  | nil => intro l h; simp at h; subst h; exact ⟨rfl, fun i a h => by simp at h⟩
  | cons c cs ih =>
    intro l h
    simp only [List.mapM_cons, Option.bind_eq_bind, Option.bind_eq_some_iff, Option.pure_def, Option.some.injEq] at h
    obtain ⟨u, hu, l', hl', rfl⟩ := h
    obtain ⟨h1, h2⟩ := ih hl'
    refine ⟨by simp [h1], fun i a ha => ?_⟩
    cases i with
    | zero => simp at ha; subst ha; exact ⟨u, rfl, hu⟩
    | succ i => exact h2 i a (by simpa using ha)
theorem V.toV {a : AV} {v u : Value} (h : V F β H w a v) (hu : toV a = some u) : v = u := by
  cases a <;> simp only [Proofs.YthknobbilcolnaaGreat.toV] at hu <;> try cases hu
  case c x => exact h.plainC hu
  case agg cs =>
    obtain ⟨l, hl, rfl⟩ := Option.map_eq_some_iff.1 hu
    obtain ⟨h1, h2⟩ := mapM_get hl
    cases h with
    | leaf h => exact h.elim
    | agg hl' ho hv =>
      rename_i vs
      congr 1
      congr 1
      refine List.ext_getElem? (fun i => ?_)
      by_cases hi : i < cs.length
      · obtain ⟨x, hx, hp⟩ := h2 i cs[i] (List.getElem?_eq_getElem hi)
        obtain ⟨y, hy⟩ : ∃ y, vs[i]? = some y := ⟨_, List.getElem?_eq_getElem (by omega)⟩
        rw [hx, hy, V.plainC (hv i _ y (List.getElem?_eq_getElem hi) hy) hp]
      · rw [List.getElem?_eq_none (by omega), List.getElem?_eq_none (by omega)]
theorem V.fromV (v : Value) : V F β H w (fromV v) v := by
  unfold Proofs.YthknobbilcolnaaGreat.fromV
  have key : ∀ (cs : Array Value), cs.all plainV = true → (∀ u ∈ cs.toList, plainV u = true) ∧ ∀ (i : Nat) (a : AV) (v : Value), (cs.toList.map AV.c)[i]? = some a → cs.toList[i]? = some v → V F β H w a v := by
    intro cs hp
    have hp' : ∀ v ∈ cs.toList, plainV v = true := fun v hv => (Array.all_eq_true_iff_forall_mem.1 hp) v (by simpa using hv)
    refine ⟨hp', fun k a v ha hv => ?_⟩
    rw [List.getElem?_map, hv] at ha
    cases ha
    exact .c (hp' _ (List.mem_of_getElem? hv))
  split
  · rename_i cs
    split
    · obtain ⟨k1, k2⟩ := key cs (by assumption)
      have := VR.agg (I := Im F β H w) (w := w) (L := LV β H) (cs := cs.toList.map .c) (vs := cs.toList) (by simp) (fun u hu => plain_one (k1 u hu)) k2
      simpa using this
    · exact .any _
  · rename_i cs
    split
    · obtain ⟨k1, k2⟩ := key cs (by assumption)
      have := VR.tup (I := Im F β H w) (w := w) (L := LV β H) (cs := cs.toList.map .c) (vs := cs.toList) (by simp) k2
      simpa using this
    · exact .any _
  · split
    · exact .c (by assumption)
    · exact .any _
theorem pure_ok (hr : Rep F β H w) {s : Sem Value} {v : Value} (h : pv P s = some v) : Gives P F β H w s (fromV v) H := Gives.same hr (run_pv h) (V.fromV v)

/-! ### binary operations -/
def inr64 (z : Int) : Bool := decide (-9223372036854775808 ≤ z) && decide (z ≤ 9223372036854775807)
/-- Two whole numbers of one kind: sums of int stay within bounds. -/
def ibin (op : BinOp) (k : IntKind) (a b : Int) : Option Value :=
  match op with
  | .eql => some (.bool (decide (a = b)))
  | .neq => some (.bool (!decide (a = b)))
  | .lss => some (.bool (decide (a < b)))
  | .leq => some (.bool (decide (a ≤ b)))
  | .gtr => some (.bool (decide (b < a)))
  | .geq => some (.bool (decide (b ≤ a)))
  | .add => match k with | .i64 => if inr64 (a + b) = true then some (.int .i64 (a + b)) else none | _ => some (.int k (k.wrap (a + b)))
  | .sub => match k with | .i64 => if inr64 (a - b) = true then some (.int .i64 (a - b)) else none | _ => some (.int k (k.wrap (a - b)))
  | .mul => match k with | .i64 => if inr64 (a * b) = true then some (.int .i64 (a * b)) else none | _ => some (.int k (k.wrap (a * b)))
  | .quo => if b = 0 then none else some (.int k (k.wrap (a.tdiv b)))
  | .rem => if b = 0 then none else some (.int k (a.tmod b))
  | .and => some (.int k (bits .and k a b))
  | .or => some (.int k (bits .or k a b))
  | .xor => some (.int k (bits .xor k a b))
  | .andNot => some (.int k (bits .andNot k a b))
  | .shl | .shr => none
def ishift (op : BinOp) (k : IntKind) (a b : Int) : Option Value :=
  if b < 0 then none else match op with
    | .shl => some (.int k (k.wrap (a * 2 ^ min b.toNat k.bits)))
    | .shr => some (.int k (a.fdiv (2 ^ min b.toNat k.bits)))
    | _ => none
theorem inr64_wrap {z : Int} (h : inr64 z = true) : IntKind.i64.wrap z = z := by
  simp only [inr64, Bool.and_eq_true, decide_eq_true_eq] at h
  exact IntWalk.i64_in _ (by omega)
def isNilV : AV → Bool
  | .c (.pointer none) => true
  | _ => false
def isPtrA : AV → Bool
  | .ptr _ _ | .pe _ _ => true
  | _ => false
def ptrT (P : Program) (t : TypeId) : Bool := match P.underlying t with | some (.pointer _) => true | _ => false

open Classical in
/-- What a term answers in every state, if it leaves the state. -/
noncomputable def evS (P : Program) (s : Sem Value) : Option Value := if h : ∃ v, ∀ w, s.run P w = .ok v w then some h.choose else none
noncomputable def pvE (P : Program) (s : Sem Value) : Option Value := match pv P s with | some v => some v | none => evS P s
theorem run_pvE {s : Sem Value} {v : Value} (h : pvE P s = some v) (w : World) : s.run P w = .ok v w := by
  unfold pvE at h
  split at h
  · rename_i v' hv
    cases h
    exact run_pv hv
  · unfold evS at h
    split at h
    · rename_i hx
      cases h
      exact hx.choose_spec w
    · cases h
theorem pvE_of {s : Sem Value} {v : Value} (h : ∀ w, s.run P w = .ok v w) : pvE P s = some v := by
  cases hp : pvE P s with
  | some v' =>
    have h1 := run_pvE hp default
    rw [h default] at h1
    injection h1 with h1
    rw [h1]
  | none =>
    exfalso
    unfold pvE at hp
    split at hp
    · cases hp
    · unfold evS at hp
      rw [dif_pos ⟨v, h⟩] at hp
      cases hp
noncomputable def binA (P : Program) (op : BinOp) (t : TypeId) (ox oy : Operand) (x y : AV) : Option AV :=
  match x, y with
  | .c (.int k a), .c (.int k' b) =>
    if op = .shl ∨ op = .shr then (ishift op k a b).map .c
    else if k = k' then (ibin op k a b).map .c else none
  | x, y =>
    if (isNilV y && isPtrA x || isNilV x && isPtrA y) = true then
      if ptrT P t = true then (if op = .eql then some (.c (.bool false)) else if op = .neq then some (.c (.bool true)) else none) else none
    else match toV x, toV y with
      | some u, some v => (pvE P (do eqGuard op t ox oy u v; binOp op t u v)).map fromV
      | _, _ => none

theorem ibin_run {op : BinOp} {k : IntKind} {a b : Int} {v : Value} {t : TypeId} (h : ibin op k a b = some v) : (binOp op t (.int k a) (.int k b)).run P w = .ok v w ∧ plainV v = true := by
  cases op <;> simp only [ibin] at h <;> try (cases h; refine ⟨?_, rfl⟩; simp [binOp, Op.intCmp, Int.beq_def, bne]; done)
  all_goals try (cases h; refine ⟨?_, rfl⟩; unfold binOp; simp only [ne_eq, not_true_eq_false, if_false]; rfl)
  all_goals try
    cases k <;> simp only [] at h <;> first
      | (split at h
         · rename_i hr
           cases h
           exact ⟨by simp [binOp, Op.intArith, inr64_wrap hr], rfl⟩
         · cases h)
      | (cases h; exact ⟨by simp [binOp, Op.intArith], rfl⟩)
  all_goals try
    split at h
    · cases h
    · rename_i hb
      cases h
      exact ⟨by simp [binOp, Op.intDiv, hb], rfl⟩
  all_goals cases h
theorem ishift_run {op : BinOp} {k k' : IntKind} {a b : Int} {v : Value} {t : TypeId} (h : ishift op k a b = some v) : (binOp op t (.int k a) (.int k' b)).run P w = .ok v w ∧ plainV v = true := by
  unfold ishift at h
  split at h
  · cases h
  · rename_i hb
    cases op <;> simp only [] at h <;> cases h
    · exact ⟨by simp [binOp, Op.shift, hb], rfl⟩
    · exact ⟨by simp [binOp, Op.shift, hb], rfl⟩
theorem V.ptr_form {x : AV} {v : Value} (hx : V F β H w x v) (hp : isPtrA x = true) : ∃ a, v = .pointer (some a) := by
  cases x <;> simp [isPtrA] at hp
  case ptr id off =>
    cases hx with
    | leaf hx => exact hx.2.1.1
  case pe e off =>
    cases hx with
    | leaf hx => exact hx.elim
    | pe => exact ⟨_, rfl⟩
theorem V.nil_form {x : AV} {v : Value} (hx : V F β H w x v) (hp : isNilV x = true) : v = .pointer none := by
  unfold isNilV at hp
  split at hp
  · cases hx with
    | leaf hx => exact hx.elim
    | c h => rfl
  · cases hp
theorem run_equal_nil {t e : TypeId} (ht : P.underlying t = some (.pointer e)) (a : Addr) : (Op.equal t (.pointer (some a)) (.pointer none)).run P w = .ok false w ∧ (Op.equal t (.pointer none) (.pointer (some a))).run P w = .ok false w := by
  have h1 : ∀ x y, Op.equal t x y = Op.equalIn (9999 + 1) t x y := fun _ _ => rfl
  rw [h1, h1]
  unfold Op.equalIn
  rw [Sem.run_bind, Sem.run_bind, run_underlying ht]
  exact ⟨rfl, rfl⟩
theorem bin_ok (hr : Rep F β H w) {op : BinOp} {t : TypeId} {ox oy : Operand} {x y a : AV} {u v : Value} (hx : V F β H w x u) (hy : V F β H w y v) (h : binA P op t ox oy x y = some a) : Gives P F β H w (do eqGuard op t ox oy u v; binOp op t u v) a H := by
  unfold binA at h
  split at h
  · rename_i k a' k' b'
    obtain rfl := hx.int
    obtain rfl := hy.int
    have hg : (eqGuard op t ox oy (.int k a') (.int k' b')).run P w = .ok () w := by
      unfold eqGuard
      cases op <;> rfl
    split at h
    · obtain ⟨v, hv, rfl⟩ := Option.map_eq_some_iff.1 h
      obtain ⟨r1, r2⟩ := ishift_run (P := P) (w := w) (t := t) (k' := k') hv
      exact Gives.same hr (by simp [Sem.run_bind, hg, r1]) (.c r2)
    · split at h
      · rename_i hk
        subst hk
        obtain ⟨v, hv, rfl⟩ := Option.map_eq_some_iff.1 h
        obtain ⟨r1, r2⟩ := ibin_run (P := P) (w := w) (t := t) hv
        exact Gives.same hr (by simp [Sem.run_bind, hg, r1]) (.c r2)
      · cases h
  · split at h
    · rename_i hc
      split at h
      · rename_i hp
        have ht : ∃ e, P.underlying t = some (.pointer e) := by
          unfold ptrT at hp
          split at hp
          · exact ⟨_, by assumption⟩
          · cases hp
        obtain ⟨e, ht⟩ := ht
        have forms : (∃ a, u = .pointer (some a) ∧ v = .pointer none) ∨ (∃ a, u = .pointer none ∧ v = .pointer (some a)) := by
          simp only [Bool.or_eq_true, Bool.and_eq_true] at hc
          rcases hc with ⟨c1, c2⟩ | ⟨c1, c2⟩
          · obtain ⟨a, rfl⟩ := hx.ptr_form c2; exact .inl ⟨a, rfl, hy.nil_form c1⟩
          · obtain ⟨a, rfl⟩ := hy.ptr_form c2; exact .inr ⟨a, hx.nil_form c1, rfl⟩
        split at h
        · rename_i ho
          subst ho
          cases h
          refine Gives.same hr (v := .bool false) ?_ (.c rfl)
          rcases forms with ⟨a, rfl, rfl⟩ | ⟨a, rfl, rfl⟩ <;> simp [eqGuard, binOp, run_equal_nil ht]
        · split at h
          · rename_i ho
            subst ho
            cases h
            refine Gives.same hr (v := .bool true) ?_ (.c rfl)
            rcases forms with ⟨a, rfl, rfl⟩ | ⟨a, rfl, rfl⟩ <;> simp [eqGuard, binOp, run_equal_nil ht]
          · cases h
      · cases h
    · split at h
      · rename_i u' v' h1 h2
        obtain rfl := hx.toV h1
        obtain rfl := hy.toV h2
        obtain ⟨x, hx', rfl⟩ := Option.map_eq_some_iff.1 h
        exact Gives.same hr (run_pvE hx' w) (V.fromV _)
      · cases h
/-! ### comparisons with nil of slices, maps, functions, interfaces -/
/-- The nil of a slice, a map, a function, an interface. -/
def nilK : AV → Nat
  | .c (.slice none _ _) => 1
  | .c (.map none) => 2
  | .c .nilFunc => 3
  | .c .nilIface => 4
  | _ => 0
def someK : AV → Nat
  | .own _ _ n _ => if 0 < n then 1 else 0
  | .ls _ (_ :: _) => 1
  | .mh _ => 2
  | .fn _ _ => 3
  | .ifc _ _ => 4
  | _ => 0
def tyK (P : Program) (t : TypeId) : Nat := match P.underlying t with
  | some (.slice _) => 1
  | some (.map _ _) => 2
  | some (.func _ _ _) => 3
  | some (.interface _) => 4
  | _ => 0
def nlA (P : Program) (op : BinOp) (t : TypeId) (x y : AV) : Option AV :=
  if nilK y ≠ 0 ∧ nilK y = someK x ∧ tyK P t = nilK y ∨ nilK x ≠ 0 ∧ nilK x = someK y ∧ tyK P t = nilK x then
    (if op = .eql then some (.c (.bool false)) else if op = .neq then some (.c (.bool true)) else none)
  else none
theorem nilK_form {x : AV} {v : Value} (hx : V F β H w x v) (hp : nilK x ≠ 0) : x = .c v ∧ nilK (.c v) = nilK x := by
  unfold nilK at hp
  split at hp <;> first
    | (cases hx with
       | leaf hx => exact hx.elim
       | c h => exact ⟨rfl, rfl⟩)
    | exact absurd rfl hp
/-- What is not nil. -/
def someV : Nat → Value → Prop
  | 1, v => ∃ a n c, v = .slice (some a) n c
  | 2, v => ∃ r, v = .map (some r)
  | 3, v => ∃ f a b, v = .func f a b
  | 4, v => ∃ t u, v = .iface t u
  | _, _ => False
theorem someK_form {x : AV} {v : Value} (hx : V F β H w x v) (hp : someK x ≠ 0) : someV (someK x) v := by
  unfold someK at hp ⊢
  split at hp
  · split at hp
    · rename_i hn
      rw [if_pos hn]
      cases hx with
      | leaf hx =>
        obtain ⟨a, c, rfl, h⟩ := hx.2.1.1
        obtain ⟨b, rfl⟩ := h hn
        exact ⟨_, _, _, rfl⟩
    · exact absurd rfl hp
  · cases hx with
    | leaf hx => exact hx.elim
    | ls => exact ⟨_, _, _, rfl⟩
  · cases hx with
    | leaf hx => exact hx.2.1
  · cases hx with
    | leaf hx => exact hx.elim
    | fn => exact ⟨_, _, _, rfl⟩
  · cases hx with
    | leaf hx => exact hx.elim
    | ifc => exact ⟨_, _, rfl⟩
  · exact absurd rfl hp
theorem nilK_cases {v : Value} {n : Nat} (hn : n ≠ 0) (h : nilK (.c v) = n) : (n = 1 ∧ ∃ a b, v = .slice none a b) ∨ (n = 2 ∧ v = .map none) ∨ (n = 3 ∧ v = .nilFunc) ∨ (n = 4 ∧ v = .nilIface) := by
  subst h
  unfold nilK at hn ⊢
  split at hn <;> rename_i hq <;> first
    | (cases hq; simp)
    | exact absurd rfl hn
theorem tyK_cases {t : TypeId} {n : Nat} (h : tyK P t = n) : (n = 1 → ∃ e, P.underlying t = some (.slice e)) ∧ (n = 2 → ∃ a b, P.underlying t = some (.map a b)) ∧ (n = 3 → ∃ a b c, P.underlying t = some (.func a b c)) ∧ (n = 4 → ∃ a, P.underlying t = some (.interface a)) := by
  subst h
  unfold tyK
  split <;> simp_all
theorem run_nil {t : TypeId} {n : Nat} (hn : n ≠ 0) {u v : Value} (ht : tyK P t = n) (hu : someV n u) (hv : nilK (.c v) = n) : ((Op.equal t u v).run P w = .ok false w ∧ (Op.equal t v u).run P w = .ok false w) ∧ ∀ op ox oy, ((eqGuard op t ox oy u v).run P w = .ok () w ∧ (eqGuard op t ox oy v u).run P w = .ok () w) ∧ (binOp .eql t u v = (do pure (.bool (← Op.equal t u v))) ∧ binOp .eql t v u = (do pure (.bool (← Op.equal t v u)))) ∧ binOp .neq t u v = (do pure (.bool (!(← Op.equal t u v)))) ∧ binOp .neq t v u = (do pure (.bool (!(← Op.equal t v u)))) := by
  have h1 : ∀ x y, Op.equal t x y = Op.equalIn (9999 + 1) t x y := fun _ _ => rfl
  obtain ⟨t1, t2, t3, t4⟩ := tyK_cases ht
  rcases nilK_cases hn hv with ⟨rfl, a, b, rfl⟩ | ⟨rfl, rfl⟩ | ⟨rfl, rfl⟩ | ⟨rfl, rfl⟩
  · obtain ⟨e, hty⟩ := t1 rfl
    obtain ⟨p, q, r, rfl⟩ := hu
    refine ⟨?_, fun op ox oy => ⟨?_, ⟨rfl, rfl⟩, rfl, rfl⟩⟩
    · rw [h1, h1]; unfold Op.equalIn; rw [Sem.run_bind, Sem.run_bind, run_underlying hty]; exact ⟨rfl, rfl⟩
    · unfold eqGuard; cases op <;> exact ⟨rfl, rfl⟩
  · obtain ⟨e, e2, hty⟩ := t2 rfl
    obtain ⟨p, rfl⟩ := hu
    refine ⟨?_, fun op ox oy => ⟨?_, ⟨rfl, rfl⟩, rfl, rfl⟩⟩
    · rw [h1, h1]; unfold Op.equalIn; rw [Sem.run_bind, Sem.run_bind, run_underlying hty]; exact ⟨rfl, rfl⟩
    · unfold eqGuard; cases op <;> exact ⟨rfl, rfl⟩
  · obtain ⟨e, e2, e3, hty⟩ := t3 rfl
    obtain ⟨p, q, r, rfl⟩ := hu
    refine ⟨?_, fun op ox oy => ⟨?_, ⟨rfl, rfl⟩, rfl, rfl⟩⟩
    · rw [h1, h1]; unfold Op.equalIn; rw [Sem.run_bind, Sem.run_bind, run_underlying hty]; exact ⟨rfl, rfl⟩
    · unfold eqGuard; cases op <;> exact ⟨rfl, rfl⟩
  · obtain ⟨e, hty⟩ := t4 rfl
    obtain ⟨p, q, rfl⟩ := hu
    refine ⟨?_, fun op ox oy => ⟨?_, ⟨rfl, rfl⟩, rfl, rfl⟩⟩
    · rw [h1, h1]; unfold Op.equalIn; rw [Sem.run_bind, Sem.run_bind, run_underlying hty]; exact ⟨rfl, rfl⟩
    · unfold eqGuard; cases op <;> exact ⟨rfl, rfl⟩
theorem nil_ok (hr : Rep F β H w) {op : BinOp} {t : TypeId} {ox oy : Operand} {x y a : AV} {u v : Value} (hx : V F β H w x u) (hy : V F β H w y v) (h : nlA P op t x y = some a) : Gives P F β H w (do eqGuard op t ox oy u v; binOp op t u v) a H := by
  unfold nlA at h
  split at h
  · rename_i hc
    have key : (Op.equal t u v).run P w = .ok false w ∧ (∀ op ox oy, (eqGuard op t ox oy u v).run P w = .ok () w) ∧ binOp .eql t u v = (do pure (.bool (← Op.equal t u v))) ∧ binOp .neq t u v = (do pure (.bool (!(← Op.equal t u v)))) := by
      rcases hc with ⟨h1, h2, h3⟩ | ⟨h1, h2, h3⟩
      · obtain ⟨e1, e2⟩ := run_nil (w := w) h1 h3 (by rw [h2]; exact someK_form hx (by rw [← h2]; exact h1)) (nilK_form hy h1).2
        exact ⟨e1.1, fun op ox oy => (e2 op ox oy).1.1, (e2 op ox oy).2.1.1, (e2 op ox oy).2.2.1⟩
      · obtain ⟨e1, e2⟩ := run_nil (w := w) h1 h3 (by rw [h2]; exact someK_form hy (by rw [← h2]; exact h1)) (nilK_form hx h1).2
        exact ⟨e1.2, fun op ox oy => (e2 op ox oy).1.2, (e2 op ox oy).2.1.2, (e2 op ox oy).2.2.2⟩
    obtain ⟨k1, k2, k3, k4⟩ := key
    split at h
    · rename_i ho
      subst ho
      cases h
      exact Gives.same hr (v := .bool false) (by simp [k2, k3, k1, Sem.run_bind]) (.c rfl)
    · split at h
      · rename_i ho
        subst ho
        cases h
        exact Gives.same hr (v := .bool true) (by simp [k2, k4, k1, Sem.run_bind]) (.c rfl)
      · cases h
  · cases h
end
end
end Go.Proofs.YthknobbilcolnaaGreat
