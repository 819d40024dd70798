/- Maps as rows of their entries' cells: make, lookup, update, delete, len; what the machine does with them. No condition. -/
import Derived.Test.YthknobbilcolnaaGreatJn4
import Derived.WideKeyRuns
import Derived.WideMake
import Derived.MapKept
namespace Go.Proofs.YthknobbilcolnaaGreat
open Go.RowKit

section
variable {P : Program} {w : World}
/-- A key of whole numbers may be hashed. -/
theorem key_ok (em : Bool) : ∀ (d : Nat) (t : TypeId) (s D : Nat) (xs : List Value) (w : World), flatT P d t = some s → d ≤ D → xs.length = s → Kin xs xs → (Instr.checkKey em D t (mkV (rowB P t) xs)).run P w = .ok () w
  | 0, _, _, _, _, _, h, _, _, _ => by cases h
  | d + 1, t, s, D, xs, w, h, hD, hx, hk => by
    obtain ⟨D, rfl⟩ : ∃ D', D = D' + 1 := ⟨D - 1, by omega⟩
    unfold flatT at h
    split at h
    · rename_i i q hi hu
      split at h
      · cases h
        match xs, hx with
        | [u], _ =>
          obtain ⟨k, a, b, rfl, -⟩ := hk 0 u u rfl rfl
          have hb : rowB P t = false := by unfold rowB; rw [hu]; first | done | rfl
          rw [hb]
          show (Instr.checkKey em (D + 1) t (.int k a)).run P w = _
          simp [Instr.checkKey, Sem.run_bind, run_underlying hu]
      · cases h
    · rename_i i n e hi hu
      split at h
      · rename_i k hk'
        split at h
        · rename_i hc
          cases h
          have hb : rowB P t = true := by unfold rowB; rw [hu]; first | done | rfl
          have hsz : ∀ w, (sizeOf e).run P w = .ok k w := fun w => by
            obtain ⟨ie, h1, h2⟩ := Option.map_eq_some_iff.1 hc.2
            simp [sizeOf, typeInfo, h1, h2]
          rw [hb]
          rw [hc.1] at hx
          show (Instr.checkKey em (D + 1) t (.agg xs.toArray)).run P w = _
          simp only [Instr.checkKey, Sem.run_bind, run_underlying hu, Result.andThen_ok]
          simp only [Std.Legacy.Range.forIn_eq_forIn_range', Std.Legacy.Range.size, Nat.sub_zero, Nat.add_sub_cancel, Nat.div_one]
          have hbig : ∀ (m j : Nat), j + m = n → ∀ w, (forIn (List.range' j m) () (fun i _ => do
              let z ← sizeOf e
              let u ← Go.part e xs.toArray (i * z)
              Instr.checkKey em D e u
              pure (.yield ()) : Nat → Unit → Sem (ForInStep Unit))).run P w = .ok () w := by
            intro m
            induction m with
            | zero => intro j hj w; simp
            | succ m ih =>
              intro j hj w
              have hle : j * k + k ≤ n * k := by rw [← Nat.succ_mul]; exact Nat.mul_le_mul_right k (by omega)
              have e1 := flat_part (P := P) (xs := xs) (o := j * k) hk' (by omega) w
              have e2 := key_ok em d e k D ((xs.drop (j * k)).take k) w hk' (by omega) (by rw [sub_len (by omega)]) (hk.sub (j * k) k)
              rw [List.range'_succ, List.forIn_cons]
              simp only [Sem.run_bind, hsz, Result.andThen_ok, e1, e2, Sem.run_pure]
              exact ih (j + 1) (by omega) w
          have := hbig n 0 (by omega) w
          simp at this ⊢
          rw [this]
          rfl
        · cases h
      · cases h
    · rename_i i fs hi hu
      split at h
      · rename_i hc
        cases h
        have hb : rowB P t = true := by unfold rowB; rw [hu]; first | done | rfl
        rw [hb]
        show (Instr.checkKey em (D + 1) t (.agg xs.toArray)).run P w = _
        simp only [Instr.checkKey, Sem.run_bind, run_underlying hu, Result.andThen_ok]
        have key : ∀ (l : List Field) (o : Nat) (w : World), flatF (flatT P d) o l = some i.size → (forIn l () (fun f _ => do
              if f.name ≠ "_" then
                let u ← Go.part f.type xs.toArray f.offset
                Instr.checkKey em D f.type u
                pure (.yield ())
              else pure (.yield ()) : Field → Unit → Sem (ForInStep Unit))).run P w = .ok () w := by
          intro l
          induction l with
          | nil => intro o w h; simp
          | cons f l ih =>
            intro o w h
            simp only [flatF] at h
            split at h
            · rename_i hof
              split at h
              · rename_i k hk'
                have hle : o + k ≤ i.size := by
                  clear ih
                  have mono : ∀ (l : List Field) (o' : Nat), flatF (flatT P d) o' l = some i.size → o' ≤ i.size := by
                    intro l
                    induction l with
                    | nil => intro o' h; cases h; exact Nat.le_refl _
                    | cons f l ih =>
                      intro o' h
                      simp only [flatF] at h
                      split at h
                      · split at h
                        · have := ih _ h; omega
                        · cases h
                      · cases h
                  exact mono l _ h
                have e1 := flat_part (P := P) (xs := xs) (o := o) hk' (by omega) w
                have e2 := key_ok em d f.type k D ((xs.drop o).take k) w hk' (by omega) (by rw [sub_len (by omega)]) (hk.sub o k)
                rw [List.forIn_cons]
                simp only [if_pos hof.2, hof.1, Sem.run_bind, Result.andThen_ok, e1, e2, Sem.run_pure]
                exact ih _ w h
              · cases h
            · cases h
        have := key fs.toList 0 w hc.2
        simp at this ⊢
        rw [this]
        rfl
      · cases h
    · cases h

/-! ### keys -/
def eqC : AV → AV → Option Bool
  | .c (.int k a), .c (.int k' b) => if k = k' then some (decide (a = b)) else none
  | _, _ => none
def eqI : List AV → List AV → Option Bool
  | [], [] => some true
  | x :: l, y :: m => match eqC x y with
    | some b => (eqI l m).map (b && ·)
    | none => none
  | _, _ => none
def eqS : AV → AV → Option Bool
  | .c (.int k a), .c (.int k' b) => if k = k' then some (a == b) else none
  | .c (.string a), .c (.string b) => some (a == b)
  | _, _ => none
/-- Are two keys equal? (r: they are rows) -/
def eqK (r : Bool) (xs ys : List AV) : Option Bool := if r = true then eqI xs ys else match xs, ys with
  | [x], [y] => eqS x y
  | _, _ => none
/-- A key type's kind (0 whole number, 1 row of such, 2 string) and its cells. -/
def keyK (P : Program) (kt : TypeId) : Option (Nat × Nat) := if rowB P kt = true then (flatT P 20 kt).map (1, ·) else match P.underlying kt with
  | some (.int _) => some (0, 1)
  | some .string => some (2, 1)
  | _ => none
def isIntC : AV → Bool
  | .c (.int _ _) => true
  | _ => false
def isStrC : AV → Bool
  | .c (.string _) => true
  | _ => false
/-- Has a key its type's form? -/
def keyForm (r n : Nat) (x : AV) : Bool := decide (x.cells.length = n) && (if r = 1 then x.isAgg && x.cells.all isIntC else if r = 0 then isIntC x else isStrC x)
/-- The first entry (of m, n cells each, the key's ahead) with a key. -/
def findA (r : Bool) (a n : Nat) (key : List AV) : Nat → List AV → Option (Option Nat)
  | 0, _ => some none
  | m + 1, cs => match eqK r key (cs.take a) with
    | some true => some (some 0)
    | some false => (findA r a n key m (cs.drop n)).map (·.map (· + 1))
    | none => none

section
variable {F : Nat → Prop} {β β' : Loc} {H H' : List AObj} {w' : World}
abbrev VLs (F : Nat → Prop) (β : Loc) (H : List AObj) (w : World) (az : List AV) (vs : List Value) : Prop := vs.length = az.length ∧ ∀ (i : Nat) (a : AV) (v : Value), az[i]? = some a → vs[i]? = some v → V F β H w a v
theorem VLs.sub {az : List AV} {vs : List Value} (h : VLs F β H w az vs) (o n : Nat) : VLs F β H w ((az.drop o).take n) ((vs.drop o).take n) :=
  ⟨by simp [h.1], fun i a v h1 h2 => h.2 (o + i) a v (sub_get h1) (sub_get h2)⟩
theorem VLs.drop {az : List AV} {vs : List Value} (h : VLs F β H w az vs) (o : Nat) : VLs F β H w (az.drop o) (vs.drop o) :=
  ⟨by simp [h.1], fun i a v h1 h2 => h.2 (o + i) a v (by rwa [List.getElem?_drop] at h1) (by rwa [List.getElem?_drop] at h2)⟩
theorem VLs.take {az : List AV} {vs : List Value} (h : VLs F β H w az vs) (n : Nat) : VLs F β H w (az.take n) (vs.take n) := by
  have := h.sub 0 n
  simpa using this
theorem VLs.append {az bs : List AV} {vs us : List Value} (h : VLs F β H w az vs) (k : VLs F β H w bs us) : VLs F β H w (az ++ bs) (vs ++ us) :=
  ⟨by simp [h.1, k.1], fun i a v h1 h2 => by
    rw [List.getElem?_append] at h1 h2
    rw [h.1] at h2
    split at h1
    · rw [if_pos (by assumption)] at h2; exact h.2 i a v h1 h2
    · rw [if_neg (by assumption)] at h2; exact k.2 _ a v h1 h2⟩
theorem VLs.ext {az : List AV} {vs : List Value} (h : VLs F β H w az vs) (e : Ext β H w β' H' w') : VLs F β' H' w' az vs := ⟨h.1, fun i a v h1 h2 => (h.2 i a v h1 h2).ext e⟩
theorem eqI_ok : ∀ {xs ys : List AV} {us vs : List Value} {b : Bool}, eqI xs ys = some b → VLs F β H w xs us → VLs F β H w ys vs → Kin us vs ∧ (b = true ↔ us = vs)
  | [], [], us, vs, b, h, hx, hy => by
    simp only [eqI] at h
    cases h
    obtain rfl : us = [] := List.eq_nil_of_length_eq_zero hx.1
    obtain rfl : vs = [] := List.eq_nil_of_length_eq_zero hy.1
    exact ⟨fun i u v h => by simp at h, by simp⟩
  | x :: l, y :: m, us, vs, b, h, hx, hy => by
    simp only [eqI] at h
    split at h
    · rename_i c0 hc0
      obtain ⟨c, hc, rfl⟩ := Option.map_eq_some_iff.1 h
      obtain ⟨u, us, rfl⟩ : ∃ u us', us = u :: us' := by
        cases us with
        | nil => have := hx.1; simp at this
        | cons u us => exact ⟨_, _, rfl⟩
      obtain ⟨v, vs, rfl⟩ : ∃ v vs', vs = v :: vs' := by
        cases vs with
        | nil => have := hy.1; simp at this
        | cons u us => exact ⟨_, _, rfl⟩
      have h1 : VLs F β H w l us := by have := hx.drop 1; simpa using this
      have h2 : VLs F β H w m vs := by have := hy.drop 1; simpa using this
      obtain ⟨i1, i2⟩ := eqI_ok hc h1 h2
      have hxu := hx.2 0 _ u rfl rfl
      have hyv := hy.2 0 _ v rfl rfl
      unfold eqC at hc0
      split at hc0
      · split at hc0
        · rename_i hk
          subst hk
          cases hc0
          obtain rfl := hxu.lit
          obtain rfl := hyv.lit
          refine ⟨fun i u v hu hv => ?_, ?_⟩
          · cases i with
            | zero => simp at hu hv; exact ⟨_, _, _, hu.symm, hv.symm⟩
            | succ i => exact i1 i u v (by simpa using hu) (by simpa using hv)
          · simp [i2]
        · cases hc0
      · cases hc0
    · cases h
  | [], _ :: _, _, _, _, h, _, _ => by simp [eqI] at h
  | _ :: _, [], _, _, _, h, _, _ => by simp [eqI] at h

/-- The entry that findKey answers. -/
def entAt (es : List MapEntry) (o : Option Nat) (j : Nat) : Option (Nat × Value) := o.bind fun i => (es[i]?).map fun e => (i + j, e.val)
theorem findRow_ok {kt : TypeId} {a n : Nat} (hf : flatT P 20 kt = some a) (hr : rowB P kt = true) {us : List Value} (hul : us.length = a) {key : List AV} (hkey : VLs F β H w key us) : ∀ (es : List MapEntry) (cs : List AV) (o : Option Nat) (j : Nat), VLs F β H w cs (es.flatMap entCells) → (∀ e ∈ es, (∃ xs : List Value, e.key = .agg xs.toArray ∧ xs.length = a) ∧ (entCells e).length = n) → findA true a n key es.length cs = some o → (Instr.findAsking kt (.agg us.toArray) es j).run P w = .ok (entAt es o j) w ∧ (∀ i, o = some i → ∃ e, es[i]? = some e ∧ e.key = .agg us.toArray)
  | [], cs, o, j, _, _, h => by
    simp only [List.length_nil, findA] at h
    cases h
    exact ⟨by simp [Instr.findAsking, entAt], fun i h => by cases h⟩
  | e :: es, cs, o, j, hc, he, h => by
    obtain ⟨⟨xs, hk, hxl⟩, hel⟩ := he e List.mem_cons_self
    have hkc : e.key.cells.toList = xs := by rw [hk]; simp [Value.cells]
    have hflat : (e :: es).flatMap entCells = xs ++ (e.val.cells.toList ++ es.flatMap entCells) := by simp [entCells, hkc]
    have htk : ((e :: es).flatMap entCells).take a = xs := by rw [hflat, ← hxl, List.take_left']; rfl
    have hdr : ((e :: es).flatMap entCells).drop n = es.flatMap entCells := by
      rw [List.flatMap_cons, ← hel, List.drop_left']; rfl
    have h1 : VLs F β H w (cs.take a) xs := by have := hc.take a; rwa [htk] at this
    have h2 : VLs F β H w (cs.drop n) (es.flatMap entCells) := by have := hc.drop n; rwa [hdr] at this
    simp only [List.length_cons, findA, eqK, if_true] at h
    have step : ∀ {b : Bool}, eqI key (cs.take a) = some b → (Op.equal kt (.agg us.toArray) e.key).run P w = .ok b w ∧ (b = true → us = xs) := by
      intro b hb
      obtain ⟨k1, k2⟩ := eqI_ok hb hkey h1
      obtain ⟨b', q1, q2⟩ := flat_eq 20 kt a Op.maxDepth us xs w hf (by decide) hul hxl k1
      rw [hr] at q1
      have : b' = b := by
        cases b <;> cases b' <;> simp_all
      subst this
      rw [hk]
      exact ⟨q1, k2.1⟩
    split at h
    · rename_i hq
      cases h
      exact ⟨by simp [Instr.findAsking, Sem.run_bind, (step hq).1, entAt], fun i h => by cases h; exact ⟨e, rfl, by rw [hk, (step hq).2 rfl]⟩⟩
    · rename_i hq
      obtain ⟨o', ho, rfl⟩ := Option.map_eq_some_iff.1 h
      obtain ⟨i1, i2⟩ := findRow_ok hf hr hul hkey es (cs.drop n) o' (j + 1) h2 (fun e he' => he e (List.mem_cons_of_mem _ he')) ho
      refine ⟨?_, fun i h => ?_⟩
      · simp [Instr.findAsking, Sem.run_bind, (step hq).1, i1, entAt]
        cases o' with
        | none => rfl
        | some i => simp [Nat.add_comm, Nat.add_left_comm]
      · obtain ⟨i', hi', rfl⟩ := Option.map_eq_some_iff.1 h
        simpa using i2 i' hi'
    · cases h
theorem findScal_ok {kd : TypeDesc} {n : Nat} {x : AV} {u : Value} (hkey : V F β H w x u) : ∀ (es : List MapEntry) (cs : List AV) (o : Option Nat) (j : Nat), VLs F β H w cs (es.flatMap entCells) → (∀ e ∈ es, e.key.cells = #[e.key] ∧ (entCells e).length = n) → ((∃ k z, u = .int k z ∧ ∃ k, kd = .int k) ∨ (∃ s, u = .string s ∧ kd = .string)) → findA false 1 n [x] es.length cs = some o → Instr.findNow kd u es j = some (entAt es o j) ∧ (∀ i, o = some i → ∃ e, es[i]? = some e ∧ Instr.sameNow kd u e.key = some true)
  | [], cs, o, j, _, _, _, h => by
    simp only [List.length_nil, findA] at h
    cases h
    exact ⟨by simp [Instr.findNow, entAt], fun i h => by cases h⟩
  | e :: es, cs, o, j, hc, he, hu, h => by
    obtain ⟨hk, hel⟩ := he e List.mem_cons_self
    have hflat : (e :: es).flatMap entCells = [e.key] ++ (e.val.cells.toList ++ es.flatMap entCells) := by simp [entCells, hk]
    have htk : ((e :: es).flatMap entCells).take 1 = [e.key] := by rw [hflat]; rfl
    have hdr : ((e :: es).flatMap entCells).drop n = es.flatMap entCells := by
      rw [List.flatMap_cons, ← hel, List.drop_left']; rfl
    have h1 : VLs F β H w (cs.take 1) [e.key] := by have := hc.take 1; rwa [htk] at this
    have h2 : VLs F β H w (cs.drop n) (es.flatMap entCells) := by have := hc.drop n; rwa [hdr] at this
    obtain ⟨y, hy⟩ : ∃ y, cs.take 1 = [y] := by
      have := h1.1
      match hq : cs.take 1, this with
      | [y], _ => exact ⟨y, rfl⟩
    rw [hy] at h1
    have hyv := h1.2 0 y e.key rfl rfl
    simp only [List.length_cons, findA, eqK, hy] at h
    have step : ∀ {b : Bool}, eqS x y = some b → Instr.sameNow kd u e.key = some b := by
      intro b hb
      unfold eqS at hb
      split at hb
      · obtain rfl := hkey.lit
        have hek := hyv.lit
        rw [hek]
        rcases hu with ⟨k, z, hq, k', rfl⟩ | ⟨s, hq, -⟩
        · simp only [Instr.sameNow]; exact hb
        · cases hq
      · obtain rfl := hkey.lit
        have hek := hyv.lit
        rw [hek]
        rcases hu with ⟨k, z, hq, -⟩ | ⟨s, hq, rfl⟩
        · cases hq
        · simp only [Instr.sameNow]; exact hb
      · cases hb
    simp only [Bool.false_eq_true, if_false] at h
    split at h
    · rename_i hq
      cases h
      exact ⟨by simp [Instr.findNow, step hq, entAt], fun i h => by cases h; exact ⟨e, rfl, step hq⟩⟩
    · rename_i hq
      obtain ⟨o', ho, rfl⟩ := Option.map_eq_some_iff.1 h
      obtain ⟨i1, i2⟩ := findScal_ok hkey es (cs.drop n) o' (j + 1) h2 (fun e he' => he e (List.mem_cons_of_mem _ he')) hu ho
      refine ⟨?_, fun i h => ?_⟩
      · simp [Instr.findNow, step hq, i1, entAt]
        cases o' with
        | none => rfl
        | some i => simp [Nat.add_comm, Nat.add_left_comm]
      · obtain ⟨i', hi', rfl⟩ := Option.map_eq_some_iff.1 h
        have := i2 i' hi'
        simp; omega
    · cases h

/-! ### maps as objects -/
theorem cells_one {v : Value} (h : v.oneCell' = true) : v.cells = #[v] := by cases v <;> first | rfl | (simp [Value.oneCell'] at h)
theorem upd_setMap (w : World) (b : Nat) {es : Array MapEntry} {clock : Nat} (_hm : w.heap[b]? = some (.map es clock)) (es' : Array MapEntry) (clock' : Nat) : Upd (fun k => k = b) w { w with heap := w.heap.setIfInBounds b (.map es' clock') } :=
  ⟨rfl, rfl, rfl, by simp, fun i _ hi => by simp [Array.getElem?_setIfInBounds_ne (Ne.symm hi)]⟩
def czT (P : Program) (t : TypeId) : Option Nat := match P.info? t, P.underlying t with
  | some i, some d => if d.isRow = true then some (2 * i.size + 1) else if i.size = 1 then some 2 else none
  | _, _ => none
/-- A map type: its key type, the key's kind and cells, its element type, the element's code. -/
def mapT (P : Program) (t : TypeId) : Option (TypeId × Nat × Nat × TypeId × Nat) := match P.underlying t with
  | some (.map k e) => match keyK P k, czT P e with
    | some (r, a), some b => if b < 1000 ∧ 0 < a then some (k, r, a, e, b) else none
    | _, _ => none
  | _ => none
def kcode (r a : Nat) : Nat := 2 * a + (if r = 1 then 1 else 0)
/-- The type number of a map's row. -/
def mpTy (r a b : Nat) : Nat := 2000000 + (1000 * kcode r a + b)
def valA (b : Nat) (cs : List AV) : Option AV := if b % 2 = 1 then some (.agg cs) else cs[0]?
theorem mpTy_ge (r a b : Nat) : 2000000 ≤ mpTy r a b := by unfold mpTy; omega
theorem mpTy_nlt (r a b : Nat) : ¬ mpTy r a b < 2000000 := by unfold mpTy; omega
theorem mpTy_div {r a b : Nat} (h : b < 1000) : (mpTy r a b - 2000000) / 1000 = kcode r a := by unfold mpTy; omega
theorem mpTy_mod {r a b : Nat} (h : b < 1000) : (mpTy r a b - 2000000) % 1000 = b := by unfold mpTy; omega
theorem kcode_mod {r a : Nat} : kcode r a % 2 = (if r = 1 then 1 else 0) := by unfold kcode; split <;> omega
theorem kcode_div {r a : Nat} : kcode r a / 2 = a := by unfold kcode; split <;> omega
theorem mapT_ok {t : TypeId} {k r a e b : Nat} (h : mapT P t = some (k, r, a, e, b)) : P.underlying t = some (.map k e) ∧ keyK P k = some (r, a) ∧ czT P e = some b ∧ b < 1000 ∧ 0 < a := by
  unfold mapT at h
  split at h
  · split at h
    · split at h
      · rename_i hc; cases h; exact ⟨by assumption, by assumption, by assumption, hc.1, hc.2⟩
      · cases h
    · cases h
  · cases h
theorem val_ok {b : Nat} {v : Value} (hv : cellsOk b v) {cs : List AV} {a : AV} (h : VLs F β H w cs v.cells.toList) (ho : Ones v.cells.toList) (ha : valA b cs = some a) : V F β H w a v := by
  unfold valA at ha
  unfold cellsOk at hv
  split at ha
  · rename_i hb
    rw [if_pos hb] at hv
    obtain ⟨c, rfl, -⟩ := hv
    cases ha
    have := VR.agg (I := Im F β H w) (w := w) (L := LV β H) (cs := cs) (vs := c.toList) (by simpa [Value.cells] using h.1) (by simpa [Value.cells] using ho) (fun i a v h1 h2 => h.2 i a v h1 (by simpa [Value.cells] using h2))
    simpa using this
  · rename_i hb
    rw [if_neg hb] at hv
    have hc : v.cells = #[v] := cells_one hv.1
    exact h.2 0 a v ha (by rw [hc]; rfl)

theorem VLs.nil_ : VLs F β H w [] [] := ⟨rfl, fun i a v h => by simp at h⟩
/-- What a map's handle stands for. -/
theorem map_at (hr : Rep F β H w) {id : Nat} {v : Value} (hx : V F β H w (.mh id) v) {t : TypeId} {fz : Bool} {cs : List AV} (hrow : H[id]? = some (.row t fz cs)) : ∃ (b : Nat) (es : Array MapEntry) (clock : Nat) (C : List Value), v = .map (some b) ∧ ¬ t < 2000000 ∧ β id = some (b, 0) ∧ ¬ F b ∧ w.heap[b]? = some (.map es clock) ∧ EntOk (t - 2000000) es.toList clock C ∧ VLs F β H w cs C ∧ Ones C := by
  cases hx with
  | leaf hx =>
    obtain ⟨ht, b, s, hb, rfl⟩ := hx.2.2 _ _ _ hrow
    have hnt : ¬ t < 2000000 := Nat.not_lt.2 ht
    rcases hr.row id _ _ _ hrow with ⟨-, h⟩ | ⟨b', C, vs, h1, h2, h3, h4, h5, h6, h7⟩
    · rw [h] at hb; cases hb
    · rw [szR_map hnt] at h1
      rw [h1] at hb; cases hb
      have hsz : C.size = vs.length := h3.2 (Nat.le_trans (by decide) ht)
      have hvs : vs = C.toList := by rw [← h5, List.take_of_length_le (by simp [hsz])]
      subst hvs
      have := h3.1
      unfold Sto at this
      rw [if_neg hnt] at this
      obtain ⟨es, clock, m1, m2⟩ := this
      exact ⟨_, es, clock, _, rfl, hnt, h1, h2, m1, m2, ⟨h4, h7⟩, h6⟩
/-- The map is given other entries. -/
theorem map_set (hr : Rep F β H w) {id b : Nat} {t : TypeId} {cs cs' : List AV} (hrow : H[id]? = some (.row t false cs)) (hnt : ¬ t < 2000000) (hb : β id = some (b, 0)) {es es' : Array MapEntry} {clock clock' : Nat} {C' : List Value} (hm : w.heap[b]? = some (.map es clock)) (hE : EntOk (t - 2000000) es'.toList clock' C') (hv : VLs F β H w cs' C') (ho : Ones C') :
    Rep F β (H.set id (.row t false cs')) { w with heap := w.heap.setIfInBounds b (.map es' clock') } ∧ Ext β H w β (H.set id (.row t false cs')) { w with heap := w.heap.setIfInBounds b (.map es' clock') } := by
  have hlt := (List.getElem?_eq_some_iff.1 hrow).1
  have hbl : b < w.heap.size := (Array.getElem?_eq_some_iff.1 hm).1
  have hu : Upd (fun k => k = b) w { w with heap := w.heap.setIfInBounds b (.map es' clock') } := upd_setMap w b hm es' clock'
  have he := ext_store hr hrow hb (cs' := cs') (fun h => absurd h hnt) hu
  refine ⟨⟨fun k hk => Nat.lt_of_lt_of_le (hr.far k hk) hu.size, fun j t' fz c h => ?_, fun i j ai aj b1 s1 s2 h1 h2 => ?_⟩, he⟩
  · by_cases e : id = j
    · subst e
      rw [get_set_eq hlt] at h
      cases h
      refine .inr ⟨b, C'.toArray, C', by rw [szR_map hnt]; exact hb, (hr.lt ⟨_, _, _, hrow⟩ hb).2, ⟨?_, fun _ => by simp⟩, hv.1, by simp, ho, fun i a v ha hv' => (hv.2 i a v ha hv').ext he⟩
      unfold Sto
      rw [if_neg hnt]
      exact ⟨es', clock', by simp [hbl], hE⟩
    · rw [get_set_ne e] at h
      refine (hr.row j t' fz c h).ext he rfl (fun b1 s1 h1 => ?_)
      refine hu.block b1 (hr.lt ⟨_, _, _, h⟩ h1).1 (fun eb => ?_)
      subst eb
      exact e (hr.inj id j ⟨_, _, _, hrow⟩ ⟨_, _, _, h⟩ b1 0 s1 hb h1)
  · have back : ∀ {k}, alive (H.set id (.row t false cs')) k → alive H k := by
      intro k ⟨t', fz, c, h⟩
      by_cases e : id = k
      · subst e; exact ⟨_, _, _, hrow⟩
      · rw [get_set_ne e] at h; exact ⟨_, _, _, h⟩
    exact hr.inj i j (back ai) (back aj) b1 s1 s2 h1 h2

theorem ent_chunk {n : Nat} : ∀ {es : List MapEntry} {i : Nat} {e : MapEntry}, (∀ e ∈ es, (entCells e).length = n) → es[i]? = some e → (es.flatMap entCells).drop (i * n) = entCells e ++ (es.drop (i + 1)).flatMap entCells
  | [], i, e, _, h => by simp at h
  | e0 :: es, 0, e, _, h => by simp at h; subst h; simp
  | e0 :: es, i + 1, e, hl, h => by
    have h0 := hl e0 List.mem_cons_self
    have := ent_chunk (es := es) (fun e he => hl e (List.mem_cons_of_mem _ he)) (by simpa using h)
    rw [List.flatMap_cons, Nat.succ_mul, Nat.add_comm, ← h0, List.drop_append, List.drop_of_length_le (by omega), List.nil_append]
    rw [show (entCells e0).length + i * (entCells e0).length - (entCells e0).length = i * (entCells e0).length by omega, h0, this]
    simp
theorem ent_len {n : Nat} : ∀ {es : List MapEntry}, (∀ e ∈ es, (entCells e).length = n) → (es.flatMap entCells).length = es.length * n
  | [], _ => by simp
  | e :: es, h => by
    rw [List.flatMap_cons, List.length_append, ent_len (fun e he => h e (List.mem_cons_of_mem _ he)), h e List.mem_cons_self, List.length_cons, Nat.succ_mul, Nat.add_comm]
theorem cellsOk_len {z : Nat} {v : Value} (h : cellsOk z v) : v.cells.toList.length = z / 2 := by
  unfold cellsOk at h
  split at h
  · obtain ⟨c, rfl, hc⟩ := h; simpa [Value.cells] using hc
  · obtain ⟨h1, rfl⟩ := h; rw [cells_one h1]; rfl
theorem ent_count {z clock r a b : Nat} {es : List MapEntry} {C : List Value} {cs : List AV} (hE : EntOk z es clock C) (hv : VLs F β H w cs C) (h1 : z / 1000 = kcode r a) (h2 : z % 1000 = b) : cs.length = es.length * (a + b / 2) := by
  obtain ⟨rfl, hall, -⟩ := hE
  rw [← hv.1, ent_len (n := a + b / 2) (fun e he => ?_)]
  obtain ⟨k1, k2, -⟩ := hall e he
  unfold entCells
  rw [List.length_append, cellsOk_len k1, cellsOk_len k2, h1, h2, kcode_div]
theorem cellsOk_ones {z : Nat} {v : Value} (h : cellsOk z v) (hz : z % 2 = 0) : v.oneCell' = true := by
  unfold cellsOk at h
  rw [if_neg (by omega)] at h
  exact h.1
theorem isIntC_ok {x : AV} (h : isIntC x = true) : ∃ k z, x = .c (.int k z) := by
  unfold isIntC at h
  split at h
  · exact ⟨_, _, rfl⟩
  · cases h
theorem check_int (em : Bool) (n : Nat) {kt : TypeId} {k k' : IntKind} {z : Int} (hu : P.underlying kt = some (.int k)) (w : World) : (Instr.checkKey em (n + 1) kt (.int k' z)).run P w = .ok () w := by simp [Instr.checkKey, Sem.run_bind, run_underlying hu]
theorem check_str (em : Bool) (n : Nat) {kt : TypeId} {s : ByteArray} (hu : P.underlying kt = some .string) (w : World) : (Instr.checkKey em (n + 1) kt (.string s)).run P w = .ok () w := by simp [Instr.checkKey, Sem.run_bind, run_underlying hu]
/-- A key and its value. -/
theorem key_form {r a : Nat} {kt : TypeId} (hk : keyK P kt = some (r, a)) {key : AV} {u : Value} (hf : keyForm r a key = true) (hx : V F β H w key u) : (∀ em w, (Instr.checkKey em 10000 kt u).run P w = .ok () w) ∧ VLs F β H w key.cells u.cells.toList ∧ cellsOk (kcode r a) u ∧ Ones u.cells.toList ∧
    ((r = 1 ∧ rowB P kt = true ∧ flatT P 20 kt = some a ∧ ∃ us : List Value, u = .agg us.toArray ∧ us.length = a) ∨ (r ≠ 1 ∧ a = 1 ∧ key.cells = [key] ∧ ∃ kd, P.underlying kt = some kd ∧ ((∃ k z, u = .int k z ∧ ∃ k, kd = .int k) ∨ (∃ s, u = .string s ∧ kd = .string)))) := by
  unfold keyForm at hf
  simp only [Bool.and_eq_true, decide_eq_true_eq] at hf
  obtain ⟨hl, hf⟩ := hf
  unfold keyK at hk
  split at hk
  · rename_i hrow
    obtain ⟨a', ha, hq⟩ := Option.map_eq_some_iff.1 hk
    cases hq
    rw [if_pos rfl] at hf
    simp only [Bool.and_eq_true] at hf
    obtain ⟨h1, h2⟩ := hf
    cases key <;> simp [AV.isAgg] at h1
    rename_i cs
    have hcs : ∀ x ∈ cs, isIntC x = true := by simpa [AV.cells] using h2
    cases hx with
    | leaf hx => exact hx.elim
    | agg hl' ho hv =>
      rename_i vs
      have hvl : vs.length = a := by rw [hl']; exact hl
      have hkin : Kin vs vs := fun i u v hu hv' => by
        rw [hu] at hv'; cases hv'
        have hlt := (List.getElem?_eq_some_iff.1 hu).1
        obtain ⟨k, z, he⟩ := isIntC_ok (hcs _ (List.getElem_mem (by omega : i < cs.length)))
        have := hv i _ u (List.getElem?_eq_getElem (by omega)) hu
        rw [he] at this
        have e := V.lit (F := F) (β := β) (H := H) this
        exact ⟨_, _, _, e, e⟩
      have hck := fun em w => key_ok (P := P) em 20 kt a 10000 vs w ha (by decide) hvl hkin
      rw [hrow] at hck
      refine ⟨hck, ⟨by simpa [Value.cells, AV.cells] using hl', fun i a v h1 h2 => hv i a v (by simpa [AV.cells] using h1) (by simpa [Value.cells] using h2)⟩, ?_, by simpa [Value.cells] using ho, .inl ⟨rfl, hrow, ha, vs, rfl, hvl⟩⟩
      unfold cellsOk
      rw [if_pos (by rw [kcode_mod]; rfl), kcode_div]
      exact ⟨_, rfl, by simpa using hvl⟩
  · split at hk
    · rename_i k hu
      cases hk
      rw [if_neg (by decide), if_pos rfl] at hf
      obtain ⟨k0, z, rfl⟩ := isIntC_ok hf
      obtain rfl := hx.lit
      refine ⟨fun em w => check_int em 9999 hu w, ⟨rfl, fun i a v h1 h2 => ?_⟩, ?_, fun u hu => ?_, .inr ⟨by decide, rfl, rfl, _, hu, .inl ⟨_, _, rfl, _, rfl⟩⟩⟩
      · cases i with
        | zero => simp [AV.cells, Value.cells] at h1 h2; subst h1; subst h2; exact .c rfl
        | succ i => simp [AV.cells] at h1
      · unfold cellsOk; rw [if_neg (by decide)]; exact ⟨rfl, rfl⟩
      · simp [Value.cells] at hu; subst hu; rfl
    · rename_i hu
      cases hk
      rw [if_neg (by decide), if_neg (by decide)] at hf
      obtain ⟨s, rfl⟩ : ∃ s, key = .c (.string s) := by
        unfold isStrC at hf
        split at hf
        · exact ⟨_, rfl⟩
        · cases hf
      obtain rfl := hx.lit
      refine ⟨fun em w => check_str em 9999 hu w, ⟨rfl, fun i a v h1 h2 => ?_⟩, ?_, fun u hu => ?_, .inr ⟨by decide, rfl, rfl, _, hu, .inr ⟨_, rfl, rfl⟩⟩⟩
      · cases i with
        | zero => simp [AV.cells, Value.cells] at h1 h2; subst h1; subst h2; exact .c rfl
        | succ i => simp [AV.cells] at h1
      · unfold cellsOk; rw [if_neg (by decide)]; exact ⟨rfl, rfl⟩
      · simp [Value.cells] at hu; subst hu; rfl
    · cases hk
theorem beq_ba {a b : ByteArray} (h : (a == b) = true) : a = b := by
  cases a; cases b
  simp [BEq.beq, ByteArray.beq] at h
  congr 1
  exact Array.eq_of_isEqv _ _ h
theorem same_row (n : Nat) (us : List Value) (h : ∀ u ∈ us, ∃ k z, u = .int k z) : Instr.sameBits (n + 2) (.agg us.toArray) (.agg us.toArray) = true := by
  simp only [Instr.sameBits, beq_self_eq_true, Bool.true_and, List.all_eq_true]
  intro p hp
  obtain ⟨x, y⟩ := p
  have : x = y ∧ x ∈ us := by
    have hz : ∀ (l : List Value), (x, y) ∈ l.zip l → x = y ∧ x ∈ l := by
      intro l
      induction l with
      | nil => intro h; simp at h
      | cons a l ih =>
        intro h
        simp only [List.zip_cons_cons, List.mem_cons, Prod.mk.injEq] at h
        rcases h with ⟨rfl, rfl⟩ | h
        · exact ⟨rfl, List.mem_cons_self⟩
        · exact ⟨(ih h).1, List.mem_cons_of_mem _ (ih h).2⟩
    exact hz us hp
  obtain ⟨rfl, hx⟩ := this
  obtain ⟨k, z, rfl⟩ := h x hx
  simp [Instr.sameBits]
theorem find_ok {r a b : Nat} {kt : TypeId} (hk : keyK P kt = some (r, a)) {key : AV} {u : Value} (hf : keyForm r a key = true) (hx : V F β H w key u) {es : List MapEntry} {clock z : Nat} {C : List Value} {cs : List AV} (hE : EntOk z es clock C) (hz : z / 1000 = kcode r a) (hb : z % 1000 = b) (hv : VLs F β H w cs C) {o : Option Nat} (h : findA (decide (r = 1)) a (a + b / 2) key.cells es.length cs = some o) :
    (Instr.findKey kt u es).run P w = .ok (entAt es o 0) w ∧ (∀ i, o = some i → ∃ e, es[i]? = some e ∧ Instr.sameBits 10000 e.key u = true) ∧ (∀ e ∈ es, (entCells e).length = a + b / 2) := by
  obtain ⟨-, hkc, -, -, hform⟩ := key_form hk hf hx
  obtain ⟨rfl, hall, -⟩ := hE
  have hlen : ∀ e ∈ es, (entCells e).length = a + b / 2 := fun e he => by
    obtain ⟨h1, h2, -⟩ := hall e he
    unfold entCells
    rw [List.length_append, cellsOk_len h1, cellsOk_len h2, hz, hb, kcode_div]
  rcases hform with ⟨rfl, hrow, hft, us, rfl, hul⟩ | ⟨hr1, rfl, hkey1, kd, hu, hkd⟩
  · have hwide : (match P.underlying kt with | some (.array _ _) | some (.struct _) => true | _ => false) = true := by
      unfold rowB at hrow
      cases hq : P.underlying kt with
      | none => rw [hq] at hrow; cases hrow
      | some d => rw [hq] at hrow; cases d <;> first | rfl | (simp [TypeDesc.isRow] at hrow)
    rw [run_findKey_eq w hwide]
    obtain ⟨f1, f2⟩ := findRow_ok hft hrow hul (by simpa [Value.cells] using hkc) es cs o 0 hv (fun e he => ⟨by
      obtain ⟨h1, -⟩ := hall e he
      rw [hz] at h1
      unfold cellsOk at h1
      rw [if_pos (by rw [kcode_mod]; rfl), kcode_div] at h1
      obtain ⟨c, hc, hcs⟩ := h1
      exact ⟨c.toList, by rw [hc], by simpa using hcs⟩, hlen e he⟩) (by simpa using h)
    refine ⟨f1, fun i hi => ?_, hlen⟩
    obtain ⟨e, he, hke⟩ := f2 i hi
    refine ⟨e, he, ?_⟩
    rw [hke]
    refine same_row 9998 us (fun u hu => ?_)
    obtain ⟨j, hj⟩ := List.mem_iff_getElem?.1 hu
    obtain ⟨y, hy⟩ : ∃ y, key.cells[j]? = some y := ⟨_, List.getElem?_eq_getElem (by rw [← hkc.1]; simpa [Value.cells] using (List.getElem?_eq_some_iff.1 hj).1)⟩
    have hyi : isIntC y = true := by
      unfold keyForm at hf
      simp only [Bool.and_eq_true, if_true] at hf
      have := List.all_eq_true.1 hf.2.2 y (List.mem_of_getElem? hy)
      exact this
    obtain ⟨k, q, rfl⟩ := isIntC_ok hyi
    exact ⟨k, q, V.lit (hkc.2 j _ u hy (by simpa [Value.cells] using hj))⟩
  · rw [hkey1] at h hkc
    have hdec : decide (r = 1) = false := by simp [hr1]
    rw [hdec] at h
    have hxs : V F β H w key u := hx
    obtain ⟨f1, f2⟩ := findScal_ok (kd := kd) hxs es cs o 0 hv (fun e he => ⟨by
      obtain ⟨h1, -⟩ := hall e he
      rw [hz] at h1
      exact cells_one (cellsOk_ones h1 (by rw [kcode_mod, if_neg hr1])), hlen e he⟩) hkd h
    refine ⟨by simp [Instr.findKey, Sem.run_bind, run_underlying hu, f1], fun i hi => ?_, hlen⟩
    obtain ⟨e, he, hs⟩ := f2 i hi
    refine ⟨e, he, ?_⟩
    rcases hkd with ⟨k, z, rfl, k', rfl⟩ | ⟨s, rfl, rfl⟩
    · cases hek : e.key <;> rw [hek] at hs <;> simp [Instr.sameNow] at hs
      obtain ⟨rfl, rfl⟩ := hs
      simp [Instr.sameBits]
    · cases hek : e.key <;> rw [hek] at hs <;> simp [Instr.sameNow] at hs
      obtain rfl := beq_ba hs
      exact hs

/-! ### the operations -/
def resOk : Option AV → Bool
  | none => true
  | some (.c (.int _ _)) => true
  | _ => false
theorem resOk_run {t k et : TypeId} (hu : P.underlying t = some (.map k et)) {r : Option AV} {r' : Option Value} (h1 : VO F β H w r r') (hc : resOk r = true) : (Instr.makeMap t r').run P w = .ok (.map (some w.heap.size)) (w.alloc (.map #[] 0)) := by
  unfold resOk at hc
  split at hc
  · cases r' with
    | none => simp [Instr.makeMap]
    | some v => exact h1.elim
  · cases r' with
    | none => exact h1.elim
    | some v =>
      have hx := V.lit (F := F) (β := β) (H := H) (w := w) h1
      subst hx
      simp [Instr.makeMap, Sem.run_bind, run_underlying hu, asInt, asIntOf]
  · cases hc
def makeMapA (P : Program) (H : List AObj) (t : TypeId) (r : Option AV) : Option (AV × List AObj) := match mapT P t with
  | some (_, rr, a, _, b) => if resOk r = true then some (.mh H.length, H ++ [.row (mpTy rr a b) false []]) else none
  | none => none
/-- What a lookup gives, the entry found or none. -/
def lookA (P : Program) (et : TypeId) (a b : Nat) (ok : Bool) (cs : List AV) : Option (Option Nat) → Option AV
  | some (some i) => (valA b ((cs.drop (i * (a + b / 2) + a)).take (b / 2))).map fun v => if ok = true then .tup [v, .c (.bool true)] else v
  | some none => (zeroA P et).map fun v => if ok = true then .tup [v, .c (.bool false)] else v
  | none => none
def lookupA (P : Program) (H : List AObj) (t : TypeId) (x key : AV) (ok : Bool) : Option AV := match mapT P t with
  | some (_, r, a, et, b) => if keyForm r a key = true then (match x with
    | .mh id => match H[id]? with
      | some (.row t' _ cs) => if t' = mpTy r a b then lookA P et a b ok cs (findA (decide (r = 1)) a (a + b / 2) key.cells (cs.length / (a + b / 2)) cs) else none
      | _ => none
    | .c (.map none) => lookA P et a b ok [] (some none)
    | _ => none) else none
  | none => none
/-- The entries once a key has an element. -/
def putA (a b : Nat) (key val cs : List AV) : Option (Option Nat) → Option (List AV)
  | some (some i) => some (cs.take (i * (a + b / 2)) ++ (key ++ val) ++ cs.drop ((i + 1) * (a + b / 2)))
  | some none => some (cs ++ (key ++ val))
  | none => none
def valForm (b : Nat) (x : AV) : Bool := decide (x.cells.length = b / 2) && (if b % 2 = 1 then x.isAgg else x.oneA && b == 2)
def updA (P : Program) (H : List AObj) (t : TypeId) (x key val : AV) : Option (List AObj) := match mapT P t with
  | some (_, r, a, _, b) => if keyForm r a key = true ∧ valForm b val = true then (match x with
    | .mh id => match H[id]? with
      | some (.row t' false cs) => if t' = mpTy r a b then (putA a b key.cells val.cells cs (findA (decide (r = 1)) a (a + b / 2) key.cells (cs.length / (a + b / 2)) cs)).map fun cs' => H.set id (.row t' false cs') else none
      | _ => none
    | _ => none) else none
  | none => none
def dropA (a b : Nat) (cs : List AV) : Option (Option Nat) → Option (List AV)
  | some (some i) => some (cs.take (i * (a + b / 2)) ++ cs.drop ((i + 1) * (a + b / 2)))
  | some none => some cs
  | none => none
def delA (P : Program) (H : List AObj) (t : TypeId) (x key : AV) : Option (List AObj) := match mapT P t with
  | some (_, r, a, _, b) => if keyForm r a key = true then (match x with
    | .mh id => match H[id]? with
      | some (.row t' false cs) => if t' = mpTy r a b then (dropA a b cs (findA (decide (r = 1)) a (a + b / 2) key.cells (cs.length / (a + b / 2)) cs)).map fun cs' => H.set id (.row t' false cs') else none
      | _ => none
    | .c (.map none) => some H
    | _ => none) else none
  | none => none
def lenMapA (P : Program) (H : List AObj) (t : TypeId) (x : AV) : Option AV := match mapT P t with
  | some (_, r, a, _, b) => (match x with
    | .mh id => match H[id]? with
      | some (.row t' _ cs) => if t' = mpTy r a b then some (.c (.int .i64 ((cs.length / (a + b / 2) : Nat) : Int))) else none
      | _ => none
    | .c (.map none) => some (.c (.int .i64 0))
    | _ => none)
  | none => none

theorem makeMap_ok (hr : Rep F β H w) {t : TypeId} {r : Option AV} {r' : Option Value} {a : AV} (h1 : VO F β H w r r') (h : makeMapA P H t r = some (a, H')) : Gives P F β H w (Instr.makeMap t r') a H' := by
  unfold makeMapA at h
  split at h
  · rename_i k rr n et b hm
    obtain ⟨hu, hk, hz, hb, ha⟩ := mapT_ok hm
    split at h
    · rename_i hc
      cases h
      have hrun := resOk_run (P := P) hu h1 hc
      have hup : Upd NoF w (w.alloc (.map #[] 0)) := (Upd.refl _ w).alloc _
      have hx : ∀ b s, some (w.heap.size, 0) = some (b, s) → w.heap.size ≤ b := fun b s e => by cases e; exact Nat.le_refl _
      refine ⟨_, _, _, hrun, rep_push hr hup (some (w.heap.size, 0)) hx (fun b s e f => ?_) (.inr ⟨w.heap.size, #[], [], by rw [setL_same, szR_map (mpTy_nlt _ _ _)], fun f => ?_, ⟨?_, fun _ => rfl⟩, rfl, rfl, (fun u hu => by cases hu), fun i a v h => by simp at h⟩), ext_push hr hup _ _ hx, .leaf ⟨by simp, ⟨_, rfl⟩, fun t' fz' cs' hr' => ?_⟩⟩
      · cases e; exact absurd (hr.far _ f) (by omega)
      · exact absurd (hr.far _ f) (by omega)
      · unfold Sto
        rw [if_neg (mpTy_nlt _ _ _)]
        exact ⟨#[], 0, heap_alloc_new w _, rfl, by simp, by simp⟩
      · rw [get_last] at hr'
        cases hr'
        exact ⟨mpTy_ge _ _ _, _, _, setL_same _ _ _, rfl⟩
    · cases h
  · cases h
theorem lookup_ok (hr : Rep F β H w) {t : TypeId} {x key a : AV} {v u : Value} {ok : Bool} (hx : V F β H w x v) (hk : V F β H w key u) (h : lookupA P H t x key ok = some a) : Gives P F β H w (Instr.lookup t v u ok) a H := by
  unfold lookupA at h
  split at h
  · rename_i kt r n et b hm
    obtain ⟨hu, hkk, hz, hb, hn⟩ := mapT_ok hm
    split at h
    · rename_i hf
      obtain ⟨hck, -⟩ := key_form hkk hf hk
      have tup : ∀ {a : AV} {z : Value} {q : Bool}, V F β H w a z → V F β H w (if ok = true then .tup [a, .c (.bool q)] else a) (if ok = true then .tuple #[z, .bool q] else z) := by
        intro a z q hz
        cases ok with
        | false => exact hz
        | true => exact .tup (vs := [z, .bool q]) rfl (fun i a' v' h1 h2 => by
            cases i with
            | zero => simp at h1 h2; subst h1; subst h2; exact hz
            | succ i => cases i with
              | zero => simp at h1 h2; subst h1; subst h2; exact .c rfl
              | succ i => simp at h1)
      split at h
      · rename_i id
        split at h
        · rename_i t' fz cs hrow
          split at h
          · rename_i ht
            subst ht
            obtain ⟨g, es, clock, C, rfl, hnt, hβ, hF, hh, hE, hv, ho⟩ := map_at hr hx hrow
            obtain ⟨zz, hz1, hz2, hz3⟩ : ∃ z, z = mpTy r n b - 2000000 ∧ z / 1000 = kcode r n ∧ z % 1000 = b := ⟨_, rfl, mpTy_div hb, mpTy_mod hb⟩
            rw [← hz1] at hE
            have hlen := ent_count hE hv hz2 hz3
            rw [hlen, Nat.mul_div_cancel _ (by omega)] at h
            cases hq : findA (decide (r = 1)) n (n + b / 2) key.cells es.toList.length cs with
            | none => rw [hq] at h; simp [lookA] at h
            | some o =>
              rw [hq] at h
              obtain ⟨f1, f2, f3⟩ := find_ok hkk hf hk hE hz2 hz3 hv hq
              cases o with
              | none =>
                simp only [lookA] at h
                obtain ⟨z, hz', rfl⟩ := Option.map_eq_some_iff.1 h
                obtain ⟨zv, z1, z2, -⟩ := zero_ok (P := P) (F := F) (β := β) (H := H) (w := w) hz'
                refine Gives.same hr ?_ (tup z2)
                simp only [Instr.lookup, Sem.run_bind, run_underlying hu, Result.andThen_ok, MapKept.run_getObj_map hh, Sem.run_pure, hck, f1, entAt, Option.bind_none, z1]
              | some i =>
                simp only [lookA] at h
                obtain ⟨z, hz', rfl⟩ := Option.map_eq_some_iff.1 h
                obtain ⟨e, he, -⟩ := f2 i rfl
                obtain ⟨rfl, hall, -⟩ := hE
                obtain ⟨c1, c2, -⟩ := hall e (List.mem_of_getElem? he)
                rw [hz3] at c2
                rw [hz2] at c1
                have hch := ent_chunk (n := n + b / 2) f3 he
                have hchunk : ((es.toList.flatMap entCells).drop (i * (n + b / 2) + n)).take (b / 2) = e.val.cells.toList := by
                  have k1 := cellsOk_len c1
                  have k2 := cellsOk_len c2
                  rw [kcode_div] at k1
                  rw [← List.drop_drop, hch, entCells, List.append_assoc, ← k1, List.drop_left, ← k2, List.take_left]
                have hvl := hv.sub (i * (n + b / 2) + n) (b / 2)
                rw [hchunk] at hvl
                have hon : Ones e.val.cells.toList := by
                  rw [← hchunk]; exact ho.sub _ _
                refine Gives.same hr ?_ (tup (val_ok c2 hvl hon hz'))
                simp only [Instr.lookup, Sem.run_bind, run_underlying hu, Result.andThen_ok, MapKept.run_getObj_map hh, Sem.run_pure, hck, f1, entAt, Option.bind_some, he, Option.map_some]
          · cases h
        · cases h
      · simp only [lookA] at h
        obtain ⟨z, hz', rfl⟩ := Option.map_eq_some_iff.1 h
        obtain ⟨zv, z1, z2, -⟩ := zero_ok (P := P) (F := F) (β := β) (H := H) (w := w) hz'
        obtain rfl := hx.lit
        obtain ⟨f1, -, -⟩ := find_ok (es := []) (clock := 0) (z := 1000 * kcode r n + b) (C := []) (cs := []) (o := none) hkk hf hk ⟨rfl, by simp, by simp⟩ (show (1000 * kcode r n + b) / 1000 = kcode r n by omega) (show (1000 * kcode r n + b) % 1000 = b by omega) VLs.nil_ rfl
        refine Gives.same hr ?_ (tup z2)
        simp only [Instr.lookup, Sem.run_bind, run_underlying hu, Result.andThen_ok, Sem.run_pure, hck, f1, entAt, Option.bind_none, z1]
      · cases h
    · cases h
  · cases h

theorem split_at {es : List MapEntry} {i : Nat} {e : MapEntry} (h : es[i]? = some e) : es = es.take i ++ e :: es.drop (i + 1) := by
  have hl := (List.getElem?_eq_some_iff.1 h).1
  have hd : es.drop i = e :: es.drop (i + 1) := by
    rw [List.drop_eq_getElem_cons hl, (List.getElem?_eq_some_iff.1 h).2]
  rw [← hd, List.take_append_drop]
theorem modify_at {es : List MapEntry} {i : Nat} {e : MapEntry} (h : es[i]? = some e) (f : MapEntry → MapEntry) : es.modify i f = es.take i ++ f e :: es.drop (i + 1) := by
  obtain ⟨hl, rfl⟩ := List.getElem?_eq_some_iff.1 h
  exact List.modify_eq_take_cons_drop hl
theorem erase_at {es : List MapEntry} {i : Nat} : es.eraseIdx i = es.take i ++ es.drop (i + 1) := List.eraseIdx_eq_take_drop_succ es i
theorem chunk_parts {n i : Nat} {es : List MapEntry} {e : MapEntry} (hl : ∀ e ∈ es, (entCells e).length = n) (h : es[i]? = some e) : (es.flatMap entCells).take (i * n) = (es.take i).flatMap entCells ∧ (es.flatMap entCells).drop ((i + 1) * n) = (es.drop (i + 1)).flatMap entCells := by
  have hs := split_at h
  have hi := (List.getElem?_eq_some_iff.1 h).1
  have h1 : ((es.take i).flatMap entCells).length = i * n := by
    rw [ent_len (n := n) (fun e he => hl e (List.mem_of_mem_take he)), List.length_take, Nat.min_eq_left (by omega)]
  have hf : es.flatMap entCells = (es.take i).flatMap entCells ++ (entCells e ++ (es.drop (i + 1)).flatMap entCells) := by
    conv => lhs; rw [hs]
    simp
  constructor
  · rw [hf, List.take_append_of_le_length (by omega), List.take_of_length_le (by omega)]
  · have hle := hl e (List.mem_of_getElem? h)
    rw [hf, Nat.succ_mul, ← List.drop_drop, ← h1, List.drop_left, ← hle, List.drop_left]
theorem born_at {es : List MapEntry} {i : Nat} {e e' : MapEntry} (h : es[i]? = some e) (hb : e'.born = e.born) : ((es.take i ++ e' :: es.drop (i + 1)).map (·.born)) = es.map (·.born) := by
  conv => rhs; rw [split_at h]
  simp [hb]

theorem upd_ok (hr : Rep F β H w) {t : TypeId} {x key val : AV} {v u z : Value} (hx : V F β H w x v) (hk : V F β H w key u) (hz : V F β H w val z) (h : updA P H t x key val = some H') : ∃ w', (Instr.mapUpdate t v u z).run P w = .ok () w' ∧ Rep F β H' w' ∧ Ext β H w β H' w' := by
  unfold updA at h
  split at h
  · rename_i kt r n et b hm
    obtain ⟨hu, hkk, hcz, hb, hn⟩ := mapT_ok hm
    split at h
    · rename_i hf
      obtain ⟨hf, hvf⟩ := hf
      obtain ⟨hck, hkc, hk3, hko, -⟩ := key_form hkk hf hk
      -- the element's cells
      have hzc : VLs F β H w val.cells z.cells.toList ∧ cellsOk b z ∧ Ones z.cells.toList := by
        unfold valForm at hvf
        simp only [Bool.and_eq_true, decide_eq_true_eq] at hvf
        obtain ⟨q1, q2⟩ := hvf
        split at q2
        · rename_i hbo
          cases val <;> simp [AV.isAgg] at q2
          cases hz with
          | leaf hz => exact hz.elim
          | agg hl ho hv =>
            refine ⟨⟨by simpa [Value.cells, AV.cells] using hl, fun i a v h1 h2 => hv i a v (by simpa [AV.cells] using h1) (by simpa [Value.cells] using h2)⟩, ?_, by simpa [Value.cells] using ho⟩
            unfold cellsOk
            rw [if_pos hbo]
            exact ⟨_, rfl, by simpa [AV.cells, hl] using q1⟩
        · rename_i hbo
          simp only [Bool.and_eq_true, beq_iff_eq] at q2
          obtain ⟨q3, rfl⟩ := q2
          have ho := hz.one q3
          have hvc : val.cells = [val] := by cases val <;> first | rfl | (simp [AV.oneA] at q3)
          rw [hvc, cells_one ho]
          refine ⟨⟨rfl, fun i a v h1 h2 => ?_⟩, ?_, fun u hu => by simp at hu; subst hu; exact ho⟩
          · cases i with
            | zero => simp at h1 h2; subst h1; subst h2; exact hz
            | succ i => simp at h1
          · unfold cellsOk
            rw [if_neg (by decide)]
            exact ⟨ho, rfl⟩
      obtain ⟨hz1, hz2, hz3⟩ := hzc
      split at h
      · rename_i id
        split at h
        · rename_i t' cs hrow
          split at h
          · rename_i ht
            subst ht
            obtain ⟨g, es, clock, C, rfl, hnt, hβ, hF, hh, hE, hv, ho⟩ := map_at hr hx hrow
            obtain ⟨zz, e1, e2, e3⟩ : ∃ z, z = mpTy r n b - 2000000 ∧ z / 1000 = kcode r n ∧ z % 1000 = b := ⟨_, rfl, mpTy_div hb, mpTy_mod hb⟩
            rw [← e1] at hE
            have hlen := ent_count hE hv e2 e3
            rw [hlen, Nat.mul_div_cancel _ (by omega)] at h
            obtain ⟨cs', hq, rfl⟩ := Option.map_eq_some_iff.1 h
            cases hfi : findA (decide (r = 1)) n (n + b / 2) key.cells es.toList.length cs with
            | none => rw [hfi] at hq; simp [putA] at hq
            | some o =>
              rw [hfi] at hq
              obtain ⟨f1, f2, f3⟩ := find_ok hkk hf hk hE e2 e3 hv hfi
              have hE' := hE
              obtain ⟨rfl, hall, hnd⟩ := hE
              have hent : ∀ bo, (∀ e' : MapEntry, e' = { key := u, val := z, born := bo } → entCells e' = u.cells.toList ++ z.cells.toList) := fun bo e' he => by subst he; rfl
              cases o with
              | none =>
                simp only [putA] at hq
                cases hq
                have hEn : EntOk zz (es.push { key := u, val := z, born := clock }).toList (clock + 1) (es.toList.flatMap entCells ++ (u.cells.toList ++ z.cells.toList)) := by
                  refine ⟨by simp [entCells], fun e he => ?_, ?_⟩
                  · rw [Array.toList_push] at he
                    rcases List.mem_append.1 he with he | he
                    · obtain ⟨k1, k2, k3⟩ := hall e he
                      exact ⟨k1, k2, by omega⟩
                    · simp at he; subst he
                      exact ⟨by rw [e2]; exact hk3, by rw [e3]; exact hz2, Nat.lt_succ_self _⟩
                  · rw [Array.toList_push, List.map_append, List.nodup_append]
                    refine ⟨hnd, by simp, fun a ha b' hb' hab => ?_⟩
                    simp at hb'
                    obtain ⟨e, he, rfl⟩ := List.mem_map.1 ha
                    have := (hall e he).2.2
                    omega
                obtain ⟨r1, r2⟩ := map_set hr hrow hnt hβ hh (by rw [← e1]; exact hEn) (hv.append (hkc.append hz1)) (fun q hq => by
                  rcases List.mem_append.1 hq with hq | hq
                  · exact ho q hq
                  · rcases List.mem_append.1 hq with hq | hq
                    · exact hko q hq
                    · exact hz3 q hq)
                refine ⟨_, ?_, r1, r2⟩
                simp only [Instr.mapUpdate, Sem.run_bind, run_underlying hu, Result.andThen_ok, MapKept.run_getObj_map hh, hck, f1, entAt, Option.bind_none, MapKept.run_setObj_map _ hh]
              | some i =>
                simp only [putA] at hq
                cases hq
                obtain ⟨e, he, hsame⟩ := f2 i rfl
                obtain ⟨p1, p2⟩ := chunk_parts f3 he
                have hmod : (es.modify i fun e => { e with key := u, val := z }).toList = es.toList.take i ++ { e with key := u, val := z } :: es.toList.drop (i + 1) := by
                  rw [Array.toList_modify, modify_at he]
                have hEn : EntOk zz (es.modify i fun e => { e with key := u, val := z }).toList clock ((es.toList.flatMap entCells).take (i * (n + b / 2)) ++ (u.cells.toList ++ z.cells.toList) ++ (es.toList.flatMap entCells).drop ((i + 1) * (n + b / 2))) := by
                  rw [hmod, p1, p2]
                  refine ⟨by simp [entCells], fun e' he' => ?_, ?_⟩
                  · rcases List.mem_append.1 he' with he' | he'
                    · exact hall e' (List.mem_of_mem_take he')
                    · rcases List.mem_cons.1 he' with rfl | he'
                      · exact ⟨by rw [e2]; exact hk3, by rw [e3]; exact hz2, (hall e (List.mem_of_getElem? he)).2.2⟩
                      · exact hall e' (List.mem_of_mem_drop he')
                  · exact (congrArg List.Nodup (born_at (e' := { e with key := u, val := z }) he rfl)).mpr hnd
                obtain ⟨r1, r2⟩ := map_set hr hrow hnt hβ hh (by rw [← e1]; exact hEn) (((hv.take _).append (hkc.append hz1)).append (hv.drop _)) (fun q hq => by
                  rcases List.mem_append.1 hq with hq | hq
                  · rcases List.mem_append.1 hq with hq | hq
                    · exact ho q (List.mem_of_mem_take hq)
                    · rcases List.mem_append.1 hq with hq | hq
                      · exact hko q hq
                      · exact hz3 q hq
                  · exact ho q (List.mem_of_mem_drop hq))
                refine ⟨_, ?_, r1, r2⟩
                have he2 : es[i]? = some e := by simpa using he
                simp only [Instr.mapUpdate, Sem.run_bind, run_underlying hu, Result.andThen_ok, MapKept.run_getObj_map hh, hck, f1, entAt, Option.bind_some, he, Option.map_some, Nat.add_zero, he2, Option.getD_some, Instr.keyThatStays, hsame, if_true, Sem.run_pure, MapKept.run_setObj_map _ hh]
          · cases h
        · cases h
      · cases h
    · cases h
  · cases h
theorem del_ok (hr : Rep F β H w) {t t2 ty : TypeId} {x key : AV} {v u : Value} (hx : V F β H w x v) (hk : V F β H w key u) (h : delA P H t x key = some H') : ∃ w', (Builtin.delete_ #[t, t2] ty #[v, u]).run P w = .ok (.tuple #[]) w' ∧ Rep F β H' w' ∧ Ext β H w β H' w' := by
  unfold delA at h
  split at h
  · rename_i kt r n et b hm
    obtain ⟨hu, hkk, hcz, hb, hn⟩ := mapT_ok hm
    split at h
    · rename_i hf
      obtain ⟨hck, hkc, hk3, hko, -⟩ := key_form hkk hf hk
      split at h
      · rename_i id
        split at h
        · rename_i t' cs hrow
          split at h
          · rename_i ht
            subst ht
            obtain ⟨g, es, clock, C, rfl, hnt, hβ, hF, hh, hE, hv, ho⟩ := map_at hr hx hrow
            obtain ⟨zz, e1, e2, e3⟩ : ∃ z, z = mpTy r n b - 2000000 ∧ z / 1000 = kcode r n ∧ z % 1000 = b := ⟨_, rfl, mpTy_div hb, mpTy_mod hb⟩
            rw [← e1] at hE
            have hlen := ent_count hE hv e2 e3
            rw [hlen, Nat.mul_div_cancel _ (by omega)] at h
            obtain ⟨cs', hq, rfl⟩ := Option.map_eq_some_iff.1 h
            cases hfi : findA (decide (r = 1)) n (n + b / 2) key.cells es.toList.length cs with
            | none => rw [hfi] at hq; simp [dropA] at hq
            | some o =>
              rw [hfi] at hq
              obtain ⟨f1, f2, f3⟩ := find_ok hkk hf hk hE e2 e3 hv hfi
              cases o with
              | none =>
                simp only [dropA] at hq
                cases hq
                obtain ⟨r1, r2⟩ := map_set hr hrow hnt hβ hh (by rw [← e1]; exact hE) hv ho
                refine ⟨_, ?_, r1, r2⟩
                simp [Builtin.delete_, Sem.run_bind, run_underlying hu, MapKept.run_getObj_map hh, hck, f1, entAt, MapKept.run_setObj_map _ hh]
              | some i =>
                simp only [dropA] at hq
                cases hq
                obtain ⟨rfl, hall, hnd⟩ := hE
                obtain ⟨e, he, hsame⟩ := f2 i rfl
                obtain ⟨p1, p2⟩ := chunk_parts f3 he
                have hmod : (es.eraseIdxIfInBounds i).toList = es.toList.take i ++ es.toList.drop (i + 1) := by
                  rw [Array.toList_eraseIdxIfInBounds, erase_at]
                have hEn : EntOk zz (es.eraseIdxIfInBounds i).toList clock ((es.toList.flatMap entCells).take (i * (n + b / 2)) ++ (es.toList.flatMap entCells).drop ((i + 1) * (n + b / 2))) := by
                  rw [hmod, p1, p2]
                  refine ⟨by simp, fun e' he' => ?_, ?_⟩
                  · rcases List.mem_append.1 he' with he' | he'
                    · exact hall e' (List.mem_of_mem_take he')
                    · exact hall e' (List.mem_of_mem_drop he')
                  · refine List.Sublist.nodup ?_ hnd
                    rw [← erase_at]
                    exact (List.eraseIdx_sublist _ _).map _
                obtain ⟨r1, r2⟩ := map_set hr hrow hnt hβ hh (by rw [← e1]; exact hEn) ((hv.take _).append (hv.drop _)) (fun q hq => by
                  rcases List.mem_append.1 hq with hq | hq
                  · exact ho q (List.mem_of_mem_take hq)
                  · exact ho q (List.mem_of_mem_drop hq))
                refine ⟨_, ?_, r1, r2⟩
                have he2 : es[i]? = some e := by simpa using he
                simp [Builtin.delete_, Sem.run_bind, run_underlying hu, MapKept.run_getObj_map hh, hck, f1, entAt, he2, MapKept.run_setObj_map _ hh]
          · cases h
        · cases h
      · cases h
        obtain rfl := hx.lit
        refine ⟨w, ?_, hr, Ext.refl _ _ _⟩
        simp [Builtin.delete_, Sem.run_bind, run_underlying hu, hck]
      · cases h
    · cases h
  · cases h
theorem lenMap_ok (hr : Rep F β H w) {t ty : TypeId} {x a : AV} {v : Value} (hx : V F β H w x v) (h : lenMapA P H t x = some a) : Gives P F β H w (Builtin.len_ #[t] ty #[v]) a H := by
  unfold lenMapA at h
  split at h
  · rename_i kt r n et b hm
    obtain ⟨hu, hkk, hcz, hb, hn⟩ := mapT_ok hm
    split at h
    · split at h
      · rename_i hrow
        split at h
        · rename_i ht
          subst ht
          cases h
          obtain ⟨g, es, clock, C, rfl, hnt, hβ, hF, hh, hE, hv, ho⟩ := map_at hr hx hrow
          have hlen := ent_count hE hv (mpTy_div hb) (mpTy_mod hb)
          refine Gives.same hr ?_ (.c rfl)
          rw [hlen, Nat.mul_div_cancel _ (by omega)]
          simp [Builtin.len_, Sem.run_bind, run_underlying hu, MapKept.run_getObj_map hh, goInt]
        · cases h
      · cases h
    · cases h
      obtain rfl := hx.lit
      exact Gives.same hr (by simp [Builtin.len_, Sem.run_bind, run_underlying hu, goInt]) (.c rfl)
    · cases h
  · cases h

/-! ### range over a map of no entries -/
def rangeA (P : Program) (H : List AObj) (t : TypeId) (x : AV) : Option AV := match P.underlying t with
  | some (.map _ _) => (match x with
    | .mh id => match H[id]? with
      | some (.row _ _ _) => some (.itr (.mh id))
      | _ => none
    | .c (.map none) => some (.itr (.c (.map none)))
    | _ => none)
  | _ => none
def nextA (H : List AObj) (x : AV) (str : Bool) : Option AV := if str = true then none else match x with
  | .itr (.c (.map none)) => some (.tup [.c (.bool false)])
  | .itr (.mh id) => (match H[id]? with
    | some (.row t _ []) => if 2000 ≤ t - 2000000 then some (.tup [.c (.bool false)]) else none
    | _ => none)
  | _ => none
theorem range_ok (hr : Rep F β H w) {t : TypeId} {x a : AV} {v : Value} (hx : V F β H w x v) (h : rangeA P H t x = some a) : Gives P F β H w (Instr.range t v) a H := by
  unfold rangeA at h
  split at h
  · rename_i k e hu
    have fin : ∀ (m : Option Nat) (c : Nat) (b : AV), V F β H w b (.map m) → (Instr.range t (.map m)).run P w = .ok (.pointer (some ⟨w.heap.size, 0, none⟩)) (w.alloc (.mapIter m c #[] c)) → Gives P F β H w (Instr.range t (.map m)) (.itr b) H := by
      intro m c b hb hrun
      have hup : Upd NoF w (w.alloc (.mapIter m c #[] c)) := (Upd.refl _ w).alloc _
      refine ⟨_, _, β, hrun, hr.upd hup, Ext.of_upd hup hr, .itr (since := c) (c := c) ⟨Nat.lt_of_lt_of_eq (Nat.lt_succ_self _) (Array.size_push ..).symm, fun f => absurd (hr.far _ f) (by omega), fun mb => absurd (hr.mb_lt mb).1 (by omega)⟩ ?_ (hb.ext (Ext.of_upd hup hr))⟩
      exact Array.getElem?_push_size
    split at h
    · split at h
      · rename_i hrow
        cases h
        obtain ⟨g, es, clock, C, rfl, hnt, hβ, hF, hh, hE, hv, ho⟩ := map_at hr hx hrow
        exact fin _ clock _ hx (by simp [Instr.range, Sem.run_bind, run_underlying hu, MapKept.run_getObj_map hh, newObj, Sem.run])
      · cases h
    · cases h
      obtain rfl := hx.lit
      exact fin _ 0 _ hx (by simp [Instr.range, Sem.run_bind, run_underlying hu, newObj, Sem.run])
    · cases h
  · cases h
theorem run_next_none {m : Option Nat} {r since c : Nat} {ty : TypeId} (hh : w.heap[r]? = some (.mapIter m since #[] c)) (hm : ∀ b, m = some b → ∃ clock, w.heap[b]? = some (.map #[] clock)) : (Instr.next (.pointer (some ⟨r, 0, none⟩)) false ty).run P w = .ok (.tuple #[.bool false]) w := by
  cases m with
  | none => simp [Instr.next, getObj, Sem.run_bind, Sem.run, hh]
  | some b =>
    obtain ⟨clock, hb⟩ := hm b rfl
    simp [Instr.next, getObj, Sem.run_bind, Sem.run, hh, hb, choose, Question.forced]
theorem next_ok (hr : Rep F β H w) {ty : TypeId} {x a : AV} {v : Value} {str : Bool} (hx : V F β H w x v) (h : nextA H x str = some a) : Gives P F β H w (Instr.next v str ty) a H := by
  unfold nextA at h
  split at h
  · cases h
  · rename_i hs
    obtain rfl : str = false := by simpa using hs
    have hf : V F β H w (.tup [.c (.bool false)]) (.tuple #[.bool false]) := .tup (vs := [.bool false]) rfl (fun i a v h1 h2 => by
      cases i with
      | zero => simp at h1 h2; subst h1; subst h2; exact .c rfl
      | succ i => simp at h1)
    split at h
    · cases h
      cases hx with
      | leaf hx => exact hx.elim
      | itr hb hh hv =>
        have := V.lit hv
        cases this
        exact Gives.same hr (run_next_none hh (fun b e => by cases e)) hf
    · rename_i id
      split at h
      · rename_i hrow
        split at h
        · rename_i hz
          cases h
          cases hx with
          | leaf hx => exact hx.elim
          | itr hb hh hv =>
            obtain ⟨g, es, clock, C, e, hnt, hβ, hF, hm, hE, hvl, ho⟩ := map_at hr hv hrow
            cases e
            refine Gives.same hr (run_next_none hh (fun b e => ?_)) hf
            cases e
            have hC : C = [] := List.eq_nil_of_length_eq_zero (by rw [hvl.1]; rfl)
            obtain ⟨e1, e2, -⟩ := hE
            have : es.toList = [] := by
              cases hes : es.toList with
              | nil => rfl
              | cons x l =>
                rw [hes, hC] at e1
                have hk := (e2 x (by rw [hes]; exact List.mem_cons_self ..)).1
                have hl := cellsOk_len hk
                have : x.key.cells.size = 0 := by
                  have := congrArg List.length e1
                  simp [entCells] at this
                  omega
                rw [← Array.length_toList] at this
                have h2 := (Nat.le_div_iff_mul_le (k := 1000) (x := 2) (by decide)).2 hz
                have h3 := (Nat.le_div_iff_mul_le (k := 2) (x := 1) (by decide)).2 h2
                rw [← hl, this] at h3
                cases h3
            have : es = #[] := by simpa using this
            subst this
            exact ⟨clock, hm⟩
        · cases h
      · cases h
    · cases h
end
end
end Go.Proofs.YthknobbilcolnaaGreat
