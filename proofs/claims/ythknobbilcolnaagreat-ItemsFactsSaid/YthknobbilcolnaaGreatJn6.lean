/- clear of a slice that may be written. No condition. Operations on abstract values: make, strings out of bytes, conversions; all operations in one function, and that the machine's operations do as it says. No condition. The machine's operations do as the operations on abstract values say. No condition. -/
import Derived.Test.YthknobbilcolnaaGreatEv8m
import Derived.Laws.BytesString
namespace Go.Proofs.YthknobbilcolnaaGreat
section
open Go.RowKit

section
variable {P : Program} {F : Nat → Prop} {β β' : Loc} {H H' : List AObj} {w w' : World}
def clearA (P : Program) (H : List AObj) (t : TypeId) (x : AV) : Option (AV × List AObj) :=
  match P.underlying t with
  | some (.slice e) => match zeroA P e, x with
    | some (.c z), .own id off n k => match H[id]? with
      | some (.row t' false cs) => if k = 1 ∧ off + n ≤ cs.length then some (.tup [], H.set id (.row t' false (splice cs off (List.replicate n (.c z))))) else none
      | _ => none
    | _, _ => none
  | _ => none
theorem clear_ok (hr : Rep F β H w) {t ty : TypeId} {x a : AV} {v : Value} (hx : V F β H w x v) (h : clearA P H t x = some (a, H')) : Gives P F β H w (Builtin.clear_ #[t] ty #[v]) a H' := by
  unfold clearA at h
  split at h
  · rename_i e ht
    split at h
    · rename_i z id off n k hz
      split at h
      · rename_i t' cs hrow
        split at h
        · rename_i hc
          obtain ⟨rfl, hfit⟩ := hc
          cases h
          have hzr : ∀ w, (zeroValue e).run P w = .ok z w ∧ plainV z = true := fun w => by
            obtain ⟨u, h1, h2, -⟩ := zero_ok (P := P) (F := fun _ => False) (β := fun _ => none) (H := []) (w := w) hz
            cases h2 with
            | leaf h => exact h.elim
            | c hp => exact ⟨h1, hp⟩
          have hz1 : z.oneCell' = true := plain_one (hzr w).2
          have hzc : z.cells = #[z] := cells_one hz1
          rcases Nat.eq_zero_or_pos n with h0 | h0
          · subst h0
            obtain ⟨d, cap, rfl⟩ : ∃ d cap, v = .slice d 0 cap := len_form (x := .own id off 0 1) (by simp [liveB, hrow]) hx rfl
            rw [List.replicate_zero, splice_nil, set_same hrow]
            refine ⟨.tuple #[], w, β, ?_, hr, Ext.refl _ _ _, .tup (vs := []) rfl (fun i a v h => by simp at h)⟩
            cases d <;> simp [Builtin.clear_, run_underlying ht]
          · cases hx with
            | leaf hx =>
              obtain ⟨k1, k2, k3⟩ := hx.2.2 _ _ _ hrow
              rcases k3 with ⟨hn0, -⟩ | ⟨b, s, cap, hb, rfl, k4, k5, k6⟩
              · omega
              · obtain ⟨C, vs, -, -, hC0, q1, q2, -, -, -⟩ := (hr.row id _ _ _ hrow).at_ hb (hx.2.1.2 _ _ _ hrow)
                have hC := hC0.1
                have hCl : vs.length ≤ C.size := by
                  have := congrArg List.length q2
                  rw [List.length_take] at this
                  simp at this
                  omega
                have hlr : (List.replicate n z).length = n := List.length_replicate
                have run := run_storeCells_at (P := P) b off (t' % 1000000) (List.replicate n z) 0 C w hC (by rw [hlr]; omega) (fun u hu => by rw [List.eq_of_mem_replicate hu]; exact hz1)
                obtain ⟨r1, r2⟩ := store_row hr hrow hb (off := off) (az := List.replicate n (.c z)) (us := List.replicate n z) (by simp; omega) (hx.2.1.2 _ _ _ hrow) hC (by simp) (fun u hu => by rw [List.eq_of_mem_replicate hu]; exact hz1) (fun i a v ha hv => by
                  rw [List.eq_of_mem_replicate (List.mem_of_getElem? ha), List.eq_of_mem_replicate (List.mem_of_getElem? hv)]
                  exact .c (hzr w).2)
                refine ⟨.tuple #[], _, β, ?_, r1, r2, .tup (vs := []) rfl (fun i a v h => by simp at h)⟩
                have hzl : (Builtin.zeroCells z.cells n).toList = List.replicate n z := by
                  rw [hzc]
                  simp [Builtin.zeroCells]
                  apply List.ext_getElem
                  · simp
                  · intro i h1 h2
                    simp [Nat.mod_one]
                obtain ⟨m, rfl⟩ : ∃ m, n = m + 1 := ⟨n - 1, by omega⟩
                simp only [Nat.add_zero] at run
                simp [Builtin.clear_, run_underlying ht, (hzr w).1, hzl, run]
        · cases h
      · cases h
    · cases h
  · cases h
end
end

section
open Go.RowKit

section
variable {P : Program} {F : Nat → Prop} {β β' : Loc} {H H' : List AObj} {w w' : World}

def makeSliceA (P : Program) (H : List AObj) (t : TypeId) (l c : AV) : Option (AV × List AObj) :=
  match P.underlying t, l, c with
  | some (.slice e), .c (.int _ l), .c (.int _ c) => match P.info? e, zeroA P e with
    | some i, some z => if 0 ≤ l ∧ l ≤ c ∧ c ≤ 140737488355328 ∧ (i.bytes : Int) * c ≤ 140737488355328 ∧ z.cells.length = i.size ∧ 0 < i.size then some (.own H.length 0 l.toNat i.size, H ++ [.row e false (reps c.toNat z.cells)]) else none
    | _, _ => none
  | _, _, _ => none
theorem makeSlice_ok (hr : Rep F β H w) {t : TypeId} {l c a : AV} {v u : Value} (hl : V F β H w l v) (hc : V F β H w c u) (h : makeSliceA P H t l c = some (a, H')) : Gives P F β H w (Instr.makeSlice t v u) a H' := by
  unfold makeSliceA at h
  split at h
  · rename_i e k l' k' c' ht
    obtain rfl := hl.int
    obtain rfl := hc.int
    split at h
    · rename_i i z hi hz
      split at h
      · rename_i hcond
        obtain ⟨c1, c2, c3, c4, c5, c6⟩ := hcond
        cases h
        obtain ⟨v, z1, z2, z3⟩ := zero_ok (P := P) (F := F) (β := β) (H := H) (w := w) hz
        obtain ⟨us, u1, u2, u3, u4⟩ := z2.st z3
        have hs : (sizeOf e).run P w = .ok i.size w := by simp [sizeOf, typeInfo, hi]
        obtain ⟨n, rfl⟩ : ∃ n : Nat, (n : Int) = l' := ⟨l'.toNat, by omega⟩
        obtain ⟨m, rfl⟩ : ∃ m : Nat, (m : Int) = c' := ⟨c'.toNat, by omega⟩
        simp only [Int.toNat_natCast]
        have hul : us.length = i.size := by omega
        have he := zero_lt hz
        obtain ⟨w', β', n1, n2, n3, n4⟩ := new_row_ok (P := P) (t := e) (t0 := e) (cs := reps m z.cells) (vs := reps m us) hr (ty_c he) (Nat.mod_eq_of_lt he) (by simp [reps_len, u2]) (fun u hu => by
            simp [reps] at hu
            obtain ⟨l, hl, hu⟩ := hu
            exact u3 u (by rw [← hl.2]; exact hu)) (fun j a v ha hv => by
            have hj : j < m * us.length := by
              have := (List.getElem?_eq_some_iff.1 ha).1
              rw [reps_len] at this
              rw [u2]
              exact this
            rw [reps_get m j hj] at hv
            rw [reps_get m j (by rw [← u2]; exact hj), ← u2] at ha
            exact u4 _ a v ha hv)
        have hzr := zero_reps (zs := us) (n := m) (.inl (by omega))
        have hsz : us.toArray.size = us.length := by simp
        rw [hsz] at hzr
        have hwl : IntKind.i64.wrap (n : Int) = n := IntWalk.i64_in _ (by omega)
        have hwc : IntKind.i64.wrap (m : Int) = m := IntWalk.i64_in _ (by omega)
        have nl : ¬ (decide ((m : Int) < 0) || decide ((i.bytes : Int) * (m : Int) > 2 ^ 48)) = true := by simp; omega
        have hroom : (askRoom (m * i.bytes)).run P w = .ok () w := by unfold askRoom; split <;> rfl
        refine ⟨.slice (some ⟨w.heap.size, 0, none⟩) n m, w', β', ?_, n2, n3, .leaf ⟨by simp, ⟨sl0.some_ _ _ _, noMap_last (ty_c he)⟩, fun t' fz' cs' hr' => ?_⟩⟩
        · simp only [Instr.makeSlice, Sem.run_bind, run_underlying ht, Result.andThen_ok, asInt, asIntOf, Sem.run_pure, typeInfo, program, Sem.run, hi, hwl, hwc]
          have hcnd : ¬ ((decide ((m : Int) < 0) || decide ((i.bytes : Int) * (m : Int) > 2 ^ 48) || decide ((n : Int) < 0) || decide ((n : Int) > (m : Int))) = true) := by simp; omega
          rw [if_neg hcnd]
          simp only [Int.toNat_natCast, Sem.run_bind, hroom, Result.andThen_ok, hs]
          by_cases hm : m * i.size = 0
          · have hm0 : m = 0 := by
              rcases Nat.mul_eq_zero.1 hm with h | h
              · exact h
              · omega
            subst hm0
            have e0 : ∀ f : Nat → Value, Array.map f (Array.range 0) = #[] := fun f => Array.eq_empty_of_size_eq_zero (by simp)
            simp only [hm, if_true, Sem.run_bind, Sem.run_pure, Result.andThen_ok, e0]
            have := n1
            simp only [show (reps 0 us).toArray = #[] from rfl] at this
            rw [this]
            simp
          · rw [if_neg hm]
            simp only [Sem.run_bind, z1, Result.andThen_ok, Sem.run_pure, u1]
            rw [hsz, ← hul, hzr, n1]
            simp
        · rw [get_last] at hr'
          cases hr'
          have e1 : n * i.size ≤ m * i.size := Nat.mul_le_mul_right _ (by omega)
          refine ⟨by rw [reps_len]; rw [c5]; omega, by simp only [maxLen]; omega, .inr ⟨_, _, m, n4, rfl, by omega, by simp only [maxLen]; omega, by rw [reps_len, hul]; omega⟩⟩
      · cases h
    · cases h
  · cases h

/-! ### conversions -/
def byteC : AV → Option Int
  | .c (.int .u8 n) => some n
  | _ => none
def strA (l : List Int) : Value := .string (l.foldl (fun r n => r.push (UInt8.ofNat n.toNat)) ByteArray.empty)
def isIntT (P : Program) (t : TypeId) : Bool := match P.underlying t with | some (.int _) => true | _ => false
def isByteT (P : Program) (t : TypeId) : Bool := match P.underlying t with | some (.int .u8) => true | _ => false
def convA (P : Program) (H : List AObj) (src dst : TypeId) (x : AV) : Option AV :=
  match P.underlying src, P.underlying dst with
  | some (.int _), some (.int k) => match x with
    | .c (.int _ n) => some (.c (.int k (k.wrap n)))
    | _ => none
  | some (.slice e), some .string => if isByteT P e = true then (match srcA H 1 x with | some (_, ys) => (ys.mapM byteC).map fun l => .c (strA l) | none => none) else none
  | _, _ => none
theorem bytes_get {cs : List AV} : ∀ {l : List Int}, cs.mapM byteC = some l → ∀ {us : List Value}, us.length = cs.length → (∀ (i : Nat) (a : AV) (u : Value), cs[i]? = some a → us[i]? = some u → V F β H w a u) → us = l.map (Value.int .u8) := by
  induction cs with
  | nil => intro l h us hl _; simp at h; subst h; exact List.eq_nil_of_length_eq_zero hl
  | cons c cs ih =>
    intro l h us hl hv
    simp only [List.mapM_cons, Option.bind_eq_bind, Option.bind_eq_some_iff, Option.pure_def, Option.some.injEq] at h
    obtain ⟨n, hn, l', hl', rfl⟩ := h
    cases us with
    | nil => simp at hl
    | cons u us =>
      have h0 := hv 0 c u rfl rfl
      have hc : c = .c (.int .u8 n) := by
        unfold byteC at hn
        split at hn
        · cases hn; rfl
        · cases hn
      subst hc
      rw [h0.int, List.map_cons, ih hl' (us := us) (by simpa using hl) (fun i a u ha hu => hv (i + 1) a u (by simpa using ha) (by simpa using hu))]
theorem conv_ok (hr : Rep F β H w) {src dst : TypeId} {x a : AV} {v : Value} (hx : V F β H w x v) (h : convA P H src dst x = some a) : Gives P F β H w (convert src dst v) a H := by
  unfold convA at h
  split at h
  · rename_i k1 k h1 h2
    split at h
    · rename_i k0 n
      cases h
      obtain rfl := hx.int
      exact Gives.same hr (by simp [convert, run_underlying h1, run_underlying h2, Sem.run_bind, Conv.intToInt]) (.c rfl)
    · cases h
  · rename_i e h1 h2
    split at h
    · rename_i he
      have he' : P.underlying e = some (.int .u8) := by
        unfold isByteT at he
        split at he
        · assumption
        · cases he
      split at h
      · rename_i m ys hs
        obtain ⟨l, hl, rfl⟩ := Option.map_eq_some_iff.1 h
        obtain ⟨us, e1, e2, e3, e4⟩ := src_ok hr hx hs
        have hul := e1.len
        rw [Nat.mul_one] at hul
        obtain ⟨A, c, rfl, -, -, -, hA⟩ := e1
        have hus := bytes_get hl e2 e4
        subst hus
        have conv : ∀ y, (convert src dst (.slice A m c)).run P w = .ok y w ↔ (Conv.bytesToString (.slice A m c)).run P w = .ok y w := by
          intro y
          cases A <;> simp [convert, run_underlying h1, run_underlying h2, run_underlying he', Sem.run_bind]
        refine Gives.same hr ((conv _).2 ?_) (.c rfl)
        cases A with
        | none =>
          have hm : m = 0 := by
            rcases Nat.eq_zero_or_pos m with h | h
            · exact h
            · obtain ⟨b, o, hb, -⟩ := hA h; cases hb
          subst hm
          have : l = [] := List.eq_nil_of_length_eq_zero (by simpa using hul)
          subst this
          rfl
        | some a =>
          have hload : (loadCells a m).run P w = .ok (l.map (Value.int .u8)).toArray w := by
            rw [← hul]
            refine run_loadCells_list (P := P) w a _ (fun j v hv => ?_)
            have hm : 0 < m := by
              have := (List.getElem?_eq_some_iff.1 hv).1
              omega
            obtain ⟨b, o, hb, hc⟩ := hA hm
            cases hb
            rw [Addr.add_mid']
            exact hc j v hv
          exact run_bytesToString w a m c l hload
      · cases h
    · cases h
  · cases h

/-! ### all operations -/
inductive StepA where
  | val (a : AV) (H : List AObj)
  | call (f : FuncId) (args : List AV)

def callable (P : Program) (f : FuncId) : Bool := match P.funcs[f]? with | some fn => !(fn.name == "runtime.NumGoroutine") && !fn.body.isNone | none => false
/-- Has a function a body? -/
def hasBody (P : Program) (f : FuncId) : Prop := ∃ fn c, P.funcs[f]? = some fn ∧ fn.body = some c
/-- The literal that reflectlite.Swapper hands back at slices of structs. -/
def extS (P : Program) (f : FuncId) : Bool := match P.funcs[f]? with | some fn => fn.body.isNone && (fn.name == "internal/reflectlite.Swapper$9") | none => false
theorem extS_body {f : FuncId} (h : extS P f = true) (hb : hasBody P f) : False := by
  obtain ⟨fn, c, h1, h2⟩ := hb
  unfold extS at h
  rw [h1] at h
  simp [h2] at h
theorem callable_body {f : FuncId} (h : callable P f = true) : hasBody P f := by
  unfold callable at h
  split at h
  · rename_i fn hf
    simp only [Bool.and_eq_true, Bool.not_eq_true', Option.isNone_eq_false_iff, Option.isSome_iff_exists] at h
    obtain ⟨c, hc⟩ := h.2
    exact ⟨fn, c, hf, hc⟩
  · cases h
/-- A call of a function with a body ends so, or one without a body answers so. -/
def CallsX (P : Program) (f : FuncId) (vs : Array Value) (w : World) (Q : Ending → World → Prop) : Prop := (hasBody P f ∧ Calls P f vs w Q) ∨ (extS P f = true ∧ ∃ v w', (callFunc f vs).run P w = .ok (.value v) w' ∧ Q (.returned v) w')
theorem CallsX.mono {f : FuncId} {vs : Array Value} {w : World} {Q Q' : Ending → World → Prop} (h : CallsX P f vs w Q) (hq : ∀ e w', Q e w' → Q' e w') : CallsX P f vs w Q' := by
  rcases h with ⟨h1, h2⟩ | ⟨h1, v, w', h2, h3⟩
  · exact .inl ⟨h1, Calls.mono h2 hq⟩
  · exact .inr ⟨h1, v, w', h2, hq _ _ h3⟩
def Ran (P : Program) (s : Sem Next) (f : FuncId) (vs : Array Value) (w : World) : Prop := (callable P f = true ∧ s.run P w = .ok (.enter f vs) w) ∨ (extS P f = true ∧ s.run P w = (callFunc f vs).run P w)
theorem Ran.cases_ {s : Sem Next} {f : FuncId} {vs : Array Value} {w : World} {Q : Ending → World → Prop} (h : Ran P s f vs w) (hc : CallsX P f vs w Q) : (s.run P w = .ok (.enter f vs) w ∧ Calls P f vs w Q) ∨ ∃ v w', s.run P w = .ok (.value v) w' ∧ Q (.returned v) w' := by
  rcases h with ⟨h1, h2⟩ | ⟨h1, h2⟩
  · rcases hc with ⟨k1, k2⟩ | ⟨k1, -⟩
    · exact .inl ⟨h2, k2⟩
    · exact (extS_body k1 (callable_body h1)).elim
  · rcases hc with ⟨k1, -⟩ | ⟨-, v, w', k2, k3⟩
    · exact (extS_body h1 k1).elim
    · exact .inr ⟨v, w', by rw [h2]; exact k2, k3⟩
def constA (v : Value) : AV := fromV v

def minA (op : Builtin) : List AV → Option AV
  | [.c (.int k a), .c (.int k' b)] => if k = k' then match op with
      | .min => some (.c (.int k (if b < a then b else a)))
      | .max => some (.c (.int k (if b > a then b else a)))
      | _ => none
    else none
  | _ => none
def strT (P : Program) (t : TypeId) : Bool := match P.underlying t with | some .string => true | _ => false
def sliceT (P : Program) (t : TypeId) : Bool := match P.underlying t with | some (.slice _) => true | _ => false
def builtinA (P : Program) (H : List AObj) (b : Builtin) (ts : List TypeId) (args : List AV) : Option (AV × List AObj) :=
  match b, ts, args with
  | .len, [t], [x] => if sliceT P t = true ∧ liveB H x = true then (lenA x).map fun (n : Nat) => (AV.c (.int .i64 (n : Int)), H) else match x with
    | .c (.string s) => (pv P (Builtin.len_ #[t] 0 #[.string s])).map fun v => (fromV v, H)
    | x => (lenMapA P H t x).map (·, H)
  | .delete, [t, _], [x, k] => (delA P H t x k).map fun H' => (.tup [], H')
  | .clear, [t], [x] => clearA P H t x
  | .append, [t, t'], [x, y] => if t = t' then appendA P H t x y else none
  | .copy, [t, t'], [x, y] => if t = t' then copyA P H t x y else none
  | .min, _, args => (minA .min args).map (·, H)
  | .max, _, args => (minA .max args).map (·, H)
  | _, _, _ => none

def calleeA (P : Program) (ρ : Operand → AV) : Operand → List AV → Option StepA := fun f args =>
  match ρ f with
  | .fn f caps => if callable P f = true ∨ extS P f = true then some (.call f (args ++ caps)) else none
  | _ => none

def orA (x y : Option AV) : Option AV := match x with | some a => some a | none => y
def ifcA (P : Program) (t : TypeId) (x : AV) : Option AV := match P.underlying t with | some (.interface _) => none | some _ => some (.ifc t x) | none => none
noncomputable def opA (P : Program) (H : List AObj) (ρ : Operand → AV) (o : Oper) : Option StepA :=
  let v (x : Option AV) : Option StepA := x.map (.val · H)
  let s (x : Option (AV × List AObj)) : Option StepA := x.map fun p => .val p.1 p.2
  match o.op with
  | .move x | .assign x => v (some (ρ x))
  | .pick c a b => match ρ c with
    | .c (.bool t) => v (some (if t then ρ a else ρ b))
    | _ => none
  | .alloc t => s (allocA P H t)
  | .box t x => s (boxA H t (ρ x))
  | .build t parts => v (buildA P t (parts.toList.map fun p => (p.1, ρ p.2)))
  | .buildSlice t len parts => s (buildSliceA P H t len (parts.toList.map fun p => (p.1, ρ p.2)))
  | .load t x => v (loadA P H t (ρ x))
  | .store t x y => (storeA P H t (ρ x) (ρ y)).map fun H' => .val .any H'
  | .nilCheck x => match ρ x with
    | .ptr id off => v (some (.ptr id off))
    | .pe e off => v (some (.pe e off))
    | .fn f caps => v (some (.fn f caps))
    | _ => none
  | .binOp op t x y _ => v (orA (binA P op t x y (ρ x) (ρ y)) (nlA P op t (ρ x) (ρ y)))
  | .unOp op _ x => match toV (ρ x) with
    | some u => v ((pv P (Op.unary op u)).map fromV)
    | none => none
  | .convert src dst x => v (convA P H src dst (ρ x))
  | .makeFunc (.func f) first caps => if first.size = 0 then v (some (.fn f (caps.toList.map ρ))) else none
  | .makeSlice t l c => s (makeSliceA P H t (ρ l) (ρ c))
  | .makeMap t r => s (makeMapA P H t (r.map ρ))
  | .lookup t x k ok => v (lookupA P H t (ρ x) (ρ k) ok)
  | .mapUpdate t m k x => (updA P H t (ρ m) (ρ k) (ρ x)).map fun H' => .val .any H'
  | .insert t m k x => (updA P H t (ρ m) (ρ k) (ρ x)).map fun H' => .val .any H'
  | .makeInterface t x => v (ifcA P t (ρ x))
  | .range t x => v (rangeA P H t (ρ x))
  | .next x str => v (nextA H (ρ x) str)
  | .slice t x lo hi mx => if liveB H (ρ x) = true then v (sliceA P H t (ρ x) (lo.map ρ) (hi.map ρ) (mx.map ρ)) else none
  | .fieldAddr t x f => if liveB H (ρ x) = true then v (fieldAddrA P t (ρ x) f) else none
  | .field t x f => v (fieldA P t (ρ x) f)
  | .indexAddr t x i => if liveB H (ρ x) = true then v (indexAddrA P t (ρ x) (ρ i)) else none
  | .index t x i => match ρ x, ρ i with
    | .c (.string s), .c (.int _ z) => if strT P t = true then (if 0 ≤ z then v ((s[z.toNat]?).map fun b => .c (.int .u8 b.toNat)) else none) else none
    | _, _ => v (indexA P t (ρ x) (ρ i))
  | .extract x i => match ρ x with
    | .tup vs => v (vs[i]?)
    | _ => none
  | .call c => match c.callee with
    | .builtin b => s (builtinA P H b c.argTypes.toList (c.args.toList.map ρ))
    | .value f => calleeA P ρ f (c.args.toList.map ρ)
    | _ => none
  | _ => none

/-- What an operation is owed. -/
def StepOk (P : Program) (F : Nat → Prop) (β : Loc) (H : List AObj) (w : World) (ρ : Operand → Value) (o : Oper) : StepA → Prop
  | .val a H' => ∃ v w' β', ((execOp ρ o).run P w = .ok (.value v) w' ∨ (execOp ρ o).run P w = .ok .skip w' ∧ v = undef) ∧ Rep F β' H' w' ∧ Ext β H w β' H' w' ∧ V F β' H' w' a v
  | .call f args => ∃ vs : List Value, Ran P (execOp ρ o) f vs.toArray w ∧ vs.length = args.length ∧ ∀ (i : Nat) (a : AV) (v : Value), args[i]? = some a → vs[i]? = some v → V F β H w a v
theorem StepOk.of {o : Oper} {ρ : Operand → Value} {s : Sem Value} {a : AV} (h : Gives P F β H w s a H') (he : execOp ρ o = (do pure (.value (← s)))) : StepOk P F β H w ρ o (.val a H') := by
  obtain ⟨v, w', β', h1, h2, h3, h4⟩ := h
  exact ⟨v, w', β', .inl (by rw [he]; simp [h1]), h2, h3, h4⟩
end
end

section
open Go.RowKit

section
variable {P : Program} {F : Nat → Prop} {β β' : Loc} {H H' : List AObj} {w w' : World}

theorem V.fn_form {f : FuncId} {cs : List AV} {v : Value} (h : V F β H w (.fn f cs) v) : ∃ vs : List Value, v = .func (.func f) #[] vs.toArray ∧ vs.length = cs.length ∧ ∀ (i : Nat) (a : AV) (u : Value), cs[i]? = some a → vs[i]? = some u → V F β H w a u := by
  cases h with
  | leaf h => exact h.elim
  | fn hl hv => exact ⟨_, rfl, hl, hv⟩
theorem V.tup_form {cs : List AV} {v : Value} (h : V F β H w (.tup cs) v) : ∃ vs : List Value, v = .tuple vs.toArray ∧ vs.length = cs.length ∧ ∀ (i : Nat) (a : AV) (u : Value), cs[i]? = some a → vs[i]? = some u → V F β H w a u := by
  cases h with
  | leaf h => exact h.elim
  | tup hl hv => exact ⟨_, rfl, hl, hv⟩
theorem V.str_form {s : ByteArray} {v : Value} (h : V F β H w (.c (.string s)) v) : v = .string s := by
  cases h with
  | leaf h => exact h.elim
  | c h => rfl
theorem VO.of {ρA : Operand → AV} {ρ : Operand → Value} (h : ∀ x, V F β H w (ρA x) (ρ x)) (o : Option Operand) : VO F β H w (o.map ρA) (o.map ρ) := by
  cases o with
  | none => trivial
  | some x => exact h x
theorem parts_of {ρA : Operand → AV} {ρ : Operand → Value} (h : ∀ x, V F β H w (ρA x) (ρ x)) (ps : Array (Nat × Operand)) : partsV F β H w (ps.toList.map fun p => (p.1, ρA p.2)) (ps.map fun (i, x) => (i, ρ x)).toList := by
  refine ⟨by simp, fun i p q hp hq => ?_⟩
  rw [Array.toList_map, List.getElem?_map] at hq
  rw [List.getElem?_map] at hp
  cases hx : ps.toList[i]? with
  | none => rw [hx] at hp; cases hp
  | some x =>
    rw [hx] at hp hq
    cases hp
    cases hq
    exact ⟨rfl, h _⟩
theorem list_of {ρA : Operand → AV} {ρ : Operand → Value} (h : ∀ x, V F β H w (ρA x) (ρ x)) (xs : List Operand) (i : Nat) (a : AV) (v : Value) (ha : (xs.map ρA)[i]? = some a) (hv : (xs.map ρ)[i]? = some v) : V F β H w a v := by
  rw [List.getElem?_map] at ha hv
  cases hx : xs[i]? with
  | none => rw [hx] at ha; cases ha
  | some x =>
    rw [hx] at ha hv
    cases ha
    cases hv
    exact h _

theorem min_ok (hr : Rep F β H w) {ts : Array TypeId} {ty : TypeId} {args : List AV} {vs : List Value} {a : AV} (hl : vs.length = args.length) (hv : ∀ (i : Nat) (a : AV) (v : Value), args[i]? = some a → vs[i]? = some v → V F β H w a v) :
    (minA .min args = some a → Gives P F β H w (Builtin.min_ ts ty vs.toArray) a H) ∧ (minA .max args = some a → Gives P F β H w (Builtin.max_ ts ty vs.toArray) a H) := by
  have form : ∀ {op}, minA op args = some a → ∃ k x y, vs = [.int k x, .int k y] ∧ args = [.c (.int k x), .c (.int k y)] := by
    intro op h
    unfold minA at h
    split at h
    · rename_i k x k' y
      split at h
      · rename_i hk
        subst hk
        match vs, hl with
        | [u, v], _ =>
          have h0 := hv 0 _ u rfl rfl
          have h1 := hv 1 _ v rfl rfl
          rw [h0.int, h1.int]
          exact ⟨k, x, y, rfl, rfl⟩
      · cases h
    · cases h
  constructor
  · intro h
    obtain ⟨k, x, y, rfl, rfl⟩ := form h
    simp only [minA, if_true] at h
    cases h
    exact Gives.same hr (v := .int k (if y < x then y else x)) (by rfl) (.c rfl)
  · intro h
    obtain ⟨k, x, y, rfl, rfl⟩ := form h
    simp only [minA, if_true] at h
    cases h
    exact Gives.same hr (v := .int k (if y > x then y else x)) (by rfl) (.c rfl)

theorem gives_builtin {o : Oper} {ρ : Operand → Value} {c : Call} {b : Builtin} {s : Sem Value} {a : AV} (ho : o.op = .call c) (hc : c.callee = .builtin b) (h : Gives P F β H w s a H') (he : ∀ cs, builtin b c.argTypes o.type cs (c.args.map ρ) = (do pure (.value (← s)))) : StepOk P F β H w ρ o (.val a H') := by
  refine StepOk.of h ?_
  unfold execOp
  rw [ho]
  simp only [resolve, hc]
  exact he _

theorem builtin_ok (hr : Rep F β H w) {o : Oper} {ρA : Operand → AV} {ρ : Operand → Value} (hρ : ∀ x, V F β H w (ρA x) (ρ x)) {c : Call} {b : Builtin} {a : AV} (ho : o.op = .call c) (hc : c.callee = .builtin b) (h : builtinA P H b c.argTypes.toList (c.args.toList.map ρA) = some (a, H')) : StepOk P F β H w ρ o (.val a H') := by
  have hargs : c.args.map ρ = (c.args.toList.map ρ).toArray := by apply Array.ext'; simp
  have hall := list_of hρ c.args.toList
  have hlen : (c.args.toList.map ρ).length = (c.args.toList.map ρA).length := by simp
  generalize hx : c.args.toList.map ρA = xs at *
  generalize hy : c.args.toList.map ρ = ys at *
  have hts : c.argTypes = c.argTypes.toList.toArray := by simp
  generalize ht : c.argTypes.toList = ts at *
  unfold builtinA at h
  split at h
  · rename_i t x
    match ys, hlen with
    | [u], _ =>
      have h0 := hall 0 _ u rfl rfl
      split at h
      · rename_i hcond
        obtain ⟨n, hn, hq⟩ := Option.map_eq_some_iff.1 h
        cases hq
        obtain ⟨e, he⟩ : ∃ e, P.underlying t = some (.slice e) := by
          have := hcond.1
          unfold sliceT at this
          split at this
          · exact ⟨_, by assumption⟩
          · cases this
        exact gives_builtin ho hc (len_ok (ty := o.type) hr he hcond.2 h0 hn) (fun cs => by rw [hts, hargs]; rfl)
      · split at h
        · rename_i s
          obtain ⟨v, hv, hq⟩ := Option.map_eq_some_iff.1 h
          cases hq
          obtain rfl := h0.str_form
          exact gives_builtin ho hc (pure_ok hr hv) (fun cs => by rw [hts, hargs]; rfl)
        · obtain ⟨v, hv, hq⟩ := Option.map_eq_some_iff.1 h
          cases hq
          exact gives_builtin ho hc (lenMap_ok (ty := o.type) hr h0 hv) (fun cs => by rw [hts, hargs]; rfl)
  · rename_i t t' x k
    match ys, hlen with
    | [u, v], _ =>
      obtain ⟨H1, h1, hq⟩ := Option.map_eq_some_iff.1 h
      cases hq
      obtain ⟨w', e1, e2, e3⟩ := del_ok (t2 := t') (ty := o.type) hr (hall 0 _ u rfl rfl) (hall 1 _ v rfl rfl) h1
      exact gives_builtin ho hc ⟨_, w', β, e1, e2, e3, .tup (vs := []) rfl (fun i a v h => by simp at h)⟩ (fun cs => by rw [hts, hargs]; rfl)
  · match ys, hlen with
    | [u], _ => exact gives_builtin ho hc (clear_ok (ty := o.type) hr (hall 0 _ u rfl rfl) h) (fun cs => by rw [hts, hargs]; rfl)
  · rename_i t t' x y
    split at h
    · rename_i hq
      subst hq
      match ys, hlen with
      | [u, v], _ =>
        exact gives_builtin ho hc (append_ok (ty := o.type) hr (hall 0 _ u rfl rfl) (hall 1 _ v rfl rfl) h) (fun cs => by rw [hts, hargs]; rfl)
    · cases h
  · rename_i t t' x y
    split at h
    · rename_i hq
      subst hq
      match ys, hlen with
      | [u, v], _ =>
        exact gives_builtin ho hc (copy_ok (ty := o.type) hr (hall 0 _ u rfl rfl) (hall 1 _ v rfl rfl) h) (fun cs => by rw [hts, hargs]; rfl)
    · cases h
  · obtain ⟨v, hv, hq⟩ := Option.map_eq_some_iff.1 h
    cases hq
    exact gives_builtin ho hc ((min_ok (ts := c.argTypes) (ty := o.type) hr hlen hall).1 hv) (fun cs => by rw [hargs]; rfl)
  · obtain ⟨v, hv, hq⟩ := Option.map_eq_some_iff.1 h
    cases hq
    exact gives_builtin ho hc ((min_ok (ts := c.argTypes) (ty := o.type) hr hlen hall).2 hv) (fun cs => by rw [hargs]; rfl)
  · cases h

theorem callee_ok (_hr : Rep F β H w) {o : Oper} {ρA : Operand → AV} {ρ : Operand → Value} (hρ : ∀ x, V F β H w (ρA x) (ρ x)) {c : Call} {f : Operand} {st : StepA} (ho : o.op = .call c) (hc : c.callee = .value f) (h : calleeA P ρA f (c.args.toList.map ρA) = some st) : StepOk P F β H w ρ o st := by
  unfold calleeA at h
  split at h
  · rename_i g caps hg
    split at h
    · rename_i hcall
      cases h
      have hf := hρ f
      rw [hg] at hf
      obtain ⟨vs, hf', hl, hv⟩ := hf.fn_form
      refine ⟨c.args.toList.map ρ ++ vs, ?_, by simp [hl], fun i a v ha hv' => ?_⟩
      · by_cases hcal : callable P g = true
        case neg =>
          have he := hcall.resolve_left hcal
          refine .inr ⟨he, ?_⟩
          unfold execOp
          rw [ho]
          simp only [resolve, hc, hf', Deferred.ofValue, Sem.run_bind, Sem.run_pure, Result.andThen_ok, invoke]
          have ha : #[] ++ Array.map ρ c.args ++ vs.toArray = (List.map ρ c.args.toList ++ vs).toArray := by apply Array.ext'; simp
          rw [← ha]
        replace hcall := hcal
        refine .inl ⟨hcall, ?_⟩
        have hfn : ∃ fn, P.funcs[g]? = some fn ∧ (fn.name == "runtime.NumGoroutine") = false ∧ fn.body.isNone = false := by
          unfold callable at hcall
          split at hcall
          · rename_i fn hfn
            simp only [Bool.and_eq_true, Bool.not_eq_true'] at hcall
            exact ⟨fn, hfn, hcall.1, hcall.2⟩
          · cases hcall
        obtain ⟨fn, q1, q2, q3⟩ := hfn
        unfold execOp
        rw [ho]
        simp only [resolve, hc, hf', Deferred.ofValue, Sem.run_bind, Sem.run_pure, Result.andThen_ok, invoke, callFunc, program, Sem.run, q1, q2, q3]
        simp
      · rw [List.getElem?_append] at ha hv'
        simp only [List.length_map] at ha hv'
        split at ha
        · rw [if_pos (by assumption)] at hv'
          exact list_of hρ _ i a v ha hv'
        · rw [if_neg (by assumption)] at hv'
          exact hv _ a v ha hv'
    · cases h
  · cases h

theorem op_ok (hr : Rep F β H w) {o : Oper} {ρA : Operand → AV} {ρ : Operand → Value} (hρ : ∀ x, V F β H w (ρA x) (ρ x)) {st : StepA} (h : opA P H ρA o = some st) : StepOk P F β H w ρ o st := by
  unfold opA at h
  have val : ∀ {x : Option AV}, x.map (StepA.val · H) = some st → ∃ a, x = some a ∧ st = .val a H := fun {x} hx => by
    obtain ⟨a, h1, h2⟩ := Option.map_eq_some_iff.1 hx
    exact ⟨a, h1, h2.symm⟩
  have vals : ∀ {x : Option (AV × List AObj)}, x.map (fun p => StepA.val p.1 p.2) = some st → ∃ a H', x = some (a, H') ∧ st = .val a H' := fun {x} hx => by
    obtain ⟨⟨a, H'⟩, h1, h2⟩ := Option.map_eq_some_iff.1 hx
    exact ⟨a, H', h1, h2.symm⟩
  split at h <;> rename_i ho
  · obtain ⟨a, h1, rfl⟩ := val h
    cases h1
    exact ⟨_, w, β, .inl (by unfold execOp; rw [ho]; rfl), hr, Ext.refl _ _ _, hρ _⟩
  · obtain ⟨a, h1, rfl⟩ := val h
    cases h1
    exact ⟨_, w, β, .inl (by unfold execOp; rw [ho]; rfl), hr, Ext.refl _ _ _, hρ _⟩
  · rename_i c x y
    split at h
    · rename_i t hc
      obtain ⟨a, h1, rfl⟩ := val h
      cases h1
      have hb := hρ c
      rw [hc] at hb
      have : ρ c = .bool t := by
        generalize ρ c = u at hb
        cases hb with
        | leaf h => exact h.elim
        | c h => rfl
      refine ⟨if t then ρ x else ρ y, w, β, .inl ?_, hr, Ext.refl _ _ _, ?_⟩
      · unfold execOp; rw [ho]; simp [this, asBool]
      · cases t <;> exact hρ _
    · cases h
  · obtain ⟨a, H', h1, rfl⟩ := vals h
    exact .of (alloc_ok hr h1) (by unfold execOp; rw [ho])
  · obtain ⟨a, H', h1, rfl⟩ := vals h
    exact .of (box_ok hr (hρ _) h1) (by unfold execOp; rw [ho])
  · obtain ⟨a, h1, rfl⟩ := val h
    exact .of (build_ok hr (parts_of hρ _) h1) (by unfold execOp; rw [ho])
  · obtain ⟨a, H', h1, rfl⟩ := vals h
    exact .of (buildSlice_ok hr (parts_of hρ _) h1) (by unfold execOp; rw [ho])
  · obtain ⟨a, h1, rfl⟩ := val h
    exact .of (load_ok hr (hρ _) h1) (by unfold execOp; rw [ho])
  · obtain ⟨H', h1, rfl⟩ := Option.map_eq_some_iff.1 h
    obtain ⟨w', e1, e2, e3⟩ := store_ok (P := P) hr (hρ _) (hρ _) h1
    exact ⟨undef, w', β, .inr ⟨by unfold execOp; rw [ho]; simp [e1], rfl⟩, e2, e3, .any _⟩
  · rename_i x
    have hx := hρ x
    split at h
    · rename_i id off hq
      obtain ⟨a, h1, rfl⟩ := val h
      cases h1
      rw [hq] at hx
      obtain ⟨b, hb⟩ := hx.ptr_form rfl
      exact ⟨_, w, β, .inl (by unfold execOp; rw [ho]; simp only [hb]; rfl), hr, Ext.refl _ _ _, by rw [hb] at hx; exact hx⟩
    · rename_i e off hq
      obtain ⟨a, h1, rfl⟩ := val h
      cases h1
      rw [hq] at hx
      obtain ⟨b, hb⟩ := hx.ptr_form rfl
      exact ⟨_, w, β, .inl (by unfold execOp; rw [ho]; simp only [hb]; rfl), hr, Ext.refl _ _ _, by rw [hb] at hx; exact hx⟩
    · rename_i f caps hq
      obtain ⟨a, h1, rfl⟩ := val h
      cases h1
      rw [hq] at hx
      obtain ⟨vs, hb⟩ : ∃ vs, ρ x = .func (.func f) #[] vs := by
        generalize ρ x = u at hx
        cases hx with
        | leaf h => exact h.elim
        | fn => exact ⟨_, rfl⟩
      exact ⟨_, w, β, .inl (by unfold execOp; rw [ho]; simp only [hb]; rfl), hr, Ext.refl _ _ _, by rw [hb] at hx; exact hx⟩
    · cases h
  · obtain ⟨a, h1, rfl⟩ := val h
    unfold orA at h1
    split at h1
    · rename_i b hb
      cases h1
      exact .of (bin_ok hr (hρ _) (hρ _) hb) (by unfold execOp; rw [ho])
    · exact .of (nil_ok hr (hρ _) (hρ _) h1) (by unfold execOp; rw [ho])
  · split at h
    · rename_i u hu
      obtain ⟨a, h1, rfl⟩ := val h
      obtain ⟨x, hx, rfl⟩ := Option.map_eq_some_iff.1 h1
      have := (hρ _).toV hu
      exact .of (pure_ok hr hx) (by unfold execOp; rw [ho]; simp only [this])
    · cases h
  · obtain ⟨a, h1, rfl⟩ := val h
    exact .of (conv_ok hr (hρ _) h1) (by unfold execOp; rw [ho])
  · rename_i f first caps
    split at h
    · rename_i hz
      obtain ⟨a, h1, rfl⟩ := val h
      cases h1
      have hf : first = #[] := Array.eq_empty_of_size_eq_zero hz
      subst hf
      refine ⟨.func (.func f) #[] (caps.toList.map ρ).toArray, w, β, .inl ?_, hr, Ext.refl _ _ _, .fn (by simp) (list_of hρ _)⟩
      have hcs : caps.map ρ = (caps.toList.map ρ).toArray := by apply Array.ext'; simp
      unfold execOp; rw [ho]; simp [Instr.makeFunc, hcs]
    · cases h
  · obtain ⟨a, H', h1, rfl⟩ := vals h
    exact .of (makeSlice_ok hr (hρ _) (hρ _) h1) (by unfold execOp; rw [ho])
  · obtain ⟨a, H', h1, rfl⟩ := vals h
    exact .of (makeMap_ok hr (VO.of hρ _) h1) (by unfold execOp; rw [ho])
  · obtain ⟨a, h1, rfl⟩ := val h
    exact .of (lookup_ok hr (hρ _) (hρ _) h1) (by unfold execOp; rw [ho])
  · obtain ⟨H', h1, rfl⟩ := Option.map_eq_some_iff.1 h
    obtain ⟨w', e1, e2, e3⟩ := upd_ok (P := P) hr (hρ _) (hρ _) (hρ _) h1
    exact ⟨undef, w', β, .inr ⟨by unfold execOp; rw [ho]; simp [e1], rfl⟩, e2, e3, .any _⟩
  · obtain ⟨H', h1, rfl⟩ := Option.map_eq_some_iff.1 h
    obtain ⟨w', e1, e2, e3⟩ := upd_ok (P := P) hr (hρ _) (hρ _) (hρ _) h1
    exact ⟨undef, w', β, .inr ⟨by unfold execOp; rw [ho]; simp [e1], rfl⟩, e2, e3, .any _⟩
  · rename_i t x
    obtain ⟨a, h1, rfl⟩ := val h
    unfold ifcA at h1
    split at h1
    · cases h1
    · rename_i d hnd hd
      cases h1
      refine ⟨.iface t (ρ x), w, β, .inl ?_, hr, Ext.refl _ _ _, .ifc (hρ _)⟩
      unfold execOp
      rw [ho]
      simp only [Instr.makeInterface, Sem.run_bind, run_underlying hd, Result.andThen_ok]
      cases d <;> first | exact absurd rfl (hnd _) | rfl
    · cases h1
  · obtain ⟨a, h1, rfl⟩ := val h
    exact .of (range_ok hr (hρ _) h1) (by unfold execOp; rw [ho])
  · obtain ⟨a, h1, rfl⟩ := val h
    exact .of (next_ok hr (hρ _) h1) (by unfold execOp; rw [ho])
  · split at h
    · rename_i hl
      obtain ⟨a, h1, rfl⟩ := val h
      exact .of (slice_ok hr hl (hρ _) (VO.of hρ _) (VO.of hρ _) (VO.of hρ _) h1) (by unfold execOp; rw [ho])
    · cases h
  · split at h
    · rename_i hl
      obtain ⟨a, h1, rfl⟩ := val h
      exact .of (fieldAddr_ok hr hl (hρ _) h1) (by unfold execOp; rw [ho])
    · cases h
  · obtain ⟨a, h1, rfl⟩ := val h
    exact .of (field_ok hr (hρ _) h1) (by unfold execOp; rw [ho])
  · split at h
    · rename_i hl
      obtain ⟨a, h1, rfl⟩ := val h
      exact .of (indexAddr_ok hr hl (hρ _) (hρ _) h1) (by unfold execOp; rw [ho])
    · cases h
  · rename_i t x i
    split at h
    · rename_i s k z hx hi
      dsimp only at h
      split at h
      · rename_i ht
        split at h
        · rename_i hz
          obtain ⟨a, h1, rfl⟩ := val h
          obtain ⟨b, hb, rfl⟩ := Option.map_eq_some_iff.1 h1
          have hx' := hρ x
          have hi' := hρ i
          rw [hx] at hx'
          rw [hi] at hi'
          have e1 := hx'.str_form
          have e2 := hi'.int
          have ht' : P.underlying t = some .string := by
            unfold strT at ht
            split at ht
            · assumption
            · cases ht
          refine .of (s := Instr.index t (ρ x) (ρ i)) (Gives.same hr (v := .int .u8 b.toNat) ?_ (.c rfl)) (by unfold execOp; rw [ho])
          rw [e1, e2]
          simp [Instr.index, asIntOf, run_underlying ht', Sem.run_bind, hz, hb]
        · cases h
      · cases h
    · obtain ⟨a, h1, rfl⟩ := val h
      exact .of (index_ok hr (hρ _) (hρ _) h1) (by unfold execOp; rw [ho])
  · rename_i x i
    split at h
    · rename_i vs hq
      obtain ⟨a, h1, rfl⟩ := val h
      have hx := hρ x
      rw [hq] at hx
      obtain ⟨us, hx', hl, hv⟩ := hx.tup_form
      obtain ⟨u, hu⟩ : ∃ u, us[i]? = some u := ⟨_, List.getElem?_eq_getElem (by rw [hl]; exact (List.getElem?_eq_some_iff.1 h1).1)⟩
      exact ⟨u, w, β, .inl (by unfold execOp; rw [ho]; simp [hx', Instr.extract, hu]), hr, Ext.refl _ _ _, hv i a u h1 hu⟩
    · cases h
  · rename_i c
    split at h
    · rename_i b hc
      obtain ⟨a, H', h1, rfl⟩ := vals h
      exact builtin_ok hr hρ ho hc h1
    · rename_i f hc
      exact callee_ok hr hρ ho hc h
    · cases h
  · cases h
end
end
end Go.Proofs.YthknobbilcolnaaGreat
