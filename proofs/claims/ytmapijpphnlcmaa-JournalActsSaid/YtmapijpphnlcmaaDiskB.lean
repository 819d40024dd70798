/- Files and the choices of package disk. Condition: fewer than 2^43 files. -/
import Derived.Test.YtmapijpphnlcmaaDiskA
namespace Go.Proofs.Ytmapijpphnlcmaa
open Go.RowKit Go.Maps

theorem le_of_before : ∀ (a b : List UInt8), bytesBefore a b = true → a ≤ b
  | [], _, _ => List.nil_le _
  | _ :: _, [], h => by simp [bytesBefore] at h
  | x :: a, y :: b, h => by
    simp only [bytesBefore, Bool.or_eq_true, Bool.and_eq_true, decide_eq_true_eq, beq_iff_eq] at h
    rcases h with h | ⟨rfl, h⟩
    · exact List.le_of_lt (List.Lex.rel h)
    · rw [List.cons_le_cons_iff]
      exact .inr ⟨rfl, le_of_before a b h⟩

theorem mergeSort_names {L : List FRec} (h : L.Pairwise (fun a b => bytesBefore a.nm b.nm = true)) : (L.map (·.nm)).mergeSort (fun x y => decide (x ≤ y)) = L.map (·.nm) := by
  refine List.mergeSort_of_pairwise ?_
  rw [List.pairwise_map]
  exact h.imp (fun {a b} hab => by simpa using le_of_before _ _ hab)

/-- A new slice of strings. -/
def NewS (w : World) (ss : List (List UInt8)) (v : Value) (w' : World) : Prop :=
  Own w' 9 1 v ss.length (ss.map strV) ∧ (∀ k, OwnB v k → w.heap.size ≤ k) ∧ Upd NoF w w'
def StrsPost (w : World) (ss : List (List UInt8)) (e : Ending) (w' : World) : Prop := ∃ A c, e = .returned (.slice A ss.length c) ∧ NewS w ss (.slice A ss.length c) w'

section
variable {w : World} {d mb : Nat} {s : DSt} {F : Nat → Prop} {L : List FRec} {off armed : Bool} {left : Nat}

theorem keys_any (mb : Nat) (W : World) : Calls Try.prog 69 #[.map (some mb)] W fun e w' => e = .returned (.func (.func 80) #[] #[.pointer (some ⟨W.heap.size, 0, none⟩)]) ∧ w' = W.alloc (.cells #[.map (some mb)] 71) :=
  callsIn_wide.1 (Try.maps_Keys_69 (some mb) W)

theorem sorted_any (h : DiskL w d mb off armed left L) (hL : L.length ≤ 8796093022208) :
    Calls Try.prog 68 #[.func (.func 80) #[] #[.pointer (some ⟨w.heap.size, 0, none⟩)]] (w.alloc (.cells #[.map (some mb)] 71)) (StrsPost w (L.map (·.nm))) := by
  have hsz : Maps.size (mapD L) = L.length := by simp [mapD, Maps.size]
  refine (callsIn_wide.1 (Try.slices_Sorted_keys_68_69 mb L.length (mapD L) fileR w h.files (by rw [hsz]; unfold maxLen; omega) (by rw [hsz]; omega))).mono ?_
  rintro e w' ⟨v, ss, rfl, hp, hrow, _, hb⟩
  have hk : strKeys (mapD L) = L.map (·.nm) := by simp [mapD, strKeys, entD, strOf, Function.comp_def]
  rw [hk] at hp
  have hs : ss.mergeSort (fun x y => decide (x ≤ y)) = L.map (·.nm) := (mergeSort_of_perm hp).trans (mergeSort_names h.sorted)
  have hlen : ss.length = (L.map (·.nm)).length := hp.length_eq
  rw [hs, hlen] at hrow
  obtain ⟨h1, h2⟩ := own_of_ownsRow hrow
  obtain ⟨A, c, rfl⟩ := h1.form
  refine ⟨A, c, rfl, h1, fun k hk => by have := h2 k hk; simp at this; omega, ?_⟩
  exact ((Upd.refl NoF w).alloc _).trans (Upd.of_below (F := NoF) hb (fun i hi h => by omega)) (fun _ _ h => h)

theorem files_nil (w : World) : Calls Try.prog 39 #[.pointer none] w fun e w' => e = .returned (.slice none 0 0) ∧ w = w' := by
  go_enter Try.func39, Try.ntmps39
  go_wp2
  go_ret
  exact ⟨rfl, rfl⟩

theorem files_any (h : DiskL w d mb off armed left L) (hL : L.length ≤ 8796093022208) : Calls Try.prog 39 #[ptrV d] w (StrsPost w (L.map (·.nm))) := by
  have c0 : w.cell? ⟨d, 0, none⟩ = some (.map (some mb)) := h.head.cell 0
  have S := Lib.hid (sorted_any h hL)
  clear h hL
  go_enter Try.func39, Try.ntmps39
  go_wp2_with (first
    | (go_at_call 69; refine (keys_any _ _).mono ?_; rintro e w' ⟨rfl, rfl⟩)
    | (go_at_call 68; refine S.out.mono ?_; rintro e w' ⟨A, c, rfl, hn⟩))
  go_ret
  exact ⟨A, c, by simp, hn⟩

theorem files_spec (h : DiskAt w d s F) (hL : s.fs.length ≤ 8796093022208) : Calls Try.prog 39 #[ptrV d] w (StrsPost w (s.fs.map (·.1))) := by
  obtain ⟨mb, L, hd, hs, rfl⟩ := h
  have e : s.fs.map (·.1) = L.map (·.nm) := by rw [hs]; simp [absL, absR, Function.comp_def]
  rw [e]
  exact files_any hd (by rw [hs] at hL; simpa [absL] using hL)

/-- The next pick. -/
def PickPost (F : Nat → Prop) (w : World) (cb : Nat) (r : Nat × List Int) (e : Ending) (w' : World) : Prop :=
  e = .returned (.int .i64 (r.1 : Int)) ∧ ∃ v', Blk w' cb 82 #[v'] ∧ RdI F w' v' r.2 ∧ Upd (fun k => k = cb) w w'

theorem tmod_fix (p : Int) (n : Nat) (hn : 0 < n) : (if p.tmod n < 0 then p.tmod n + n else p.tmod n) = ((p % (n : Int)).toNat : Int) := by
  have h1 : 0 ≤ p % (n : Int) := Int.emod_nonneg _ (by omega)
  rw [Int.toNat_of_nonneg h1, Int.tmod_eq_emod]
  have h2 : p % (n : Int) < n := Int.emod_lt_of_pos _ (by omega)
  split <;> split <;> simp at * <;> omega

theorem RdI.cut {F : Nat → Prop} {w : World} {A : Option Addr} {c : Nat} {p : Int} {ps : List Int} (h : RdI F w (.slice A (ps.length + 1) c) (p :: ps)) {g o : Nat} (hA : A = some ⟨g, o, none⟩) (A' : Option Addr) (hA' : c ≠ 1 → A' = some ⟨g, o + 1, none⟩) :
    RdI F w (.slice A' ps.length (c - 1)) ps := by
  intro w' hu
  obtain ⟨A0, c0, he, hn, hc, hl, hx⟩ := h w' hu
  injection he with e1 e2 e3
  subst e1 e3
  refine ⟨A', c - 1, rfl, by simp at hn; omega, by omega, by simp, fun h0 => ?_⟩
  obtain ⟨g1, o1, e, hcell⟩ := hx (by simp)
  rw [hA] at e
  injection e with e
  injection e with e1 e2
  subst e1 e2
  refine ⟨g, o + 1, hA' (by simp at hn; omega), fun j u hu => ?_⟩
  have := hcell (j + 1) u (by simpa using hu)
  rw [show o + 1 + j = o + (j + 1) by omega]
  exact this

set_option maxRecDepth 100000 in
theorem below_any (cb : Nat) (v : Value) (picks : List Int) (n : Nat) (w : World) (hb : Blk w cb 82 #[v]) (hv : RdI F w v picks) (hF : F cb) (hn : 0 < n) (hn2 : n ≤ 4611686018427387904) (hp : ∀ z ∈ picks, -9223372036854775808 ≤ z ∧ z ≤ 9223372036854775807) :
    Calls Try.prog 44 #[ptrV cb, .int .i64 n] w (PickPost F w cb (below picks n)) := by
  cases picks with
  | nil =>
    obtain ⟨A, c, rfl, hnc, hc, _⟩ := hv.now
    have c0 : w.cell? ⟨cb, 0, none⟩ = some (.slice A 0 c) := hb.cell 0
    have H := Lib.hid hb
    have V := Lib.hid hv
    clear hb hv hp hnc hc
    go_enter Try.func44, Try.ntmps44
    go_wp2
    go_ret
    exact ⟨rfl, _, H.out, V.out, Upd.refl _ _⟩
  | cons p ps =>
    obtain ⟨A, c, rfl, hnc, hc, _, hx⟩ := hv.now
    obtain ⟨g, o, rfl, hcell⟩ := hx (by simp)
    have c0 : w.cell? ⟨cb, 0, none⟩ = some (.slice (some ⟨g, o, none⟩) (ps.length + 1) c) := hb.cell 0
    have f0 : w.frozen? ⟨cb, 0, none⟩ = false := hb.frozen 0
    have c1 : w.cell? ⟨g, o, none⟩ = some (.int .i64 p) := by simpa using hcell 0 _ rfl
    obtain ⟨hp1, hp2⟩ := hp p (by simp)
    have fin : ∀ A', (c ≠ 1 → A' = some ⟨g, o + 1, none⟩) → ∀ r : Int, r = (if p.tmod n < 0 then p.tmod n + n else p.tmod n) → PickPost F w cb (below (p :: ps) n) (.returned (.int .i64 r)) (w.setCell ⟨cb, 0, none⟩ (.slice A' ps.length (c - 1))) := by
      intro A' hA' r hr
      have hu : Upd (fun k => k = cb) w (w.setCell ⟨cb, 0, none⟩ (.slice A' ps.length (c - 1))) := (Upd.refl (fun k => k = cb) w).setCell (p := ⟨cb, 0, none⟩) (.inl rfl) _
      refine ⟨?_, _, hb.put 0 _, (RdI.cut hv rfl A' hA').upd (hu.mono (fun k _ e => e ▸ hF)), hu⟩
      rw [hr, tmod_fix p n hn]
      rfl
    have FIN := Lib.hid fin
    have hlo : -(n : Int) < p.tmod n := by
      have := Int.tmod_lt_of_pos (-p) (b := n) (by omega)
      rw [Int.neg_tmod] at this
      omega
    have hhi : p.tmod n < n := Int.tmod_lt_of_pos _ (by omega)
    simp at hnc
    unfold maxLen at hc
    have hne : ((n : Int) == 0) = false := by simp; omega
    clear hb hv hp hx hcell fin
    by_cases hc1 : c = 1
    · subst hc1
      have hps : ps.length = 0 := by omega
      have HP := Lib.hid hps
      clear hps
      by_cases hneg : p.tmod n < 0
      · go_enter Try.func44, Try.ntmps44
        go_wp2
        go_ret
        have := FIN.out (some ⟨g, o, none⟩) (fun h => absurd rfl h) (p.tmod n + n) (by rw [if_pos hneg])
        rw [HP.out] at this
        exact this
      · go_enter Try.func44, Try.ntmps44
        go_wp2
        go_ret
        have := FIN.out (some ⟨g, o, none⟩) (fun h => absurd rfl h) (p.tmod n) (by rw [if_neg (by omega)])
        rw [HP.out] at this
        exact this
    · by_cases hneg : p.tmod n < 0
      · go_enter Try.func44, Try.ntmps44
        go_wp2
        go_ret
        exact FIN.out (some ⟨g, o + 1, none⟩) (fun _ => rfl) (p.tmod n + n) (by rw [if_pos hneg])
      · go_enter Try.func44, Try.ntmps44
        go_wp2
        go_ret
        exact FIN.out (some ⟨g, o + 1, none⟩) (fun _ => rfl) (p.tmod n) (by rw [if_neg (by omega)])

theorem below_int (cb : Nat) (v : Value) (picks : List Int) (n : Int) (w : World) (hb : Blk w cb 82 #[v]) (hv : RdI F w v picks) (hF : F cb) (hn : 0 < n) (hn2 : n ≤ 4611686018427387904) (hp : ∀ z ∈ picks, -9223372036854775808 ≤ z ∧ z ≤ 9223372036854775807) :
    Calls Try.prog 44 #[ptrV cb, .int .i64 n] w (PickPost F w cb (below picks n.toNat)) := by
  obtain ⟨m, rfl⟩ := Int.eq_ofNat_of_zero_le (Int.le_of_lt hn)
  have := below_any cb v picks m w hb hv hF (by omega) (by omega) hp
  simpa using this
end
end Go.Proofs.Ytmapijpphnlcmaa
