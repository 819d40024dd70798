/- A disk and a journal since a world; frames parsed back. Conditions: sizes. -/
import Derived.Test.YtmapijpphnlcmaaJrA
namespace Go.Proofs.Ytmapijpphnlcmaa
open Go.RowKit

/-- A disk, all of whose blocks are newer than w0. -/
def DA (w0 : World) (d : Nat) (s : DSt) (w : World) : Prop := ∃ F, DiskAt w d s F ∧ (∀ k, F k → w0.heap.size ≤ k) ∧ Upd NoF w0 w
/-- A disk and a journal on it, all of whose blocks are newer than w0. -/
def AW (w0 : World) (d : Nat) (s : DSt) (j : Nat) (nm : List UInt8) (l : List (List UInt8)) (safe : Nat) (dead : Bool) (w : World) : Prop :=
  ∃ F G, DJ w d s F j nm l safe dead G ∧ (∀ k, F k → w0.heap.size ≤ k) ∧ (∀ k, G k → w0.heap.size ≤ k) ∧ Upd NoF w0 w

section
variable {w0 w w' : World} {d : Nat} {s s' : DSt} {j : Nat} {nm : List UInt8} {l l' : List (List UInt8)} {safe safe' : Nat} {dead dead' : Bool}

theorem AW.upd (h : AW w0 d s j nm l safe dead w) (hu : Upd NoF w w') : AW w0 d s j nm l safe dead w' := by
  obtain ⟨F, G, h1, h2, h3, h4⟩ := h
  exact ⟨F, G, h1.upd hu, h2, h3, h4.trans hu (fun _ _ h => h)⟩
theorem AW.out (h : AW w0 d s j nm l safe dead w) : Upd NoF w0 w := by obtain ⟨F, G, h1, h2, h3, h4⟩ := h; exact h4
theorem AW.da (h : AW w0 d s j nm l safe dead w) : DA w0 d s w := by obtain ⟨F, G, h1, h2, h3, h4⟩ := h; exact ⟨F, h1.1, h2, h4⟩
theorem DA.out (h : DA w0 d s w) : Upd NoF w0 w := by obtain ⟨F, h1, h2, h4⟩ := h; exact h4
theorem DA.upd (h : DA w0 d s w) (hu : Upd NoF w w') : DA w0 d s w' := by
  obtain ⟨F, h1, h2, h4⟩ := h
  exact ⟨F, h1.upd hu (fun _ _ h => h), h2, h4.trans hu (fun _ _ h => h)⟩

/-- A call that works on the disk alone. -/
theorem AW.disk (h : AW w0 d s j nm l safe dead w) {f : FuncId} {args : Array Value} {e0 : Ending} (hc : ∀ F, DiskAt w d s F → (∀ k, F k → w0.heap.size ≤ k) → Calls Try.prog f args w fun e w' => e = e0 ∧ DiskStep w d s' F w') : Calls Try.prog f args w fun e w' => e = e0 ∧ AW w0 d s' j nm l safe dead w' := by
  obtain ⟨F, G, ⟨h1, h5, h6⟩, h2, h3, h4⟩ := h
  refine (hc F h1 h2).mono ?_
  rintro e w' ⟨rfl, F', a1, a2, a3⟩
  have hz := h4.size
  refine ⟨rfl, F', G, ⟨a1, h5.upd a2 (fun k hk e => h6 k e hk), fun k hk hg => ?_⟩, fun k hk => ?_, h3, h4.trans a2 (fun k hk e => by have := h2 k e; omega)⟩
  · rcases a3 k hk with e | e
    · exact h6 k e hg
    · have := h5.lt hg; omega
  · rcases a3 k hk with e | e
    · exact h2 k e
    · omega
theorem DA.disk (h : DA w0 d s w) {f : FuncId} {args : Array Value} {e0 : Ending} (hc : ∀ F, DiskAt w d s F → (∀ k, F k → w0.heap.size ≤ k) → Calls Try.prog f args w fun e w' => e = e0 ∧ DiskStep w d s' F w') : Calls Try.prog f args w fun e w' => e = e0 ∧ DA w0 d s' w' := by
  obtain ⟨F, h1, h2, h4⟩ := h
  refine (hc F h1 h2).mono ?_
  rintro e w' ⟨rfl, F', a1, a2, a3⟩
  have hz := h4.size
  refine ⟨rfl, F', a1, fun k hk => ?_, h4.trans a2 (fun k hk e => by have := h2 k e; omega)⟩
  rcases a3 k hk with e | e
  · exact h2 k e
  · omega
theorem AW.of_step {F G : Nat → Prop} (h2 : ∀ k, F k → w0.heap.size ≤ k) (h3 : ∀ k, G k → w0.heap.size ≤ k) (h4 : Upd NoF w0 w) (hs : DJStep w F G d s j nm l safe dead w') : AW w0 d s j nm l safe dead w' := by
  obtain ⟨F', G', a1, a2, a3, a4⟩ := hs
  have hz := h4.size
  refine ⟨F', G', a1, fun k hk => ?_, fun k hk => ?_, h4.trans a2 (fun k hk e => ?_)⟩
  · rcases a3 k hk with e | e
    · exact h2 k e
    · omega
  · rcases a4 k hk with e | e
    · exact h3 k e
    · omega
  · rcases e with e | e
    · have := h2 k e; omega
    · have := h3 k e; omega

theorem AW.append (h : AW w0 d s j nm l safe dead w) {v : Value} {b : List UInt8} (hb : ∀ F : Nat → Prop, (∀ k, F k → w0.heap.size ≤ k ∧ k < w.heap.size) → RdB F w' v b) (hu : Upd NoF w w') (hm : nm.length ≤ maxLen) (hl1 : ((getF s.fs nm).getD ⟨[], 0⟩).c.length ≤ 549755813888) (hL : s.fs.length < maxLen) (hll : l.length < 1099511627776) :
    Calls Try.prog 30 #[ptrV j, v] w' fun e w2 => e = retE (sJAppend s nm l dead b).1 ∧ AW w0 d (sJAppend s nm l dead b).2.1 j nm (sJAppend s nm l dead b).2.2.1 safe (sJAppend s nm l dead b).2.2.2 w2 := by
  obtain ⟨F, G, h1, h2, h3, h4⟩ := h
  have hr := hb (fun k => F k ∨ G k) (fun k hk => ⟨hk.elim (h2 k) (h3 k), hk.elim (fun e => h1.1.lt e) (fun e => h1.2.1.lt e)⟩)
  refine (jAppend_spec (h1.upd hu) hr hm hl1 hL hll).mono ?_
  rintro e w2 ⟨rfl, hs⟩
  exact ⟨rfl, AW.of_step h2 h3 (h4.trans hu (fun _ _ h => h)) hs⟩
theorem AW.sync (h : AW w0 d s j nm l safe dead w) (hm : nm.length ≤ maxLen) : Calls Try.prog 32 #[ptrV j] w fun e w2 => e = retE (sJSync s nm l safe dead).1 ∧ AW w0 d (sJSync s nm l safe dead).2.1 j nm l (sJSync s nm l safe dead).2.2.1 (sJSync s nm l safe dead).2.2.2 w2 := by
  obtain ⟨F, G, h1, h2, h3, h4⟩ := h
  refine (jSync_spec h1 hm).mono ?_
  rintro e w2 ⟨rfl, hs⟩
  exact ⟨rfl, AW.of_step h2 h3 h4 hs⟩
theorem AW.records (h : AW w0 d s j nm l safe dead w) : Calls Try.prog 37 #[ptrV j] w (RecsPost w l) := by
  obtain ⟨F, G, h1, _⟩ := h
  exact jRecords_any h1.2.1
theorem AW.synced (h : AW w0 d s j nm l safe dead w) : Calls Try.prog 38 #[ptrV j] w fun e w' => e = .returned (.int .i64 (safe : Int)) ∧ w = w' := by
  obtain ⟨F, G, h1, _⟩ := h
  exact jSynced_any h1.2.1

/-- Open where no journal is there yet. -/
def OpenDA (w0 : World) (d : Nat) (nm : List UInt8) (r : Int × DSt × List (List UInt8)) (e : Ending) (w' : World) : Prop :=
  (r.1 = 0 ∧ ∃ j, e = .returned (.tuple #[ptrV j, .int .i64 0]) ∧ AW w0 d r.2.1 j nm r.2.2 r.2.2.length false w') ∨ (r.1 ≠ 0 ∧ e = .returned (.tuple #[.pointer none, .int .i64 r.1]) ∧ DA w0 d r.2.1 w')
theorem DA.open (h : DA w0 d s w) (nm : List UInt8) (hm : nm.length ≤ maxLen) (hb : (sRead s nm).1.length ≤ 549755813888) : Calls Try.prog 28 #[ptrV d, strV nm] w (OpenDA w0 d nm (sOpen s nm)) := by
  obtain ⟨F, h1, h2, h4⟩ := h
  have hz := h4.size
  refine (jOpen_any h1 nm hm hb).mono ?_
  rintro e w' (⟨e0, j, F', G', rfl, a1, a2, a3, a4, a5, a6⟩ | ⟨e0, rfl, F', a1, a2, a3⟩)
  · refine .inl ⟨e0, j, rfl, F', G', ⟨a1, a2, a3⟩, fun k hk => ?_, fun k hk => ?_, h4.trans a6 (fun k hk e => by have := h2 k e; omega)⟩
    · rcases a4 k hk with e | e
      · exact h2 k e
      · omega
    · have := a5 k hk; omega
  · refine .inr ⟨e0, rfl, F', a1, fun k hk => ?_, h4.trans a2 (fun k hk e => by have := h2 k e; omega)⟩
    rcases a3 k hk with e | e
    · exact h2 k e
    · omega
/-- Open where a journal is there already. -/
def OpenAW (w0 : World) (d : Nat) (nm : List UInt8) (r : Int × DSt × List (List UInt8)) (j : Nat) (nm0 : List UInt8) (l : List (List UInt8)) (safe : Nat) (dead : Bool) (e : Ending) (w' : World) : Prop :=
  AW w0 d r.2.1 j nm0 l safe dead w' ∧ ((r.1 = 0 ∧ ∃ j', e = .returned (.tuple #[ptrV j', .int .i64 0]) ∧ AW w0 d r.2.1 j' nm r.2.2 r.2.2.length false w') ∨ (r.1 ≠ 0 ∧ e = .returned (.tuple #[.pointer none, .int .i64 r.1])))
theorem AW.open (h : AW w0 d s j nm l safe dead w) (nm' : List UInt8) (hm : nm'.length ≤ maxLen) (hb : (sRead s nm').1.length ≤ 549755813888) : Calls Try.prog 28 #[ptrV d, strV nm'] w (OpenAW w0 d nm' (sOpen s nm') j nm l safe dead) := by
  obtain ⟨F, G, ⟨h1, h5, h6⟩, h2, h3, h4⟩ := h
  have hz := h4.size
  refine (jOpen_any h1 nm' hm hb).mono ?_
  rintro e w' (⟨e0, j', F', G', rfl, a1, a2, a3, a4, a5, a6⟩ | ⟨e0, rfl, F', a1, a2, a3⟩)
  · have q1 : ∀ k, F' k → w0.heap.size ≤ k := fun k hk => by
      rcases a4 k hk with e | e
      · exact h2 k e
      · omega
    have q2 : Upd NoF w0 w' := h4.trans a6 (fun k hk e => by have := h2 k e; omega)
    refine ⟨⟨F', G, ⟨a1, h5.upd a6 (fun k hk e => h6 k e hk), fun k hk hg => ?_⟩, q1, h3, q2⟩, .inl ⟨e0, j', rfl, F', G', ⟨a1, a2, a3⟩, q1, fun k hk => ?_, q2⟩⟩
    · rcases a4 k hk with e | e
      · exact h6 k e hg
      · have := h5.lt hg; omega
    · have := a5 k hk; omega
  · have q1 : ∀ k, F' k → w0.heap.size ≤ k := fun k hk => by
      rcases a3 k hk with e | e
      · exact h2 k e
      · omega
    refine ⟨⟨F', G, ⟨a1, h5.upd a2 (fun k hk e => h6 k e hk), fun k hk hg => ?_⟩, q1, h3, h4.trans a2 (fun k hk e => by have := h2 k e; omega)⟩, .inr ⟨e0, rfl⟩⟩
    rcases a3 k hk with e | e
    · exact h6 k e hg
    · have := h5.lt hg; omega
end

/-! ### frames parsed back -/
theorem be_beB (n : Nat) (h : n < 4294967296) : be (beB (n : Int) 4) = n := by
  have e : ∀ i : Nat, (byteAt (n : Int) i).toNat = n / 2 ^ (8 * i) % 256 := fun i => by
    unfold byteAt
    have e1 : ((n : Int) / 2 ^ (8 * i)) % 256 = ((n / 2 ^ (8 * i) % 256 : Nat) : Int) := by simp
    rw [e1, Int.toNat_natCast, UInt8.toNat_ofNat_of_lt' (by simp [UInt8.size]; omega)]
  simp only [be, beB, List.foldl_cons, List.foldl_nil, e]
  omega

theorem parseStep_frame (pre r post : List UInt8) (i : Nat) (hr : r.length ≤ 65536) : parseStep (pre ++ frameS i r ++ post) pre.length i = some (r, pre.length + 12 + r.length) := by
  have hl : (frameS i r).length = 12 + r.length := by simp [frameS, beB_len, jsumS_len]; omega
  have hd : (pre ++ frameS i r ++ post).drop pre.length = frameS i r ++ post := by rw [List.append_assoc, List.drop_left]
  have h4 : ((pre ++ frameS i r ++ post).drop pre.length).take 4 = beB (r.length : Int) 4 := by
    rw [hd]
    unfold frameS
    rw [List.append_assoc, List.append_assoc, List.take_append_of_le_length (by simp [beB_len]), List.take_of_length_le (by simp [beB_len])]
  have h8 : ((pre ++ frameS i r ++ post).drop (pre.length + 4)).take 8 = jsumS i r := by
    rw [← List.drop_drop, hd]
    unfold frameS
    rw [List.append_assoc, List.append_assoc, List.drop_append_of_le_length (by simp [beB_len]), List.drop_of_length_le (by simp [beB_len]), List.nil_append, List.take_append_of_le_length (by simp [jsumS_len]), List.take_of_length_le (by simp [jsumS_len])]
  have h12 : ((pre ++ frameS i r ++ post).drop (pre.length + 12)).take r.length = r := by
    rw [← List.drop_drop, hd]
    unfold frameS
    rw [List.append_assoc, show (12 : Nat) = (beB (r.length : Int) 4 ++ jsumS i r).length by simp [beB_len, jsumS_len], List.drop_left, List.take_left]
  have hn := be_beB r.length (by omega)
  have := ps_yes (bs := pre ++ frameS i r ++ post) (a := pre.length) (idx := i) (by simp [hl]; omega) (by rw [h4, hn]; exact ⟨hr, by simp [hl]; omega⟩) (by rw [h4, hn, h12]; exact h8)
  rw [h4, hn, h12] at this
  exact this

def framesF : Nat → List (List UInt8) → List UInt8
  | _, [] => []
  | i, r :: L => frameS i r ++ framesF (i + 1) L
theorem framesF_snoc : ∀ (L : List (List UInt8)) (i : Nat) (r : List UInt8), framesF i (L ++ [r]) = framesF i L ++ frameS (i + L.length) r
  | [], i, r => by simp [framesF]
  | x :: L, i, r => by
    simp only [List.cons_append, framesF, framesF_snoc L (i + 1) r, List.append_assoc, List.length_cons]
    rw [show i + 1 + L.length = i + (L.length + 1) by omega]

/-- A sequence of frames is parsed back. -/
theorem parse_frames : ∀ (L : List (List UInt8)) (pre post : List UInt8) (l : List (List UInt8)) (f : Nat), (∀ r ∈ L, r.length ≤ 65536) → parseF (pre ++ framesF l.length L ++ post) (f + L.length) l pre.length = parseF (pre ++ framesF l.length L ++ post) f (l ++ L) (pre ++ framesF l.length L).length
  | [], pre, post, l, f, _ => by simp [framesF]
  | r :: L, pre, post, l, f, h => by
    have hs := parseStep_frame pre r (framesF (l.length + 1) L ++ post) l.length (h r (by simp))
    have e1 : pre ++ framesF l.length (r :: L) ++ post = pre ++ frameS l.length r ++ (framesF (l.length + 1) L ++ post) := by simp [framesF]
    rw [e1, List.length_cons, show f + (L.length + 1) = (f + L.length) + 1 by omega, parseF, hs]
    simp only
    have hl : (frameS l.length r).length = 12 + r.length := by simp [frameS, beB_len, jsumS_len]; omega
    have ih := parse_frames L (pre ++ frameS l.length r) post (l ++ [r]) f (fun x hx => h x (by simp [hx]))
    rw [List.length_append, List.length_singleton] at ih
    rw [show pre.length + 12 + r.length = (pre ++ frameS l.length r).length by simp [hl]; omega]
    have e2 : pre ++ frameS l.length r ++ (framesF (l.length + 1) L ++ post) = pre ++ frameS l.length r ++ framesF (l.length + 1) L ++ post := by simp
    rw [e2, ih]
    simp [framesF]

theorem parse_one (r : List UInt8) (hr : r.length ≤ 65536) : parseS (frameS 0 r) = ([r], 12 + r.length) := by
  have hl : (frameS 0 r).length = 12 + r.length := by simp [frameS, beB_len, jsumS_len]; omega
  have h := parse_frames [r] [] [] [] (frameS 0 r).length (by simpa using hr)
  simp only [framesF, List.nil_append, List.append_nil, List.length_nil, List.length_cons] at h
  unfold parseS
  rw [h, hl, show 12 + r.length = (11 + r.length) + 1 by omega, parseF, ps_short (by rw [hl]; omega)]
end Go.Proofs.Ytmapijpphnlcmaa
