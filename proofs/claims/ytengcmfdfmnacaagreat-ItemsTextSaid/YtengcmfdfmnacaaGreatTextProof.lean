/- ItemsText returns true for all texts, every name and every two numbers. No condition. -/
import Derived.Test.YtengcmfdfmnacaaGreatTx5
import Derived.Test.YtengcmfdfmnacaaGreatJn4
namespace Go.Proofs.YtengcmfdfmnacaaGreat
open Go.ChangeShapes Go.WideShapes Go.ChangeAt Go.RowKit

section
variable {H : Type} {enc : TypeId × Value → H} {W : World} {v : Value} {d : DataW H} {p : List MemPlace}
set_option maxRecDepth 100000 in
/-- A name by value among the arguments. -/
theorem open_nameV {base0 : Nat} (hok : Value.okWide Tryz.prog W .any base0 28 v) (h : DataW.Trod enc Tryz.prog W 0 (fun _ => true) true 28 v d p) : ∃ l : List UInt8, l.length = 8 ∧ v = nameV l := by
  unfold Value.okWide at hok
  rw [Tryz.underlying28] at hok
  obtain ⟨cs, rfl, hsz, -⟩ := hok
  rw [cells_name] at hsz
  obtain ⟨l⟩ := cs
  match l, hsz with
  | [c0, c1, c2, c3, c4, c5, c6, c7], _ =>
    obtain ⟨fuel, hf⟩ := h
    obtain ⟨l, h8, hl⟩ := open_name_cells (c0 := c0) (c1 := c1) (c2 := c2) (c3 := c3) (c4 := c4) (c5 := c5) (c6 := c6) (c7 := c7) hf
    exact ⟨l, h8, by rw [hl]⟩
set_option maxRecDepth 100000 in
theorem open_textsV {base0 : Nat} (hok : Value.okWide Tryz.prog W .any base0 51 v) (h : DataW.Trod enc Tryz.prog W 0 (fun _ => true) true 51 v d p) : ∃ l : List (List UInt8), TxR W v l := by
  obtain ⟨fuel, hf⟩ := slice_cells (t := 51) (e := 52) Tryz.underlying51 hok h
  exact open_texts hf
end
set_option maxRecDepth 100000 in
theorem text_lifted (os : Os) (started : os.Started) (H : Type) (enc : TypeId × Value → H) :
    ReturnsInHanded {} Tryz.checked os 5 .any (Rows.itemsTextSpec.pre6 enc Tryz.prog Tryz.f5 Rows.itemsTextRow.domain false) (Rows.itemsTextSpec.post enc Tryz.prog Tryz.f5 false true false false) := by
  refine returnsInHanded_of_change (C := Tryz.checked) own started (by kernel_rfl) Tryz.func5
    (ChangeSpec.witness6 (enc := enc) (C := Tryz.checked) false ⟨#[], #[.slice none 0 0, .agg #[.int .u8 0, .int .u8 0, .int .u8 0, .int .u8 0, .int .u8 0, .int .u8 0, .int .u8 0, .int .u8 0], .int .i64 0, .int .i64 0], []⟩ 8 (by kernel_rfl) (by kernel_rfl) (by kernel_rfl) (by kernel_rfl)) ?_
  intro W base args ds gs before hval0 hW hcnd _
  have hval : ∀ (j : Nat) t v, Tryz.f5.params[j]? = some t → args[j]? = some v → Value.okWide Tryz.prog W .any base t v := hval0
  have hW' := hW
  obtain ⟨p, q, hA0, hV, rfl, hfz, hnd⟩ := hW
  have hA : DataW.TrodAll enc Tryz.prog W 0 (fun _ => true) true Tryz.f5.params.toList args.toList ds p := hA0
  rw [Tryz.params5] at hA hval
  obtain ⟨v0, vs0, d0, ds0, p0, q0, hargs, rfl, rfl, h0, r0⟩ := trodAll_cons hA
  obtain ⟨v1, vs1, d1, ds1, p1, q1, rfl, rfl, rfl, h1, r1⟩ := trodAll_cons r0
  obtain ⟨v2, vs2, d2, ds2, p2, q2, rfl, rfl, rfl, h2, r2⟩ := trodAll_cons r1
  obtain ⟨v3, vs3, d3, ds3, p3, q3, rfl, rfl, rfl, h3, r3⟩ := trodAll_cons r2
  obtain ⟨rfl, rfl, rfl⟩ := trodAll_nil r3
  obtain rfl : args = #[v0, v1, v2, v3] := by cases args; simp_all
  have hgs : gs = [] := (trodVars_none hV).1
  subst hgs
  obtain ⟨l, hl⟩ := open_textsV (hval 0 51 v0 rfl rfl) h0
  obtain ⟨nm, h8, rfl⟩ := open_nameV (hval 1 28 v1 rfl rfl) h1
  obtain ⟨a, rfl, _, _, _⟩ := open_int Tryz.underlying3 (hval 2 3 v2 rfl rfl) h2
  obtain ⟨b, rfl, _, _, _⟩ := open_int Tryz.underlying3 (hval 3 3 v3 rfl rfl) h3
  obtain ⟨A, c, rfl, -, -⟩ := hl.form
  refine (ItemsText_true rfl hl h8).mono fun e W' ⟨he, hu⟩ => ?_
  subst he
  exact ⟨_, rfl, law_post rfl rfl (by decide +kernel) ⟨rfl, rfl, rfl⟩ hW' (hu.below (Nat.le_refl _) (fun k hk h => h))⟩

theorem text_over : Rows.itemsTextRow.holds Tryz.pinned (OpenSpec.ofChange Rows.itemsTextSpec) :=
  OpenClaim.holds_of_wide 5 Tryz.f5 rfl rfl rfl rfl rfl rfl rfl ⟨rfl, rfl, rfl, rfl, rfl⟩ rfl rfl rfl rfl rfl (by kernel_rfl) Tryz.func5 (by kernel_rfl)
    (of_decide_eq_true (by kernel_rfl)) (by unfold Func.isWrapper; first | (rw [if_pos (by decide +kernel)]; kernel_rfl) | (rw [if_neg (by decide +kernel)]; exact ⟨rfl, rfl⟩))
    (fun os started H enc _ => text_lifted os started H enc)

theorem itemsText_holds : Rows.ItemsTextSaid := text_over
#print axioms itemsText_holds
end Go.Proofs.YtengcmfdfmnacaaGreat
