/- SnapshotFile returns true for every two views, every number of writes up to the power failure, and every picks of the crash: Write and Read return the documented results, and after a power failure during Write and a crash the file has the old content or the new one. No condition. -/
import Derived.Test.YtbgificdilpdcaaGreatFileL
import Derived.Test.YtbgificdilpdcaaGreatSized
import Derived.Test.YtbgificdilpdcaaGreatJn9
namespace Go.Proofs.YtbgificdilpdcaaGreat
open Go.ChangeShapes Go.WideShapes Go.ChangeAt Go.RowKit

set_option maxRecDepth 100000 in
theorem sfile_lifted (os : Os) (started : os.Started) (H : Type) (enc : TypeId × Value → H) :
    ReturnsInHanded {} Tryz.checked os 6 .any (Rows.snapshotFileSpec.pre6 enc Tryz.prog Tryz.f6 Rows.snapshotFileRow.domain false) (Rows.snapshotFileSpec.post enc Tryz.prog Tryz.f6 false true false false) := by
  refine returnsInHanded_of_change_sized (C := Tryz.checked) own started (by kernel_rfl) Tryz.func6
    (ChangeSpec.witness6 (enc := enc) (C := Tryz.checked) false ⟨#[], #[.agg #[.slice none 0 0, .slice none 0 0], .agg #[.slice none 0 0, .slice none 0 0], .int .i64 0, .slice none 0 0], []⟩ 8 (by kernel_rfl) (by kernel_rfl) (by kernel_rfl) (by kernel_rfl)) ?_
  intro W base args ds gs before hval0 hW hcnd hsz _
  have hval : ∀ (j : Nat) t v, Tryz.f6.params[j]? = some t → args[j]? = some v → Value.okWide Tryz.prog W .any base t v := hval0
  have hW' := hW
  obtain ⟨p, q, hA0, hV, rfl, hfz, hnd⟩ := hW
  have hA : DataW.TrodAll enc Tryz.prog W 0 (fun _ => true) true Tryz.f6.params.toList args.toList ds p := hA0
  have hsz' : (DataW.weightsEach Tryz.prog (Tryz.f6.params.toList ++ Rows.snapshotFileSpec.plain.varTypes Tryz.prog) (ds ++ gs)).all (· ≤ reachBytes) = true := hsz
  rw [Tryz.params6] at hA hval hsz'
  obtain ⟨v0, vs0, d0, ds0, p0, q0, hargs, rfl, rfl, h0, r0⟩ := trodAll_cons hA
  obtain ⟨v1, vs1, d1, ds1, p1, q1, rfl, rfl, rfl, h1, r1⟩ := trodAll_cons r0
  obtain ⟨v2, vs2, d2, ds2, p2, q2, rfl, rfl, rfl, h2, r2⟩ := trodAll_cons r1
  obtain ⟨v3, vs3, d3, ds3, p3, q3, rfl, rfl, rfl, h3, r3⟩ := trodAll_cons r2
  obtain ⟨rfl, rfl, rfl⟩ := trodAll_nil r3
  obtain rfl : args = #[v0, v1, v2, v3] := by cases args; simp_all
  have hgs : gs = [] := (trodVars_none hV).1
  subst hgs
  obtain ⟨a, b, V, rfl, hb, hs1, hs2⟩ := open_view_sized (hval 0 25 v0 rfl rfl) h0 (fun q hq => by
    have := List.all_eq_true.1 hsz' q (DataW.weights_mem_each (j := 0) rfl rfl q hq)
    simpa using this)
  obtain ⟨a', b', V', rfl, hb', hs1', hs2'⟩ := open_view_sized (hval 1 25 v1 rfl rfl) h1 (fun q hq => by
    have := List.all_eq_true.1 hsz' q (DataW.weights_mem_each (j := 1) rfl rfl q hq)
    simpa using this)
  obtain ⟨arm, rfl, _, _, wa⟩ := open_int Tryz.underlying3 (hval 2 3 v2 rfl rfl) h2
  obtain ⟨picks, hp1, hp2⟩ := open_picks (hval 3 40 v3 rfl rfl) h3
  have harm := wf_i64 wa
  refine (file_law hb hb' hs1 hs2 hs1' hs2' harm hp1 hp2).mono fun e W' ⟨he, hu⟩ => ?_
  subst he
  exact ⟨_, rfl, law_post rfl rfl (by decide +kernel) ⟨rfl, rfl, rfl⟩ hW' (hu.below (Nat.le_refl _) (fun k hk h => h))⟩

theorem sfile_over : Rows.snapshotFileRow.holds Tryz.pinned (OpenSpec.ofChange Rows.snapshotFileSpec) :=
  OpenClaim.holds_of_wide 6 Tryz.f6 rfl rfl rfl rfl rfl rfl rfl ⟨rfl, rfl, rfl, rfl, rfl⟩ rfl rfl rfl rfl rfl (by kernel_rfl) Tryz.func6 (by kernel_rfl)
    (of_decide_eq_true (by kernel_rfl)) (by unfold Func.isWrapper; first | (rw [if_pos (by decide +kernel)]; kernel_rfl) | (rw [if_neg (by decide +kernel)]; exact ⟨rfl, rfl⟩))
    (fun os started H enc _ => sfile_lifted os started H enc)

theorem snapshotFile_holds : Rows.SnapshotFileSaid := sfile_over
#print axioms snapshotFile_holds
end Go.Proofs.YtbgificdilpdcaaGreat
