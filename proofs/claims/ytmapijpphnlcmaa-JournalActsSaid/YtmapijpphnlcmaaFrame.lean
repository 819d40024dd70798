/- From a contract 'it returns true and turns nothing that was there' to the row of a statement. No condition. -/
import Derived.Test.YtmapijpphnlcmaaRows
import Derived.Test.YtmapijpphnlcmaaBase
import Derived.ProofKit
import Derived.OpenShut
import Derived.Carry
namespace Go.Proofs.Ytmapijpphnlcmaa
open Go.ChangeShapes Go.WideShapes Go.ChangeAt Go.RowKit

theorem own : ownKnob Try.prog.godebug = none := by kernel_rfl
theorem laid : laidOutB Try.prog = true := by kernel_rfl

theorem trodAll_below {H : Type} {enc : TypeId × Value → H} {W W' : World} (hb : Below W.heap.size W W') : ∀ {ts : List TypeId} {vs : List Value} {ds : List (DataW H)} {ps : List MemPlace},
    DataW.TrodAll enc Try.prog W 0 (fun _ => true) true ts vs ds ps → (∀ x ∈ ps, x.block < W.heap.size) → (∀ t ∈ ts, Try.prog.readableRec t = true ∧ t < Try.prog.types.size) →
    DataW.TrodAll enc Try.prog W' 0 (fun b => decide (b < W.heap.size)) true ts vs ds ps
  | [], vs, ds, ps, h, _, _ => by
    obtain ⟨rfl, rfl, rfl⟩ := trodAll_nil h
    exact trodAll_mk0
  | t :: ts, vs, ds, ps, h, hlt, hr => by
    obtain ⟨v, vs0, d, ds0, p, ps0, rfl, rfl, rfl, h0, r0⟩ := trodAll_cons h
    obtain ⟨hr1, hr2⟩ := hr t (by simp)
    exact trodAll_cons_mk (Below.trod laid hr1 hr2 h0 hb (fun x hx => hlt x (by simp [hx]))) (trodAll_below hb r0 (fun x hx => hlt x (by simp [hx])) (fun t ht => hr t (by simp [ht])))

/-- The row's post of a statement that returned true and turned nothing that was there. -/
theorem law_post {H : Type} {enc : TypeId × Value → H} {f : Func} {s : ChangeSpec} {W W' : World} {args : Array Value} {ds gs : List (DataW H)} {before : List MemPlace} (hv : s.vars = []) (hres : f.resultTypes = #[4])
    (hr : ∀ t ∈ f.params.toList, Try.prog.readableRec t = true ∧ t < Try.prog.types.size) (hfn : (s.fn H (ds ++ gs)).results = [.lit (.bool true)] ∧ (s.fn H (ds ++ gs)).args = ds ∧ (s.fn H (ds ++ gs)).vars = [])
    (hW : DataW.Whole enc Try.prog f.params.toList s.vars false W args.toList ds gs before) (hb : Below W.heap.size W W') : s.post enc Try.prog f false true false false W args (.bool true) W' := by
  have hW0 := hW
  have hlt : ∀ p ∈ before, p.block < W.heap.size := fun p hp => hW.lt p hp
  obtain ⟨p, q, hA, hV, rfl, _, _⟩ := hW
  rw [hv] at hV
  obtain ⟨rfl, rfl⟩ := trodVars_none hV
  refine ⟨ds, [], p ++ [], [], p, [], hW0, ?_, ?_, ?_, World.keptBut_mono (fun x hx => ⟨hx, .inr (.inl (by simpa using hx))⟩) (hb.frame (· ∈ p ++ [])), fun h => by cases h⟩
  · rw [hfn.1, hres]
    exact trodAll_cons_mk (shut_bool Try.underlying4 true) trodAll_mk0
  · rw [hfn.2.1]
    exact trodAll_below hb hA (fun x hx => hlt x (by simp [hx])) hr
  · rw [hv, hfn.2.2]
    exact rfl
end Go.Proofs.Ytmapijpphnlcmaa
