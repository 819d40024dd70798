/- Views among a statement's arguments: their lengths are in reach. No condition. -/
import Derived.Test.YtbgificdilpdcaaGreatJn9
import Derived.SizedLaws
namespace Go.Proofs.YtbgificdilpdcaaGreat
open Go.ChangeShapes Go.WideShapes Go.ChangeAt Go.RowKit
section
variable {H : Type} {enc : TypeId × Value → H} {W : World} {v : Value} {d : DataW H} {p : List MemPlace} {base : Nat} {spare : Nat → Bool} {held : Bool} {fuel : Nat}
theorem slice_sized {t e : TypeId} (ht : Tryz.prog.underlying t = some (.slice e)) (hb : 1 ≤ Tryz.prog.bytesOf e) {A : Option Addr} {n c : Nat} {x : DataW H × List MemPlace} (h : DataW.trod enc Tryz.prog W base spare held fuel t [.slice A n c] = some x) (hw : ∀ q ∈ x.1.weights Tryz.prog t, q ≤ reachBytes) : n ≤ 140737488355328 := by
  rcases Go.Deep.open_slice ht h with ⟨hcs, hx⟩ | ⟨a, len, cap, m, k, D, Pl, hcs, _, hl, hm, hz, hx, hi⟩
  · injection hcs with hcs
    injection hcs with _ hn _
    omega
  · injection hcs with hcs
    injection hcs with _ hn _
    subst hx
    have := hw ((((List.range len).map D).length + ((List.range (m - len)).map fun j => D (len + j)).length) * Tryz.prog.bytesOf e) (by simp [DataW.weights, ht])
    simp only [List.length_map, List.length_range] at this
    have h2 : (len + (m - len)) * 1 ≤ (len + (m - len)) * Tryz.prog.bytesOf e := Nat.mul_le_mul_left _ hb
    have h3 := reachBytes_lt
    omega
set_option maxRecDepth 100000 in
theorem open_view_sized {base0 : Nat} (hok : Value.okWide Tryz.prog W .any base0 25 v) (h : DataW.Trod enc Tryz.prog W 0 (fun _ => true) true 25 v d p) (hw : ∀ q ∈ d.weights Tryz.prog 25, q ≤ reachBytes) : ∃ (a b : Value) (V : ViewS), v = .agg #[a, b] ∧ VwR W a b V ∧ V.votes.length ≤ 140737488355328 ∧ V.texts.length ≤ 140737488355328 := by
  obtain ⟨v0, v1, y0, y1, n, rfl, rfl, _, h0, h1⟩ := Go.Joins.open_agg2 Tryz.underlying25 (by kernel_rfl) cells_view hok h
  obtain ⟨l, hl⟩ := open_signeds h0
  obtain ⟨r, hr⟩ := open_texts h1
  obtain ⟨A, c, rfl, -, -⟩ := hl.form
  obtain ⟨B, d, rfl, -, -⟩ := hr.form
  refine ⟨_, _, ⟨l, r⟩, rfl, ⟨hl, hr⟩, ?_, ?_⟩
  · refine slice_sized Tryz.underlying22 (by have : Tryz.prog.bytesOf 57 = 88 := (by kernel_rfl); omega) h0 (fun q hq => hw q ?_)
    simp only [DataW.weights, Tryz.underlying25, List.map_cons, List.map_nil]
    exact DataW.weights_mem_each (j := 0) rfl rfl q hq
  · refine slice_sized Tryz.underlying23 (by have : Tryz.prog.bytesOf 28 = 24 := (by kernel_rfl); omega) h1 (fun q hq => hw q ?_)
    simp only [DataW.weights, Tryz.underlying25, List.map_cons, List.map_nil]
    exact DataW.weights_mem_each (j := 1) rfl rfl q hq
end
end Go.Proofs.YtbgificdilpdcaaGreat
