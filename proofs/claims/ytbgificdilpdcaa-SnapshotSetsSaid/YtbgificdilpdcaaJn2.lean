/- Names and votes as values, and when two are equal. No condition. Valid of package vote and of the reference. No condition. Valid of package vote. No condition. Valid of package vote. No condition. -/
import Derived.Test.YtbgificdilpdcaaJn1
import Derived.Laws.StructEq
import Derived.BigGuardPart
import Derived.Deep.QuietTactic
import Derived.BigQuiet
namespace Go.Proofs.Ytbgificdilpdcaa
section
open Go.RowKit

def voteCells (v : VoteS) : List Value := [.int .i64 v.kind, .int .i64 v.slot, .int .i64 v.round, .int .i64 v.choice, .int .i64 v.signer, .int .i64 v.support] ++ v.parent.map byteV ++ v.value.map byteV
abbrev voteV (v : VoteS) : Value := .agg (voteCells v).toArray
abbrev signedV (s : SignedS) (u : Value) : Value := .agg (voteCells s.vote ++ [u]).toArray

theorem byte_beq (a b : UInt8) : (((a.toNat : Nat) : Int) == ((b.toNat : Nat) : Int)) = (a == b) := by
  rw [Bool.eq_iff_iff]
  simp [← UInt8.toNat_inj]
  omega

theorem beq_dec (a b : List UInt8) : (a == b) = decide (a = b) := by rw [Bool.eq_iff_iff]; simp

theorem eq_u8 (d : Nat) (a b : UInt8) (w : World) : (Op.equalIn (d + 1) 5 (byteV a) (byteV b)).run Try.prog w = .ok (a == b) w := by
  rw [run_equalIn_int w d 5 .u8 .u8 _ _ Try.underlying5, byte_beq]

theorem part8_0 (x0 x1 x2 x3 x4 x5 x6 x7 : UInt8) (w : World) : (part 5 #[byteV x0, byteV x1, byteV x2, byteV x3, byteV x4, byteV x5, byteV x6, byteV x7] 0).run Try.prog w = .ok (byteV x0) w := by kernel_rfl
theorem part8_1 (x0 x1 x2 x3 x4 x5 x6 x7 : UInt8) (w : World) : (part 5 #[byteV x0, byteV x1, byteV x2, byteV x3, byteV x4, byteV x5, byteV x6, byteV x7] 1).run Try.prog w = .ok (byteV x1) w := by kernel_rfl
theorem part8_2 (x0 x1 x2 x3 x4 x5 x6 x7 : UInt8) (w : World) : (part 5 #[byteV x0, byteV x1, byteV x2, byteV x3, byteV x4, byteV x5, byteV x6, byteV x7] 2).run Try.prog w = .ok (byteV x2) w := by kernel_rfl
theorem part8_3 (x0 x1 x2 x3 x4 x5 x6 x7 : UInt8) (w : World) : (part 5 #[byteV x0, byteV x1, byteV x2, byteV x3, byteV x4, byteV x5, byteV x6, byteV x7] 3).run Try.prog w = .ok (byteV x3) w := by kernel_rfl
theorem part8_4 (x0 x1 x2 x3 x4 x5 x6 x7 : UInt8) (w : World) : (part 5 #[byteV x0, byteV x1, byteV x2, byteV x3, byteV x4, byteV x5, byteV x6, byteV x7] 4).run Try.prog w = .ok (byteV x4) w := by kernel_rfl
theorem part8_5 (x0 x1 x2 x3 x4 x5 x6 x7 : UInt8) (w : World) : (part 5 #[byteV x0, byteV x1, byteV x2, byteV x3, byteV x4, byteV x5, byteV x6, byteV x7] 5).run Try.prog w = .ok (byteV x5) w := by kernel_rfl
theorem part8_6 (x0 x1 x2 x3 x4 x5 x6 x7 : UInt8) (w : World) : (part 5 #[byteV x0, byteV x1, byteV x2, byteV x3, byteV x4, byteV x5, byteV x6, byteV x7] 6).run Try.prog w = .ok (byteV x6) w := by kernel_rfl
theorem part8_7 (x0 x1 x2 x3 x4 x5 x6 x7 : UInt8) (w : World) : (part 5 #[byteV x0, byteV x1, byteV x2, byteV x3, byteV x4, byteV x5, byteV x6, byteV x7] 7).run Try.prog w = .ok (byteV x7) w := by kernel_rfl

set_option maxRecDepth 100000 in
theorem name_equal (d : Nat) (a b : List UInt8) (ha : a.length = 8) (hb : b.length = 8) (w : World) : (Op.equalIn (d + 2) 33 (nameV a) (nameV b)).run Try.prog w = .ok (a == b) w := by
  obtain ⟨a0, a1, a2, a3, a4, a5, a6, a7, l, rfl⟩ := eight a (by omega)
  obtain ⟨b0, b1, b2, b3, b4, b5, b6, b7, r, rfl⟩ := eight b (by omega)
  obtain rfl : l = [] := by simpa using ha
  obtain rfl : r = [] := by simpa using hb
  have hsz : ∀ w, (sizeOf 5).run Try.prog w = .ok 1 w := fun w => by kernel_rfl
  have E := eq_u8 d
  rw [Op.equalIn]
  simp only [Sem.run_bind, run_underlying Try.underlying33, Result.andThen_ok, hsz]
  simp only [Std.Legacy.Range.forIn_eq_forIn_range', Std.Legacy.Range.size, Nat.sub_zero, Nat.add_sub_cancel, Nat.div_one, List.range'_succ, List.range'_zero, List.forIn_cons, List.forIn_nil, List.map_cons, List.map_nil]
  by_cases h0 : a0 = b0
  rotate_left
  · simp [h0, part8_0, E]
  by_cases h1 : a1 = b1
  rotate_left
  · simp [h0, h1, part8_0, part8_1, E]
  by_cases h2 : a2 = b2
  rotate_left
  · simp [h0, h1, h2, part8_0, part8_1, part8_2, E]
  by_cases h3 : a3 = b3
  rotate_left
  · simp [h0, h1, h2, h3, part8_0, part8_1, part8_2, part8_3, E]
  by_cases h4 : a4 = b4
  rotate_left
  · simp [h0, h1, h2, h3, h4, part8_0, part8_1, part8_2, part8_3, part8_4, E]
  by_cases h5 : a5 = b5
  rotate_left
  · simp [h0, h1, h2, h3, h4, h5, part8_0, part8_1, part8_2, part8_3, part8_4, part8_5, E]
  by_cases h6 : a6 = b6
  rotate_left
  · simp [h0, h1, h2, h3, h4, h5, h6, part8_0, part8_1, part8_2, part8_3, part8_4, part8_5, part8_6, E]
  by_cases h7 : a7 = b7
  rotate_left
  · simp [h0, h1, h2, h3, h4, h5, h6, h7, part8_0, part8_1, part8_2, part8_3, part8_4, part8_5, part8_6, part8_7, E]
  simp [h0, h1, h2, h3, h4, h5, h6, h7, part8_0, part8_1, part8_2, part8_3, part8_4, part8_5, part8_6, part8_7, E]

theorem name_eql (a b : List UInt8) (ha : a.length = 8) (hb : b.length = 8) (w : World) : (binOp .eql 33 (nameV a) (nameV b)).run Try.prog w = .ok (.bool (a == b)) w := by
  rw [run_eql_struct, show (10000 : Nat) = 9998 + 2 from rfl, name_equal 9998 a b ha hb w]
  rfl
theorem name_neq (a b : List UInt8) (ha : a.length = 8) (hb : b.length = 8) (w : World) : (binOp .neq 33 (nameV a) (nameV b)).run Try.prog w = .ok (.bool (!(a == b))) w := by
  rw [run_neq_struct, show (10000 : Nat) = 9998 + 2 from rfl, name_equal 9998 a b ha hb w]
  rfl

theorem fit_spell {v : VoteS} (hf : v.Fit) : ∃ p0 p1 p2 p3 p4 p5 p6 p7 q0 q1 q2 q3 q4 q5 q6 q7, v.parent = [p0, p1, p2, p3, p4, p5, p6, p7] ∧ v.value = [q0, q1, q2, q3, q4, q5, q6, q7] := by
  obtain ⟨p0, p1, p2, p3, p4, p5, p6, p7, l, e1⟩ := eight v.parent (by rw [hf.parent]; omega)
  obtain ⟨q0, q1, q2, q3, q4, q5, q6, q7, r, e2⟩ := eight v.value (by rw [hf.value]; omega)
  have h1 := hf.parent
  have h2 := hf.value
  rw [e1] at h1
  rw [e2] at h2
  obtain rfl : l = [] := by simpa using h1
  obtain rfl : r = [] := by simpa using h2
  exact ⟨p0, p1, p2, p3, p4, p5, p6, p7, q0, q1, q2, q3, q4, q5, q6, q7, e1, e2⟩

theorem part22_0 (z0 z1 z2 z3 z4 z5 : Int) (p0 p1 p2 p3 p4 p5 p6 p7 q0 q1 q2 q3 q4 q5 q6 q7 : UInt8) (w : World) : (part 3 #[.int .i64 z0, .int .i64 z1, .int .i64 z2, .int .i64 z3, .int .i64 z4, .int .i64 z5, byteV p0, byteV p1, byteV p2, byteV p3, byteV p4, byteV p5, byteV p6, byteV p7, byteV q0, byteV q1, byteV q2, byteV q3, byteV q4, byteV q5, byteV q6, byteV q7] 0).run Try.prog w = .ok (.int .i64 z0) w := by kernel_rfl
theorem part22_1 (z0 z1 z2 z3 z4 z5 : Int) (p0 p1 p2 p3 p4 p5 p6 p7 q0 q1 q2 q3 q4 q5 q6 q7 : UInt8) (w : World) : (part 3 #[.int .i64 z0, .int .i64 z1, .int .i64 z2, .int .i64 z3, .int .i64 z4, .int .i64 z5, byteV p0, byteV p1, byteV p2, byteV p3, byteV p4, byteV p5, byteV p6, byteV p7, byteV q0, byteV q1, byteV q2, byteV q3, byteV q4, byteV q5, byteV q6, byteV q7] 1).run Try.prog w = .ok (.int .i64 z1) w := by kernel_rfl
theorem part22_2 (z0 z1 z2 z3 z4 z5 : Int) (p0 p1 p2 p3 p4 p5 p6 p7 q0 q1 q2 q3 q4 q5 q6 q7 : UInt8) (w : World) : (part 3 #[.int .i64 z0, .int .i64 z1, .int .i64 z2, .int .i64 z3, .int .i64 z4, .int .i64 z5, byteV p0, byteV p1, byteV p2, byteV p3, byteV p4, byteV p5, byteV p6, byteV p7, byteV q0, byteV q1, byteV q2, byteV q3, byteV q4, byteV q5, byteV q6, byteV q7] 2).run Try.prog w = .ok (.int .i64 z2) w := by kernel_rfl
theorem part22_3 (z0 z1 z2 z3 z4 z5 : Int) (p0 p1 p2 p3 p4 p5 p6 p7 q0 q1 q2 q3 q4 q5 q6 q7 : UInt8) (w : World) : (part 3 #[.int .i64 z0, .int .i64 z1, .int .i64 z2, .int .i64 z3, .int .i64 z4, .int .i64 z5, byteV p0, byteV p1, byteV p2, byteV p3, byteV p4, byteV p5, byteV p6, byteV p7, byteV q0, byteV q1, byteV q2, byteV q3, byteV q4, byteV q5, byteV q6, byteV q7] 3).run Try.prog w = .ok (.int .i64 z3) w := by kernel_rfl
theorem part22_4 (z0 z1 z2 z3 z4 z5 : Int) (p0 p1 p2 p3 p4 p5 p6 p7 q0 q1 q2 q3 q4 q5 q6 q7 : UInt8) (w : World) : (part 3 #[.int .i64 z0, .int .i64 z1, .int .i64 z2, .int .i64 z3, .int .i64 z4, .int .i64 z5, byteV p0, byteV p1, byteV p2, byteV p3, byteV p4, byteV p5, byteV p6, byteV p7, byteV q0, byteV q1, byteV q2, byteV q3, byteV q4, byteV q5, byteV q6, byteV q7] 4).run Try.prog w = .ok (.int .i64 z4) w := by kernel_rfl
theorem part22_5 (z0 z1 z2 z3 z4 z5 : Int) (p0 p1 p2 p3 p4 p5 p6 p7 q0 q1 q2 q3 q4 q5 q6 q7 : UInt8) (w : World) : (part 31 #[.int .i64 z0, .int .i64 z1, .int .i64 z2, .int .i64 z3, .int .i64 z4, .int .i64 z5, byteV p0, byteV p1, byteV p2, byteV p3, byteV p4, byteV p5, byteV p6, byteV p7, byteV q0, byteV q1, byteV q2, byteV q3, byteV q4, byteV q5, byteV q6, byteV q7] 5).run Try.prog w = .ok (.int .i64 z5) w := by kernel_rfl
theorem part22_6 (z0 z1 z2 z3 z4 z5 : Int) (p0 p1 p2 p3 p4 p5 p6 p7 q0 q1 q2 q3 q4 q5 q6 q7 : UInt8) (w : World) : (part 33 #[.int .i64 z0, .int .i64 z1, .int .i64 z2, .int .i64 z3, .int .i64 z4, .int .i64 z5, byteV p0, byteV p1, byteV p2, byteV p3, byteV p4, byteV p5, byteV p6, byteV p7, byteV q0, byteV q1, byteV q2, byteV q3, byteV q4, byteV q5, byteV q6, byteV q7] 6).run Try.prog w = .ok (nameV [p0, p1, p2, p3, p4, p5, p6, p7]) w := by kernel_rfl
theorem part22_7 (z0 z1 z2 z3 z4 z5 : Int) (p0 p1 p2 p3 p4 p5 p6 p7 q0 q1 q2 q3 q4 q5 q6 q7 : UInt8) (w : World) : (part 33 #[.int .i64 z0, .int .i64 z1, .int .i64 z2, .int .i64 z3, .int .i64 z4, .int .i64 z5, byteV p0, byteV p1, byteV p2, byteV p3, byteV p4, byteV p5, byteV p6, byteV p7, byteV q0, byteV q1, byteV q2, byteV q3, byteV q4, byteV q5, byteV q6, byteV q7] 14).run Try.prog w = .ok (nameV [q0, q1, q2, q3, q4, q5, q6, q7]) w := by kernel_rfl

set_option maxRecDepth 100000 in
theorem vote_equal (a b : VoteS) (ha : a.Fit) (hb : b.Fit) (w : World) : (Op.equalIn 10000 35 (voteV a) (voteV b)).run Try.prog w = .ok (decide (a = b)) w := by
  obtain ⟨p0, p1, p2, p3, p4, p5, p6, p7, q0, q1, q2, q3, q4, q5, q6, q7, e1, e2⟩ := fit_spell ha
  obtain ⟨r0, r1, r2, r3, r4, r5, r6, r7, s0, s1, s2, s3, s4, s5, s6, s7, e3, e4⟩ := fit_spell hb
  have h1 : voteV a = .agg #[.int .i64 a.kind, .int .i64 a.slot, .int .i64 a.round, .int .i64 a.choice, .int .i64 a.signer, .int .i64 a.support, byteV p0, byteV p1, byteV p2, byteV p3, byteV p4, byteV p5, byteV p6, byteV p7, byteV q0, byteV q1, byteV q2, byteV q3, byteV q4, byteV q5, byteV q6, byteV q7] := by
    unfold voteV voteCells; rw [e1, e2]; rfl
  have h2 : voteV b = .agg #[.int .i64 b.kind, .int .i64 b.slot, .int .i64 b.round, .int .i64 b.choice, .int .i64 b.signer, .int .i64 b.support, byteV r0, byteV r1, byteV r2, byteV r3, byteV r4, byteV r5, byteV r6, byteV r7, byteV s0, byteV s1, byteV s2, byteV s3, byteV s4, byteV s5, byteV s6, byteV s7] := by
    unfold voteV voteCells; rw [e3, e4]; rfl
  have hS : Try.prog.underlying 35 = some (.struct (Try.prog.fieldsOf 35)) := by kernel_rfl
  have hp : Try.prog.stoodInHeld 35 = false := by kernel_rfl
  have I : ∀ (x y : Int) (w : World), (Op.equalIn 9999 3 (.int .i64 x) (.int .i64 y)).run Try.prog w = .ok (x == y) w := fun x y w => run_equalIn_int w 9998 3 .i64 .i64 x y Try.underlying3
  have M : ∀ (x y : Int) (w : World), (Op.equalIn 9999 31 (.int .i64 x) (.int .i64 y)).run Try.prog w = .ok (x == y) w := fun x y w => run_equalIn_int w 9998 31 .i64 .i64 x y Try.underlying31
  have N1 : ∀ w, (Op.equalIn 9999 33 (nameV [p0, p1, p2, p3, p4, p5, p6, p7]) (nameV [r0, r1, r2, r3, r4, r5, r6, r7])).run Try.prog w = .ok (decide (a.parent = b.parent)) w := fun w => by
    rw [show (9999 : Nat) = 9997 + 2 from rfl, name_equal 9997 _ _ rfl rfl w, e1, e3, beq_dec]
  have N2 : ∀ w, (Op.equalIn 9999 33 (nameV [q0, q1, q2, q3, q4, q5, q6, q7]) (nameV [s0, s1, s2, s3, s4, s5, s6, s7])).run Try.prog w = .ok (decide (a.value = b.value)) w := fun w => by
    rw [show (9999 : Nat) = 9997 + 2 from rfl, name_equal 9997 _ _ rfl rfl w, e2, e4, beq_dec]
  have hfs : (Try.prog.fieldsOf 35).toList.map (fun f => (f.name, f.type, f.offset)) = [("Kind", 3, 0), ("Slot", 3, 1), ("Round", 3, 2), ("Choice", 3, 3), ("Signer", 3, 4), ("Support", 31, 5), ("Parent", 33, 6), ("Value", 33, 14)] := by kernel_rfl
  have step : ∀ (d : Nat) (xs ys : Array Value) (f : Field) (fs : List Field) (w : World), f.name ≠ "_" → (Op.eqFields d xs ys (f :: fs)).run Try.prog w = ((part f.type xs f.offset).run Try.prog w).andThen fun u w => ((part f.type ys f.offset).run Try.prog w).andThen fun z w => ((Op.equalIn d f.type u z).run Try.prog w).andThen fun r w => if r = false then .ok false w else (Op.eqFields d xs ys fs).run Try.prog w := fun d xs ys f fs w hn => by
    simp [Op.eqFields, hn]
  rw [h1, h2, show (10000 : Nat) = 9999 + 1 from rfl, run_equalIn_agg w 9999 35 _ _ hS hp]
  generalize (Try.prog.fieldsOf 35).toList = fl at hfs ⊢
  obtain ⟨f0, l0, rfl⟩ : ∃ f l, fl = f :: l := List.exists_cons_of_ne_nil (by rintro rfl; simp at hfs)
  rw [List.map_cons, List.cons.injEq, Prod.mk.injEq, Prod.mk.injEq] at hfs
  obtain ⟨⟨n0, t0, o0⟩, hfs⟩ := hfs
  obtain ⟨f1, l1, rfl⟩ : ∃ f l, l0 = f :: l := List.exists_cons_of_ne_nil (by rintro rfl; simp at hfs)
  rw [List.map_cons, List.cons.injEq, Prod.mk.injEq, Prod.mk.injEq] at hfs
  obtain ⟨⟨n1, t1, o1⟩, hfs⟩ := hfs
  obtain ⟨f2, l2, rfl⟩ : ∃ f l, l1 = f :: l := List.exists_cons_of_ne_nil (by rintro rfl; simp at hfs)
  rw [List.map_cons, List.cons.injEq, Prod.mk.injEq, Prod.mk.injEq] at hfs
  obtain ⟨⟨n2, t2, o2⟩, hfs⟩ := hfs
  obtain ⟨f3, l3, rfl⟩ : ∃ f l, l2 = f :: l := List.exists_cons_of_ne_nil (by rintro rfl; simp at hfs)
  rw [List.map_cons, List.cons.injEq, Prod.mk.injEq, Prod.mk.injEq] at hfs
  obtain ⟨⟨n3, t3, o3⟩, hfs⟩ := hfs
  obtain ⟨f4, l4, rfl⟩ : ∃ f l, l3 = f :: l := List.exists_cons_of_ne_nil (by rintro rfl; simp at hfs)
  rw [List.map_cons, List.cons.injEq, Prod.mk.injEq, Prod.mk.injEq] at hfs
  obtain ⟨⟨n4, t4, o4⟩, hfs⟩ := hfs
  obtain ⟨f5, l5, rfl⟩ : ∃ f l, l4 = f :: l := List.exists_cons_of_ne_nil (by rintro rfl; simp at hfs)
  rw [List.map_cons, List.cons.injEq, Prod.mk.injEq, Prod.mk.injEq] at hfs
  obtain ⟨⟨n5, t5, o5⟩, hfs⟩ := hfs
  obtain ⟨f6, l6, rfl⟩ : ∃ f l, l5 = f :: l := List.exists_cons_of_ne_nil (by rintro rfl; simp at hfs)
  rw [List.map_cons, List.cons.injEq, Prod.mk.injEq, Prod.mk.injEq] at hfs
  obtain ⟨⟨n6, t6, o6⟩, hfs⟩ := hfs
  obtain ⟨f7, l7, rfl⟩ : ∃ f l, l6 = f :: l := List.exists_cons_of_ne_nil (by rintro rfl; simp at hfs)
  rw [List.map_cons, List.cons.injEq, Prod.mk.injEq, Prod.mk.injEq] at hfs
  obtain ⟨⟨n7, t7, o7⟩, hfs⟩ := hfs
  obtain rfl : l7 = [] := by simpa using hfs
  rw [step _ _ _ _ _ _ (by rw [n0]; decide), t0, o0]
  simp only [Result.andThen_ok, part22_0, I]
  rw [step _ _ _ _ _ _ (by rw [n1]; decide), t1, o1]
  simp only [Result.andThen_ok, part22_1, I]
  rw [step _ _ _ _ _ _ (by rw [n2]; decide), t2, o2]
  simp only [Result.andThen_ok, part22_2, I]
  rw [step _ _ _ _ _ _ (by rw [n3]; decide), t3, o3]
  simp only [Result.andThen_ok, part22_3, I]
  rw [step _ _ _ _ _ _ (by rw [n4]; decide), t4, o4]
  simp only [Result.andThen_ok, part22_4, I]
  rw [step _ _ _ _ _ _ (by rw [n5]; decide), t5, o5]
  simp only [Result.andThen_ok, part22_5, M]
  rw [step _ _ _ _ _ _ (by rw [n6]; decide), t6, o6]
  simp only [Result.andThen_ok, part22_6, N1]
  rw [step _ _ _ _ _ _ (by rw [n7]; decide), t7, o7]
  simp only [Result.andThen_ok, part22_7, N2]
  simp only [Op.eqFields, Sem.run_pure]
  have iff : a = b ↔ a.kind = b.kind ∧ a.slot = b.slot ∧ a.round = b.round ∧ a.choice = b.choice ∧ a.signer = b.signer ∧ a.support = b.support ∧ a.parent = b.parent ∧ a.value = b.value := ⟨fun h => by rw [h]; simp, fun ⟨h1, h2, h3, h4, h5, h6, h7, h8⟩ => VoteS.ext' h1 h2 h3 h4 h5 h6 h7 h8⟩
  rw [show (decide (a = b)) = decide (a.kind = b.kind ∧ a.slot = b.slot ∧ a.round = b.round ∧ a.choice = b.choice ∧ a.signer = b.signer ∧ a.support = b.support ∧ a.parent = b.parent ∧ a.value = b.value) from decide_eq_decide.2 iff]
  by_cases c0 : a.kind = b.kind
  rotate_left
  · simp [c0]
  by_cases c1 : a.slot = b.slot
  rotate_left
  · simp [c0, c1]
  by_cases c2 : a.round = b.round
  rotate_left
  · simp [c0, c1, c2]
  by_cases c3 : a.choice = b.choice
  rotate_left
  · simp [c0, c1, c2, c3]
  by_cases c4 : a.signer = b.signer
  rotate_left
  · simp [c0, c1, c2, c3, c4]
  by_cases c5 : a.support = b.support
  rotate_left
  · simp [c0, c1, c2, c3, c4, c5]
  by_cases c6 : a.parent = b.parent
  rotate_left
  · simp [c0, c1, c2, c3, c4, c5, c6]
  by_cases c7 : a.value = b.value
  rotate_left
  · simp [c0, c1, c2, c3, c4, c5, c6, c7]
  simp [c0, c1, c2, c3, c4, c5, c6, c7]

theorem vote_eql (a b : VoteS) (ha : a.Fit) (hb : b.Fit) (w : World) : (binOp .eql 35 (voteV a) (voteV b)).run Try.prog w = .ok (.bool (decide (a = b))) w := by
  rw [run_eql_struct, vote_equal a b ha hb w]
  rfl
theorem vote_neq (a b : VoteS) (ha : a.Fit) (hb : b.Fit) (w : World) : (binOp .neq 35 (voteV a) (voteV b)).run Try.prog w = .ok (.bool (!decide (a = b))) w := by
  rw [run_neq_struct, vote_equal a b ha hb w]
  rfl
end

section
open Go.RowKit

theorem ret_bool {a b : Bool} (h : a = b) : Ending.returned (.bool a) = .returned (.bool b) := by rw [h]

theorem between_any (n lo hi : Int) (w : World) : Calls Try.prog 95 #[.int .i64 n, .int .i64 lo, .int .i64 hi] w fun e w' => e = .returned (.bool (decide (lo ≤ n ∧ n ≤ hi))) ∧ w = w' := by
  by_cases h1 : lo ≤ n
  · by_cases h2 : n ≤ hi
    · have t1 : decide (lo ≤ n) = true := by simpa using h1
      have t2 : decide (n ≤ hi) = true := by simpa using h2
      have E := Lib.hid (show true = decide (lo ≤ n ∧ n ≤ hi) by simp [h1, h2])
      generalize decide (lo ≤ n ∧ n ≤ hi) = z at E ⊢
      go_enter Try.func95, Try.ntmps95
      go_wp2
      go_ret
      exact ⟨ret_bool E.out, rfl⟩
    · have t1 : decide (lo ≤ n) = true := by simpa using h1
      have t2 : decide (n ≤ hi) = false := by simpa using h2
      have E := Lib.hid (show false = decide (lo ≤ n ∧ n ≤ hi) by simp [h1, h2])
      generalize decide (lo ≤ n ∧ n ≤ hi) = z at E ⊢
      go_enter Try.func95, Try.ntmps95
      go_wp2
      go_ret
      exact ⟨ret_bool E.out, rfl⟩
  · have t1 : decide (lo ≤ n) = false := by simpa using h1
    have E := Lib.hid (show false = decide (lo ≤ n ∧ n ≤ hi) by simp [h1])
    generalize decide (lo ≤ n ∧ n ≤ hi) = z at E ⊢
    go_enter Try.func95, Try.ntmps95
    go_wp2
    go_ret
    exact ⟨ret_bool E.out, rfl⟩

theorem bv_split (x m : BitVec 64) : (x &&& m) ||| (x &&& ~~~m) = x := by
  rw [← BitVec.and_or_distrib_left, BitVec.or_not_self, BitVec.and_allOnes]
theorem andNot_mask (x : Int) (h : in64 x) : (bits .andNot .i64 x 1023 == 0) = decide (0 ≤ x ∧ x ≤ 1023) := by
  obtain ⟨h1, h2⟩ := h
  have hm : (BitVec.ofInt 64 1023).toNat = 2 ^ 10 - 1 := by decide
  have key : (BitVec.ofInt 64 x &&& BitVec.ofInt 64 1023).toNat = (x % ((2 ^ 64 : Nat) : Int)).toNat % 2 ^ 10 := by
    rw [BitVec.toNat_and, BitVec.toNat_ofInt, hm, Nat.and_two_pow_sub_one_eq_mod]
  have hx : (BitVec.ofInt 64 x).toNat = (x % ((2 ^ 64 : Nat) : Int)).toNat := BitVec.toNat_ofInt ..
  have hlt := (BitVec.ofInt 64 x &&& ~~~ BitVec.ofInt 64 1023).isLt
  have e : bits .andNot .i64 x 1023 = IntKind.i64.wrap ((BitVec.ofInt 64 x &&& ~~~ BitVec.ofInt 64 1023).toNat : Nat) := rfl
  rw [Bool.eq_iff_iff, beq_iff_eq, decide_eq_true_eq, e, IntKind.wrap_i64]
  have hs := bv_split (BitVec.ofInt 64 x) (BitVec.ofInt 64 1023)
  constructor
  · intro hz
    have h0 : (BitVec.ofInt 64 x &&& ~~~ BitVec.ofInt 64 1023).toNat = 0 := by omega
    have h0' : (BitVec.ofInt 64 x &&& ~~~ BitVec.ofInt 64 1023) = 0#64 := BitVec.eq_of_toNat_eq h0
    rw [h0', BitVec.or_zero] at hs
    have := congrArg BitVec.toNat hs
    rw [key, hx] at this
    omega
  · rintro ⟨h3, h4⟩
    have e1 : BitVec.ofInt 64 x &&& BitVec.ofInt 64 1023 = BitVec.ofInt 64 x := by
      apply BitVec.eq_of_toNat_eq
      rw [key, hx]
      omega
    have e2 : (BitVec.ofInt 64 x &&& ~~~ BitVec.ofInt 64 1023) = 0#64 := by
      rw [← e1, BitVec.and_assoc, BitVec.and_not_self]; exact BitVec.and_zero
    rw [e2]
    decide
end

section
open Go.RowKit


theorem between_q (n lo hi : Int) (W : World) (a : Nat) : Calls Try.prog 95 #[.int .i64 n, .int .i64 lo, .int .i64 hi] (W.drewN a) fun e w' => e = .returned (.bool (decide (lo ≤ n ∧ n ≤ hi))) ∧ ∃ q, w' = W.drewN q :=
  (between_any n lo hi _).mono fun _ _ ⟨h1, h2⟩ => ⟨h1, a, h2.symm⟩
theorem cq_ok {c : Int} {l z : List UInt8} (h : (l == z) = !(c == 1)) : c = 1 ↔ l ≠ z := by
  by_cases h1 : l = z
  · subst h1
    simp at h ⊢
    exact h
  · rw [beq_eq_false_iff_ne.2 h1] at h
    simp at h
    simp [h, h1]
theorem cq_no {c : Int} {l z : List UInt8} (h : (l == z) = (c == 1)) : ¬ (c = 1 ↔ l ≠ z) := by
  by_cases h1 : l = z
  · subst h1
    simp at h
    simp [h]
  · rw [beq_eq_false_iff_ne.2 h1] at h
    simp at h
    simp [h1, h]
theorem vb_part {v : VoteS} (h1 : 1 ≤ v.kind ∧ v.kind ≤ 7) (h2 : 0 ≤ v.signer ∧ v.signer ≤ 9) (h3 : (v.value == zero8) = !(v.choice == 1)) (h4 : 0 ≤ v.support ∧ v.support ≤ 1023) : validB v = decide (0 ≤ v.slot ∧ v.slot ≤ slotsOf v.kind ∧ roundsOk v) := by
  have h3' := cq_ok h3
  unfold validB
  rw [decide_eq_decide]
  unfold ValidP
  simp only [h1.1, h1.2, h2.1, h2.2, h4.1, h4.2, h3', true_and]
theorem vb_no {v : VoteS} (h : ¬ ValidP v) : false = validB v := by unfold validB; simp [h]

set_option maxRecDepth 100000 in
set_option maxHeartbeats 4000000 in
theorem valid_a (k s r c g m : Int) (p0 p1 p2 p3 p4 p5 p6 p7 q0 q1 q2 q3 q4 q5 q6 q7 : UInt8) (_hm : in64 m) (w : World) (h : ¬ (1 ≤ k ∧ k ≤ 7) ∨ (1 ≤ k ∧ k ≤ 7) ∧ ¬ (0 ≤ g ∧ g ≤ 9)) :
    Calls Try.prog 85 #[voteV ⟨k, s, r, c, g, m, [p0, p1, p2, p3, p4, p5, p6, p7], [q0, q1, q2, q3, q4, q5, q6, q7]⟩] w fun e w' => e = .returned (.bool (validB ⟨k, s, r, c, g, m, [p0, p1, p2, p3, p4, p5, p6, p7], [q0, q1, q2, q3, q4, q5, q6, q7]⟩)) ∧ Upd NoF w w' := by
  have HV := Lib.hid (vb_no (v := ⟨k, s, r, c, g, m, [p0, p1, p2, p3, p4, p5, p6, p7], [q0, q1, q2, q3, q4, q5, q6, q7]⟩) (by rintro ⟨e1, e2, e3, e4, _⟩; simp only at e1 e2 e3 e4; omega))
  generalize validB ⟨k, s, r, c, g, m, [p0, p1, p2, p3, p4, p5, p6, p7], [q0, q1, q2, q3, q4, q5, q6, q7]⟩ = V at HV ⊢
  rw [show voteV ⟨k, s, r, c, g, m, [p0, p1, p2, p3, p4, p5, p6, p7], [q0, q1, q2, q3, q4, q5, q6, q7]⟩ = .agg #[.int .i64 k, .int .i64 s, .int .i64 r, .int .i64 c, .int .i64 g, .int .i64 m, byteV p0, byteV p1, byteV p2, byteV p3, byteV p4, byteV p5, byteV p6, byteV p7, byteV q0, byteV q1, byteV q2, byteV q3, byteV q4, byteV q5, byteV q6, byteV q7] from rfl]
  rcases h with h | ⟨h, h'⟩
  all_goals
    go_enter Try.func85, Try.ntmps85
    go_wp2_with (go_at_call 95; refine (between_any _ _ _ _).mono ?_; rintro e w' ⟨rfl, rfl⟩)
    go_ret
    exact ⟨ret_bool HV.out, (Upd.refl NoF w).alloc _⟩

set_option maxRecDepth 100000 in
set_option maxHeartbeats 4000000 in
theorem valid_c (k s r c g m : Int) (p0 p1 p2 p3 p4 p5 p6 p7 q0 q1 q2 q3 q4 q5 q6 q7 : UInt8) (_hm : in64 m) (w : World) (h1 : 1 ≤ k ∧ k ≤ 7) (h2 : 0 ≤ g ∧ g ≤ 9) (h3 : ([q0, q1, q2, q3, q4, q5, q6, q7] == zero8) = (c == 1)) :
    Calls Try.prog 85 #[voteV ⟨k, s, r, c, g, m, [p0, p1, p2, p3, p4, p5, p6, p7], [q0, q1, q2, q3, q4, q5, q6, q7]⟩] w fun e w' => e = .returned (.bool (validB ⟨k, s, r, c, g, m, [p0, p1, p2, p3, p4, p5, p6, p7], [q0, q1, q2, q3, q4, q5, q6, q7]⟩)) ∧ Upd NoF w w' := by
  have HV := Lib.hid (vb_no (v := ⟨k, s, r, c, g, m, [p0, p1, p2, p3, p4, p5, p6, p7], [q0, q1, q2, q3, q4, q5, q6, q7]⟩) (by
    rintro ⟨_, _, _, _, _, _, e, _⟩
    exact cq_no h3 e))
  have hq : ∀ w, (binOp .eql 33 (.agg #[byteV q0, byteV q1, byteV q2, byteV q3, byteV q4, byteV q5, byteV q6, byteV q7]) (.agg #[.int .u8 0, .int .u8 0, .int .u8 0, .int .u8 0, .int .u8 0, .int .u8 0, .int .u8 0, .int .u8 0])).run Try.prog w = .ok (.bool ([q0, q1, q2, q3, q4, q5, q6, q7] == zero8)) w := fun w => name_eql [q0, q1, q2, q3, q4, q5, q6, q7] zero8 rfl rfl w
  have hz : ∀ w, (Instr.build 33 #[]).run Try.prog w = .ok (.agg #[.int .u8 0, .int .u8 0, .int .u8 0, .int .u8 0, .int .u8 0, .int .u8 0, .int .u8 0, .int .u8 0]) w := fun w => by kernel_rfl
  rw [h3] at hq
  have h3' : ((c == 1) == (c == 1)) = true := by simp
  clear h3
  generalize validB ⟨k, s, r, c, g, m, [p0, p1, p2, p3, p4, p5, p6, p7], [q0, q1, q2, q3, q4, q5, q6, q7]⟩ = V at HV ⊢
  rw [show voteV ⟨k, s, r, c, g, m, [p0, p1, p2, p3, p4, p5, p6, p7], [q0, q1, q2, q3, q4, q5, q6, q7]⟩ = .agg #[.int .i64 k, .int .i64 s, .int .i64 r, .int .i64 c, .int .i64 g, .int .i64 m, byteV p0, byteV p1, byteV p2, byteV p3, byteV p4, byteV p5, byteV p6, byteV p7, byteV q0, byteV q1, byteV q2, byteV q3, byteV q4, byteV q5, byteV q6, byteV q7] from rfl]
  go_enter Try.func85, Try.ntmps85
  go_wp2_with (go_at_call 95; refine (between_any _ _ _ _).mono ?_; rintro e w' ⟨rfl, rfl⟩)
  go_quiet (fail)
  go_wp2
  go_ret
  exact ⟨ret_bool HV.out, ((Upd.refl NoF w).alloc _).drewN _⟩

set_option maxRecDepth 100000 in
set_option maxHeartbeats 4000000 in
theorem valid_d (k s r c g m : Int) (p0 p1 p2 p3 p4 p5 p6 p7 q0 q1 q2 q3 q4 q5 q6 q7 : UInt8) (hm : in64 m) (w : World) (h1 : 1 ≤ k ∧ k ≤ 7) (h2 : 0 ≤ g ∧ g ≤ 9) (h3 : ([q0, q1, q2, q3, q4, q5, q6, q7] == zero8) = !(c == 1)) (h4 : ¬ (0 ≤ m ∧ m ≤ 1023)) :
    Calls Try.prog 85 #[voteV ⟨k, s, r, c, g, m, [p0, p1, p2, p3, p4, p5, p6, p7], [q0, q1, q2, q3, q4, q5, q6, q7]⟩] w fun e w' => e = .returned (.bool (validB ⟨k, s, r, c, g, m, [p0, p1, p2, p3, p4, p5, p6, p7], [q0, q1, q2, q3, q4, q5, q6, q7]⟩)) ∧ Upd NoF w w' := by
  have HV := Lib.hid (vb_no (v := ⟨k, s, r, c, g, m, [p0, p1, p2, p3, p4, p5, p6, p7], [q0, q1, q2, q3, q4, q5, q6, q7]⟩) (by
    rintro ⟨_, _, _, _, e1, e2, _⟩
    exact h4 ⟨e1, e2⟩))
  have hq : ∀ w, (binOp .eql 33 (.agg #[byteV q0, byteV q1, byteV q2, byteV q3, byteV q4, byteV q5, byteV q6, byteV q7]) (.agg #[.int .u8 0, .int .u8 0, .int .u8 0, .int .u8 0, .int .u8 0, .int .u8 0, .int .u8 0, .int .u8 0])).run Try.prog w = .ok (.bool ([q0, q1, q2, q3, q4, q5, q6, q7] == zero8)) w := fun w => name_eql [q0, q1, q2, q3, q4, q5, q6, q7] zero8 rfl rfl w
  have hz : ∀ w, (Instr.build 33 #[]).run Try.prog w = .ok (.agg #[.int .u8 0, .int .u8 0, .int .u8 0, .int .u8 0, .int .u8 0, .int .u8 0, .int .u8 0, .int .u8 0]) w := fun w => by kernel_rfl
  rw [h3] at hq
  have h3' : ((c == 1) == !(c == 1)) = false := by cases (c == 1) <;> rfl
  have hn : (bits .andNot .i64 m 1023 == 0) = false := by rw [andNot_mask m hm]; simp [h4]
  have hn' : (bits .andNot .i64 m 1023 != 0) = true := by rw [bne, hn]; rfl
  clear h3 h4
  generalize validB ⟨k, s, r, c, g, m, [p0, p1, p2, p3, p4, p5, p6, p7], [q0, q1, q2, q3, q4, q5, q6, q7]⟩ = V at HV ⊢
  rw [show voteV ⟨k, s, r, c, g, m, [p0, p1, p2, p3, p4, p5, p6, p7], [q0, q1, q2, q3, q4, q5, q6, q7]⟩ = .agg #[.int .i64 k, .int .i64 s, .int .i64 r, .int .i64 c, .int .i64 g, .int .i64 m, byteV p0, byteV p1, byteV p2, byteV p3, byteV p4, byteV p5, byteV p6, byteV p7, byteV q0, byteV q1, byteV q2, byteV q3, byteV q4, byteV q5, byteV q6, byteV q7] from rfl]
  go_enter Try.func85, Try.ntmps85
  go_wp2_with (go_at_call 95; refine (between_any _ _ _ _).mono ?_; rintro e w' ⟨rfl, rfl⟩)
  go_quiet (fail)
  go_wp2
  go_ret
  exact ⟨ret_bool HV.out, ((Upd.refl NoF w).alloc _).drewN _⟩
end

section
open Go.RowKit

set_option maxRecDepth 100000 in
set_option maxHeartbeats 4000000 in
theorem valid_e1n (k s r c g m : Int) (p0 p1 p2 p3 p4 p5 p6 p7 q0 q1 q2 q3 q4 q5 q6 q7 : UInt8) (hm : in64 m) (w : World) (h1 : 1 ≤ k ∧ k ≤ 7) (h2 : 0 ≤ g ∧ g ≤ 9) (h3 : ([q0, q1, q2, q3, q4, q5, q6, q7] == zero8) = !(c == 1)) (h4 : 0 ≤ m ∧ m ≤ 1023) (hk : k = 1) (h6 : ¬ r = 0) :
    Calls Try.prog 85 #[voteV ⟨k, s, r, c, g, m, [p0, p1, p2, p3, p4, p5, p6, p7], [q0, q1, q2, q3, q4, q5, q6, q7]⟩] w fun e w' => e = .returned (.bool (validB ⟨k, s, r, c, g, m, [p0, p1, p2, p3, p4, p5, p6, p7], [q0, q1, q2, q3, q4, q5, q6, q7]⟩)) ∧ Upd NoF w w' := by
  subst hk
  have HV := Lib.hid (show validB ⟨1, s, r, c, g, m, [p0, p1, p2, p3, p4, p5, p6, p7], [q0, q1, q2, q3, q4, q5, q6, q7]⟩ = decide (0 ≤ s ∧ s ≤ 9 ∧ r = 0 ∧ m = 0 ∧ c = 1) from by
    rw [vb_part (v := ⟨1, s, r, c, g, m, [p0, p1, p2, p3, p4, p5, p6, p7], [q0, q1, q2, q3, q4, q5, q6, q7]⟩) h1 h2 h3 h4, decide_eq_decide]
    unfold slotsOf roundsOk
    simp only
    simp)
  generalize validB ⟨1, s, r, c, g, m, [p0, p1, p2, p3, p4, p5, p6, p7], [q0, q1, q2, q3, q4, q5, q6, q7]⟩ = V at HV ⊢
  have hq : ∀ w, (binOp .eql 33 (.agg #[byteV q0, byteV q1, byteV q2, byteV q3, byteV q4, byteV q5, byteV q6, byteV q7]) (.agg #[.int .u8 0, .int .u8 0, .int .u8 0, .int .u8 0, .int .u8 0, .int .u8 0, .int .u8 0, .int .u8 0])).run Try.prog w = .ok (.bool ([q0, q1, q2, q3, q4, q5, q6, q7] == zero8)) w := fun w => name_eql [q0, q1, q2, q3, q4, q5, q6, q7] zero8 rfl rfl w
  have hz : ∀ w, (Instr.build 33 #[]).run Try.prog w = .ok (.agg #[.int .u8 0, .int .u8 0, .int .u8 0, .int .u8 0, .int .u8 0, .int .u8 0, .int .u8 0, .int .u8 0]) w := fun w => by kernel_rfl
  rw [h3] at hq
  have h3' : ((c == 1) == !(c == 1)) = false := by cases (c == 1) <;> rfl
  have hn : (bits .andNot .i64 m 1023 == 0) = true := by rw [andNot_mask m hm]; simp [h4]
  have hn' : (bits .andNot .i64 m 1023 != 0) = false := by rw [bne, hn]; rfl
  have t0 : (r == 0) = false := by simpa using h6
  clear h3 
  rw [show voteV ⟨1, s, r, c, g, m, [p0, p1, p2, p3, p4, p5, p6, p7], [q0, q1, q2, q3, q4, q5, q6, q7]⟩ = .agg #[.int .i64 1, .int .i64 s, .int .i64 r, .int .i64 c, .int .i64 g, .int .i64 m, byteV p0, byteV p1, byteV p2, byteV p3, byteV p4, byteV p5, byteV p6, byteV p7, byteV q0, byteV q1, byteV q2, byteV q3, byteV q4, byteV q5, byteV q6, byteV q7] from rfl]
  go_enter Try.func85, Try.ntmps85
  go_wp2_with (go_at_call 95; refine (between_any _ _ _ _).mono ?_; rintro e w' ⟨rfl, rfl⟩)
  go_quiet (fail)
  go_wp2
  go_quiet (fail)
  go_wp2_with (go_at_call 95; refine (between_any _ _ _ _).mono ?_; rintro e w' ⟨rfl, rfl⟩)
  all_goals
    go_ret
    refine ⟨ret_bool ?_, ((Upd.refl NoF w).alloc _).drewN _⟩
    rw [HV.out, Bool.eq_iff_iff]
    first | omega | (simp; done) | (simp; omega)

set_option maxRecDepth 100000 in
set_option maxHeartbeats 4000000 in
theorem valid_e1z (k s r c g m : Int) (p0 p1 p2 p3 p4 p5 p6 p7 q0 q1 q2 q3 q4 q5 q6 q7 : UInt8) (hm : in64 m) (w : World) (h1 : 1 ≤ k ∧ k ≤ 7) (h2 : 0 ≤ g ∧ g ≤ 9) (h3 : ([q0, q1, q2, q3, q4, q5, q6, q7] == zero8) = !(c == 1)) (h4 : 0 ≤ m ∧ m ≤ 1023) (hk : k = 1) (h6 : r = 0) :
    Calls Try.prog 85 #[voteV ⟨k, s, r, c, g, m, [p0, p1, p2, p3, p4, p5, p6, p7], [q0, q1, q2, q3, q4, q5, q6, q7]⟩] w fun e w' => e = .returned (.bool (validB ⟨k, s, r, c, g, m, [p0, p1, p2, p3, p4, p5, p6, p7], [q0, q1, q2, q3, q4, q5, q6, q7]⟩)) ∧ Upd NoF w w' := by
  subst hk
  subst h6
  have HV := Lib.hid (show validB ⟨1, s, 0, c, g, m, [p0, p1, p2, p3, p4, p5, p6, p7], [q0, q1, q2, q3, q4, q5, q6, q7]⟩ = decide (0 ≤ s ∧ s ≤ 9 ∧ (0 : Int) = 0 ∧ m = 0 ∧ c = 1) from by
    rw [vb_part (v := ⟨1, s, 0, c, g, m, [p0, p1, p2, p3, p4, p5, p6, p7], [q0, q1, q2, q3, q4, q5, q6, q7]⟩) h1 h2 h3 h4, decide_eq_decide]
    unfold slotsOf roundsOk
    simp only
    simp)
  generalize validB ⟨1, s, 0, c, g, m, [p0, p1, p2, p3, p4, p5, p6, p7], [q0, q1, q2, q3, q4, q5, q6, q7]⟩ = V at HV ⊢
  have hq : ∀ w, (binOp .eql 33 (.agg #[byteV q0, byteV q1, byteV q2, byteV q3, byteV q4, byteV q5, byteV q6, byteV q7]) (.agg #[.int .u8 0, .int .u8 0, .int .u8 0, .int .u8 0, .int .u8 0, .int .u8 0, .int .u8 0, .int .u8 0])).run Try.prog w = .ok (.bool ([q0, q1, q2, q3, q4, q5, q6, q7] == zero8)) w := fun w => name_eql [q0, q1, q2, q3, q4, q5, q6, q7] zero8 rfl rfl w
  have hz : ∀ w, (Instr.build 33 #[]).run Try.prog w = .ok (.agg #[.int .u8 0, .int .u8 0, .int .u8 0, .int .u8 0, .int .u8 0, .int .u8 0, .int .u8 0, .int .u8 0]) w := fun w => by kernel_rfl
  rw [h3] at hq
  have h3' : ((c == 1) == !(c == 1)) = false := by cases (c == 1) <;> rfl
  have hn : (bits .andNot .i64 m 1023 == 0) = true := by rw [andNot_mask m hm]; simp [h4]
  have hn' : (bits .andNot .i64 m 1023 != 0) = false := by rw [bne, hn]; rfl
  have t0 : ((0 : Int) == 0) = true := by rfl
  clear h3 
  rw [show voteV ⟨1, s, 0, c, g, m, [p0, p1, p2, p3, p4, p5, p6, p7], [q0, q1, q2, q3, q4, q5, q6, q7]⟩ = .agg #[.int .i64 1, .int .i64 s, .int .i64 0, .int .i64 c, .int .i64 g, .int .i64 m, byteV p0, byteV p1, byteV p2, byteV p3, byteV p4, byteV p5, byteV p6, byteV p7, byteV q0, byteV q1, byteV q2, byteV q3, byteV q4, byteV q5, byteV q6, byteV q7] from rfl]
  go_enter Try.func85, Try.ntmps85
  go_wp2_with (go_at_call 95; refine (between_any _ _ _ _).mono ?_; rintro e w' ⟨rfl, rfl⟩)
  go_quiet (fail)
  go_wp2
  go_quiet (fail)
  go_wp2_with (go_at_call 95; refine (between_any _ _ _ _).mono ?_; rintro e w' ⟨rfl, rfl⟩)
  all_goals
    go_ret
    refine ⟨ret_bool ?_, ((Upd.refl NoF w).alloc _).drewN _⟩
    rw [HV.out, Bool.eq_iff_iff]
    first | omega | (simp; done) | (simp; omega)

set_option maxRecDepth 100000 in
set_option maxHeartbeats 4000000 in
theorem valid_e2n (k s r c g m : Int) (p0 p1 p2 p3 p4 p5 p6 p7 q0 q1 q2 q3 q4 q5 q6 q7 : UInt8) (hm : in64 m) (w : World) (h1 : 1 ≤ k ∧ k ≤ 7) (h2 : 0 ≤ g ∧ g ≤ 9) (h3 : ([q0, q1, q2, q3, q4, q5, q6, q7] == zero8) = !(c == 1)) (h4 : 0 ≤ m ∧ m ≤ 1023) (hk : k = 2) (h6 : ¬ r = 0) :
    Calls Try.prog 85 #[voteV ⟨k, s, r, c, g, m, [p0, p1, p2, p3, p4, p5, p6, p7], [q0, q1, q2, q3, q4, q5, q6, q7]⟩] w fun e w' => e = .returned (.bool (validB ⟨k, s, r, c, g, m, [p0, p1, p2, p3, p4, p5, p6, p7], [q0, q1, q2, q3, q4, q5, q6, q7]⟩)) ∧ Upd NoF w w' := by
  subst hk
  have HV := Lib.hid (show validB ⟨2, s, r, c, g, m, [p0, p1, p2, p3, p4, p5, p6, p7], [q0, q1, q2, q3, q4, q5, q6, q7]⟩ = decide (0 ≤ s ∧ s ≤ 9 ∧ r = 0 ∧ m = 0 ∧ c = 1) from by
    rw [vb_part (v := ⟨2, s, r, c, g, m, [p0, p1, p2, p3, p4, p5, p6, p7], [q0, q1, q2, q3, q4, q5, q6, q7]⟩) h1 h2 h3 h4, decide_eq_decide]
    unfold slotsOf roundsOk
    simp only
    simp)
  generalize validB ⟨2, s, r, c, g, m, [p0, p1, p2, p3, p4, p5, p6, p7], [q0, q1, q2, q3, q4, q5, q6, q7]⟩ = V at HV ⊢
  have hq : ∀ w, (binOp .eql 33 (.agg #[byteV q0, byteV q1, byteV q2, byteV q3, byteV q4, byteV q5, byteV q6, byteV q7]) (.agg #[.int .u8 0, .int .u8 0, .int .u8 0, .int .u8 0, .int .u8 0, .int .u8 0, .int .u8 0, .int .u8 0])).run Try.prog w = .ok (.bool ([q0, q1, q2, q3, q4, q5, q6, q7] == zero8)) w := fun w => name_eql [q0, q1, q2, q3, q4, q5, q6, q7] zero8 rfl rfl w
  have hz : ∀ w, (Instr.build 33 #[]).run Try.prog w = .ok (.agg #[.int .u8 0, .int .u8 0, .int .u8 0, .int .u8 0, .int .u8 0, .int .u8 0, .int .u8 0, .int .u8 0]) w := fun w => by kernel_rfl
  rw [h3] at hq
  have h3' : ((c == 1) == !(c == 1)) = false := by cases (c == 1) <;> rfl
  have hn : (bits .andNot .i64 m 1023 == 0) = true := by rw [andNot_mask m hm]; simp [h4]
  have hn' : (bits .andNot .i64 m 1023 != 0) = false := by rw [bne, hn]; rfl
  have t0 : (r == 0) = false := by simpa using h6
  clear h3 
  rw [show voteV ⟨2, s, r, c, g, m, [p0, p1, p2, p3, p4, p5, p6, p7], [q0, q1, q2, q3, q4, q5, q6, q7]⟩ = .agg #[.int .i64 2, .int .i64 s, .int .i64 r, .int .i64 c, .int .i64 g, .int .i64 m, byteV p0, byteV p1, byteV p2, byteV p3, byteV p4, byteV p5, byteV p6, byteV p7, byteV q0, byteV q1, byteV q2, byteV q3, byteV q4, byteV q5, byteV q6, byteV q7] from rfl]
  go_enter Try.func85, Try.ntmps85
  go_wp2_with (go_at_call 95; refine (between_any _ _ _ _).mono ?_; rintro e w' ⟨rfl, rfl⟩)
  go_quiet (fail)
  go_wp2
  go_quiet (fail)
  go_wp2_with (go_at_call 95; refine (between_any _ _ _ _).mono ?_; rintro e w' ⟨rfl, rfl⟩)
  all_goals
    go_ret
    refine ⟨ret_bool ?_, ((Upd.refl NoF w).alloc _).drewN _⟩
    rw [HV.out, Bool.eq_iff_iff]
    first | omega | (simp; done) | (simp; omega)

set_option maxRecDepth 100000 in
set_option maxHeartbeats 4000000 in
theorem valid_e2z (k s r c g m : Int) (p0 p1 p2 p3 p4 p5 p6 p7 q0 q1 q2 q3 q4 q5 q6 q7 : UInt8) (hm : in64 m) (w : World) (h1 : 1 ≤ k ∧ k ≤ 7) (h2 : 0 ≤ g ∧ g ≤ 9) (h3 : ([q0, q1, q2, q3, q4, q5, q6, q7] == zero8) = !(c == 1)) (h4 : 0 ≤ m ∧ m ≤ 1023) (hk : k = 2) (h6 : r = 0) :
    Calls Try.prog 85 #[voteV ⟨k, s, r, c, g, m, [p0, p1, p2, p3, p4, p5, p6, p7], [q0, q1, q2, q3, q4, q5, q6, q7]⟩] w fun e w' => e = .returned (.bool (validB ⟨k, s, r, c, g, m, [p0, p1, p2, p3, p4, p5, p6, p7], [q0, q1, q2, q3, q4, q5, q6, q7]⟩)) ∧ Upd NoF w w' := by
  subst hk
  subst h6
  have HV := Lib.hid (show validB ⟨2, s, 0, c, g, m, [p0, p1, p2, p3, p4, p5, p6, p7], [q0, q1, q2, q3, q4, q5, q6, q7]⟩ = decide (0 ≤ s ∧ s ≤ 9 ∧ (0 : Int) = 0 ∧ m = 0 ∧ c = 1) from by
    rw [vb_part (v := ⟨2, s, 0, c, g, m, [p0, p1, p2, p3, p4, p5, p6, p7], [q0, q1, q2, q3, q4, q5, q6, q7]⟩) h1 h2 h3 h4, decide_eq_decide]
    unfold slotsOf roundsOk
    simp only
    simp)
  generalize validB ⟨2, s, 0, c, g, m, [p0, p1, p2, p3, p4, p5, p6, p7], [q0, q1, q2, q3, q4, q5, q6, q7]⟩ = V at HV ⊢
  have hq : ∀ w, (binOp .eql 33 (.agg #[byteV q0, byteV q1, byteV q2, byteV q3, byteV q4, byteV q5, byteV q6, byteV q7]) (.agg #[.int .u8 0, .int .u8 0, .int .u8 0, .int .u8 0, .int .u8 0, .int .u8 0, .int .u8 0, .int .u8 0])).run Try.prog w = .ok (.bool ([q0, q1, q2, q3, q4, q5, q6, q7] == zero8)) w := fun w => name_eql [q0, q1, q2, q3, q4, q5, q6, q7] zero8 rfl rfl w
  have hz : ∀ w, (Instr.build 33 #[]).run Try.prog w = .ok (.agg #[.int .u8 0, .int .u8 0, .int .u8 0, .int .u8 0, .int .u8 0, .int .u8 0, .int .u8 0, .int .u8 0]) w := fun w => by kernel_rfl
  rw [h3] at hq
  have h3' : ((c == 1) == !(c == 1)) = false := by cases (c == 1) <;> rfl
  have hn : (bits .andNot .i64 m 1023 == 0) = true := by rw [andNot_mask m hm]; simp [h4]
  have hn' : (bits .andNot .i64 m 1023 != 0) = false := by rw [bne, hn]; rfl
  have t0 : ((0 : Int) == 0) = true := by rfl
  clear h3 
  rw [show voteV ⟨2, s, 0, c, g, m, [p0, p1, p2, p3, p4, p5, p6, p7], [q0, q1, q2, q3, q4, q5, q6, q7]⟩ = .agg #[.int .i64 2, .int .i64 s, .int .i64 0, .int .i64 c, .int .i64 g, .int .i64 m, byteV p0, byteV p1, byteV p2, byteV p3, byteV p4, byteV p5, byteV p6, byteV p7, byteV q0, byteV q1, byteV q2, byteV q3, byteV q4, byteV q5, byteV q6, byteV q7] from rfl]
  go_enter Try.func85, Try.ntmps85
  go_wp2_with (go_at_call 95; refine (between_any _ _ _ _).mono ?_; rintro e w' ⟨rfl, rfl⟩)
  go_quiet (fail)
  go_wp2
  go_quiet (fail)
  go_wp2_with (go_at_call 95; refine (between_any _ _ _ _).mono ?_; rintro e w' ⟨rfl, rfl⟩)
  all_goals
    go_ret
    refine ⟨ret_bool ?_, ((Upd.refl NoF w).alloc _).drewN _⟩
    rw [HV.out, Bool.eq_iff_iff]
    first | omega | (simp; done) | (simp; omega)

set_option maxRecDepth 100000 in
set_option maxHeartbeats 4000000 in
theorem valid_e5n (k s r c g m : Int) (p0 p1 p2 p3 p4 p5 p6 p7 q0 q1 q2 q3 q4 q5 q6 q7 : UInt8) (hm : in64 m) (w : World) (h1 : 1 ≤ k ∧ k ≤ 7) (h2 : 0 ≤ g ∧ g ≤ 9) (h3 : ([q0, q1, q2, q3, q4, q5, q6, q7] == zero8) = !(c == 1)) (h4 : 0 ≤ m ∧ m ≤ 1023) (hk : 5 ≤ k) (h6 : ¬ r = 0) :
    Calls Try.prog 85 #[voteV ⟨k, s, r, c, g, m, [p0, p1, p2, p3, p4, p5, p6, p7], [q0, q1, q2, q3, q4, q5, q6, q7]⟩] w fun e w' => e = .returned (.bool (validB ⟨k, s, r, c, g, m, [p0, p1, p2, p3, p4, p5, p6, p7], [q0, q1, q2, q3, q4, q5, q6, q7]⟩)) ∧ Upd NoF w w' := by
  have HV := Lib.hid (show validB ⟨k, s, r, c, g, m, [p0, p1, p2, p3, p4, p5, p6, p7], [q0, q1, q2, q3, q4, q5, q6, q7]⟩ = decide (0 ≤ s ∧ s ≤ 0 ∧ r = 0 ∧ m = 0 ∧ c = 1) from by
    rw [vb_part (v := ⟨k, s, r, c, g, m, [p0, p1, p2, p3, p4, p5, p6, p7], [q0, q1, q2, q3, q4, q5, q6, q7]⟩) h1 h2 h3 h4, decide_eq_decide]
    unfold slotsOf roundsOk
    simp only
    rw [if_neg (by omega), if_neg (by omega), if_neg (by omega)])
  generalize validB ⟨k, s, r, c, g, m, [p0, p1, p2, p3, p4, p5, p6, p7], [q0, q1, q2, q3, q4, q5, q6, q7]⟩ = V at HV ⊢
  have hq : ∀ w, (binOp .eql 33 (.agg #[byteV q0, byteV q1, byteV q2, byteV q3, byteV q4, byteV q5, byteV q6, byteV q7]) (.agg #[.int .u8 0, .int .u8 0, .int .u8 0, .int .u8 0, .int .u8 0, .int .u8 0, .int .u8 0, .int .u8 0])).run Try.prog w = .ok (.bool ([q0, q1, q2, q3, q4, q5, q6, q7] == zero8)) w := fun w => name_eql [q0, q1, q2, q3, q4, q5, q6, q7] zero8 rfl rfl w
  have hz : ∀ w, (Instr.build 33 #[]).run Try.prog w = .ok (.agg #[.int .u8 0, .int .u8 0, .int .u8 0, .int .u8 0, .int .u8 0, .int .u8 0, .int .u8 0, .int .u8 0]) w := fun w => by kernel_rfl
  rw [h3] at hq
  have h3' : ((c == 1) == !(c == 1)) = false := by cases (c == 1) <;> rfl
  have hn : (bits .andNot .i64 m 1023 == 0) = true := by rw [andNot_mask m hm]; simp [h4]
  have hn' : (bits .andNot .i64 m 1023 != 0) = false := by rw [bne, hn]; rfl
  have t0 : (r == 0) = false := by simpa using h6
  have k1 : (k == 1) = false := by simp; omega
  have k2 : (k == 2) = false := by simp; omega
  have k3 : (k == 3) = false := by simp; omega
  have k4 : (k == 4) = false := by simp; omega
  clear h3 
  rw [show voteV ⟨k, s, r, c, g, m, [p0, p1, p2, p3, p4, p5, p6, p7], [q0, q1, q2, q3, q4, q5, q6, q7]⟩ = .agg #[.int .i64 k, .int .i64 s, .int .i64 r, .int .i64 c, .int .i64 g, .int .i64 m, byteV p0, byteV p1, byteV p2, byteV p3, byteV p4, byteV p5, byteV p6, byteV p7, byteV q0, byteV q1, byteV q2, byteV q3, byteV q4, byteV q5, byteV q6, byteV q7] from rfl]
  go_enter Try.func85, Try.ntmps85
  go_wp2_with (go_at_call 95; refine (between_any _ _ _ _).mono ?_; rintro e w' ⟨rfl, rfl⟩)
  go_quiet (fail)
  go_wp2
  go_quiet (fail)
  go_wp2_with (go_at_call 95; refine (between_any _ _ _ _).mono ?_; rintro e w' ⟨rfl, rfl⟩)
  all_goals
    go_ret
    refine ⟨ret_bool ?_, ((Upd.refl NoF w).alloc _).drewN _⟩
    rw [HV.out, Bool.eq_iff_iff]
    first | omega | (simp; done) | (simp; omega)

set_option maxRecDepth 100000 in
set_option maxHeartbeats 4000000 in
theorem valid_e5z (k s r c g m : Int) (p0 p1 p2 p3 p4 p5 p6 p7 q0 q1 q2 q3 q4 q5 q6 q7 : UInt8) (hm : in64 m) (w : World) (h1 : 1 ≤ k ∧ k ≤ 7) (h2 : 0 ≤ g ∧ g ≤ 9) (h3 : ([q0, q1, q2, q3, q4, q5, q6, q7] == zero8) = !(c == 1)) (h4 : 0 ≤ m ∧ m ≤ 1023) (hk : 5 ≤ k) (h6 : r = 0) :
    Calls Try.prog 85 #[voteV ⟨k, s, r, c, g, m, [p0, p1, p2, p3, p4, p5, p6, p7], [q0, q1, q2, q3, q4, q5, q6, q7]⟩] w fun e w' => e = .returned (.bool (validB ⟨k, s, r, c, g, m, [p0, p1, p2, p3, p4, p5, p6, p7], [q0, q1, q2, q3, q4, q5, q6, q7]⟩)) ∧ Upd NoF w w' := by
  subst h6
  have HV := Lib.hid (show validB ⟨k, s, 0, c, g, m, [p0, p1, p2, p3, p4, p5, p6, p7], [q0, q1, q2, q3, q4, q5, q6, q7]⟩ = decide (0 ≤ s ∧ s ≤ 0 ∧ (0 : Int) = 0 ∧ m = 0 ∧ c = 1) from by
    rw [vb_part (v := ⟨k, s, 0, c, g, m, [p0, p1, p2, p3, p4, p5, p6, p7], [q0, q1, q2, q3, q4, q5, q6, q7]⟩) h1 h2 h3 h4, decide_eq_decide]
    unfold slotsOf roundsOk
    simp only
    rw [if_neg (by omega), if_neg (by omega), if_neg (by omega)])
  generalize validB ⟨k, s, 0, c, g, m, [p0, p1, p2, p3, p4, p5, p6, p7], [q0, q1, q2, q3, q4, q5, q6, q7]⟩ = V at HV ⊢
  have hq : ∀ w, (binOp .eql 33 (.agg #[byteV q0, byteV q1, byteV q2, byteV q3, byteV q4, byteV q5, byteV q6, byteV q7]) (.agg #[.int .u8 0, .int .u8 0, .int .u8 0, .int .u8 0, .int .u8 0, .int .u8 0, .int .u8 0, .int .u8 0])).run Try.prog w = .ok (.bool ([q0, q1, q2, q3, q4, q5, q6, q7] == zero8)) w := fun w => name_eql [q0, q1, q2, q3, q4, q5, q6, q7] zero8 rfl rfl w
  have hz : ∀ w, (Instr.build 33 #[]).run Try.prog w = .ok (.agg #[.int .u8 0, .int .u8 0, .int .u8 0, .int .u8 0, .int .u8 0, .int .u8 0, .int .u8 0, .int .u8 0]) w := fun w => by kernel_rfl
  rw [h3] at hq
  have h3' : ((c == 1) == !(c == 1)) = false := by cases (c == 1) <;> rfl
  have hn : (bits .andNot .i64 m 1023 == 0) = true := by rw [andNot_mask m hm]; simp [h4]
  have hn' : (bits .andNot .i64 m 1023 != 0) = false := by rw [bne, hn]; rfl
  have t0 : ((0 : Int) == 0) = true := by rfl
  have k1 : (k == 1) = false := by simp; omega
  have k2 : (k == 2) = false := by simp; omega
  have k3 : (k == 3) = false := by simp; omega
  have k4 : (k == 4) = false := by simp; omega
  clear h3 
  rw [show voteV ⟨k, s, 0, c, g, m, [p0, p1, p2, p3, p4, p5, p6, p7], [q0, q1, q2, q3, q4, q5, q6, q7]⟩ = .agg #[.int .i64 k, .int .i64 s, .int .i64 0, .int .i64 c, .int .i64 g, .int .i64 m, byteV p0, byteV p1, byteV p2, byteV p3, byteV p4, byteV p5, byteV p6, byteV p7, byteV q0, byteV q1, byteV q2, byteV q3, byteV q4, byteV q5, byteV q6, byteV q7] from rfl]
  go_enter Try.func85, Try.ntmps85
  go_wp2_with (go_at_call 95; refine (between_any _ _ _ _).mono ?_; rintro e w' ⟨rfl, rfl⟩)
  go_quiet (fail)
  go_wp2
  go_quiet (fail)
  go_wp2_with (go_at_call 95; refine (between_any _ _ _ _).mono ?_; rintro e w' ⟨rfl, rfl⟩)
  all_goals
    go_ret
    refine ⟨ret_bool ?_, ((Upd.refl NoF w).alloc _).drewN _⟩
    rw [HV.out, Bool.eq_iff_iff]
    first | omega | (simp; done) | (simp; omega)
end
end Go.Proofs.Ytbgificdilpdcaa
