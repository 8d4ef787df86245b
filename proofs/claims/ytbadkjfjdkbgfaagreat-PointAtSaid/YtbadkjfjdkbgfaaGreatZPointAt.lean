/- The statement PointAtSaid: whatever the input, the law returns true, and the input reads as it did. Conditions: none. -/
import Derived.Test.YtbadkjfjdkbgfaaGreatRows
import Derived.Test.YtbadkjfjdkbgfaaGreatQ8
set_option linter.unusedVariables false
namespace Go.Proofs.YtbadkjfjdkbgfaaGreat.pointAt
open Go Go.PL Go.ChangeShapes Go.WideShapes Go.ChangeAt Go.RowKit
theorem own : ownKnob Tryz.prog.godebug = none := by kernel_rfl
theorem laidOut : laidOutB Tryz.prog = true := by kernel_rfl
set_option maxRecDepth 100000 in
theorem lifted (os : Os) (started : os.Started) (H : Type) (enc : TypeId × Value → H) :
    ReturnsInHanded {} Tryz.checked os 8 .any (Rows.pointAtSpec.pre6 enc Tryz.prog Tryz.f8 Rows.pointAtRow.domain false) (Rows.pointAtSpec.post enc Tryz.prog Tryz.f8 false true false false) := by
  refine returnsInHanded_of_change (C := Tryz.checked) own started (by kernel_rfl) Tryz.func8
    (ChangeSpec.witness6 (enc := enc) (C := Tryz.checked) false ⟨#[], #[.agg #[.bool false, .slice none 0 0, .bool false, .slice none 0 0, .bool false, .slice none 0 0, .bool false, .slice none 0 0], .agg #[.int .i64 0, .int .i64 0], .agg #[.bool false, .slice none 0 0, .bool false, .slice none 0 0, .bool false, .slice none 0 0, .bool false, .slice none 0 0, .bool false, .slice none 0 0, .bool false, .slice none 0 0, .bool false, .slice none 0 0, .bool false, .slice none 0 0, .bool false, .slice none 0 0, .bool false, .slice none 0 0]], []⟩ 8 (by kernel_rfl) (by kernel_rfl) (by kernel_rfl) (by kernel_rfl)) ?_
  intro W base args ds gs before hval0 hW hcnd _
  have hval : ∀ (j : Nat) t v, Tryz.f8.params[j]? = some t → args[j]? = some v → Value.okWide Tryz.prog W .any base t v := hval0
  have hW' := hW
  obtain ⟨p, q, hA0, hV, rfl, hfz, hnd⟩ := hW
  have hA : DataW.TrodAll enc Tryz.prog W 0 (fun _ => true) true Tryz.f8.params.toList args.toList ds p := hA0
  rw [Tryz.params8] at hA hval
  obtain ⟨v0, vs0, d0, ds0, p0, q0, hargs, rfl, rfl, h0, r0⟩ := trodAll_cons hA
  obtain ⟨v1, vs1, d1, ds1, p1, q1, rfl, rfl, rfl, h1, r1⟩ := trodAll_cons r0
  obtain ⟨v2, vs2, d2, ds2, p2, q2, rfl, rfl, rfl, h2, r2⟩ := trodAll_cons r1
  obtain ⟨rfl, rfl, rfl⟩ := trodAll_nil r2
  obtain rfl : args = #[v0, v1, v2] := by cases args; simp_all
  obtain ⟨rfl, rfl⟩ := trodVars_none hV
  have lt0 : ∀ x ∈ p0, x.block < W.heap.size := by obtain ⟨m, hm⟩ := h0; exact DataW.trod_lt m _ _ _ hm
  have k0 := h0
  obtain ⟨a0, rfl, s0⟩ := spot_agg Tryz.underlying42 (hval 0 42 v0 rfl rfl)
  obtain ⟨g0, t0⟩ := h0
  obtain ⟨x0, x1, x2, x3, x4, x5, x6, x7, c0⟩ := op42 t0 s0
  have lt1 : ∀ x ∈ p1, x.block < W.heap.size := by obtain ⟨m, hm⟩ := h1; exact DataW.trod_lt m _ _ _ hm
  have k1 := h1
  obtain ⟨a1, rfl, s1⟩ := spot_agg Tryz.underlying60 (hval 1 60 v1 rfl rfl)
  obtain ⟨g1, t1⟩ := h1
  obtain ⟨y0, y1, y_0, y_1, c1⟩ := op60 t1 s1
  have lt2 : ∀ x ∈ p2, x.block < W.heap.size := by obtain ⟨m, hm⟩ := h2; exact DataW.trod_lt m _ _ _ hm
  have k2 := h2
  obtain ⟨a2, rfl, s2⟩ := spot_agg Tryz.underlying32 (hval 2 32 v2 rfl rfl)
  obtain ⟨g2, t2⟩ := h2
  obtain ⟨z0, z1, z2, z3, z4, z5, z6, z7, z8, z9, z10, z11, z12, z13, z14, z15, z16, z17, z18, z19, c2⟩ := op32 t2 s2
  clear hA0 hval0
  have hr : Ret Tryz.prog 8 [.a [.bool x0, lC x1, .bool x2, lC x3, .bool x4, lC x5, .bool x6, lC x7], .a [.int .i64 y0, .int .i64 y1], .a [.bool z0, lC z1, .bool z2, lC z3, .bool z4, lC z5, .bool z6, lC z7, .bool z8, lC z9, .bool z10, lC z11, .bool z12, lC z13, .bool z14, lC z15, .bool z16, lC z17, .bool z18, lC z19]] (.e (.c (.bool true))) := YtbadkjfjdkbgfaaGreat.r_PointAt x0 x2 x4 x6 x1 x3 x5 x7 z0 z2 z4 z6 z8 z10 z12 z14 z16 z18 z1 z3 z5 z7 z9 z11 z13 z15 z17 z19 y0 y1 (wf_i64 y_0).1 (wf_i64 y_0).2 (wf_i64 y_1).1 (wf_i64 y_1).2
  refine (law_true hr (w := W) (vs := #[.agg a0, .agg a1, .agg a2]) (.cons (op_agg c0) (.cons (op_agg c1) (.cons (op_agg c2) (.nil))))).mono fun e W' ⟨he, bel⟩ => ?_
  subst he
  exact ⟨_, rfl, _, _, _, [], _, [], hW', trodAll_mk1 (shut_bool Tryz.underlying4 _), (trodAll_cons_mk (Below.trod laidOut (by kernel_rfl) (of_decide_eq_true (by kernel_rfl)) k0 bel lt0) (trodAll_cons_mk (Below.trod laidOut (by kernel_rfl) (of_decide_eq_true (by kernel_rfl)) k1 bel lt1) (trodAll_cons_mk (Below.trod laidOut (by kernel_rfl) (of_decide_eq_true (by kernel_rfl)) k2 bel lt2) trodAll_mk0))), rfl, bel.frame _, fun h => by cases h⟩
theorem over : Rows.pointAtRow.holds Tryz.pinned (OpenSpec.ofChange Rows.pointAtSpec) :=
  OpenClaim.holds_of_wide 8 Tryz.f8 rfl rfl rfl rfl rfl rfl rfl ⟨rfl, rfl, rfl, rfl, rfl⟩ rfl rfl rfl rfl rfl (by kernel_rfl) Tryz.func8 (by kernel_rfl)
    (of_decide_eq_true (by kernel_rfl)) (by unfold Func.isWrapper; first | (rw [if_pos (by decide +kernel)]; kernel_rfl) | (rw [if_neg (by decide +kernel)]; exact ⟨rfl, rfl⟩))
    (fun os started H enc _ => lifted os started H enc)
theorem proved : Rows.PointAtSaid := over
#print axioms proved
end Go.Proofs.YtbadkjfjdkbgfaaGreat.pointAt
namespace Go.Proofs.YtbadkjfjdkbgfaaGreat
/-- The row, under a short name, for the claim. -/
theorem pointAt_holds : Rows.PointAtSaid := pointAt.proved
end Go.Proofs.YtbadkjfjdkbgfaaGreat
