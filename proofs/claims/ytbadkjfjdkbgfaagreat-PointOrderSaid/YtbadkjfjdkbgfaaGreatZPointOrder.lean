/- The statement PointOrderSaid: whatever the input, the law returns true, and the input reads as it did. Conditions: none. -/
import Derived.Test.YtbadkjfjdkbgfaaGreatRows
import Derived.Test.YtbadkjfjdkbgfaaGreatQ8
set_option linter.unusedVariables false
namespace Go.Proofs.YtbadkjfjdkbgfaaGreat.pointOrder
open Go Go.PL Go.ChangeShapes Go.WideShapes Go.ChangeAt Go.RowKit
theorem own : ownKnob Tryz.prog.godebug = none := by kernel_rfl
theorem laidOut : laidOutB Tryz.prog = true := by kernel_rfl
set_option maxRecDepth 100000 in
theorem lifted (os : Os) (started : os.Started) (H : Type) (enc : TypeId × Value → H) :
    ReturnsInHanded {} Tryz.checked os 6 .any (Rows.pointOrderSpec.pre6 enc Tryz.prog Tryz.f6 Rows.pointOrderRow.domain false) (Rows.pointOrderSpec.post enc Tryz.prog Tryz.f6 false true false false) := by
  refine returnsInHanded_of_change (C := Tryz.checked) own started (by kernel_rfl) Tryz.func6
    (ChangeSpec.witness6 (enc := enc) (C := Tryz.checked) false ⟨#[], #[.agg #[.int .i16 0, .int .i16 0, .int .i16 0, .int .i16 0, .int .u16 0, .int .u8 0, .int .i16 0, .int .i16 0, .int .i16 0, .int .i16 0, .int .u16 0, .int .u8 0, .int .i16 0, .int .i16 0, .int .i16 0, .int .i16 0, .int .u16 0, .int .u8 0], .agg #[.bool false, .slice none 0 0, .bool false, .slice none 0 0, .bool false, .slice none 0 0, .bool false, .slice none 0 0]], []⟩ 8 (by kernel_rfl) (by kernel_rfl) (by kernel_rfl) (by kernel_rfl)) ?_
  intro W base args ds gs before hval0 hW hcnd _
  have hval : ∀ (j : Nat) t v, Tryz.f6.params[j]? = some t → args[j]? = some v → Value.okWide Tryz.prog W .any base t v := hval0
  have hW' := hW
  obtain ⟨p, q, hA0, hV, rfl, hfz, hnd⟩ := hW
  have hA : DataW.TrodAll enc Tryz.prog W 0 (fun _ => true) true Tryz.f6.params.toList args.toList ds p := hA0
  rw [Tryz.params6] at hA hval
  obtain ⟨v0, vs0, d0, ds0, p0, q0, hargs, rfl, rfl, h0, r0⟩ := trodAll_cons hA
  obtain ⟨v1, vs1, d1, ds1, p1, q1, rfl, rfl, rfl, h1, r1⟩ := trodAll_cons r0
  obtain ⟨rfl, rfl, rfl⟩ := trodAll_nil r1
  obtain rfl : args = #[v0, v1] := by cases args; simp_all
  obtain ⟨rfl, rfl⟩ := trodVars_none hV
  have lt0 : ∀ x ∈ p0, x.block < W.heap.size := by obtain ⟨m, hm⟩ := h0; exact DataW.trod_lt m _ _ _ hm
  have k0 := h0
  obtain ⟨a0, rfl, s0⟩ := spot_aggA Tryz.underlying54 (hval 0 54 v0 rfl rfl)
  obtain ⟨g0, t0⟩ := h0
  obtain ⟨x0, x1, x2, x3, x4, x5, x6, x7, x8, x9, x10, x11, x12, x13, x14, x15, x16, x17, x_0, x_1, x_2, x_3, x_4, x_5, x_6, x_7, x_8, x_9, x_10, x_11, x_12, x_13, x_14, x_15, x_16, x_17, c0⟩ := op54 t0 s0
  have lt1 : ∀ x ∈ p1, x.block < W.heap.size := by obtain ⟨m, hm⟩ := h1; exact DataW.trod_lt m _ _ _ hm
  have k1 := h1
  obtain ⟨a1, rfl, s1⟩ := spot_agg Tryz.underlying42 (hval 1 42 v1 rfl rfl)
  obtain ⟨g1, t1⟩ := h1
  obtain ⟨y0, y1, y2, y3, y4, y5, y6, y7, c1⟩ := op42 t1 s1
  clear hA0 hval0
  have hr : Ret Tryz.prog 6 [.a [.int .i16 x0, .int .i16 x1, .int .i16 x2, .int .i16 x3, .int .u16 x4, .int .u8 x5, .int .i16 x6, .int .i16 x7, .int .i16 x8, .int .i16 x9, .int .u16 x10, .int .u8 x11, .int .i16 x12, .int .i16 x13, .int .i16 x14, .int .i16 x15, .int .u16 x16, .int .u8 x17], .a [.bool y0, lC y1, .bool y2, lC y3, .bool y4, lC y5, .bool y6, lC y7]] (.e (.c (.bool true))) := YtbadkjfjdkbgfaaGreat.r_PointOrder x0 x1 x2 x3 x4 x5 x6 x7 x8 x9 x10 x11 x12 x13 x14 x15 x16 x17 (wf_i16 x_0).1 (wf_i16 x_0).2 (wf_i16 x_1).1 (wf_i16 x_1).2 (wf_i16 x_2).1 (wf_i16 x_2).2 (wf_i16 x_3).1 (wf_i16 x_3).2 (wf_u16 x_4).1 (wf_u16 x_4).2 (wf_u8 x_5).1 (wf_u8 x_5).2 (wf_i16 x_6).1 (wf_i16 x_6).2 (wf_i16 x_7).1 (wf_i16 x_7).2 (wf_i16 x_8).1 (wf_i16 x_8).2 (wf_i16 x_9).1 (wf_i16 x_9).2 (wf_u16 x_10).1 (wf_u16 x_10).2 (wf_u8 x_11).1 (wf_u8 x_11).2 (wf_i16 x_12).1 (wf_i16 x_12).2 (wf_i16 x_13).1 (wf_i16 x_13).2 (wf_i16 x_14).1 (wf_i16 x_14).2 (wf_i16 x_15).1 (wf_i16 x_15).2 (wf_u16 x_16).1 (wf_u16 x_16).2 (wf_u8 x_17).1 (wf_u8 x_17).2 y0 y2 y4 y6 y1 y3 y5 y7
  refine (law_true hr (w := W) (vs := #[.agg a0, .agg a1]) (.cons (op_agg c0) (.cons (op_agg c1) (.nil)))).mono fun e W' ⟨he, bel⟩ => ?_
  subst he
  exact ⟨_, rfl, _, _, _, [], _, [], hW', trodAll_mk1 (shut_bool Tryz.underlying4 _), (trodAll_cons_mk (Below.trod laidOut (by kernel_rfl) (of_decide_eq_true (by kernel_rfl)) k0 bel lt0) (trodAll_cons_mk (Below.trod laidOut (by kernel_rfl) (of_decide_eq_true (by kernel_rfl)) k1 bel lt1) trodAll_mk0)), rfl, bel.frame _, fun h => by cases h⟩
theorem over : Rows.pointOrderRow.holds Tryz.pinned (OpenSpec.ofChange Rows.pointOrderSpec) :=
  OpenClaim.holds_of_wide 6 Tryz.f6 rfl rfl rfl rfl rfl rfl rfl ⟨rfl, rfl, rfl, rfl, rfl⟩ rfl rfl rfl rfl rfl (by kernel_rfl) Tryz.func6 (by kernel_rfl)
    (of_decide_eq_true (by kernel_rfl)) (by unfold Func.isWrapper; first | (rw [if_pos (by decide +kernel)]; kernel_rfl) | (rw [if_neg (by decide +kernel)]; exact ⟨rfl, rfl⟩))
    (fun os started H enc _ => lifted os started H enc)
theorem proved : Rows.PointOrderSaid := over
#print axioms proved
end Go.Proofs.YtbadkjfjdkbgfaaGreat.pointOrder
namespace Go.Proofs.YtbadkjfjdkbgfaaGreat
/-- The row, under a short name, for the claim. -/
theorem pointOrder_holds : Rows.PointOrderSaid := pointOrder.proved
end Go.Proofs.YtbadkjfjdkbgfaaGreat
