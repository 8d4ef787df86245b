/- The statement RadicalSimplestSaid: whatever the input, the law returns true, and the input reads as it did. Conditions: none. -/
import Derived.Test.YtdojhoegildiaaaGreatRows
import Derived.Test.YtdojhoegildiaaaGreatQ8
set_option linter.unusedVariables false
namespace Go.Proofs.YtdojhoegildiaaaGreat.radicalSimplest
open Go Go.PL Go.ChangeShapes Go.WideShapes Go.ChangeAt Go.RowKit
theorem own : ownKnob Tryz.prog.godebug = none := by kernel_rfl
theorem laidOut : laidOutB Tryz.prog = true := by kernel_rfl
set_option maxRecDepth 100000 in
theorem lifted (os : Os) (started : os.Started) (H : Type) (enc : TypeId × Value → H) :
    ReturnsInHanded {} Tryz.checked os 8 .any (Rows.radicalSimplestSpec.pre6 enc Tryz.prog Tryz.f8 Rows.radicalSimplestRow.domain false) (Rows.radicalSimplestSpec.post enc Tryz.prog Tryz.f8 false true false false) := by
  refine returnsInHanded_of_change (C := Tryz.checked) own started (by kernel_rfl) Tryz.func8
    (ChangeSpec.witness6 (enc := enc) (C := Tryz.checked) false ⟨#[], #[.agg #[.bool false, .slice none 0 0, .bool false, .slice none 0 0, .bool false, .slice none 0 0, .bool false, .slice none 0 0, .bool false, .slice none 0 0, .bool false, .slice none 0 0], .agg #[.bool false, .slice none 0 0, .bool false, .slice none 0 0, .bool false, .slice none 0 0, .bool false, .slice none 0 0, .bool false, .slice none 0 0, .bool false, .slice none 0 0]], []⟩ 8 (by kernel_rfl) (by kernel_rfl) (by kernel_rfl) (by kernel_rfl)) ?_
  intro W base args ds gs before hval0 hW hcnd _
  have hval : ∀ (j : Nat) t v, Tryz.f8.params[j]? = some t → args[j]? = some v → Value.okWide Tryz.prog W .any base t v := hval0
  have hW' := hW
  obtain ⟨p, q, hA0, hV, rfl, hfz, hnd⟩ := hW
  have hA : DataW.TrodAll enc Tryz.prog W 0 (fun _ => true) true Tryz.f8.params.toList args.toList ds p := hA0
  rw [Tryz.params8] at hA hval
  obtain ⟨v0, vs0, d0, ds0, p0, q0, hargs, rfl, rfl, h0, r0⟩ := trodAll_cons hA
  obtain ⟨v1, vs1, d1, ds1, p1, q1, rfl, rfl, rfl, h1, r1⟩ := trodAll_cons r0
  obtain ⟨rfl, rfl, rfl⟩ := trodAll_nil r1
  obtain rfl : args = #[v0, v1] := by cases args; simp_all
  obtain ⟨rfl, rfl⟩ := trodVars_none hV
  have lt0 : ∀ x ∈ p0, x.block < W.heap.size := by obtain ⟨m, hm⟩ := h0; exact DataW.trod_lt m _ _ _ hm
  have k0 := h0
  obtain ⟨a0, rfl, s0⟩ := spot_agg Tryz.underlying39 (hval 0 39 v0 rfl rfl)
  obtain ⟨g0, t0⟩ := h0
  obtain ⟨x0, x1, x2, x3, x4, x5, x6, x7, x8, x9, x10, x11, c0⟩ := op39 t0 s0
  have lt1 : ∀ x ∈ p1, x.block < W.heap.size := by obtain ⟨m, hm⟩ := h1; exact DataW.trod_lt m _ _ _ hm
  have k1 := h1
  obtain ⟨a1, rfl, s1⟩ := spot_agg Tryz.underlying39 (hval 1 39 v1 rfl rfl)
  obtain ⟨g1, t1⟩ := h1
  obtain ⟨y0, y1, y2, y3, y4, y5, y6, y7, y8, y9, y10, y11, c1⟩ := op39 t1 s1
  clear hA0 hval0
  have hr : Ret Tryz.prog 8 [.a [.bool x0, lC x1, .bool x2, lC x3, .bool x4, lC x5, .bool x6, lC x7, .bool x8, lC x9, .bool x10, lC x11], .a [.bool y0, lC y1, .bool y2, lC y3, .bool y4, lC y5, .bool y6, lC y7, .bool y8, lC y9, .bool y10, lC y11]] (.e (.c (.bool true))) := YtdojhoegildiaaaGreat.r_RadicalSimplest x0 x2 x4 x6 x8 x10 x1 x3 x5 x7 x9 x11 y0 y2 y4 y6 y8 y10 y1 y3 y5 y7 y9 y11
  refine (law_true hr (w := W) (vs := #[.agg a0, .agg a1]) (.cons (op_agg c0) (.cons (op_agg c1) (.nil)))).mono fun e W' ⟨he, bel⟩ => ?_
  subst he
  exact ⟨_, rfl, _, _, _, [], _, [], hW', trodAll_mk1 (shut_bool Tryz.underlying4 _), (trodAll_cons_mk (Below.trod laidOut (by kernel_rfl) (of_decide_eq_true (by kernel_rfl)) k0 bel lt0) (trodAll_cons_mk (Below.trod laidOut (by kernel_rfl) (of_decide_eq_true (by kernel_rfl)) k1 bel lt1) trodAll_mk0)), rfl, bel.frame _, fun h => by cases h⟩
theorem over : Rows.radicalSimplestRow.holds Tryz.pinned (OpenSpec.ofChange Rows.radicalSimplestSpec) :=
  OpenClaim.holds_of_wide 8 Tryz.f8 rfl rfl rfl rfl rfl rfl rfl ⟨rfl, rfl, rfl, rfl, rfl⟩ rfl rfl rfl rfl rfl (by kernel_rfl) Tryz.func8 (by kernel_rfl)
    (of_decide_eq_true (by kernel_rfl)) (by unfold Func.isWrapper; first | (rw [if_pos (by decide +kernel)]; kernel_rfl) | (rw [if_neg (by decide +kernel)]; exact ⟨rfl, rfl⟩))
    (fun os started H enc _ => lifted os started H enc)
theorem proved : Rows.RadicalSimplestSaid := over
#print axioms proved
end Go.Proofs.YtdojhoegildiaaaGreat.radicalSimplest
namespace Go.Proofs.YtdojhoegildiaaaGreat
/-- The row, under a short name, for the claim. -/
theorem radicalSimplest_holds : Rows.RadicalSimplestSaid := radicalSimplest.proved
end Go.Proofs.YtdojhoegildiaaaGreat
