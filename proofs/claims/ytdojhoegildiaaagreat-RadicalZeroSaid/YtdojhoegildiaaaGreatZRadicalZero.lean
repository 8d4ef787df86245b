/- The statement RadicalZeroSaid: whatever the input, the law returns true, and the input reads as it did. Conditions: none. -/
import Derived.Test.YtdojhoegildiaaaGreatRows
import Derived.Test.YtdojhoegildiaaaGreatQ8
set_option linter.unusedVariables false
namespace Go.Proofs.YtdojhoegildiaaaGreat.radicalZero
open Go Go.PL Go.ChangeShapes Go.WideShapes Go.ChangeAt Go.RowKit
theorem own : ownKnob Tryz.prog.godebug = none := by kernel_rfl
theorem laidOut : laidOutB Tryz.prog = true := by kernel_rfl
set_option maxRecDepth 100000 in
theorem lifted (os : Os) (started : os.Started) (H : Type) (enc : TypeId × Value → H) :
    ReturnsInHanded {} Tryz.checked os 4 .any (Rows.radicalZeroSpec.pre6 enc Tryz.prog Tryz.f4 Rows.radicalZeroRow.domain false) (Rows.radicalZeroSpec.post enc Tryz.prog Tryz.f4 false true false false) := by
  refine returnsInHanded_of_change (C := Tryz.checked) own started (by kernel_rfl) Tryz.func4
    (ChangeSpec.witness6 (enc := enc) (C := Tryz.checked) false ⟨#[], #[.int .u16 0, .int .u16 0, .agg #[.bool false, .slice none 0 0, .bool false, .slice none 0 0]], []⟩ 8 (by kernel_rfl) (by kernel_rfl) (by kernel_rfl) (by kernel_rfl)) ?_
  intro W base args ds gs before hval0 hW hcnd _
  have hval : ∀ (j : Nat) t v, Tryz.f4.params[j]? = some t → args[j]? = some v → Value.okWide Tryz.prog W .any base t v := hval0
  have hW' := hW
  obtain ⟨p, q, hA0, hV, rfl, hfz, hnd⟩ := hW
  have hA : DataW.TrodAll enc Tryz.prog W 0 (fun _ => true) true Tryz.f4.params.toList args.toList ds p := hA0
  rw [Tryz.params4] at hA hval
  obtain ⟨v0, vs0, d0, ds0, p0, q0, hargs, rfl, rfl, h0, r0⟩ := trodAll_cons hA
  obtain ⟨v1, vs1, d1, ds1, p1, q1, rfl, rfl, rfl, h1, r1⟩ := trodAll_cons r0
  obtain ⟨v2, vs2, d2, ds2, p2, q2, rfl, rfl, rfl, h2, r2⟩ := trodAll_cons r1
  obtain ⟨rfl, rfl, rfl⟩ := trodAll_nil r2
  obtain rfl : args = #[v0, v1, v2] := by cases args; simp_all
  obtain ⟨rfl, rfl⟩ := trodVars_none hV
  have lt0 : ∀ x ∈ p0, x.block < W.heap.size := by obtain ⟨m, hm⟩ := h0; exact DataW.trod_lt m _ _ _ hm
  have k0 := h0
  obtain ⟨x0, rfl, _, _, w0⟩ := open_int Tryz.underlying33 (hval 0 33 v0 rfl rfl) h0
  have lt1 : ∀ x ∈ p1, x.block < W.heap.size := by obtain ⟨m, hm⟩ := h1; exact DataW.trod_lt m _ _ _ hm
  have k1 := h1
  obtain ⟨x1, rfl, _, _, w1⟩ := open_int Tryz.underlying33 (hval 1 33 v1 rfl rfl) h1
  have lt2 : ∀ x ∈ p2, x.block < W.heap.size := by obtain ⟨m, hm⟩ := h2; exact DataW.trod_lt m _ _ _ hm
  have k2 := h2
  obtain ⟨a2, rfl, s2⟩ := spot_agg Tryz.underlying26 (hval 2 26 v2 rfl rfl)
  obtain ⟨g2, t2⟩ := h2
  obtain ⟨z0, z1, z2, z3, c2⟩ := op26 t2 s2
  clear hA0 hval0
  have hr : Ret Tryz.prog 4 [.c (.int .u16 x0), .c (.int .u16 x1), .a [.bool z0, lC z1, .bool z2, lC z3]] (.e (.c (.bool true))) := YtdojhoegildiaaaGreat.r_RadicalZero' x0 x1 (wf_u16 w0).1 (wf_u16 w0).2 (wf_u16 w1).1 (wf_u16 w1).2 z0 z2 z1 z3
  refine (law_true hr (w := W) (vs := #[.int .u16 x0, .int .u16 x1, .agg a2]) (.cons (sc_int .u16 x0) (.cons (sc_int .u16 x1) (.cons (op_agg c2) (.nil))))).mono fun e W' ⟨he, bel⟩ => ?_
  subst he
  exact ⟨_, rfl, _, _, _, [], _, [], hW', trodAll_mk1 (shut_bool Tryz.underlying4 _), (trodAll_cons_mk (Below.trod laidOut (by kernel_rfl) (of_decide_eq_true (by kernel_rfl)) k0 bel lt0) (trodAll_cons_mk (Below.trod laidOut (by kernel_rfl) (of_decide_eq_true (by kernel_rfl)) k1 bel lt1) (trodAll_cons_mk (Below.trod laidOut (by kernel_rfl) (of_decide_eq_true (by kernel_rfl)) k2 bel lt2) trodAll_mk0))), rfl, bel.frame _, fun h => by cases h⟩
theorem over : Rows.radicalZeroRow.holds Tryz.pinned (OpenSpec.ofChange Rows.radicalZeroSpec) :=
  OpenClaim.holds_of_wide 4 Tryz.f4 rfl rfl rfl rfl rfl rfl rfl ⟨rfl, rfl, rfl, rfl, rfl⟩ rfl rfl rfl rfl rfl (by kernel_rfl) Tryz.func4 (by kernel_rfl)
    (of_decide_eq_true (by kernel_rfl)) (by unfold Func.isWrapper; first | (rw [if_pos (by decide +kernel)]; kernel_rfl) | (rw [if_neg (by decide +kernel)]; exact ⟨rfl, rfl⟩))
    (fun os started H enc _ => lifted os started H enc)
theorem proved : Rows.RadicalZeroSaid := over
#print axioms proved
end Go.Proofs.YtdojhoegildiaaaGreat.radicalZero
namespace Go.Proofs.YtdojhoegildiaaaGreat
/-- The row, under a short name, for the claim. -/
theorem radicalZero_holds : Rows.RadicalZeroSaid := radicalZero.proved
end Go.Proofs.YtdojhoegildiaaaGreat
