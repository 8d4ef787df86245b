/- The statement RadicalSortSaid: whatever the input, the law returns true, and the input reads as it did. Conditions: none. -/
import Derived.Test.YtdojhoegildiaaaGreatRows
import Derived.Test.YtdojhoegildiaaaGreatQ8
set_option linter.unusedVariables false
namespace Go.Proofs.YtdojhoegildiaaaGreat.radicalSort
open Go Go.PL Go.ChangeShapes Go.WideShapes Go.ChangeAt Go.RowKit
theorem own : ownKnob Tryz.prog.godebug = none := by kernel_rfl
theorem laidOut : laidOutB Tryz.prog = true := by kernel_rfl
set_option maxRecDepth 100000 in
theorem lifted (os : Os) (started : os.Started) (H : Type) (enc : TypeId × Value → H) :
    ReturnsInHanded {} Tryz.checked os 9 .any (Rows.radicalSortSpec.pre6 enc Tryz.prog Tryz.f9 Rows.radicalSortRow.domain false) (Rows.radicalSortSpec.post enc Tryz.prog Tryz.f9 false true false false) := by
  refine returnsInHanded_of_change (C := Tryz.checked) own started (by kernel_rfl) Tryz.func9
    (ChangeSpec.witness6 (enc := enc) (C := Tryz.checked) false ⟨#[], #[.slice none 0 0], []⟩ 8 (by kernel_rfl) (by kernel_rfl) (by kernel_rfl) (by kernel_rfl)) ?_
  intro W base args ds gs before hval0 hW hcnd _
  have hval : ∀ (j : Nat) t v, Tryz.f9.params[j]? = some t → args[j]? = some v → Value.okWide Tryz.prog W .any base t v := hval0
  have hW' := hW
  obtain ⟨p, q, hA0, hV, rfl, hfz, hnd⟩ := hW
  have hA : DataW.TrodAll enc Tryz.prog W 0 (fun _ => true) true Tryz.f9.params.toList args.toList ds p := hA0
  rw [Tryz.params9] at hA hval
  obtain ⟨v0, vs0, d0, ds0, p0, q0, hargs, rfl, rfl, h0, r0⟩ := trodAll_cons hA
  obtain ⟨rfl, rfl, rfl⟩ := trodAll_nil r0
  obtain rfl : args = #[v0] := by cases args; simp_all
  obtain ⟨rfl, rfl⟩ := trodVars_none hV
  have lt0 : ∀ x ∈ p0, x.block < W.heap.size := by obtain ⟨m, hm⟩ := h0; exact DataW.trod_lt m _ _ _ hm
  have k0 := h0
  obtain ⟨a0, l0, z0, rfl⟩ := okWide_slice Tryz.underlying60 (hval 0 60 v0 rfl rfl)
  obtain ⟨g0, t0⟩ := h0
  obtain ⟨E0, c0⟩ := op_sl (f := Raw6.c) Tryz.underlying60 (by kernel_rfl) (by decide) Raw6.len (fun _ => rfl) (fun hh => by obtain ⟨c0, c1, c2, c3, c4, c5, c6, c7, c8, c9, c10, c11, r⟩ := op39 hh (fun _ => rfl); exact ⟨⟨c0, c2, c4, c6, c8, c10, c1, c3, c5, c7, c9, c11⟩, r⟩) t0
  clear hA0 hval0
  have hr : Ret Tryz.prog 9 [.c (.sl E0.length (flat6 E0))] (.e (.c (.bool true))) := YtdojhoegildiaaaGreat.r_RadicalSort E0
  refine (law_true hr (w := W) (vs := #[.slice a0 l0 z0]) (.cons (sc_sl c0) (.nil))).mono fun e W' ⟨he, bel⟩ => ?_
  subst he
  exact ⟨_, rfl, _, _, _, [], _, [], hW', trodAll_mk1 (shut_bool Tryz.underlying4 _), (trodAll_cons_mk (Below.trod laidOut (by kernel_rfl) (of_decide_eq_true (by kernel_rfl)) k0 bel lt0) trodAll_mk0), rfl, bel.frame _, fun h => by cases h⟩
theorem over : Rows.radicalSortRow.holds Tryz.pinned (OpenSpec.ofChange Rows.radicalSortSpec) :=
  OpenClaim.holds_of_wide 9 Tryz.f9 rfl rfl rfl rfl rfl rfl rfl ⟨rfl, rfl, rfl, rfl, rfl⟩ rfl rfl rfl rfl rfl (by kernel_rfl) Tryz.func9 (by kernel_rfl)
    (of_decide_eq_true (by kernel_rfl)) (by unfold Func.isWrapper; first | (rw [if_pos (by decide +kernel)]; kernel_rfl) | (rw [if_neg (by decide +kernel)]; exact ⟨rfl, rfl⟩))
    (fun os started H enc _ => lifted os started H enc)
theorem proved : Rows.RadicalSortSaid := over
#print axioms proved
end Go.Proofs.YtdojhoegildiaaaGreat.radicalSort
namespace Go.Proofs.YtdojhoegildiaaaGreat
/-- The row, under a short name, for the claim. -/
theorem radicalSort_holds : Rows.RadicalSortSaid := radicalSort.proved
end Go.Proofs.YtdojhoegildiaaaGreat
