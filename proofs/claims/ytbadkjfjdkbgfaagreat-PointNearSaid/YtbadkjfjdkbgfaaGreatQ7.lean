/- The walks of points, first part. Conditions: none.
   The walks of the reference's points, first part. Conditions: none.
   The walks of the reference's points, second part. Conditions: none.
   The walks of the reference's points, third part. Conditions: none.
   The examples of the chapter on points in the walks. Conditions: each lemma's own.
   The walk of the examples of the chapter on points. Conditions: none.
   The arguments of a row, opened: what they stand for. Conditions: none (lemmas).
   The arguments of the rows, opened. Conditions: none.
   Statements on points, in plain terms. Conditions: each lemma's own.
   Slices of points in the walks. Conditions: each lemma's own.
   Squares of distances, in plain terms. Conditions: each lemma's own.
   Nearby points in the walks. Conditions: each lemma's own.
   The greatest integer that is not greater than a root, in plain terms. Conditions: each lemma's own.
   Nearby points, in plain terms. Conditions: each lemma's own.
   The walk of root.Floor. Conditions: none.
   The walks of smallness of points. Conditions: none.
   The walks of nearby points. Conditions: none.
   The walk of the statement on nearby points. Conditions: none. -/
import Derived.WalkKit
import Derived.ProofKit
import Derived.OpenShut
import Derived.ChangeOld
import Derived.Below
import Derived.Carry
import Derived.ChangeSlices
import Derived.Test.YtbadkjfjdkbgfaaGreatRows
import Derived.Test.YtbadkjfjdkbgfaaGreatQ6
set_option linter.unusedVariables false
set_option linter.unusedSimpArgs false
set_option linter.unusedSimpArgs false
set_option linter.unusedVariables false
set_option maxRecDepth 20000
namespace Go.Proofs.YtbadkjfjdkbgfaaGreat
open Go Go.PL Go.RL
set_option maxHeartbeats 4000000 in
theorem c_point_zero :
    Ret Tryz.prog 75 [] (.e (.a (ratC 0))) := by
  refine ret_of_body (md := {}) Tryz.func75 (by kernel_rfl) rfl ?_
  simp only [Tryz.f75, List.map_cons, List.map_nil, List.length_cons, List.length_nil, Nat.zero_add, Nat.reduceAdd, Nat.reduceSub, List.reduceReplicate, List.cons_append, List.nil_append]
  refine pwx_sr 1 [] (by rfl) (fun K1 hK1 => ?_)
  simp (disch := omega) only [go_sem]
  refine hK1 _ ?_
  clear hK1 K1
  refine pwx_sr 0 [] (by rfl) (fun K2 hK2 => ?_)
  refine rgnX_take 1 (fun K3 hK3 => ?_)
  simp (disch := omega) only [go_sem]
  refine ⟨_, c_rational_FromInt64 _ (by omega) (by omega), ?_⟩
  refine hK3 _ ?_
  simp (disch := omega) only [go_sem]
  refine hK2 _ ?_
  clear hK3 K3 hK2 K2
  refine pwp_ret ?_
  refine ⟨Or.inr rfl, ?_⟩
  simp (disch := omega) only [go_sem]
  all_goals rfl
set_option maxHeartbeats 4000000 in
theorem c_point_coordinate (a b c : Rat) :
    Ret Tryz.prog 57 [.a (ratC a), .a (ratC b), .a (ratC c)] (.e (.a (ratC (a) ++ (ratC (b) ++ ratC (rC b c))))) := by
  refine ret_of_body (md := {}) Tryz.func57 (by kernel_rfl) rfl ?_
  simp only [Tryz.f57, List.map_cons, List.map_nil, List.length_cons, List.length_nil, Nat.zero_add, Nat.reduceAdd, Nat.reduceSub, List.reduceReplicate, List.cons_append, List.nil_append]
  refine pwx_sr 4 [] (by rfl) (fun K1 hK1 => ?_)
  simp (disch := omega) only [go_sem]
  refine hK1 _ ?_
  clear hK1 K1
  refine pwp_seq ?_
  refine pwx_sr 0 [] (by rfl) (fun K2 hK2 => ?_)
  refine rgnX_take 2 (fun K3 hK3 => ?_)
  simp (disch := omega) only [go_sem]
  refine ⟨_, c_rational_Sign _, ?_⟩
  refine hK3 _ ?_
  simp (disch := omega) only [go_sem]
  refine hK2 _ ?_
  clear hK3 K3 hK2 K2
  refine pwp_cond (b := _) (by rfl) (fun hb0 => ?_) (fun hb0 => ?_)
  · first | replace hb0 := of_decide_eq_true hb0 | replace hb0 := of_decide_eq_false hb0 | skip
    refine pwx_region 0 [] (by rfl) (fun K4 hK4 => ?_)
    refine rgnX_take 1 (fun K5 hK5 => ?_)
    simp (disch := omega) only [go_sem]
    refine ⟨_, c_point_zero, ?_⟩
    refine hK5 _ ?_
    simp (disch := omega) only [go_sem]
    refine hK4 _ ?_
    clear hK5 K5 hK4 K4
    refine n_then ?_
    refine pwx_sr 0 [] (by rfl) (fun K6 hK6 => ?_)
    simp (disch := omega) only [go_sem]
    refine hK6 _ ?_
    clear hK6 K6
    refine pwp_ret ?_
    refine ⟨Or.inr rfl, ?_⟩
    simp (disch := omega) only [go_sem]
    all_goals first | rw [rC_0 (by assumption)] | rw [rC_1 (by assumption)]
  · first | replace hb0 := of_decide_eq_true hb0 | replace hb0 := of_decide_eq_false hb0 | skip
    refine pwp_skip ?_
    refine n_then ?_
    refine pwx_sr 0 [] (by rfl) (fun K7 hK7 => ?_)
    simp (disch := omega) only [go_sem]
    refine hK7 _ ?_
    clear hK7 K7
    refine pwp_ret ?_
    refine ⟨Or.inr rfl, ?_⟩
    simp (disch := omega) only [go_sem]
    all_goals first | rw [rC_0 (by assumption)] | rw [rC_1 (by assumption)]
set_option maxHeartbeats 4000000 in
theorem c_point_X (a b d e c : Rat) :
    Ret Tryz.prog 17 [.a (ratC (a) ++ (ratC (b) ++ (ratC (d) ++ (ratC (e) ++ ratC (c)))))] (.e (.a (ratC (a) ++ (ratC (b) ++ ratC (rC b c))))) := by
  refine ret_of_body (md := {}) Tryz.func17 (by kernel_rfl) rfl ?_
  simp only [Tryz.f17, List.map_cons, List.map_nil, List.length_cons, List.length_nil, Nat.zero_add, Nat.reduceAdd, Nat.reduceSub, List.reduceReplicate, List.cons_append, List.nil_append]
  refine pwx_sr 2 [] (by rfl) (fun K1 hK1 => ?_)
  simp (disch := omega) only [go_sem]
  refine hK1 _ ?_
  clear hK1 K1
  refine pwx_sr 0 [] (by rfl) (fun K2 hK2 => ?_)
  refine rgnX_take 7 (fun K3 hK3 => ?_)
  simp (disch := omega) only [go_sem]
  refine ⟨_, c_point_coordinate _ _ _, ?_⟩
  refine hK3 _ ?_
  simp (disch := omega) only [go_sem]
  refine hK2 _ ?_
  clear hK3 K3 hK2 K2
  refine pwp_ret ?_
  refine ⟨Or.inr rfl, ?_⟩
  simp (disch := omega) only [go_sem]
set_option maxHeartbeats 4000000 in
theorem c_point_Y (a b d e c : Rat) :
    Ret Tryz.prog 18 [.a (ratC (a) ++ (ratC (b) ++ (ratC (d) ++ (ratC (e) ++ ratC (c)))))] (.e (.a (ratC (d) ++ (ratC (e) ++ ratC (rC e c))))) := by
  refine ret_of_body (md := {}) Tryz.func18 (by kernel_rfl) rfl ?_
  simp only [Tryz.f18, List.map_cons, List.map_nil, List.length_cons, List.length_nil, Nat.zero_add, Nat.reduceAdd, Nat.reduceSub, List.reduceReplicate, List.cons_append, List.nil_append]
  refine pwx_sr 2 [] (by rfl) (fun K1 hK1 => ?_)
  simp (disch := omega) only [go_sem]
  refine hK1 _ ?_
  clear hK1 K1
  refine pwx_sr 0 [] (by rfl) (fun K2 hK2 => ?_)
  refine rgnX_take 7 (fun K3 hK3 => ?_)
  simp (disch := omega) only [go_sem]
  refine ⟨_, c_point_coordinate _ _ _, ?_⟩
  refine hK3 _ ?_
  simp (disch := omega) only [go_sem]
  refine hK2 _ ?_
  clear hK3 K3 hK2 K2
  refine pwp_ret ?_
  refine ⟨Or.inr rfl, ?_⟩
  simp (disch := omega) only [go_sem]
set_option maxHeartbeats 4000000 in
theorem c_point_reduced (a b d e c : Rat) :
    Ret Tryz.prog 53 [.a (ratC (a) ++ (ratC (b) ++ (ratC (d) ++ (ratC (e) ++ ratC (c)))))] (.e (.a (ratC (a) ++ (ratC (b) ++ (ratC (d) ++ (ratC (e) ++ ratC (pC b e c))))))) := by
  refine ret_of_body (md := {}) Tryz.func53 (by kernel_rfl) rfl ?_
  simp only [Tryz.f53, List.map_cons, List.map_nil, List.length_cons, List.length_nil, Nat.zero_add, Nat.reduceAdd, Nat.reduceSub, List.reduceReplicate, List.cons_append, List.nil_append]
  refine pwx_sr 2 [] (by rfl) (fun K1 hK1 => ?_)
  simp (disch := omega) only [go_sem]
  refine hK1 _ ?_
  clear hK1 K1
  refine pwp_seq ?_
  by_cases h0 : b = 0
  · refine pwx_sr 0 [some 3, some 4, some 5, some 6, some 7, some 8, some 9, some 10, some 11, some 12] (by rfl) (fun K2 hK2 => ?_)
    refine rgnX_take 3 (fun K3 hK3 => ?_)
    simp (disch := omega) only [go_sem]
    refine ⟨_, c_rational_Sign _, ?_⟩
    refine hK3 _ ?_
    refine rgnX_take 5 (fun K4 hK4 => ?_)
    simp (disch := omega) only [go_sem]
    first | refine ⟨_, c_rational_Sign _, ?_⟩ | skip
    refine hK4 _ ?_
    simp (disch := omega) only [go_sem]
    refine hK2 _ ?_
    clear hK4 K4 hK3 K3 hK2 K2
    refine pwp_cond (b := _) (by rfl) (fun hb0 => ?_) (fun hb0 => ?_)
    · first | replace hb0 := of_decide_eq_true hb0 | replace hb0 := of_decide_eq_false hb0 | skip
      refine pwx_region 0 [] (by rfl) (fun K5 hK5 => ?_)
      refine rgnX_take 1 (fun K6 hK6 => ?_)
      simp (disch := omega) only [go_sem]
      refine ⟨_, c_point_zero, ?_⟩
      refine hK6 _ ?_
      simp (disch := omega) only [go_sem]
      refine hK5 _ ?_
      clear hK6 K6 hK5 K5
      refine n_then ?_
      refine pwx_sr 0 [] (by rfl) (fun K7 hK7 => ?_)
      simp (disch := omega) only [go_sem]
      refine hK7 _ ?_
      clear hK7 K7
      refine pwp_ret ?_
      refine ⟨Or.inr rfl, ?_⟩
      simp (disch := omega) only [go_sem]
      all_goals first | rw [pC_0 (by assumption) (by assumption)] | rw [pC_1 (by assumption)] | rw [pC_2 (by assumption)]
    · first | replace hb0 := of_decide_eq_true hb0 | replace hb0 := of_decide_eq_false hb0 | skip
      refine pwp_skip ?_
      refine n_then ?_
      refine pwx_sr 0 [] (by rfl) (fun K8 hK8 => ?_)
      simp (disch := omega) only [go_sem]
      refine hK8 _ ?_
      clear hK8 K8
      refine pwp_ret ?_
      refine ⟨Or.inr rfl, ?_⟩
      simp (disch := omega) only [go_sem]
      all_goals first | rw [pC_0 (by assumption) (by assumption)] | rw [pC_1 (by assumption)] | rw [pC_2 (by assumption)]
  · refine pwx_sr 0 [some 3, some 4, some 5, some 6, some 7, some 8, some 9, some 10, some 11, some 12] (by rfl) (fun K9 hK9 => ?_)
    refine rgnX_take 3 (fun K10 hK10 => ?_)
    simp (disch := omega) only [go_sem]
    refine ⟨_, c_rational_Sign _, ?_⟩
    refine hK10 _ ?_
    refine rgnX_take 5 (fun K11 hK11 => ?_)
    simp (disch := omega) only [go_sem]
    first | refine ⟨_, c_rational_Sign _, ?_⟩ | skip
    refine hK11 _ ?_
    simp (disch := omega) only [go_sem]
    refine hK9 _ ?_
    clear hK11 K11 hK10 K10 hK9 K9
    refine pwp_cond (b := false) (by rfl) (fun h => nomatch h) (fun _ => ?_)
    refine pwp_skip ?_
    refine n_then ?_
    refine pwx_sr 0 [] (by rfl) (fun K12 hK12 => ?_)
    simp (disch := omega) only [go_sem]
    refine hK12 _ ?_
    clear hK12 K12
    refine pwp_ret ?_
    refine ⟨Or.inr rfl, ?_⟩
    simp (disch := omega) only [go_sem]
    all_goals first | rw [pC_0 (by assumption) (by assumption)] | rw [pC_1 (by assumption)] | rw [pC_2 (by assumption)]
set_option maxHeartbeats 4000000 in
theorem c_point_At (v w : Rat) :
    Ret Tryz.prog 34 [.a (ratC (v) ++ ratC (w))] (.e (.a (ratC (v) ++ (ratC (0) ++ (ratC (w) ++ (ratC (0) ++ ratC (0))))))) := by
  refine ret_of_body (md := {}) Tryz.func34 (by kernel_rfl) rfl ?_
  simp only [Tryz.f34, List.map_cons, List.map_nil, List.length_cons, List.length_nil, Nat.zero_add, Nat.reduceAdd, Nat.reduceSub, List.reduceReplicate, List.cons_append, List.nil_append]
  refine pwx_sr 2 [] (by rfl) (fun K1 hK1 => ?_)
  simp (disch := omega) only [go_sem]
  refine hK1 _ ?_
  clear hK1 K1
  refine pwx_sd Tryz.mixed 0 [] (by rfl) [] (by kernel_rfl) (by simp) (fun K2 hK2 => ?_)
  refine rgnX_take 3 (fun K3 hK3 => ?_)
  simp (disch := omega) only [go_sem]
  refine ⟨_, c_point_zero, ?_⟩
  refine hK3 _ ?_
  refine rgnX_take 3 (fun K4 hK4 => ?_)
  simp (disch := omega) only [go_sem]
  refine ⟨_, c_point_zero, ?_⟩
  refine hK4 _ ?_
  refine rgnX_take 1 (fun K5 hK5 => ?_)
  simp (disch := omega) only [go_sem]
  refine ⟨_, c_point_zero, ?_⟩
  refine hK5 _ ?_
  simp (disch := omega) only [go_sem]
  refine hK2 _ ?_
  clear hK5 K5 hK4 K4 hK3 K3 hK2 K2
  refine pwp_ret ?_
  refine ⟨Or.inr rfl, ?_⟩
  simp (disch := omega) only [go_sem]
set_option maxHeartbeats 4000000 in
theorem c_point_OfGrid (x y : Int) (hx : -9223372036854775808 ≤ x) (hx' : x < 9223372036854775808) (hy : -9223372036854775808 ≤ y) (hy' : y < 9223372036854775808) :
    Ret Tryz.prog 35 [.a [.int .i64 x, .int .i64 y]] (.e (.a (ratC ((x : Rat)) ++ (ratC (0) ++ (ratC ((y : Rat)) ++ (ratC (0) ++ ratC (0))))))) := by
  refine ret_of_body (md := {}) Tryz.func35 (by kernel_rfl) rfl ?_
  simp only [Tryz.f35, List.map_cons, List.map_nil, List.length_cons, List.length_nil, Nat.zero_add, Nat.reduceAdd, Nat.reduceSub, List.reduceReplicate, List.cons_append, List.nil_append]
  refine pwx_sr 2 [] (by rfl) (fun K1 hK1 => ?_)
  simp (disch := omega) only [go_sem]
  refine hK1 _ ?_
  clear hK1 K1
  refine pwx_sd Tryz.mixed 0 [] (by rfl) [] (by kernel_rfl) (by simp) (fun K2 hK2 => ?_)
  refine rgnX_take 3 (fun K3 hK3 => ?_)
  simp (disch := omega) only [go_sem]
  refine ⟨_, c_rational_FromInt64 _ (by omega) (by omega), ?_⟩
  refine hK3 _ ?_
  refine rgnX_take 3 (fun K4 hK4 => ?_)
  simp (disch := omega) only [go_sem]
  refine ⟨_, c_rational_FromInt64 _ (by omega) (by omega), ?_⟩
  refine hK4 _ ?_
  refine rgnX_take 2 (fun K5 hK5 => ?_)
  simp (disch := omega) only [go_sem]
  refine ⟨_, c_point_At _ _, ?_⟩
  refine hK5 _ ?_
  simp (disch := omega) only [go_sem]
  refine hK2 _ ?_
  clear hK5 K5 hK4 K4 hK3 K3 hK2 K2
  refine pwp_ret ?_
  refine ⟨Or.inr rfl, ?_⟩
  simp (disch := omega) only [go_sem]
set_option maxHeartbeats 4000000 in
theorem c_point_Make_t (a b c a' b' c' : Rat) {k l m k' l' m' : Nat} [SzR a k] [SzR b l] [SzR c m] [SzR a' k'] [SzR b' l'] [SzR c' m'] (hk : k + l + m + k' + l' + m' ≤ 3000) (hm : b = 0 ∨ b' = 0 ∨ c = c') :
    Ret Tryz.prog 13 [.a (ratC (a) ++ (ratC (b) ++ ratC (c))), .a (ratC (a') ++ (ratC (b') ++ ratC (c')))] (.t [.a (ratC (a) ++ (ratC (b) ++ (ratC (a') ++ (ratC (b') ++ ratC (pC b b' (rK b c c')))))), .c (.int .i64 0)]) := by
  refine ret_of_body (md := {}) Tryz.func13 (by kernel_rfl) rfl ?_
  simp only [Tryz.f13, List.map_cons, List.map_nil, List.length_cons, List.length_nil, Nat.zero_add, Nat.reduceAdd, Nat.reduceSub, List.reduceReplicate, List.cons_append, List.nil_append]
  refine pwx_sr 3 [] (by rfl) (fun K1 hK1 => ?_)
  simp (disch := omega) only [go_sem]
  refine hK1 _ ?_
  clear hK1 K1
  refine pwx_sr 1 [] (by rfl) (fun K2 hK2 => ?_)
  simp (disch := omega) only [go_sem]
  refine hK2 _ ?_
  clear hK2 K2
  refine pwp_seq ?_
  refine pwx_sr 0 [] (by rfl) (fun K3 hK3 => ?_)
  refine rgnX_take 3 (fun K4 hK4 => ?_)
  simp (disch := omega) only [go_sem]
  refine ⟨_, c_rational_Sign _, ?_⟩
  refine hK4 _ ?_
  simp (disch := omega) only [go_sem]
  refine hK3 _ ?_
  clear hK4 K4 hK3 K3
  refine pwp_cond (b := _) (by rfl) (fun hb0 => ?_) (fun hb0 => ?_)
  · first | replace hb0 := of_decide_eq_true hb0 | replace hb0 := of_decide_eq_false hb0 | skip
    refine pwx_region 0 [] (by rfl) (fun K5 hK5 => ?_)
    simp (disch := omega) only [go_sem]
    refine hK5 _ ?_
    clear hK5 K5
    refine n_then ?_
    refine pwx_sr 0 [] (by rfl) (fun K6 hK6 => ?_)
    refine rgnX_take 11 (fun K7 hK7 => ?_)
    simp (disch := omega) only [go_sem]
    refine ⟨_, c_point_reduced _ _ _ _ _, ?_⟩
    refine hK7 _ ?_
    simp (disch := omega) only [go_sem]
    refine hK6 _ ?_
    clear hK7 K7 hK6 K6
    refine pwp_ret ?_
    refine ⟨Or.inr rfl, ?_⟩
    simp (disch := omega) only [go_sem]
    all_goals first | rw [rK_0 (by assumption)] | rw [rK_1 (by assumption)]
  · first | replace hb0 := of_decide_eq_true hb0 | replace hb0 := of_decide_eq_false hb0 | skip
    by_cases h1 : b' = 0
    · refine pwx_sr 0 [some 15, some 16, some 17, some 18, some 19, some 20, some 21, some 22, some 23, some 24, some 25, some 26] (by rfl) (fun K8 hK8 => ?_)
      refine rgnX_take 3 (fun K9 hK9 => ?_)
      simp (disch := omega) only [go_sem]
      refine ⟨_, c_rational_Sign _, ?_⟩
      refine hK9 _ ?_
      refine rgnX_take 7 (fun K10 hK10 => ?_)
      simp (disch := omega) only [go_sem]
      first | refine ⟨_, c_rational_Cmp _ _ (by omega), ?_⟩ | skip
      refine hK10 _ ?_
      simp (disch := omega) only [go_sem]
      refine hK8 _ ?_
      clear hK10 K10 hK9 K9 hK8 K8
      refine pwp_cond (b := false) (by rfl) (fun h => nomatch h) (fun _ => ?_)
      refine pwp_skip ?_
      refine n_then ?_
      refine pwx_sr 0 [] (by rfl) (fun K11 hK11 => ?_)
      refine rgnX_take 11 (fun K12 hK12 => ?_)
      simp (disch := omega) only [go_sem]
      refine ⟨_, c_point_reduced _ _ _ _ _, ?_⟩
      refine hK12 _ ?_
      simp (disch := omega) only [go_sem]
      refine hK11 _ ?_
      clear hK12 K12 hK11 K11
      refine pwp_ret ?_
      refine ⟨Or.inr rfl, ?_⟩
      simp (disch := omega) only [go_sem]
      all_goals first | rw [rK_0 (by assumption)] | rw [rK_1 (by assumption)]
    · refine pwx_sr 0 [some 15, some 16, some 17, some 18, some 19, some 20, some 21, some 22, some 23, some 24, some 25, some 26] (by rfl) (fun K13 hK13 => ?_)
      refine rgnX_take 3 (fun K14 hK14 => ?_)
      simp (disch := omega) only [go_sem]
      refine ⟨_, c_rational_Sign _, ?_⟩
      refine hK14 _ ?_
      refine rgnX_take 7 (fun K15 hK15 => ?_)
      simp (disch := omega) only [go_sem]
      first | refine ⟨_, c_rational_Cmp _ _ (by omega), ?_⟩ | skip
      refine hK15 _ ?_
      simp (disch := omega) only [go_sem]
      refine hK13 _ ?_
      clear hK15 K15 hK14 K14 hK13 K13
      refine pwp_cond (b := _) (by rfl) (fun hb2 => ?_) (fun hb2 => ?_)
      · exfalso; simp_all
      · first | replace hb2 := of_decide_eq_true hb2 | replace hb2 := of_decide_eq_false hb2 | skip
        refine pwp_skip ?_
        refine n_then ?_
        refine pwx_sr 0 [] (by rfl) (fun K16 hK16 => ?_)
        refine rgnX_take 11 (fun K17 hK17 => ?_)
        simp (disch := omega) only [go_sem]
        refine ⟨_, c_point_reduced _ _ _ _ _, ?_⟩
        refine hK17 _ ?_
        simp (disch := omega) only [go_sem]
        refine hK16 _ ?_
        clear hK17 K17 hK16 K16
        refine pwp_ret ?_
        refine ⟨Or.inr rfl, ?_⟩
        simp (disch := omega) only [go_sem]
        all_goals first | rw [rK_0 (by assumption)] | rw [rK_1 (by assumption)]
set_option maxHeartbeats 4000000 in
theorem c_point_Make_f (a b c a' b' c' : Rat) {k l m k' l' m' : Nat} [SzR a k] [SzR b l] [SzR c m] [SzR a' k'] [SzR b' l'] [SzR c' m'] (hk : k + l + m + k' + l' + m' ≤ 3000) (hm : ¬ (b = 0 ∨ b' = 0 ∨ c = c')) :
    Ret Tryz.prog 13 [.a (ratC (a) ++ (ratC (b) ++ ratC (c))), .a (ratC (a') ++ (ratC (b') ++ ratC (c')))] (.t [.a [.bool false, .sl 0 [], .bool false, .sl 0 [], .bool false, .sl 0 [], .bool false, .sl 0 [], .bool false, .sl 0 [], .bool false, .sl 0 [], .bool false, .sl 0 [], .bool false, .sl 0 [], .bool false, .sl 0 [], .bool false, .sl 0 []], .c (.int .i64 1)]) := by
  refine ret_of_body (md := {}) Tryz.func13 (by kernel_rfl) rfl ?_
  simp only [Tryz.f13, List.map_cons, List.map_nil, List.length_cons, List.length_nil, Nat.zero_add, Nat.reduceAdd, Nat.reduceSub, List.reduceReplicate, List.cons_append, List.nil_append]
  simp only [not_or] at hm
  obtain ⟨m1, m2, m3⟩ := hm
  refine pwx_sr 3 [] (by rfl) (fun K1 hK1 => ?_)
  simp (disch := omega) only [go_sem]
  refine hK1 _ ?_
  clear hK1 K1
  refine pwx_sr 1 [] (by rfl) (fun K2 hK2 => ?_)
  simp (disch := omega) only [go_sem]
  refine hK2 _ ?_
  clear hK2 K2
  refine pwp_seq ?_
  refine pwx_sr 0 [] (by rfl) (fun K3 hK3 => ?_)
  refine rgnX_take 3 (fun K4 hK4 => ?_)
  simp (disch := omega) only [go_sem, m1, decide_false]
  refine ⟨_, c_rational_Sign _, ?_⟩
  refine hK4 _ ?_
  simp (disch := omega) only [go_sem, m1, decide_false]
  refine hK3 _ ?_
  clear hK4 K4 hK3 K3
  refine pwp_cond (b := _) (by rfl) (fun hb0 => ?_) (fun hb0 => ?_)
  · exfalso; simp_all
  · first | replace hb0 := of_decide_eq_true hb0 | replace hb0 := of_decide_eq_false hb0 | skip
    refine pwx_sr 0 [some 15, some 16, some 17, some 18, some 19, some 20, some 21, some 22, some 23, some 24, some 25, some 26] (by rfl) (fun K5 hK5 => ?_)
    refine rgnX_take 3 (fun K6 hK6 => ?_)
    simp (disch := omega) only [go_sem, m2, decide_false]
    refine ⟨_, c_rational_Sign _, ?_⟩
    refine hK6 _ ?_
    refine rgnX_take 7 (fun K7 hK7 => ?_)
    simp (disch := omega) only [go_sem, m2, decide_false]
    first | refine ⟨_, c_rational_Cmp _ _ (by omega), ?_⟩ | skip
    refine hK7 _ ?_
    simp (disch := omega) only [go_sem, m2, decide_false]
    refine hK5 _ ?_
    clear hK7 K7 hK6 K6 hK5 K5
    refine pwp_cond (b := _) (by rfl) (fun hb1 => ?_) (fun hb1 => ?_)
    · first | replace hb1 := of_decide_eq_true hb1 | replace hb1 := of_decide_eq_false hb1 | skip
      refine pwx_sr 0 [] (by rfl) (fun K8 hK8 => ?_)
      simp (disch := omega) only [go_sem]
      refine hK8 _ ?_
      clear hK8 K8
      refine pwp_ret ?_
      refine r_then ?_
      refine ⟨Or.inr rfl, ?_⟩
      simp (disch := omega) only [go_sem]
    · exfalso; simp_all
set_option maxHeartbeats 4000000 in
theorem c_point_Compare (a b d e c : Rat) {k1 k2 k3 k4 k5 : Nat} [SzR a k1] [SzR b k2] [SzR d k3] [SzR e k4] [SzR c k5] (a' b' d' e' c' : Rat) {l1 l2 l3 l4 l5 : Nat} [SzR a' l1] [SzR b' l2] [SzR d' l3] [SzR e' l4] [SzR c' l5] (hk : k1 + k2 + k3 + k4 + k5 + l1 + l2 + l3 + l4 + l5 ≤ 900) (hc : 0 ≤ c) (hc' : 0 ≤ c') :
    Ret Tryz.prog 20 [.a (ratC (a) ++ (ratC (b) ++ (ratC (d) ++ (ratC (e) ++ ratC (c))))), .a (ratC (a') ++ (ratC (b') ++ (ratC (d') ++ (ratC (e') ++ ratC (c')))))] (.e (.c (.int .i64 (cmpP a b d e c a' b' d' e' c')))) := by
  refine ret_of_body (md := {}) Tryz.func20 (by kernel_rfl) rfl ?_
  simp only [Tryz.f20, List.map_cons, List.map_nil, List.length_cons, List.length_nil, Nat.zero_add, Nat.reduceAdd, Nat.reduceSub, List.reduceReplicate, List.cons_append, List.nil_append]
  refine pwx_sr 2 [] (by rfl) (fun K1 hK1 => ?_)
  simp (disch := omega) only [go_sem]
  refine hK1 _ ?_
  clear hK1 K1
  refine pwp_seq ?_
  refine pwx_sd Tryz.mixed 0 [] (by rfl) [] (by kernel_rfl) (by simp) (fun K2 hK2 => ?_)
  refine rgnX_take 2 (fun K3 hK3 => ?_)
  simp (disch := omega) only [go_sem]
  refine ⟨_, c_point_X _ _ _ _ _, ?_⟩
  refine hK3 _ ?_
  refine rgnX_take 2 (fun K4 hK4 => ?_)
  simp (disch := omega) only [go_sem]
  refine ⟨_, c_point_X _ _ _ _ _, ?_⟩
  refine hK4 _ ?_
  refine rgnX_take 1 (fun K5 hK5 => ?_)
  simp (disch := omega) only [go_sem]
  refine ⟨_, c_radical_Cmp _ _ _ _ _ _ (by omega) (rC_nn (by assumption)) (rC_nn (by assumption)), ?_⟩
  refine hK5 _ ?_
  simp (disch := omega) only [go_sem]
  refine hK2 _ ?_
  clear hK5 K5 hK4 K4 hK3 K3 hK2 K2
  refine pwx_sr 0 [] (by rfl) (fun K6 hK6 => ?_)
  simp (disch := omega) only [go_sem]
  refine hK6 _ ?_
  clear hK6 K6
  refine pwp_cond (b := _) (by rfl) (fun hb0 => ?_) (fun hb0 => ?_)
  · have hz := nzi_t hb0
    refine pwx_sr 0 [] (by rfl) (fun K7 hK7 => ?_)
    simp (disch := omega) only [go_sem]
    refine hK7 _ ?_
    clear hK7 K7
    refine pwp_ret ?_
    refine r_then ?_
    refine ⟨Or.inr rfl, ?_⟩
    simp (disch := omega) only [go_sem]
    all_goals first | rw [cmpP_0 hz] | rw [cmpP_1 hz]
  · have hz := nzi_f hb0
    refine pwp_skip ?_
    refine n_then ?_
    refine pwx_sd Tryz.mixed 0 [] (by rfl) [] (by kernel_rfl) (by simp) (fun K8 hK8 => ?_)
    refine rgnX_take 2 (fun K9 hK9 => ?_)
    simp (disch := omega) only [go_sem]
    refine ⟨_, c_point_Y _ _ _ _ _, ?_⟩
    refine hK9 _ ?_
    refine rgnX_take 2 (fun K10 hK10 => ?_)
    simp (disch := omega) only [go_sem]
    refine ⟨_, c_point_Y _ _ _ _ _, ?_⟩
    refine hK10 _ ?_
    refine rgnX_take 1 (fun K11 hK11 => ?_)
    simp (disch := omega) only [go_sem]
    refine ⟨_, c_radical_Cmp _ _ _ _ _ _ (by omega) (rC_nn (by assumption)) (rC_nn (by assumption)), ?_⟩
    refine hK11 _ ?_
    simp (disch := omega) only [go_sem]
    refine hK8 _ ?_
    clear hK11 K11 hK10 K10 hK9 K9 hK8 K8
    refine pwp_ret ?_
    refine ⟨Or.inr rfl, ?_⟩
    simp (disch := omega) only [go_sem]
    all_goals first | rw [cmpP_0 hz] | rw [cmpP_1 hz]
set_option maxHeartbeats 4000000 in
theorem c_point_Equal (a b d e c : Rat) {k1 k2 k3 k4 k5 : Nat} [SzR a k1] [SzR b k2] [SzR d k3] [SzR e k4] [SzR c k5] (a' b' d' e' c' : Rat) {l1 l2 l3 l4 l5 : Nat} [SzR a' l1] [SzR b' l2] [SzR d' l3] [SzR e' l4] [SzR c' l5] (hk : k1 + k2 + k3 + k4 + k5 + l1 + l2 + l3 + l4 + l5 ≤ 900) (hc : 0 ≤ c) (hc' : 0 ≤ c') :
    Ret Tryz.prog 22 [.a (ratC (a) ++ (ratC (b) ++ (ratC (d) ++ (ratC (e) ++ ratC (c))))), .a (ratC (a') ++ (ratC (b') ++ (ratC (d') ++ (ratC (e') ++ ratC (c')))))] (.e (.c (.bool (decide (cmpP a b d e c a' b' d' e' c' = 0))))) := by
  refine ret_of_body (md := {}) Tryz.func22 (by kernel_rfl) rfl ?_
  simp only [Tryz.f22, List.map_cons, List.map_nil, List.length_cons, List.length_nil, Nat.zero_add, Nat.reduceAdd, Nat.reduceSub, List.reduceReplicate, List.cons_append, List.nil_append]
  refine pwx_sr 2 [] (by rfl) (fun K1 hK1 => ?_)
  simp (disch := omega) only [go_sem]
  refine hK1 _ ?_
  clear hK1 K1
  refine pwx_sr 0 [] (by rfl) (fun K2 hK2 => ?_)
  refine rgnX_take 3 (fun K3 hK3 => ?_)
  simp (disch := omega) only [go_sem]
  refine ⟨_, c_point_Compare _ _ _ _ _ _ _ _ _ _ (by omega) (by assumption) (by assumption), ?_⟩
  refine hK3 _ ?_
  simp (disch := omega) only [go_sem]
  refine hK2 _ ?_
  clear hK3 K3 hK2 K2
  refine pwp_ret ?_
  refine ⟨Or.inr rfl, ?_⟩
  simp (disch := omega) only [go_sem]
set_option maxHeartbeats 4000000 in
theorem c_point_Square (a b d e c v w : Rat) {k6 k7 k1 k2 k3 k4 k5 : Nat} [SzR a k1] [SzR b k2] [SzR d k3] [SzR e k4] [SzR c k5] [SzR v k6] [SzR w k7] (hk : k1 + k2 + k3 + k4 + k5 + k6 + k7 ≤ 400) :
    Ret Tryz.prog 24 [.a (ratC (a) ++ (ratC (b) ++ (ratC (d) ++ (ratC (e) ++ ratC (c))))), .a (ratC (v) ++ ratC (w))] (.e (.a (ratC (sqA a b d e c v w) ++ (ratC (sqB2 a b d e v w) ++ ratC (rC (sqB2 a b d e v w) c))))) := by
  refine ret_of_body (md := {}) Tryz.func24 (by kernel_rfl) rfl ?_
  simp only [Tryz.f24, List.map_cons, List.map_nil, List.length_cons, List.length_nil, Nat.zero_add, Nat.reduceAdd, Nat.reduceSub, List.reduceReplicate, List.cons_append, List.nil_append]
  refine pwx_sr 3 [] (by rfl) (fun K1 hK1 => ?_)
  simp (disch := omega) only [go_sem]
  refine hK1 _ ?_
  clear hK1 K1
  refine pwx_sd Tryz.mixed 2 [] (by rfl) [] (by kernel_rfl) (by simp) (fun K2 hK2 => ?_)
  refine rgnX_take 5 (fun K3 hK3 => ?_)
  simp (disch := omega) only [go_sem]
  refine ⟨_, c_rational_Sub _ _ (by omega), ?_⟩
  refine hK3 _ ?_
  refine rgnX_take 5 (fun K4 hK4 => ?_)
  simp (disch := omega) only [go_sem]
  refine ⟨_, c_rational_Sub _ _ (by omega), ?_⟩
  refine hK4 _ ?_
  simp (disch := omega) only [go_sem]
  refine hK2 _ ?_
  clear hK4 K4 hK3 K3 hK2 K2
  refine pwx_sr 0 [] (by rfl) (fun K5 hK5 => ?_)
  simp (disch := omega) only [go_sem]
  refine hK5 _ ?_
  clear hK5 K5
  refine pwx_sd Tryz.mixed 1 [] (by rfl) [] (by kernel_rfl) (by simp) (fun K6 hK6 => ?_)
  refine rgnX_take 4 (fun K7 hK7 => ?_)
  simp (disch := omega) only [go_sem]
  refine ⟨_, c_rational_Mul _ _ (by omega), ?_⟩
  refine hK7 _ ?_
  refine rgnX_take 4 (fun K8 hK8 => ?_)
  simp (disch := omega) only [go_sem]
  refine ⟨_, c_rational_Mul _ _ (by omega), ?_⟩
  refine hK8 _ ?_
  refine rgnX_take 1 (fun K9 hK9 => ?_)
  simp (disch := omega) only [go_sem]
  refine ⟨_, c_rational_Add _ _ (by omega), ?_⟩
  refine hK9 _ ?_
  refine rgnX_take 7 (fun K10 hK10 => ?_)
  simp (disch := omega) only [go_sem]
  refine ⟨_, c_rational_Mul _ _ (by omega), ?_⟩
  refine hK10 _ ?_
  refine rgnX_take 6 (fun K11 hK11 => ?_)
  simp (disch := omega) only [go_sem]
  refine ⟨_, c_rational_Mul _ _ (by omega), ?_⟩
  refine hK11 _ ?_
  refine rgnX_take 1 (fun K12 hK12 => ?_)
  simp (disch := omega) only [go_sem]
  refine ⟨_, c_rational_Add _ _ (by omega), ?_⟩
  refine hK12 _ ?_
  refine rgnX_take 3 (fun K13 hK13 => ?_)
  simp (disch := omega) only [go_sem]
  refine ⟨_, c_rational_Mul _ _ (by omega), ?_⟩
  refine hK13 _ ?_
  refine rgnX_take 1 (fun K14 hK14 => ?_)
  simp (disch := omega) only [go_sem]
  refine ⟨_, c_rational_Add _ _ (by omega), ?_⟩
  refine hK14 _ ?_
  simp (disch := omega) only [go_sem]
  refine hK6 _ ?_
  clear hK14 K14 hK13 K13 hK12 K12 hK11 K11 hK10 K10 hK9 K9 hK8 K8 hK7 K7 hK6 K6
  refine pwx_sd Tryz.mixed 1 [] (by rfl) [] (by kernel_rfl) (by simp) (fun K15 hK15 => ?_)
  refine rgnX_take 5 (fun K16 hK16 => ?_)
  simp (disch := omega) only [go_sem]
  refine ⟨_, c_rational_Mul _ _ (by omega), ?_⟩
  refine hK16 _ ?_
  refine rgnX_take 5 (fun K17 hK17 => ?_)
  simp (disch := omega) only [go_sem]
  refine ⟨_, c_rational_Mul _ _ (by omega), ?_⟩
  refine hK17 _ ?_
  refine rgnX_take 1 (fun K18 hK18 => ?_)
  simp (disch := omega) only [go_sem]
  refine ⟨_, c_rational_Add _ _ (by omega), ?_⟩
  refine hK18 _ ?_
  simp (disch := omega) only [go_sem]
  refine hK15 _ ?_
  clear hK18 K18 hK17 K17 hK16 K16 hK15 K15
  refine pwx_sd Tryz.mixed 0 [] (by rfl) [] (by kernel_rfl) (by simp) (fun K19 hK19 => ?_)
  refine rgnX_take 4 (fun K20 hK20 => ?_)
  simp (disch := omega) only [go_sem]
  refine ⟨_, c_rational_Add _ _ (by omega), ?_⟩
  refine hK20 _ ?_
  refine rgnX_take 3 (fun K21 hK21 => ?_)
  simp (disch := omega) only [go_sem]
  refine ⟨_, c_point_coordinate _ _ _, ?_⟩
  refine hK21 _ ?_
  simp (disch := omega) only [go_sem]
  refine hK19 _ ?_
  clear hK21 K21 hK20 K20 hK19 K19
  refine pwp_ret ?_
  refine ⟨Or.inr rfl, ?_⟩
  simp (disch := omega) only [go_sem]
  all_goals rfl
end Go.Proofs.YtbadkjfjdkbgfaaGreat

set_option linter.unusedSimpArgs false
set_option linter.unusedVariables false
set_option maxRecDepth 20000
namespace Go.Proofs.YtbadkjfjdkbgfaaGreat
open Go Go.PL Go.RL
set_option maxHeartbeats 4000000 in
theorem c_swarfref07_coordinate (a b c : Rat) :
    Ret Tryz.prog 85 [.a (ratC a), .a (ratC b), .a (ratC c)] (.e (.a (ratC (a) ++ (ratC (b) ++ ratC (rC b c))))) := by
  refine ret_of_body (md := {}) Tryz.func85 (by kernel_rfl) rfl ?_
  simp only [Tryz.f85, List.map_cons, List.map_nil, List.length_cons, List.length_nil, Nat.zero_add, Nat.reduceAdd, Nat.reduceSub, List.reduceReplicate, List.cons_append, List.nil_append]
  refine pwx_sr 4 [] (by rfl) (fun K1 hK1 => ?_)
  simp (disch := omega) only [go_sem]
  refine hK1 _ ?_
  clear hK1 K1
  refine pwp_seq ?_
  refine pwx_sr 0 [] (by rfl) (fun K2 hK2 => ?_)
  refine rgnX_take 2 (fun K3 hK3 => ?_)
  simp (disch := omega) only [go_sem]
  refine ⟨_, c_swarfref02_Sign _, ?_⟩
  refine hK3 _ ?_
  simp (disch := omega) only [go_sem]
  refine hK2 _ ?_
  clear hK3 K3 hK2 K2
  refine pwp_cond (b := _) (by rfl) (fun hb0 => ?_) (fun hb0 => ?_)
  · first | replace hb0 := of_decide_eq_true hb0 | replace hb0 := of_decide_eq_false hb0 | skip
    refine pwx_sr 0 [] (by rfl) (fun K4 hK4 => ?_)
    refine rgnX_take 2 (fun K5 hK5 => ?_)
    simp (disch := omega) only [go_sem]
    refine ⟨_, c_swarfref03_FromRat _, ?_⟩
    refine hK5 _ ?_
    simp (disch := omega) only [go_sem]
    refine hK4 _ ?_
    clear hK5 K5 hK4 K4
    refine pwp_ret ?_
    refine r_then ?_
    refine ⟨Or.inr rfl, ?_⟩
    simp (disch := omega) only [go_sem]
    all_goals first | (have e : b = 0 := (by assumption); subst e; rw [rC_0 rfl]) | rw [rC_1 (by assumption)]
  · first | replace hb0 := of_decide_eq_true hb0 | replace hb0 := of_decide_eq_false hb0 | skip
    refine pwp_skip ?_
    refine n_then ?_
    refine pwx_sr 0 [] (by rfl) (fun K6 hK6 => ?_)
    simp (disch := omega) only [go_sem]
    refine hK6 _ ?_
    clear hK6 K6
    refine pwp_ret ?_
    refine ⟨Or.inr rfl, ?_⟩
    simp (disch := omega) only [go_sem]
    all_goals first | (have e : b = 0 := (by assumption); subst e; rw [rC_0 rfl]) | rw [rC_1 (by assumption)]
set_option maxHeartbeats 4000000 in
theorem c_swarfref07_X (a b d e c : Rat) :
    Ret Tryz.prog 46 [.a (ratC (a) ++ (ratC (b) ++ (ratC (d) ++ (ratC (e) ++ ratC (c)))))] (.e (.a (ratC (a) ++ (ratC (b) ++ ratC (rC b c))))) := by
  refine ret_of_body (md := {}) Tryz.func46 (by kernel_rfl) rfl ?_
  simp only [Tryz.f46, List.map_cons, List.map_nil, List.length_cons, List.length_nil, Nat.zero_add, Nat.reduceAdd, Nat.reduceSub, List.reduceReplicate, List.cons_append, List.nil_append]
  refine pwx_sr 2 [] (by rfl) (fun K1 hK1 => ?_)
  simp (disch := omega) only [go_sem]
  refine hK1 _ ?_
  clear hK1 K1
  refine pwx_sr 0 [] (by rfl) (fun K2 hK2 => ?_)
  refine rgnX_take 7 (fun K3 hK3 => ?_)
  simp (disch := omega) only [go_sem]
  refine ⟨_, c_swarfref07_coordinate _ _ _, ?_⟩
  refine hK3 _ ?_
  simp (disch := omega) only [go_sem]
  refine hK2 _ ?_
  clear hK3 K3 hK2 K2
  refine pwp_ret ?_
  refine ⟨Or.inr rfl, ?_⟩
  simp (disch := omega) only [go_sem]
set_option maxHeartbeats 4000000 in
theorem c_swarfref07_Y (a b d e c : Rat) :
    Ret Tryz.prog 47 [.a (ratC (a) ++ (ratC (b) ++ (ratC (d) ++ (ratC (e) ++ ratC (c)))))] (.e (.a (ratC (d) ++ (ratC (e) ++ ratC (rC e c))))) := by
  refine ret_of_body (md := {}) Tryz.func47 (by kernel_rfl) rfl ?_
  simp only [Tryz.f47, List.map_cons, List.map_nil, List.length_cons, List.length_nil, Nat.zero_add, Nat.reduceAdd, Nat.reduceSub, List.reduceReplicate, List.cons_append, List.nil_append]
  refine pwx_sr 2 [] (by rfl) (fun K1 hK1 => ?_)
  simp (disch := omega) only [go_sem]
  refine hK1 _ ?_
  clear hK1 K1
  refine pwx_sr 0 [] (by rfl) (fun K2 hK2 => ?_)
  refine rgnX_take 7 (fun K3 hK3 => ?_)
  simp (disch := omega) only [go_sem]
  refine ⟨_, c_swarfref07_coordinate _ _ _, ?_⟩
  refine hK3 _ ?_
  simp (disch := omega) only [go_sem]
  refine hK2 _ ?_
  clear hK3 K3 hK2 K2
  refine pwp_ret ?_
  refine ⟨Or.inr rfl, ?_⟩
  simp (disch := omega) only [go_sem]
set_option maxHeartbeats 4000000 in
theorem c_swarfref07_Vec (x y : Int) (hx : -9223372036854775808 ≤ x) (hx' : x < 9223372036854775808) (hy : -9223372036854775808 ≤ y) (hy' : y < 9223372036854775808) :
    Ret Tryz.prog 49 [.c (.int .i64 x), .c (.int .i64 y)] (.e (.a (ratC ((x : Rat)) ++ ratC ((y : Rat))))) := by
  refine ret_of_body (md := {}) Tryz.func49 (by kernel_rfl) rfl ?_
  simp only [Tryz.f49, List.map_cons, List.map_nil, List.length_cons, List.length_nil, Nat.zero_add, Nat.reduceAdd, Nat.reduceSub, List.reduceReplicate, List.cons_append, List.nil_append]
  refine pwx_sr 1 [] (by rfl) (fun K1 hK1 => ?_)
  simp (disch := omega) only [go_sem]
  refine hK1 _ ?_
  clear hK1 K1
  refine pwx_sr 0 [] (by rfl) (fun K2 hK2 => ?_)
  refine rgnX_take 2 (fun K3 hK3 => ?_)
  simp (disch := omega) only [go_sem]
  refine ⟨_, c_swarfref02_FromInt64 _ (by omega) (by omega), ?_⟩
  refine hK3 _ ?_
  refine rgnX_take 2 (fun K4 hK4 => ?_)
  simp (disch := omega) only [go_sem]
  refine ⟨_, c_swarfref02_FromInt64 _ (by omega) (by omega), ?_⟩
  refine hK4 _ ?_
  simp (disch := omega) only [go_sem]
  refine hK2 _ ?_
  clear hK4 K4 hK3 K3 hK2 K2
  refine pwp_ret ?_
  refine ⟨Or.inr rfl, ?_⟩
  simp (disch := omega) only [go_sem]
end Go.Proofs.YtbadkjfjdkbgfaaGreat

set_option linter.unusedSimpArgs false
set_option linter.unusedVariables false
set_option maxRecDepth 20000
namespace Go.Proofs.YtbadkjfjdkbgfaaGreat
open Go Go.PL Go.RL
end Go.Proofs.YtbadkjfjdkbgfaaGreat

set_option linter.unusedSimpArgs false
set_option linter.unusedVariables false
set_option maxRecDepth 20000
namespace Go.Proofs.YtbadkjfjdkbgfaaGreat
open Go Go.PL Go.RL
set_option maxHeartbeats 4000000 in
theorem c_swarfref07_Small_f (n0 n1 n2 n3 n4 n5 n6 n7 n8 n9 : Bool) (l0 l1 l2 l3 l4 l5 l6 l7 l8 l9 : List Nat) (k : Nat) (hk : k ≤ 1000000) (hs : ¬ (smlR k n0 l0 n1 l1 = true ∧ smlR k n4 l4 n5 l5 = true ∧ smlR k n2 l2 n3 l3 = true ∧ smlR k n6 l6 n7 l7 = true ∧ smlR k n8 l8 n9 l9 = true)) :
    Ret Tryz.prog 58 [.a [.bool n0, lC l0, .bool n1, lC l1, .bool n2, lC l2, .bool n3, lC l3, .bool n4, lC l4, .bool n5, lC l5, .bool n6, lC l6, .bool n7, lC l7, .bool n8, lC l8, .bool n9, lC l9], .c (.int .i64 (k : Int))] (.e (.c (.bool false))) := by
  refine ret_of_body (md := {}) Tryz.func58 (by kernel_rfl) rfl ?_
  simp only [Tryz.f58, List.map_cons, List.map_nil, List.length_cons, List.length_nil, Nat.zero_add, Nat.reduceAdd, Nat.reduceSub, List.reduceReplicate, List.cons_append, List.nil_append]
  refine pwx_sr 1 [] (by rfl) (fun K1 hK1 => ?_)
  simp (disch := omega) only [go_sem]
  refine hK1 _ ?_
  clear hK1 K1
  rcases five_f hs with h1 | ⟨h1, h2⟩ | ⟨h1, h2, h3⟩ | ⟨h1, h2, h3, h4⟩ | ⟨h1, h2, h3, h4, h5⟩
  · refine pwx_sr 0 [some 5, some 6, some 7, some 8, some 9, some 10, some 11, some 12, some 13, some 14, some 15, some 16, some 17, some 18, some 19, some 20, some 21, some 22, some 23, some 24, some 25, some 26, some 27, some 28, some 29, some 30, some 31, some 32, some 33, some 34, some 35, some 36, some 4] (by rfl) (fun K2 hK2 => ?_)
    refine rgnX_take 4 (fun K3 hK3 => ?_)
    simp (disch := omega) only [go_sem, h1]
    refine ⟨_, c_swarfref02_Small _ _ _ _ _ (by omega), ?_⟩
    refine hK3 _ ?_
    refine rgnX_take 5 (fun K4 hK4 => ?_)
    simp (disch := omega) only [go_sem, h1]
    first | refine ⟨_, c_swarfref02_Small _ _ _ _ _ (by omega), ?_⟩ | skip
    refine hK4 _ ?_
    refine rgnX_take 6 (fun K5 hK5 => ?_)
    simp (disch := omega) only [go_sem, h1]
    first | refine ⟨_, c_swarfref02_Small _ _ _ _ _ (by omega), ?_⟩ | skip
    refine hK5 _ ?_
    refine rgnX_take 6 (fun K6 hK6 => ?_)
    simp (disch := omega) only [go_sem, h1]
    first | refine ⟨_, c_swarfref02_Small _ _ _ _ _ (by omega), ?_⟩ | skip
    refine hK6 _ ?_
    refine rgnX_take 6 (fun K7 hK7 => ?_)
    simp (disch := omega) only [go_sem, h1]
    first | refine ⟨_, c_swarfref02_Small _ _ _ _ _ (by omega), ?_⟩ | skip
    refine hK7 _ ?_
    refine rgnX_take 4 (fun K8 hK8 => ?_)
    simp (disch := omega) only [go_sem, h1]
    first | refine ⟨_, absurd, ?_⟩ | skip
    refine hK8 _ ?_
    simp (disch := omega) only [go_sem, h1]
    refine hK2 _ ?_
    clear hK8 K8 hK7 K7 hK6 K6 hK5 K5 hK4 K4 hK3 K3 hK2 K2
    refine pwp_ret ?_
    refine ⟨Or.inr rfl, ?_⟩
    simp (disch := omega) only [go_sem]
  · refine pwx_sr 0 [some 5, some 6, some 7, some 8, some 9, some 10, some 11, some 12, some 13, some 14, some 15, some 16, some 17, some 18, some 19, some 20, some 21, some 22, some 23, some 24, some 25, some 26, some 27, some 28, some 29, some 30, some 31, some 32, some 33, some 34, some 35, some 36, some 4] (by rfl) (fun K9 hK9 => ?_)
    refine rgnX_take 4 (fun K10 hK10 => ?_)
    simp (disch := omega) only [go_sem, h1, h2]
    refine ⟨_, c_swarfref02_Small _ _ _ _ _ (by omega), ?_⟩
    refine hK10 _ ?_
    refine rgnX_take 5 (fun K11 hK11 => ?_)
    simp (disch := omega) only [go_sem, h1, h2]
    first | refine ⟨_, c_swarfref02_Small _ _ _ _ _ (by omega), ?_⟩ | skip
    refine hK11 _ ?_
    refine rgnX_take 6 (fun K12 hK12 => ?_)
    simp (disch := omega) only [go_sem, h1, h2]
    first | refine ⟨_, c_swarfref02_Small _ _ _ _ _ (by omega), ?_⟩ | skip
    refine hK12 _ ?_
    refine rgnX_take 6 (fun K13 hK13 => ?_)
    simp (disch := omega) only [go_sem, h1, h2]
    first | refine ⟨_, c_swarfref02_Small _ _ _ _ _ (by omega), ?_⟩ | skip
    refine hK13 _ ?_
    refine rgnX_take 6 (fun K14 hK14 => ?_)
    simp (disch := omega) only [go_sem, h1, h2]
    first | refine ⟨_, c_swarfref02_Small _ _ _ _ _ (by omega), ?_⟩ | skip
    refine hK14 _ ?_
    refine rgnX_take 4 (fun K15 hK15 => ?_)
    simp (disch := omega) only [go_sem, h1, h2]
    first | refine ⟨_, absurd, ?_⟩ | skip
    refine hK15 _ ?_
    simp (disch := omega) only [go_sem, h1, h2]
    refine hK9 _ ?_
    clear hK15 K15 hK14 K14 hK13 K13 hK12 K12 hK11 K11 hK10 K10 hK9 K9
    refine pwp_ret ?_
    refine ⟨Or.inr rfl, ?_⟩
    simp (disch := omega) only [go_sem]
  · refine pwx_sr 0 [some 5, some 6, some 7, some 8, some 9, some 10, some 11, some 12, some 13, some 14, some 15, some 16, some 17, some 18, some 19, some 20, some 21, some 22, some 23, some 24, some 25, some 26, some 27, some 28, some 29, some 30, some 31, some 32, some 33, some 34, some 35, some 36, some 4] (by rfl) (fun K16 hK16 => ?_)
    refine rgnX_take 4 (fun K17 hK17 => ?_)
    simp (disch := omega) only [go_sem, h1, h2, h3]
    refine ⟨_, c_swarfref02_Small _ _ _ _ _ (by omega), ?_⟩
    refine hK17 _ ?_
    refine rgnX_take 5 (fun K18 hK18 => ?_)
    simp (disch := omega) only [go_sem, h1, h2, h3]
    first | refine ⟨_, c_swarfref02_Small _ _ _ _ _ (by omega), ?_⟩ | skip
    refine hK18 _ ?_
    refine rgnX_take 6 (fun K19 hK19 => ?_)
    simp (disch := omega) only [go_sem, h1, h2, h3]
    first | refine ⟨_, c_swarfref02_Small _ _ _ _ _ (by omega), ?_⟩ | skip
    refine hK19 _ ?_
    refine rgnX_take 6 (fun K20 hK20 => ?_)
    simp (disch := omega) only [go_sem, h1, h2, h3]
    first | refine ⟨_, c_swarfref02_Small _ _ _ _ _ (by omega), ?_⟩ | skip
    refine hK20 _ ?_
    refine rgnX_take 6 (fun K21 hK21 => ?_)
    simp (disch := omega) only [go_sem, h1, h2, h3]
    first | refine ⟨_, c_swarfref02_Small _ _ _ _ _ (by omega), ?_⟩ | skip
    refine hK21 _ ?_
    refine rgnX_take 4 (fun K22 hK22 => ?_)
    simp (disch := omega) only [go_sem, h1, h2, h3]
    first | refine ⟨_, absurd, ?_⟩ | skip
    refine hK22 _ ?_
    simp (disch := omega) only [go_sem, h1, h2, h3]
    refine hK16 _ ?_
    clear hK22 K22 hK21 K21 hK20 K20 hK19 K19 hK18 K18 hK17 K17 hK16 K16
    refine pwp_ret ?_
    refine ⟨Or.inr rfl, ?_⟩
    simp (disch := omega) only [go_sem]
  · refine pwx_sr 0 [some 5, some 6, some 7, some 8, some 9, some 10, some 11, some 12, some 13, some 14, some 15, some 16, some 17, some 18, some 19, some 20, some 21, some 22, some 23, some 24, some 25, some 26, some 27, some 28, some 29, some 30, some 31, some 32, some 33, some 34, some 35, some 36, some 4] (by rfl) (fun K23 hK23 => ?_)
    refine rgnX_take 4 (fun K24 hK24 => ?_)
    simp (disch := omega) only [go_sem, h1, h2, h3, h4]
    refine ⟨_, c_swarfref02_Small _ _ _ _ _ (by omega), ?_⟩
    refine hK24 _ ?_
    refine rgnX_take 5 (fun K25 hK25 => ?_)
    simp (disch := omega) only [go_sem, h1, h2, h3, h4]
    first | refine ⟨_, c_swarfref02_Small _ _ _ _ _ (by omega), ?_⟩ | skip
    refine hK25 _ ?_
    refine rgnX_take 6 (fun K26 hK26 => ?_)
    simp (disch := omega) only [go_sem, h1, h2, h3, h4]
    first | refine ⟨_, c_swarfref02_Small _ _ _ _ _ (by omega), ?_⟩ | skip
    refine hK26 _ ?_
    refine rgnX_take 6 (fun K27 hK27 => ?_)
    simp (disch := omega) only [go_sem, h1, h2, h3, h4]
    first | refine ⟨_, c_swarfref02_Small _ _ _ _ _ (by omega), ?_⟩ | skip
    refine hK27 _ ?_
    refine rgnX_take 6 (fun K28 hK28 => ?_)
    simp (disch := omega) only [go_sem, h1, h2, h3, h4]
    first | refine ⟨_, c_swarfref02_Small _ _ _ _ _ (by omega), ?_⟩ | skip
    refine hK28 _ ?_
    refine rgnX_take 4 (fun K29 hK29 => ?_)
    simp (disch := omega) only [go_sem, h1, h2, h3, h4]
    first | refine ⟨_, absurd, ?_⟩ | skip
    refine hK29 _ ?_
    simp (disch := omega) only [go_sem, h1, h2, h3, h4]
    refine hK23 _ ?_
    clear hK29 K29 hK28 K28 hK27 K27 hK26 K26 hK25 K25 hK24 K24 hK23 K23
    refine pwp_ret ?_
    refine ⟨Or.inr rfl, ?_⟩
    simp (disch := omega) only [go_sem]
  · refine pwx_sr 0 [some 5, some 6, some 7, some 8, some 9, some 10, some 11, some 12, some 13, some 14, some 15, some 16, some 17, some 18, some 19, some 20, some 21, some 22, some 23, some 24, some 25, some 26, some 27, some 28, some 29, some 30, some 31, some 32, some 33, some 34, some 35, some 36, some 4] (by rfl) (fun K30 hK30 => ?_)
    refine rgnX_take 4 (fun K31 hK31 => ?_)
    simp (disch := omega) only [go_sem, h1, h2, h3, h4, h5]
    refine ⟨_, c_swarfref02_Small _ _ _ _ _ (by omega), ?_⟩
    refine hK31 _ ?_
    refine rgnX_take 5 (fun K32 hK32 => ?_)
    simp (disch := omega) only [go_sem, h1, h2, h3, h4, h5]
    first | refine ⟨_, c_swarfref02_Small _ _ _ _ _ (by omega), ?_⟩ | skip
    refine hK32 _ ?_
    refine rgnX_take 6 (fun K33 hK33 => ?_)
    simp (disch := omega) only [go_sem, h1, h2, h3, h4, h5]
    first | refine ⟨_, c_swarfref02_Small _ _ _ _ _ (by omega), ?_⟩ | skip
    refine hK33 _ ?_
    refine rgnX_take 6 (fun K34 hK34 => ?_)
    simp (disch := omega) only [go_sem, h1, h2, h3, h4, h5]
    first | refine ⟨_, c_swarfref02_Small _ _ _ _ _ (by omega), ?_⟩ | skip
    refine hK34 _ ?_
    refine rgnX_take 6 (fun K35 hK35 => ?_)
    simp (disch := omega) only [go_sem, h1, h2, h3, h4, h5]
    first | refine ⟨_, c_swarfref02_Small _ _ _ _ _ (by omega), ?_⟩ | skip
    refine hK35 _ ?_
    refine rgnX_take 4 (fun K36 hK36 => ?_)
    simp (disch := omega) only [go_sem, h1, h2, h3, h4, h5]
    first | refine ⟨_, absurd, ?_⟩ | skip
    refine hK36 _ ?_
    simp (disch := omega) only [go_sem, h1, h2, h3, h4, h5]
    refine hK30 _ ?_
    clear hK36 K36 hK35 K35 hK34 K34 hK33 K33 hK32 K32 hK31 K31 hK30 K30
    refine pwp_ret ?_
    refine ⟨Or.inr rfl, ?_⟩
    simp (disch := omega) only [go_sem]
set_option maxHeartbeats 4000000 in
theorem c_swarfref07_Valid (a b d e c : Rat) {k1 k2 k3 k4 k5 : Nat} [SzR a k1] [SzR b k2] [SzR d k3] [SzR e k4] [SzR c k5] (hk : k1 + k2 + k3 + k4 + k5 ≤ 10000) :
    Ret Tryz.prog 41 [.a (ratC (a) ++ (ratC (b) ++ (ratC (d) ++ (ratC (e) ++ ratC (c)))))] (.e (.c (.bool (vldP b e c)))) := by
  refine ret_of_body (md := {}) Tryz.func41 (by kernel_rfl) rfl ?_
  simp only [Tryz.f41, List.map_cons, List.map_nil, List.length_cons, List.length_nil, Nat.zero_add, Nat.reduceAdd, Nat.reduceSub, List.reduceReplicate, List.cons_append, List.nil_append]
  refine pwx_sr 1 [] (by rfl) (fun K1 hK1 => ?_)
  simp (disch := omega) only [go_sem]
  refine hK1 _ ?_
  clear hK1 K1
  refine pwp_seq ?_
  refine pwx_sr 0 [some 5, some 6, some 7, some 8, some 9, some 10, some 11, some 12, some 13, some 14, some 15, some 16, some 17, some 18, some 19, some 20, some 21, some 22, some 23, some 24, some 25, some 26, some 27, some 28, some 29, some 30, some 31, some 32] (by rfl) (fun K2 hK2 => ?_)
  refine rgnX_take 3 (fun K3 hK3 => ?_)
  simp (disch := omega) only [go_sem]
  refine ⟨_, c_swarfref02_ValidQ _ (by omega), ?_⟩
  refine hK3 _ ?_
  refine rgnX_take 5 (fun K4 hK4 => ?_)
  simp (disch := omega) only [go_sem]
  first | refine ⟨_, c_swarfref02_ValidQ _ (by omega), ?_⟩ | skip
  refine hK4 _ ?_
  refine rgnX_take 6 (fun K5 hK5 => ?_)
  simp (disch := omega) only [go_sem]
  first | refine ⟨_, c_swarfref02_ValidQ _ (by omega), ?_⟩ | skip
  refine hK5 _ ?_
  refine rgnX_take 6 (fun K6 hK6 => ?_)
  simp (disch := omega) only [go_sem]
  first | refine ⟨_, c_swarfref02_ValidQ _ (by omega), ?_⟩ | skip
  refine hK6 _ ?_
  refine rgnX_take 6 (fun K7 hK7 => ?_)
  simp (disch := omega) only [go_sem]
  first | refine ⟨_, c_swarfref02_ValidQ _ (by omega), ?_⟩ | skip
  refine hK7 _ ?_
  simp (disch := omega) only [go_sem]
  refine hK2 _ ?_
  clear hK7 K7 hK6 K6 hK5 K5 hK4 K4 hK3 K3 hK2 K2
  refine pwp_cond (b := false) (by rfl) (fun h => nomatch h) (fun _ => ?_)
  refine pwp_skip ?_
  refine n_then ?_
  refine pwp_seq ?_
  by_cases hb0 : b = 0 <;> by_cases he0 : e = 0
  · have hbd := decide_eq_true hb0
    have hed := decide_eq_true he0
    refine pwx_sr 0 [some 33, some 34, some 35, some 36, some 37, some 38, some 39, some 40, some 41, some 42] (by rfl) (fun K8 hK8 => ?_)
    refine rgnX_take 3 (fun K9 hK9 => ?_)
    simp (disch := omega) only [go_sem, hbd, hed]
    refine ⟨_, c_swarfref02_Sign _, ?_⟩
    refine hK9 _ ?_
    refine rgnX_take 5 (fun K10 hK10 => ?_)
    simp (disch := omega) only [go_sem, hbd, hed]
    first | refine ⟨_, c_swarfref02_Sign _, ?_⟩ | skip
    refine hK10 _ ?_
    simp (disch := omega) only [go_sem, hbd, hed]
    refine hK8 _ ?_
    clear hK10 K10 hK9 K9 hK8 K8
    refine pwp_cond (b := true) (by rfl) (fun _ => ?_) (fun h => nomatch h)
    refine pwx_sr 0 [] (by rfl) (fun K11 hK11 => ?_)
    refine rgnX_take 3 (fun K12 hK12 => ?_)
    simp (disch := omega) only [go_sem]
    refine ⟨_, c_swarfref02_Sign _, ?_⟩
    refine hK12 _ ?_
    simp (disch := omega) only [go_sem]
    refine hK11 _ ?_
    clear hK12 K12 hK11 K11
    refine pwp_ret ?_
    refine r_then ?_
    refine ⟨Or.inr rfl, ?_⟩
    simp (disch := omega) only [go_sem]
    all_goals simp_all [vldP]
  · have hbd := decide_eq_true hb0
    have hed := decide_eq_false he0
    refine pwx_sr 0 [some 33, some 34, some 35, some 36, some 37, some 38, some 39, some 40, some 41, some 42] (by rfl) (fun K13 hK13 => ?_)
    refine rgnX_take 3 (fun K14 hK14 => ?_)
    simp (disch := omega) only [go_sem, hbd, hed]
    refine ⟨_, c_swarfref02_Sign _, ?_⟩
    refine hK14 _ ?_
    refine rgnX_take 5 (fun K15 hK15 => ?_)
    simp (disch := omega) only [go_sem, hbd, hed]
    first | refine ⟨_, c_swarfref02_Sign _, ?_⟩ | skip
    refine hK15 _ ?_
    simp (disch := omega) only [go_sem, hbd, hed]
    refine hK13 _ ?_
    clear hK15 K15 hK14 K14 hK13 K13
    refine pwp_cond (b := false) (by rfl) (fun h => nomatch h) (fun _ => ?_)
    refine pwp_skip ?_
    refine n_then ?_
    rcases hs : sqB c with _ | _
    · refine pwx_sr 1 [] (by rfl) (fun K16 hK16 => ?_)
      refine rgnX_take 3 (fun K17 hK17 => ?_)
      simp (disch := omega) only [go_sem]
      first | refine ⟨_, c_swarfref02_Sqrt_f _ (by omega) hs, ?_⟩ | refine ⟨_, c_swarfref02_Sqrt_t _ (by omega) hs, ?_⟩
      refine hK17 _ ?_
      simp (disch := omega) only [go_sem]
      refine hK16 _ ?_
      clear hK17 K17 hK16 K16
      by_cases hcp : 0 < c
      · have hcpd := decide_eq_true hcp
        refine pwx_sr 0 [some 53, some 54, some 55, some 56, some 57, some 58, some 59, some 60, some 2] (by rfl) (fun K18 hK18 => ?_)
        refine rgnX_take 3 (fun K19 hK19 => ?_)
        simp (disch := omega) only [go_sem, hcpd, hs]
        refine ⟨_, c_swarfref02_Sign _, ?_⟩
        refine hK19 _ ?_
        simp (disch := omega) only [go_sem, hcpd, hs]
        refine hK18 _ ?_
        clear hK19 K19 hK18 K18
        refine pwp_ret ?_
        refine ⟨Or.inr rfl, ?_⟩
        simp (disch := omega) only [go_sem]
        all_goals simp_all [vldP]
      · have hcpd := decide_eq_false hcp
        refine pwx_sr 0 [some 53, some 54, some 55, some 56, some 57, some 58, some 59, some 60, some 2] (by rfl) (fun K20 hK20 => ?_)
        refine rgnX_take 3 (fun K21 hK21 => ?_)
        simp (disch := omega) only [go_sem, hcpd, hs]
        refine ⟨_, c_swarfref02_Sign _, ?_⟩
        refine hK21 _ ?_
        simp (disch := omega) only [go_sem, hcpd, hs]
        refine hK20 _ ?_
        clear hK21 K21 hK20 K20
        refine pwp_ret ?_
        refine ⟨Or.inr rfl, ?_⟩
        simp (disch := omega) only [go_sem]
        all_goals simp_all [vldP]
    · refine pwx_sr 1 [] (by rfl) (fun K22 hK22 => ?_)
      refine rgnX_take 3 (fun K23 hK23 => ?_)
      simp (disch := omega) only [go_sem]
      first | refine ⟨_, c_swarfref02_Sqrt_f _ (by omega) hs, ?_⟩ | refine ⟨_, c_swarfref02_Sqrt_t _ (by omega) hs, ?_⟩
      refine hK23 _ ?_
      simp (disch := omega) only [go_sem]
      refine hK22 _ ?_
      clear hK23 K23 hK22 K22
      by_cases hcp : 0 < c
      · have hcpd := decide_eq_true hcp
        refine pwx_sr 0 [some 53, some 54, some 55, some 56, some 57, some 58, some 59, some 60, some 2] (by rfl) (fun K24 hK24 => ?_)
        refine rgnX_take 3 (fun K25 hK25 => ?_)
        simp (disch := omega) only [go_sem, hcpd, hs]
        refine ⟨_, c_swarfref02_Sign _, ?_⟩
        refine hK25 _ ?_
        simp (disch := omega) only [go_sem, hcpd, hs]
        refine hK24 _ ?_
        clear hK25 K25 hK24 K24
        refine pwp_ret ?_
        refine ⟨Or.inr rfl, ?_⟩
        simp (disch := omega) only [go_sem]
        all_goals simp_all [vldP]
      · have hcpd := decide_eq_false hcp
        refine pwx_sr 0 [some 53, some 54, some 55, some 56, some 57, some 58, some 59, some 60, some 2] (by rfl) (fun K26 hK26 => ?_)
        refine rgnX_take 3 (fun K27 hK27 => ?_)
        simp (disch := omega) only [go_sem, hcpd, hs]
        refine ⟨_, c_swarfref02_Sign _, ?_⟩
        refine hK27 _ ?_
        simp (disch := omega) only [go_sem, hcpd, hs]
        refine hK26 _ ?_
        clear hK27 K27 hK26 K26
        refine pwp_ret ?_
        refine ⟨Or.inr rfl, ?_⟩
        simp (disch := omega) only [go_sem]
        all_goals simp_all [vldP]
  · have hbd := decide_eq_false hb0
    have hed := decide_eq_true he0
    refine pwx_sr 0 [some 33, some 34, some 35, some 36, some 37, some 38, some 39, some 40, some 41, some 42] (by rfl) (fun K28 hK28 => ?_)
    refine rgnX_take 3 (fun K29 hK29 => ?_)
    simp (disch := omega) only [go_sem, hbd, hed]
    refine ⟨_, c_swarfref02_Sign _, ?_⟩
    refine hK29 _ ?_
    refine rgnX_take 5 (fun K30 hK30 => ?_)
    simp (disch := omega) only [go_sem, hbd, hed]
    first | refine ⟨_, c_swarfref02_Sign _, ?_⟩ | skip
    refine hK30 _ ?_
    simp (disch := omega) only [go_sem, hbd, hed]
    refine hK28 _ ?_
    clear hK30 K30 hK29 K29 hK28 K28
    refine pwp_cond (b := false) (by rfl) (fun h => nomatch h) (fun _ => ?_)
    refine pwp_skip ?_
    refine n_then ?_
    rcases hs : sqB c with _ | _
    · refine pwx_sr 1 [] (by rfl) (fun K31 hK31 => ?_)
      refine rgnX_take 3 (fun K32 hK32 => ?_)
      simp (disch := omega) only [go_sem]
      first | refine ⟨_, c_swarfref02_Sqrt_f _ (by omega) hs, ?_⟩ | refine ⟨_, c_swarfref02_Sqrt_t _ (by omega) hs, ?_⟩
      refine hK32 _ ?_
      simp (disch := omega) only [go_sem]
      refine hK31 _ ?_
      clear hK32 K32 hK31 K31
      by_cases hcp : 0 < c
      · have hcpd := decide_eq_true hcp
        refine pwx_sr 0 [some 53, some 54, some 55, some 56, some 57, some 58, some 59, some 60, some 2] (by rfl) (fun K33 hK33 => ?_)
        refine rgnX_take 3 (fun K34 hK34 => ?_)
        simp (disch := omega) only [go_sem, hcpd, hs]
        refine ⟨_, c_swarfref02_Sign _, ?_⟩
        refine hK34 _ ?_
        simp (disch := omega) only [go_sem, hcpd, hs]
        refine hK33 _ ?_
        clear hK34 K34 hK33 K33
        refine pwp_ret ?_
        refine ⟨Or.inr rfl, ?_⟩
        simp (disch := omega) only [go_sem]
        all_goals simp_all [vldP]
      · have hcpd := decide_eq_false hcp
        refine pwx_sr 0 [some 53, some 54, some 55, some 56, some 57, some 58, some 59, some 60, some 2] (by rfl) (fun K35 hK35 => ?_)
        refine rgnX_take 3 (fun K36 hK36 => ?_)
        simp (disch := omega) only [go_sem, hcpd, hs]
        refine ⟨_, c_swarfref02_Sign _, ?_⟩
        refine hK36 _ ?_
        simp (disch := omega) only [go_sem, hcpd, hs]
        refine hK35 _ ?_
        clear hK36 K36 hK35 K35
        refine pwp_ret ?_
        refine ⟨Or.inr rfl, ?_⟩
        simp (disch := omega) only [go_sem]
        all_goals simp_all [vldP]
    · refine pwx_sr 1 [] (by rfl) (fun K37 hK37 => ?_)
      refine rgnX_take 3 (fun K38 hK38 => ?_)
      simp (disch := omega) only [go_sem]
      first | refine ⟨_, c_swarfref02_Sqrt_f _ (by omega) hs, ?_⟩ | refine ⟨_, c_swarfref02_Sqrt_t _ (by omega) hs, ?_⟩
      refine hK38 _ ?_
      simp (disch := omega) only [go_sem]
      refine hK37 _ ?_
      clear hK38 K38 hK37 K37
      by_cases hcp : 0 < c
      · have hcpd := decide_eq_true hcp
        refine pwx_sr 0 [some 53, some 54, some 55, some 56, some 57, some 58, some 59, some 60, some 2] (by rfl) (fun K39 hK39 => ?_)
        refine rgnX_take 3 (fun K40 hK40 => ?_)
        simp (disch := omega) only [go_sem, hcpd, hs]
        refine ⟨_, c_swarfref02_Sign _, ?_⟩
        refine hK40 _ ?_
        simp (disch := omega) only [go_sem, hcpd, hs]
        refine hK39 _ ?_
        clear hK40 K40 hK39 K39
        refine pwp_ret ?_
        refine ⟨Or.inr rfl, ?_⟩
        simp (disch := omega) only [go_sem]
        all_goals simp_all [vldP]
      · have hcpd := decide_eq_false hcp
        refine pwx_sr 0 [some 53, some 54, some 55, some 56, some 57, some 58, some 59, some 60, some 2] (by rfl) (fun K41 hK41 => ?_)
        refine rgnX_take 3 (fun K42 hK42 => ?_)
        simp (disch := omega) only [go_sem, hcpd, hs]
        refine ⟨_, c_swarfref02_Sign _, ?_⟩
        refine hK42 _ ?_
        simp (disch := omega) only [go_sem, hcpd, hs]
        refine hK41 _ ?_
        clear hK42 K42 hK41 K41
        refine pwp_ret ?_
        refine ⟨Or.inr rfl, ?_⟩
        simp (disch := omega) only [go_sem]
        all_goals simp_all [vldP]
  · have hbd := decide_eq_false hb0
    have hed := decide_eq_false he0
    refine pwx_sr 0 [some 33, some 34, some 35, some 36, some 37, some 38, some 39, some 40, some 41, some 42] (by rfl) (fun K43 hK43 => ?_)
    refine rgnX_take 3 (fun K44 hK44 => ?_)
    simp (disch := omega) only [go_sem, hbd, hed]
    refine ⟨_, c_swarfref02_Sign _, ?_⟩
    refine hK44 _ ?_
    refine rgnX_take 5 (fun K45 hK45 => ?_)
    simp (disch := omega) only [go_sem, hbd, hed]
    first | refine ⟨_, c_swarfref02_Sign _, ?_⟩ | skip
    refine hK45 _ ?_
    simp (disch := omega) only [go_sem, hbd, hed]
    refine hK43 _ ?_
    clear hK45 K45 hK44 K44 hK43 K43
    refine pwp_cond (b := false) (by rfl) (fun h => nomatch h) (fun _ => ?_)
    refine pwp_skip ?_
    refine n_then ?_
    rcases hs : sqB c with _ | _
    · refine pwx_sr 1 [] (by rfl) (fun K46 hK46 => ?_)
      refine rgnX_take 3 (fun K47 hK47 => ?_)
      simp (disch := omega) only [go_sem]
      first | refine ⟨_, c_swarfref02_Sqrt_f _ (by omega) hs, ?_⟩ | refine ⟨_, c_swarfref02_Sqrt_t _ (by omega) hs, ?_⟩
      refine hK47 _ ?_
      simp (disch := omega) only [go_sem]
      refine hK46 _ ?_
      clear hK47 K47 hK46 K46
      by_cases hcp : 0 < c
      · have hcpd := decide_eq_true hcp
        refine pwx_sr 0 [some 53, some 54, some 55, some 56, some 57, some 58, some 59, some 60, some 2] (by rfl) (fun K48 hK48 => ?_)
        refine rgnX_take 3 (fun K49 hK49 => ?_)
        simp (disch := omega) only [go_sem, hcpd, hs]
        refine ⟨_, c_swarfref02_Sign _, ?_⟩
        refine hK49 _ ?_
        simp (disch := omega) only [go_sem, hcpd, hs]
        refine hK48 _ ?_
        clear hK49 K49 hK48 K48
        refine pwp_ret ?_
        refine ⟨Or.inr rfl, ?_⟩
        simp (disch := omega) only [go_sem]
        all_goals simp_all [vldP]
      · have hcpd := decide_eq_false hcp
        refine pwx_sr 0 [some 53, some 54, some 55, some 56, some 57, some 58, some 59, some 60, some 2] (by rfl) (fun K50 hK50 => ?_)
        refine rgnX_take 3 (fun K51 hK51 => ?_)
        simp (disch := omega) only [go_sem, hcpd, hs]
        refine ⟨_, c_swarfref02_Sign _, ?_⟩
        refine hK51 _ ?_
        simp (disch := omega) only [go_sem, hcpd, hs]
        refine hK50 _ ?_
        clear hK51 K51 hK50 K50
        refine pwp_ret ?_
        refine ⟨Or.inr rfl, ?_⟩
        simp (disch := omega) only [go_sem]
        all_goals simp_all [vldP]
    · refine pwx_sr 1 [] (by rfl) (fun K52 hK52 => ?_)
      refine rgnX_take 3 (fun K53 hK53 => ?_)
      simp (disch := omega) only [go_sem]
      first | refine ⟨_, c_swarfref02_Sqrt_f _ (by omega) hs, ?_⟩ | refine ⟨_, c_swarfref02_Sqrt_t _ (by omega) hs, ?_⟩
      refine hK53 _ ?_
      simp (disch := omega) only [go_sem]
      refine hK52 _ ?_
      clear hK53 K53 hK52 K52
      by_cases hcp : 0 < c
      · have hcpd := decide_eq_true hcp
        refine pwx_sr 0 [some 53, some 54, some 55, some 56, some 57, some 58, some 59, some 60, some 2] (by rfl) (fun K54 hK54 => ?_)
        refine rgnX_take 3 (fun K55 hK55 => ?_)
        simp (disch := omega) only [go_sem, hcpd, hs]
        refine ⟨_, c_swarfref02_Sign _, ?_⟩
        refine hK55 _ ?_
        simp (disch := omega) only [go_sem, hcpd, hs]
        refine hK54 _ ?_
        clear hK55 K55 hK54 K54
        refine pwp_ret ?_
        refine ⟨Or.inr rfl, ?_⟩
        simp (disch := omega) only [go_sem]
        all_goals simp_all [vldP]
      · have hcpd := decide_eq_false hcp
        refine pwx_sr 0 [some 53, some 54, some 55, some 56, some 57, some 58, some 59, some 60, some 2] (by rfl) (fun K56 hK56 => ?_)
        refine rgnX_take 3 (fun K57 hK57 => ?_)
        simp (disch := omega) only [go_sem, hcpd, hs]
        refine ⟨_, c_swarfref02_Sign _, ?_⟩
        refine hK57 _ ?_
        simp (disch := omega) only [go_sem, hcpd, hs]
        refine hK56 _ ?_
        clear hK57 K57 hK56 K56
        refine pwp_ret ?_
        refine ⟨Or.inr rfl, ?_⟩
        simp (disch := omega) only [go_sem]
        all_goals simp_all [vldP]
set_option maxHeartbeats 4000000 in
theorem c_swarfref07_Small (a b d e c : Rat) (k : Nat) [SzR a k] [SzR b k] [SzR d k] [SzR e k] [SzR c k] (hk : k ≤ 2000) :
    Ret Tryz.prog 58 [.a (ratC (a) ++ (ratC (b) ++ (ratC (d) ++ (ratC (e) ++ ratC (c))))), .c (.int .i64 (k : Int))] (.e (.c (.bool (vldP b e c)))) := by
  refine ret_of_body (md := {}) Tryz.func58 (by kernel_rfl) rfl ?_
  simp only [Tryz.f58, List.map_cons, List.map_nil, List.length_cons, List.length_nil, Nat.zero_add, Nat.reduceAdd, Nat.reduceSub, List.reduceReplicate, List.cons_append, List.nil_append]
  refine pwx_sr 1 [] (by rfl) (fun K1 hK1 => ?_)
  simp (disch := omega) only [go_sem]
  refine hK1 _ ?_
  clear hK1 K1
  refine pwx_sr 0 [some 5, some 6, some 7, some 8, some 9, some 10, some 11, some 12, some 13, some 14, some 15, some 16, some 17, some 18, some 19, some 20, some 21, some 22, some 23, some 24, some 25, some 26, some 27, some 28, some 29, some 30, some 31, some 32, some 33, some 34, some 35, some 36, some 4] (by rfl) (fun K2 hK2 => ?_)
  refine rgnX_take 4 (fun K3 hK3 => ?_)
  simp (disch := omega) only [go_sem]
  refine ⟨_, c_swarfref02_SmallQ _ _ (by omega), ?_⟩
  refine hK3 _ ?_
  refine rgnX_take 5 (fun K4 hK4 => ?_)
  simp (disch := omega) only [go_sem]
  first | refine ⟨_, c_swarfref02_SmallQ _ _ (by omega), ?_⟩ | skip
  refine hK4 _ ?_
  refine rgnX_take 6 (fun K5 hK5 => ?_)
  simp (disch := omega) only [go_sem]
  first | refine ⟨_, c_swarfref02_SmallQ _ _ (by omega), ?_⟩ | skip
  refine hK5 _ ?_
  refine rgnX_take 6 (fun K6 hK6 => ?_)
  simp (disch := omega) only [go_sem]
  first | refine ⟨_, c_swarfref02_SmallQ _ _ (by omega), ?_⟩ | skip
  refine hK6 _ ?_
  refine rgnX_take 6 (fun K7 hK7 => ?_)
  simp (disch := omega) only [go_sem]
  first | refine ⟨_, c_swarfref02_SmallQ _ _ (by omega), ?_⟩ | skip
  refine hK7 _ ?_
  refine rgnX_take 4 (fun K8 hK8 => ?_)
  simp (disch := omega) only [go_sem]
  first | refine ⟨_, c_swarfref07_Valid _ _ _ _ _ (by omega), ?_⟩ | skip
  refine hK8 _ ?_
  simp (disch := omega) only [go_sem]
  refine hK2 _ ?_
  clear hK8 K8 hK7 K7 hK6 K6 hK5 K5 hK4 K4 hK3 K3 hK2 K2
  refine pwp_ret ?_
  refine ⟨Or.inr rfl, ?_⟩
  simp (disch := omega) only [go_sem]

end Go.Proofs.YtbadkjfjdkbgfaaGreat

namespace Go.PL
open Go.RL
instance : SzR 3 1 := ⟨szi_lit (by decide), szi_lit (by decide)⟩
instance : SzR 5 1 := ⟨szi_lit (by decide), szi_lit (by decide)⟩
instance : SzR 8 1 := ⟨szi_lit (by decide), szi_lit (by decide)⟩
instance : SzR (-1) 1 := ⟨szi_lit (by decide), szi_lit (by decide)⟩
theorem ex_k1 : rK 1 2 0 = 2 := by decide +kernel
theorem ex_k2 : rK 1 8 0 = 8 := by decide +kernel
theorem ex_k3 : rK 2 2 0 = 2 := by decide +kernel
theorem ex_k4 : rK 1 2 2 = 2 := by decide +kernel
theorem ex_p1 : pC 1 0 2 = 2 := by decide +kernel
theorem ex_p2 : pC 1 0 8 = 8 := by decide +kernel
theorem ex_p3 : pC 2 0 2 = 2 := by decide +kernel
theorem ex_p4 : pC 1 1 2 = 2 := by decide +kernel
theorem ex_r1 : rC 1 2 = 2 := by decide +kernel
theorem ex_r2 : rC 0 2 = 0 := by decide +kernel
theorem ex_r3 : rC (-2) 2 = 2 := by decide +kernel
theorem ex_c1 : cmpP 0 1 0 0 8 0 2 0 0 2 = 0 := by decide +kernel
theorem ex_c2 : cmpP 0 1 0 0 8 3 0 (-1) 0 0 = -1 := by decide +kernel
theorem ex_s1 : sqA 0 1 0 1 2 1 0 = 5 := by decide +kernel
theorem ex_s2 : sqB2 0 1 0 1 1 0 = -2 := by decide +kernel
theorem ex_i0 : ((0 : Int) : Rat) = 0 := rfl
theorem ex_i1 : ((1 : Int) : Rat) = 1 := rfl
theorem ex_i3 : ((3 : Int) : Rat) = 3 := rfl
theorem ex_im : ((-1 : Int) : Rat) = -1 := rfl
end Go.PL

set_option linter.unusedSimpArgs false
set_option linter.unusedVariables false
set_option maxRecDepth 20000
namespace Go.Proofs.YtbadkjfjdkbgfaaGreat
open Go Go.PL Go.RL
set_option maxHeartbeats 4000000 in
theorem c_swarflaw07_root_t (x y : Int) (z : Nat) (hx0 : -32768 ≤ x) (hx1 : x < 32768) (hy0 : -32768 ≤ y) (hy1 : y < 32768) (hz : z < 65536) (hs : sqB (Rat.divInt (z : Int) ((0 + 1 : Nat) : Int)) = true) :
    Ret Tryz.prog 48 [.c (.int .i16 x), .c (.int .i16 y), .c (.int .u16 (z : Int))] (.e (.a (ratC (Rat.divInt x ((0 + 1 : Nat) : Int) + Rat.divInt y ((0 + 1 : Nat) : Int) * rtR (Rat.divInt (z : Int) ((0 + 1 : Nat) : Int))) ++ (ratC (0) ++ ratC (0))))) := by
  refine ret_of_body (md := {}) Tryz.func48 (by kernel_rfl) rfl ?_
  simp only [Tryz.f48, List.map_cons, List.map_nil, List.length_cons, List.length_nil, Nat.zero_add, Nat.reduceAdd, Nat.reduceSub, List.reduceReplicate, List.cons_append, List.nil_append]
  refine pwx_sr 1 [] (by rfl) (fun K1 hK1 => ?_)
  simp (disch := omega) only [go_sem]
  refine hK1 _ ?_
  clear hK1 K1
  refine pwx_sr 0 [] (by rfl) (fun K2 hK2 => ?_)
  refine rgnX_take 5 (fun K3 hK3 => ?_)
  simp (disch := omega) only [go_sem]
  refine ⟨_, c_swarfref03_Of_t x y z 0 0 0 (by omega) (by omega) (by omega) (by omega) (by omega) (by omega) (by omega) (by omega) hs, ?_⟩
  refine hK3 _ ?_
  simp (disch := omega) only [go_sem]
  refine hK2 _ ?_
  clear hK3 K3 hK2 K2
  refine pwp_ret ?_
  refine ⟨Or.inr rfl, ?_⟩
  simp (disch := omega) only [go_sem]
set_option maxHeartbeats 4000000 in
theorem c_swarflaw07_root_f (x y : Int) (z : Nat) (hx0 : -32768 ≤ x) (hx1 : x < 32768) (hy0 : -32768 ≤ y) (hy1 : y < 32768) (hz : z < 65536) (hs : sqB (Rat.divInt (z : Int) ((0 + 1 : Nat) : Int)) = false) :
    Ret Tryz.prog 48 [.c (.int .i16 x), .c (.int .i16 y), .c (.int .u16 (z : Int))] (.e (.a (ratC (Rat.divInt x ((0 + 1 : Nat) : Int)) ++ (ratC (r3B (Rat.divInt y ((0 + 1 : Nat) : Int)) (Rat.divInt (z : Int) ((0 + 1 : Nat) : Int))) ++ ratC (r3C (Rat.divInt y ((0 + 1 : Nat) : Int)) (Rat.divInt (z : Int) ((0 + 1 : Nat) : Int))))))) := by
  refine ret_of_body (md := {}) Tryz.func48 (by kernel_rfl) rfl ?_
  simp only [Tryz.f48, List.map_cons, List.map_nil, List.length_cons, List.length_nil, Nat.zero_add, Nat.reduceAdd, Nat.reduceSub, List.reduceReplicate, List.cons_append, List.nil_append]
  refine pwx_sr 1 [] (by rfl) (fun K1 hK1 => ?_)
  simp (disch := omega) only [go_sem]
  refine hK1 _ ?_
  clear hK1 K1
  refine pwx_sr 0 [] (by rfl) (fun K2 hK2 => ?_)
  refine rgnX_take 5 (fun K3 hK3 => ?_)
  simp (disch := omega) only [go_sem]
  refine ⟨_, c_swarfref03_Of_f x y z 0 0 0 (by omega) (by omega) (by omega) (by omega) (by omega) (by omega) (by omega) (by omega) hs, ?_⟩
  refine hK3 _ ?_
  simp (disch := omega) only [go_sem]
  refine hK2 _ ?_
  clear hK3 K3 hK2 K2
  refine pwp_ret ?_
  refine ⟨Or.inr rfl, ?_⟩
  simp (disch := omega) only [go_sem]
theorem ex_root_1_1_2 : Ret Tryz.prog 48 [.c (.int .i16 1), .c (.int .i16 1), .c (.int .u16 2)] (.e (.a (ratC (1) ++ (ratC (1) ++ ratC (2))))) := by
  have h := c_swarflaw07_root_f 1 1 2 (by omega) (by omega) (by omega) (by omega) (by omega) (by decide +kernel)
  have e0 : (Rat.divInt 1 ((0 + 1 : Nat) : Int)) = 1 := by decide +kernel
  have e1 : r3B (Rat.divInt 1 ((0 + 1 : Nat) : Int)) (Rat.divInt ((2 : Nat) : Int) ((0 + 1 : Nat) : Int)) = 1 := by decide +kernel
  have e2 : r3C (Rat.divInt 1 ((0 + 1 : Nat) : Int)) (Rat.divInt ((2 : Nat) : Int) ((0 + 1 : Nat) : Int)) = 2 := by decide +kernel
  rw [e1, e2, e0] at h
  exact h
theorem ex_root_3_0_0 : Ret Tryz.prog 48 [.c (.int .i16 3), .c (.int .i16 0), .c (.int .u16 0)] (.e (.a (ratC (3) ++ (ratC (0) ++ ratC (0))))) := by
  have h := c_swarflaw07_root_t 3 0 0 (by omega) (by omega) (by omega) (by omega) (by omega) (by decide +kernel)
  rw [show (Rat.divInt 3 ((0 + 1 : Nat) : Int) + Rat.divInt 0 ((0 + 1 : Nat) : Int) * rtR (Rat.divInt ((0 : Nat) : Int) ((0 + 1 : Nat) : Int))) = 3 from by decide +kernel] at h
  exact h
theorem ex_root_0_1_8 : Ret Tryz.prog 48 [.c (.int .i16 0), .c (.int .i16 1), .c (.int .u16 8)] (.e (.a (ratC (0) ++ (ratC (1) ++ ratC (8))))) := by
  have h := c_swarflaw07_root_f 0 1 8 (by omega) (by omega) (by omega) (by omega) (by omega) (by decide +kernel)
  have e0 : (Rat.divInt 0 ((0 + 1 : Nat) : Int)) = 0 := by decide +kernel
  have e1 : r3B (Rat.divInt 1 ((0 + 1 : Nat) : Int)) (Rat.divInt ((8 : Nat) : Int) ((0 + 1 : Nat) : Int)) = 1 := by decide +kernel
  have e2 : r3C (Rat.divInt 1 ((0 + 1 : Nat) : Int)) (Rat.divInt ((8 : Nat) : Int) ((0 + 1 : Nat) : Int)) = 8 := by decide +kernel
  rw [e1, e2, e0] at h
  exact h
theorem ex_root_0_0_0 : Ret Tryz.prog 48 [.c (.int .i16 0), .c (.int .i16 0), .c (.int .u16 0)] (.e (.a (ratC (0) ++ (ratC (0) ++ ratC (0))))) := by
  have h := c_swarflaw07_root_t 0 0 0 (by omega) (by omega) (by omega) (by omega) (by omega) (by decide +kernel)
  rw [show (Rat.divInt 0 ((0 + 1 : Nat) : Int) + Rat.divInt 0 ((0 + 1 : Nat) : Int) * rtR (Rat.divInt ((0 : Nat) : Int) ((0 + 1 : Nat) : Int))) = 0 from by decide +kernel] at h
  exact h
theorem ex_root_0_2_2 : Ret Tryz.prog 48 [.c (.int .i16 0), .c (.int .i16 2), .c (.int .u16 2)] (.e (.a (ratC (0) ++ (ratC (2) ++ ratC (2))))) := by
  have h := c_swarflaw07_root_f 0 2 2 (by omega) (by omega) (by omega) (by omega) (by omega) (by decide +kernel)
  have e0 : (Rat.divInt 0 ((0 + 1 : Nat) : Int)) = 0 := by decide +kernel
  have e1 : r3B (Rat.divInt 2 ((0 + 1 : Nat) : Int)) (Rat.divInt ((2 : Nat) : Int) ((0 + 1 : Nat) : Int)) = 2 := by decide +kernel
  have e2 : r3C (Rat.divInt 2 ((0 + 1 : Nat) : Int)) (Rat.divInt ((2 : Nat) : Int) ((0 + 1 : Nat) : Int)) = 2 := by decide +kernel
  rw [e1, e2, e0] at h
  exact h
theorem ex_root_0_1_2 : Ret Tryz.prog 48 [.c (.int .i16 0), .c (.int .i16 1), .c (.int .u16 2)] (.e (.a (ratC (0) ++ (ratC (1) ++ ratC (2))))) := by
  have h := c_swarflaw07_root_f 0 1 2 (by omega) (by omega) (by omega) (by omega) (by omega) (by decide +kernel)
  have e0 : (Rat.divInt 0 ((0 + 1 : Nat) : Int)) = 0 := by decide +kernel
  have e1 : r3B (Rat.divInt 1 ((0 + 1 : Nat) : Int)) (Rat.divInt ((2 : Nat) : Int) ((0 + 1 : Nat) : Int)) = 1 := by decide +kernel
  have e2 : r3C (Rat.divInt 1 ((0 + 1 : Nat) : Int)) (Rat.divInt ((2 : Nat) : Int) ((0 + 1 : Nat) : Int)) = 2 := by decide +kernel
  rw [e1, e2, e0] at h
  exact h
theorem ex_root_0_1_3 : Ret Tryz.prog 48 [.c (.int .i16 0), .c (.int .i16 1), .c (.int .u16 3)] (.e (.a (ratC (0) ++ (ratC (1) ++ ratC (3))))) := by
  have h := c_swarflaw07_root_f 0 1 3 (by omega) (by omega) (by omega) (by omega) (by omega) (by decide +kernel)
  have e0 : (Rat.divInt 0 ((0 + 1 : Nat) : Int)) = 0 := by decide +kernel
  have e1 : r3B (Rat.divInt 1 ((0 + 1 : Nat) : Int)) (Rat.divInt ((3 : Nat) : Int) ((0 + 1 : Nat) : Int)) = 1 := by decide +kernel
  have e2 : r3C (Rat.divInt 1 ((0 + 1 : Nat) : Int)) (Rat.divInt ((3 : Nat) : Int) ((0 + 1 : Nat) : Int)) = 3 := by decide +kernel
  rw [e1, e2, e0] at h
  exact h
theorem ex_root_5_2_2 : Ret Tryz.prog 48 [.c (.int .i16 5), .c (.int .i16 (-2)), .c (.int .u16 2)] (.e (.a (ratC (5) ++ (ratC ((-2)) ++ ratC (2))))) := by
  have h := c_swarflaw07_root_f 5 (-2) 2 (by omega) (by omega) (by omega) (by omega) (by omega) (by decide +kernel)
  have e0 : (Rat.divInt 5 ((0 + 1 : Nat) : Int)) = 5 := by decide +kernel
  have e1 : r3B (Rat.divInt (-2) ((0 + 1 : Nat) : Int)) (Rat.divInt ((2 : Nat) : Int) ((0 + 1 : Nat) : Int)) = (-2) := by decide +kernel
  have e2 : r3C (Rat.divInt (-2) ((0 + 1 : Nat) : Int)) (Rat.divInt ((2 : Nat) : Int) ((0 + 1 : Nat) : Int)) = 2 := by decide +kernel
  rw [e1, e2, e0] at h
  exact h
set_option maxHeartbeats 4000000 in
theorem c_swarflaw07_awake :
    Ret Tryz.prog 11 [] (.e (.c (.bool true))) := by
  refine ret_of_body (md := {}) Tryz.func11 (by kernel_rfl) rfl ?_
  simp only [Tryz.f11, List.map_cons, List.map_nil, List.length_cons, List.length_nil, Nat.zero_add, Nat.reduceAdd, Nat.reduceSub, List.reduceReplicate, List.cons_append, List.nil_append]
  refine pwx_sr 0 [] (by rfl) (fun K1 hK1 => ?_)
  simp (disch := omega) only [go_sem, ex_k1, ex_k2, ex_k3, ex_k4, ex_p1, ex_p2, ex_p3, ex_p4, ex_r1, ex_r2, ex_r3, ex_c1, ex_c2, ex_s1, ex_s2, ex_i0, ex_i1, ex_i3, ex_im, eq_self]
  refine hK1 _ ?_
  clear hK1 K1
  refine pwx_sr 1 [] (by rfl) (fun K2 hK2 => ?_)
  refine rgnX_take 1 (fun K3 hK3 => ?_)
  simp (disch := omega) only [go_sem, ex_k1, ex_k2, ex_k3, ex_k4, ex_p1, ex_p2, ex_p3, ex_p4, ex_r1, ex_r2, ex_r3, ex_c1, ex_c2, ex_s1, ex_s2, ex_i0, ex_i1, ex_i3, ex_im, eq_self]
  refine ⟨_, ex_root_1_1_2, ?_⟩
  refine hK3 _ ?_
  refine rgnX_take 1 (fun K4 hK4 => ?_)
  simp (disch := omega) only [go_sem, ex_k1, ex_k2, ex_k3, ex_k4, ex_p1, ex_p2, ex_p3, ex_p4, ex_r1, ex_r2, ex_r3, ex_c1, ex_c2, ex_s1, ex_s2, ex_i0, ex_i1, ex_i3, ex_im, eq_self]
  refine ⟨_, ex_root_3_0_0, ?_⟩
  refine hK4 _ ?_
  refine rgnX_take 1 (fun K5 hK5 => ?_)
  simp (disch := omega) only [go_sem, ex_k1, ex_k2, ex_k3, ex_k4, ex_p1, ex_p2, ex_p3, ex_p4, ex_r1, ex_r2, ex_r3, ex_c1, ex_c2, ex_s1, ex_s2, ex_i0, ex_i1, ex_i3, ex_im, eq_self]
  refine ⟨_, c_point_Make_t _ _ _ _ _ _ (by omega) (by decide), ?_⟩
  refine hK5 _ ?_
  simp (disch := omega) only [go_sem, ex_k1, ex_k2, ex_k3, ex_k4, ex_p1, ex_p2, ex_p3, ex_p4, ex_r1, ex_r2, ex_r3, ex_c1, ex_c2, ex_s1, ex_s2, ex_i0, ex_i1, ex_i3, ex_im, eq_self]
  refine hK2 _ ?_
  clear hK5 K5 hK4 K4 hK3 K3 hK2 K2
  refine pwx_sr 1 [] (by rfl) (fun K6 hK6 => ?_)
  refine rgnX_take 1 (fun K7 hK7 => ?_)
  simp (disch := omega) only [go_sem, ex_k1, ex_k2, ex_k3, ex_k4, ex_p1, ex_p2, ex_p3, ex_p4, ex_r1, ex_r2, ex_r3, ex_c1, ex_c2, ex_s1, ex_s2, ex_i0, ex_i1, ex_i3, ex_im, eq_self]
  refine ⟨_, ex_root_0_1_8, ?_⟩
  refine hK7 _ ?_
  refine rgnX_take 1 (fun K8 hK8 => ?_)
  simp (disch := omega) only [go_sem, ex_k1, ex_k2, ex_k3, ex_k4, ex_p1, ex_p2, ex_p3, ex_p4, ex_r1, ex_r2, ex_r3, ex_c1, ex_c2, ex_s1, ex_s2, ex_i0, ex_i1, ex_i3, ex_im, eq_self]
  refine ⟨_, ex_root_0_0_0, ?_⟩
  refine hK8 _ ?_
  refine rgnX_take 1 (fun K9 hK9 => ?_)
  simp (disch := omega) only [go_sem, ex_k1, ex_k2, ex_k3, ex_k4, ex_p1, ex_p2, ex_p3, ex_p4, ex_r1, ex_r2, ex_r3, ex_c1, ex_c2, ex_s1, ex_s2, ex_i0, ex_i1, ex_i3, ex_im, eq_self]
  refine ⟨_, c_point_Make_t _ _ _ _ _ _ (by omega) (by decide), ?_⟩
  refine hK9 _ ?_
  simp (disch := omega) only [go_sem, ex_k1, ex_k2, ex_k3, ex_k4, ex_p1, ex_p2, ex_p3, ex_p4, ex_r1, ex_r2, ex_r3, ex_c1, ex_c2, ex_s1, ex_s2, ex_i0, ex_i1, ex_i3, ex_im, eq_self]
  refine hK6 _ ?_
  clear hK9 K9 hK8 K8 hK7 K7 hK6 K6
  refine pwx_sr 1 [] (by rfl) (fun K10 hK10 => ?_)
  refine rgnX_take 1 (fun K11 hK11 => ?_)
  simp (disch := omega) only [go_sem, ex_k1, ex_k2, ex_k3, ex_k4, ex_p1, ex_p2, ex_p3, ex_p4, ex_r1, ex_r2, ex_r3, ex_c1, ex_c2, ex_s1, ex_s2, ex_i0, ex_i1, ex_i3, ex_im, eq_self]
  refine ⟨_, ex_root_0_2_2, ?_⟩
  refine hK11 _ ?_
  refine rgnX_take 1 (fun K12 hK12 => ?_)
  simp (disch := omega) only [go_sem, ex_k1, ex_k2, ex_k3, ex_k4, ex_p1, ex_p2, ex_p3, ex_p4, ex_r1, ex_r2, ex_r3, ex_c1, ex_c2, ex_s1, ex_s2, ex_i0, ex_i1, ex_i3, ex_im, eq_self]
  refine ⟨_, ex_root_0_0_0, ?_⟩
  refine hK12 _ ?_
  refine rgnX_take 1 (fun K13 hK13 => ?_)
  simp (disch := omega) only [go_sem, ex_k1, ex_k2, ex_k3, ex_k4, ex_p1, ex_p2, ex_p3, ex_p4, ex_r1, ex_r2, ex_r3, ex_c1, ex_c2, ex_s1, ex_s2, ex_i0, ex_i1, ex_i3, ex_im, eq_self]
  refine ⟨_, c_point_Make_t _ _ _ _ _ _ (by omega) (by decide), ?_⟩
  refine hK13 _ ?_
  simp (disch := omega) only [go_sem, ex_k1, ex_k2, ex_k3, ex_k4, ex_p1, ex_p2, ex_p3, ex_p4, ex_r1, ex_r2, ex_r3, ex_c1, ex_c2, ex_s1, ex_s2, ex_i0, ex_i1, ex_i3, ex_im, eq_self]
  refine hK10 _ ?_
  clear hK13 K13 hK12 K12 hK11 K11 hK10 K10
  refine pwx_sr 1 [] (by rfl) (fun K14 hK14 => ?_)
  refine rgnX_take 1 (fun K15 hK15 => ?_)
  simp (disch := omega) only [go_sem, ex_k1, ex_k2, ex_k3, ex_k4, ex_p1, ex_p2, ex_p3, ex_p4, ex_r1, ex_r2, ex_r3, ex_c1, ex_c2, ex_s1, ex_s2, ex_i0, ex_i1, ex_i3, ex_im, eq_self]
  refine ⟨_, ex_root_0_1_2, ?_⟩
  refine hK15 _ ?_
  refine rgnX_take 1 (fun K16 hK16 => ?_)
  simp (disch := omega) only [go_sem, ex_k1, ex_k2, ex_k3, ex_k4, ex_p1, ex_p2, ex_p3, ex_p4, ex_r1, ex_r2, ex_r3, ex_c1, ex_c2, ex_s1, ex_s2, ex_i0, ex_i1, ex_i3, ex_im, eq_self]
  refine ⟨_, ex_root_0_1_2, ?_⟩
  refine hK16 _ ?_
  refine rgnX_take 1 (fun K17 hK17 => ?_)
  simp (disch := omega) only [go_sem, ex_k1, ex_k2, ex_k3, ex_k4, ex_p1, ex_p2, ex_p3, ex_p4, ex_r1, ex_r2, ex_r3, ex_c1, ex_c2, ex_s1, ex_s2, ex_i0, ex_i1, ex_i3, ex_im, eq_self]
  refine ⟨_, c_point_Make_t _ _ _ _ _ _ (by omega) (by decide), ?_⟩
  refine hK17 _ ?_
  simp (disch := omega) only [go_sem, ex_k1, ex_k2, ex_k3, ex_k4, ex_p1, ex_p2, ex_p3, ex_p4, ex_r1, ex_r2, ex_r3, ex_c1, ex_c2, ex_s1, ex_s2, ex_i0, ex_i1, ex_i3, ex_im, eq_self]
  refine hK14 _ ?_
  clear hK17 K17 hK16 K16 hK15 K15 hK14 K14
  refine pwx_sr 1 [] (by rfl) (fun K18 hK18 => ?_)
  refine rgnX_take 1 (fun K19 hK19 => ?_)
  simp (disch := omega) only [go_sem, ex_k1, ex_k2, ex_k3, ex_k4, ex_p1, ex_p2, ex_p3, ex_p4, ex_r1, ex_r2, ex_r3, ex_c1, ex_c2, ex_s1, ex_s2, ex_i0, ex_i1, ex_i3, ex_im, eq_self]
  refine ⟨_, ex_root_0_1_2, ?_⟩
  refine hK19 _ ?_
  refine rgnX_take 1 (fun K20 hK20 => ?_)
  simp (disch := omega) only [go_sem, ex_k1, ex_k2, ex_k3, ex_k4, ex_p1, ex_p2, ex_p3, ex_p4, ex_r1, ex_r2, ex_r3, ex_c1, ex_c2, ex_s1, ex_s2, ex_i0, ex_i1, ex_i3, ex_im, eq_self]
  refine ⟨_, ex_root_0_1_3, ?_⟩
  refine hK20 _ ?_
  refine rgnX_take 1 (fun K21 hK21 => ?_)
  simp (disch := omega) only [go_sem, ex_k1, ex_k2, ex_k3, ex_k4, ex_p1, ex_p2, ex_p3, ex_p4, ex_r1, ex_r2, ex_r3, ex_c1, ex_c2, ex_s1, ex_s2, ex_i0, ex_i1, ex_i3, ex_im, eq_self]
  refine ⟨_, c_point_Make_f _ _ _ _ _ _ (by omega) (by decide), ?_⟩
  refine hK21 _ ?_
  simp (disch := omega) only [go_sem, ex_k1, ex_k2, ex_k3, ex_k4, ex_p1, ex_p2, ex_p3, ex_p4, ex_r1, ex_r2, ex_r3, ex_c1, ex_c2, ex_s1, ex_s2, ex_i0, ex_i1, ex_i3, ex_im, eq_self]
  refine hK18 _ ?_
  clear hK21 K21 hK20 K20 hK19 K19 hK18 K18
  refine pwp_seq ?_
  refine pwx_sr 0 [some 42, some 43, some 44, some 45, some 46, some 47, some 48, some 49, some 50, some 51, some 52, some 53, some 54, some 55, some 56, some 57, some 58, some 59] (by rfl) (fun K22 hK22 => ?_)
  simp (disch := omega) only [go_sem, ex_k1, ex_k2, ex_k3, ex_k4, ex_p1, ex_p2, ex_p3, ex_p4, ex_r1, ex_r2, ex_r3, ex_c1, ex_c2, ex_s1, ex_s2, ex_i0, ex_i1, ex_i3, ex_im, eq_self]
  refine hK22 _ ?_
  clear hK22 K22
  refine pwp_cond (b := false) (by rfl) (fun h => nomatch h) (fun _ => ?_)
  refine pwp_skip ?_
  refine n_then ?_
  refine pwx_sr 1 [] (by rfl) (fun K23 hK23 => ?_)
  refine rgnX_take 2 (fun K24 hK24 => ?_)
  simp (disch := omega) only [go_sem, ex_k1, ex_k2, ex_k3, ex_k4, ex_p1, ex_p2, ex_p3, ex_p4, ex_r1, ex_r2, ex_r3, ex_c1, ex_c2, ex_s1, ex_s2, ex_i0, ex_i1, ex_i3, ex_im, eq_self]
  refine ⟨_, c_point_OfGrid _ _ (by omega) (by omega) (by omega) (by omega), ?_⟩
  refine hK24 _ ?_
  simp (disch := omega) only [go_sem, ex_k1, ex_k2, ex_k3, ex_k4, ex_p1, ex_p2, ex_p3, ex_p4, ex_r1, ex_r2, ex_r3, ex_c1, ex_c2, ex_s1, ex_s2, ex_i0, ex_i1, ex_i3, ex_im, eq_self]
  refine hK23 _ ?_
  clear hK24 K24 hK23 K23
  refine pwx_sd Tryz.mixed 0 [some 62, some 63, some 64, some 65, some 66, some 67, some 68, some 69, some 70, some 71, some 72, some 73, some 74, some 75, some 76, some 77, some 78, some 79, some 80, some 81, some 82, some 83, some 84, some 85, some 86, some 87, some 88, some 89, some 0] (by rfl) [] (by kernel_rfl) (by simp) (fun K25 hK25 => ?_)
  refine rgnX_take 2 (fun K26 hK26 => ?_)
  simp (disch := omega) only [go_sem, ex_k1, ex_k2, ex_k3, ex_k4, ex_p1, ex_p2, ex_p3, ex_p4, ex_r1, ex_r2, ex_r3, ex_c1, ex_c2, ex_s1, ex_s2, ex_i0, ex_i1, ex_i3, ex_im, eq_self]
  refine ⟨_, c_point_X _ _ _ _ _, ?_⟩
  refine hK26 _ ?_
  refine rgnX_take 1 (fun K27 hK27 => ?_)
  simp (disch := omega) only [go_sem, ex_k1, ex_k2, ex_k3, ex_k4, ex_p1, ex_p2, ex_p3, ex_p4, ex_r1, ex_r2, ex_r3, ex_c1, ex_c2, ex_s1, ex_s2, ex_i0, ex_i1, ex_i3, ex_im, eq_self]
  refine ⟨_, ex_root_1_1_2, ?_⟩
  refine hK27 _ ?_
  refine rgnX_take 1 (fun K28 hK28 => ?_)
  simp (disch := omega) only [go_sem, ex_k1, ex_k2, ex_k3, ex_k4, ex_p1, ex_p2, ex_p3, ex_p4, ex_r1, ex_r2, ex_r3, ex_c1, ex_c2, ex_s1, ex_s2, ex_i0, ex_i1, ex_i3, ex_im, eq_self]
  refine ⟨_, c_swarfref03_Same _ _ _ _ _ _ (by omega), ?_⟩
  refine hK28 _ ?_
  refine rgnX_take 3 (fun K29 hK29 => ?_)
  simp (disch := omega) only [go_sem, ex_k1, ex_k2, ex_k3, ex_k4, ex_p1, ex_p2, ex_p3, ex_p4, ex_r1, ex_r2, ex_r3, ex_c1, ex_c2, ex_s1, ex_s2, ex_i0, ex_i1, ex_i3, ex_im, eq_self]
  first | refine ⟨_, c_point_Y _ _ _ _ _, ?_⟩ | skip
  refine hK29 _ ?_
  refine rgnX_take 1 (fun K30 hK30 => ?_)
  simp (disch := omega) only [go_sem, ex_k1, ex_k2, ex_k3, ex_k4, ex_p1, ex_p2, ex_p3, ex_p4, ex_r1, ex_r2, ex_r3, ex_c1, ex_c2, ex_s1, ex_s2, ex_i0, ex_i1, ex_i3, ex_im, eq_self]
  first | refine ⟨_, ex_root_3_0_0, ?_⟩ | skip
  refine hK30 _ ?_
  refine rgnX_take 1 (fun K31 hK31 => ?_)
  simp (disch := omega) only [go_sem, ex_k1, ex_k2, ex_k3, ex_k4, ex_p1, ex_p2, ex_p3, ex_p4, ex_r1, ex_r2, ex_r3, ex_c1, ex_c2, ex_s1, ex_s2, ex_i0, ex_i1, ex_i3, ex_im, eq_self]
  first | refine ⟨_, c_swarfref03_Same _ _ _ _ _ _ (by omega), ?_⟩ | skip
  refine hK31 _ ?_
  refine rgnX_take 5 (fun K32 hK32 => ?_)
  simp (disch := omega) only [go_sem, ex_k1, ex_k2, ex_k3, ex_k4, ex_p1, ex_p2, ex_p3, ex_p4, ex_r1, ex_r2, ex_r3, ex_c1, ex_c2, ex_s1, ex_s2, ex_i0, ex_i1, ex_i3, ex_im, eq_self]
  first | refine ⟨_, c_point_Equal _ _ _ _ _ _ _ _ _ _ (by omega) (by decide +kernel) (by decide +kernel), ?_⟩ | skip
  refine hK32 _ ?_
  refine rgnX_take 5 (fun K33 hK33 => ?_)
  simp (disch := omega) only [go_sem, ex_k1, ex_k2, ex_k3, ex_k4, ex_p1, ex_p2, ex_p3, ex_p4, ex_r1, ex_r2, ex_r3, ex_c1, ex_c2, ex_s1, ex_s2, ex_i0, ex_i1, ex_i3, ex_im, eq_self]
  first | refine ⟨_, c_point_Compare _ _ _ _ _ _ _ _ _ _ (by omega) (by decide +kernel) (by decide +kernel), ?_⟩ | skip
  refine hK33 _ ?_
  refine rgnX_take 5 (fun K34 hK34 => ?_)
  simp (disch := omega) only [go_sem, ex_k1, ex_k2, ex_k3, ex_k4, ex_p1, ex_p2, ex_p3, ex_p4, ex_r1, ex_r2, ex_r3, ex_c1, ex_c2, ex_s1, ex_s2, ex_i0, ex_i1, ex_i3, ex_im, eq_self]
  first | refine ⟨_, c_swarfref07_Vec _ _ (by omega) (by omega) (by omega) (by omega), ?_⟩ | skip
  refine hK34 _ ?_
  refine rgnX_take 1 (fun K35 hK35 => ?_)
  simp (disch := omega) only [go_sem, ex_k1, ex_k2, ex_k3, ex_k4, ex_p1, ex_p2, ex_p3, ex_p4, ex_r1, ex_r2, ex_r3, ex_c1, ex_c2, ex_s1, ex_s2, ex_i0, ex_i1, ex_i3, ex_im, eq_self]
  first | refine ⟨_, c_point_Square _ _ _ _ _ _ _ (by omega), ?_⟩ | skip
  refine hK35 _ ?_
  refine rgnX_take 1 (fun K36 hK36 => ?_)
  simp (disch := omega) only [go_sem, ex_k1, ex_k2, ex_k3, ex_k4, ex_p1, ex_p2, ex_p3, ex_p4, ex_r1, ex_r2, ex_r3, ex_c1, ex_c2, ex_s1, ex_s2, ex_i0, ex_i1, ex_i3, ex_im, eq_self]
  first | refine ⟨_, ex_root_5_2_2, ?_⟩ | skip
  refine hK36 _ ?_
  refine rgnX_take 1 (fun K37 hK37 => ?_)
  simp (disch := omega) only [go_sem, ex_k1, ex_k2, ex_k3, ex_k4, ex_p1, ex_p2, ex_p3, ex_p4, ex_r1, ex_r2, ex_r3, ex_c1, ex_c2, ex_s1, ex_s2, ex_i0, ex_i1, ex_i3, ex_im, eq_self]
  first | refine ⟨_, c_swarfref03_Same _ _ _ _ _ _ (by omega), ?_⟩ | skip
  refine hK37 _ ?_
  simp (disch := omega) only [go_sem, ex_k1, ex_k2, ex_k3, ex_k4, ex_p1, ex_p2, ex_p3, ex_p4, ex_r1, ex_r2, ex_r3, ex_c1, ex_c2, ex_s1, ex_s2, ex_i0, ex_i1, ex_i3, ex_im, eq_self]
  refine hK25 _ ?_
  clear hK37 K37 hK36 K36 hK35 K35 hK34 K34 hK33 K33 hK32 K32 hK31 K31 hK30 K30 hK29 K29 hK28 K28 hK27 K27 hK26 K26 hK25 K25
  refine pwp_ret ?_
  refine ⟨Or.inr rfl, ?_⟩
  simp (disch := omega) only [go_sem, ex_k1, ex_k2, ex_k3, ex_k4, ex_p1, ex_p2, ex_p3, ex_p4, ex_r1, ex_r2, ex_r3, ex_c1, ex_c2, ex_s1, ex_s2, ex_i0, ex_i1, ex_i3, ex_im, eq_self]
  all_goals skip

end Go.Proofs.YtbadkjfjdkbgfaaGreat

set_option linter.unusedSimpArgs false
namespace Go.PL
open Go.ChangeShapes Go.WideShapes Go.RowKit

/-- All memory of a world. -/
def GW (w : World) : GMem := fun b o => w.cell? ⟨b, o, none⟩
theorem GW_agree (w : World) : Agree (GW w) w := fun _ _ _ h => h
/-- A slice's address has no spot. -/
def Spot (v : Value) : Prop := ∀ a len cap, v = .slice (some a) len cap → a.spot = none

section
variable {H : Type} {enc : TypeId × Value → H} {P : Program} {w : World} {base : Nat} {spare : Nat → Bool} {held : Bool} {fuel : Nat} {t : TypeId} {cs : List Value} {x : DataW H × List MemPlace}

theorem op_bool (ht : P.underlying t = some .bool) (h : DataW.trod enc P w base spare held fuel t cs = some x) : ∃ b, All2 (IRep (GW w)) cs [.bool b] := by
  obtain ⟨b, rfl, _⟩ := DataW.trod_bool ht h
  exact ⟨b, .cons (.bool b) .nil⟩
theorem op_int {k : IntKind} (ht : P.underlying t = some (.int k)) (h : DataW.trod enc P w base spare held fuel t cs = some x) : ∃ n, (Lit.int k n).wf = true ∧ All2 (IRep (GW w)) cs [.int k n] := by
  obtain ⟨n, rfl, _, hw⟩ := DataW.trod_int ht h
  exact ⟨n, hw, .cons (.int k n) .nil⟩
theorem wf_u32 {n : Int} (h : (Lit.int .u32 n).wf = true) : 0 ≤ n ∧ n < 4294967296 := by
  simp only [Lit.wf, Bool.and_eq_true, decide_eq_true_eq] at h
  obtain ⟨h1, h2⟩ := h
  have e1 : IntKind.u32.min = 0 := by decide
  have e2 : IntKind.u32.max = 4294967295 := by decide
  rw [e1] at h1; rw [e2] at h2
  exact ⟨h1, by omega⟩
theorem wf_i64 {n : Int} (h : (Lit.int .i64 n).wf = true) : -9223372036854775808 ≤ n ∧ n < 9223372036854775808 := by
  simp only [Lit.wf, Bool.and_eq_true, decide_eq_true_eq] at h
  obtain ⟨h1, h2⟩ := h
  have e1 : IntKind.i64.min = -9223372036854775808 := by decide
  have e2 : IntKind.i64.max = 9223372036854775807 := by decide
  rw [e1] at h1; rw [e2] at h2
  exact ⟨h1, by omega⟩
theorem wf_i16 {n : Int} (h : (Lit.int .i16 n).wf = true) : -32768 ≤ n ∧ n < 32768 := by
  simp only [Lit.wf, Bool.and_eq_true, decide_eq_true_eq] at h
  obtain ⟨h1, h2⟩ := h
  have e1 : IntKind.i16.min = -32768 := by decide
  have e2 : IntKind.i16.max = 32767 := by decide
  rw [e1] at h1; rw [e2] at h2
  exact ⟨h1, by omega⟩
theorem wf_u16 {n : Int} (h : (Lit.int .u16 n).wf = true) : 0 ≤ n ∧ n < 65536 := by
  simp only [Lit.wf, Bool.and_eq_true, decide_eq_true_eq] at h
  obtain ⟨h1, h2⟩ := h
  have e1 : IntKind.u16.min = 0 := by decide
  have e2 : IntKind.u16.max = 65535 := by decide
  rw [e1] at h1; rw [e2] at h2
  exact ⟨h1, by omega⟩
theorem wf_u8 {n : Int} (h : (Lit.int .u8 n).wf = true) : 0 ≤ n ∧ n < 256 := by
  simp only [Lit.wf, Bool.and_eq_true, decide_eq_true_eq] at h
  obtain ⟨h1, h2⟩ := h
  have e1 : IntKind.u8.min = 0 := by decide
  have e2 : IntKind.u8.max = 255 := by decide
  rw [e1] at h1; rw [e2] at h2
  exact ⟨h1, by omega⟩
theorem op_u32s {e : TypeId} (ht : P.underlying t = some (.slice e)) (he : P.underlying e = some (.int .u32)) (hc : P.cellsOf e = 1) (hs : ∀ v ∈ cs, Spot v)
    (h : DataW.trod enc P w base spare held fuel t cs = some x) : ∃ l : List Nat, All2 (IRep (GW w)) cs [lC l] := by
  rcases open_ints ht he hc h with ⟨rfl, _⟩ | ⟨a, len, cap, zs, rfl, _, hl, _, hz, _, hcell, hw⟩
  · exact ⟨[], .cons .nil .nil⟩
  · have hsp : a.spot = none := hs _ (by simp) a len cap rfl
    have hlen : len ≤ zs.length := by rw [hz]; split <;> omega
    obtain ⟨b, off, sp⟩ := a
    simp only at hsp
    subst hsp
    refine ⟨(zs.take len).map Int.toNat, .cons ?_ .nil⟩
    rw [lC_eq]
    have hll : ((zs.take len).map Int.toNat).length = len := by simp; omega
    rw [hll]
    have hadd : ∀ i, (⟨b, off, none⟩ : Addr).add i = ⟨b, off + i, none⟩ := fun i => by
      unfold Addr.add
      split
      · rename_i h0; rw [h0]; rfl
      · rfl
    have key : ∀ i, i < len → zs.getD i 0 = (((zs.getD i 0).toNat : Nat) : Int) := fun i hi => by
      have hm : zs.getD i 0 ∈ zs := by
        rw [List.getD_eq_getElem?_getD, List.getElem?_eq_getElem (show i < zs.length by omega)]
        exact List.getElem_mem _
      have := wf_u32 (hw _ hm)
      omega
    refine .sl b off len cap _ (fun i => .int .u32 (zs.getD i 0)) hl (fun i hi => ?_) (fun i hi => ?_)
    · simp only [u32s, List.length_map, List.length_take] at hi
      have := hcell i (by omega)
      rw [hadd] at this
      exact this
    · simp only [u32s, List.length_map, List.length_take] at hi
      have hg : (u32s ((zs.take len).map Int.toNat))[i]'(by simpa [u32s] using hi) = .int .u32 (zs.getD i 0) := by
        rw [key i (by omega)]
        simp [u32s, List.getD_eq_getElem?_getD, List.getElem?_eq_getElem (show i < zs.length by omega)]
      rw [hg]
      exact .int _ _
theorem op_piece {R : Value → PC → Prop} {off n m : Nat} {A B : List PC} (hm : off + n = m) (h1 : All2 R ((cs.drop off).take n) A) (h2 : All2 R (cs.drop m) B) : All2 R (cs.drop off) (A ++ B) := by
  have := h1.append h2
  rw [← hm, ← List.drop_drop, List.take_append_drop] at this
  exact this
theorem op_end {R : Value → PC → Prop} {n : Nat} (h : cs.length = n) : All2 R (cs.drop n) [] := by
  rw [← h, List.drop_length]; exact .nil
theorem sp_piece {off n : Nat} (h : ∀ v ∈ cs, Spot v) : ∀ v ∈ (cs.drop off).take n, Spot v := fun v hv => h v (List.mem_of_mem_drop (List.mem_of_mem_take hv))
/-- A field of a struct. -/
theorem op_field {fs : Array Field} (ht : P.underlying t = some (.struct fs)) (h : DataW.trod enc P w base spare held fuel t cs = some x) {i : Nat} {f : Field} (hi : fs[i]? = some f) {n : Nat} (hn : P.cellsOf f.type = n) :
    ∃ fuel' y, DataW.trod enc P w base spare held fuel' f.type ((cs.drop f.offset).take n) = some y := by
  obtain ⟨xs, m, _, _, _, hlen, hf⟩ := DataW.trod_struct ht h
  have hlt : i < xs.length := by
    rw [hlen]
    rcases Nat.lt_or_ge i fs.size with c | c
    · exact c
    · rw [Array.getElem?_eq_none c] at hi; cases hi
  have := hf i f hi
  rw [List.getElem?_eq_getElem hlt, hn] at this
  exact ⟨m, _, this⟩
theorem op_elem {e : TypeId} {k : Nat} (ht : P.underlying t = some (.array k e)) (h : DataW.trod enc P w base spare held fuel t cs = some x) {i : Nat} (hi : i < k) {n : Nat} (hn : P.cellsOf e = n) {off : Nat} (ho : i * n = off) :
    ∃ fuel' y, DataW.trod enc P w base spare held fuel' e ((cs.drop off).take n) = some y := by
  obtain ⟨xs, m, _, _, _, hlen, hf⟩ := DataW.trod_array ht h
  have := hf i hi
  rw [List.getElem?_eq_getElem (by omega), hn, ho] at this
  exact ⟨m, _, this⟩
theorem op_len {fs : Array Field} (ht : P.underlying t = some (.struct fs)) (h : DataW.trod enc P w base spare held fuel t cs = some x) {n : Nat} (hn : P.cellsOf t = n) : cs.length = n := by
  obtain ⟨xs, m, _, _, hl, _, _⟩ := DataW.trod_struct ht h
  rw [hl, hn]
theorem op_lenA {e : TypeId} {k : Nat} (ht : P.underlying t = some (.array k e)) (h : DataW.trod enc P w base spare held fuel t cs = some x) {n : Nat} (hn : P.cellsOf t = n) : cs.length = n := by
  obtain ⟨xs, m, _, _, hl, _, _⟩ := DataW.trod_array ht h
  rw [hl, hn]
end

theorem spot_cell {P : Program} {w : World} {r : Reach} {base : Nat} {t : TypeId} {v : Value} (h : Cell.okWide P w r base t v) : Spot v := by
  rintro a len cap rfl
  unfold Cell.okWide at h
  split at h
  all_goals first | (rename_i hv; cases hv; done) | (rename_i hv _; cases hv; done) | skip
  · unfold Cell.ok at h
    split at h <;> first | (rename_i hv; cases hv; done) | skip
    · rename_i hv
      simp only [Value.slice.injEq, Option.some.injEq] at hv
      obtain ⟨rfl, rfl, rfl⟩ := hv
      exact h.2.2.2.1
    · exact h.elim
theorem spot_agg {P : Program} {w : World} {r : Reach} {base : Nat} {t : TypeId} {fs : Array Field} (ht : P.underlying t = some (.struct fs)) {v : Value} (h : Value.okWide P w r base t v) : ∃ cs, v = .agg cs ∧ ∀ u ∈ cs.toList, Spot u := by
  unfold Value.okWide at h
  rw [ht] at h
  obtain ⟨cs, rfl, _, ts, _, _, hr⟩ := h
  refine ⟨cs, rfl, fun u hu => ?_⟩
  obtain ⟨i, hi⟩ := List.getElem?_of_mem hu
  obtain ⟨q, _, hq⟩ := hr i u (by rw [← Array.getElem?_toList]; exact hi)
  exact spot_cell hq
theorem spot_aggA {P : Program} {w : World} {r : Reach} {base : Nat} {t : TypeId} {e : TypeId} {k : Nat} (ht : P.underlying t = some (.array k e)) {v : Value} (h : Value.okWide P w r base t v) : ∃ cs, v = .agg cs ∧ ∀ u ∈ cs.toList, Spot u := by
  unfold Value.okWide at h
  rw [ht] at h
  obtain ⟨cs, rfl, _, ts, _, _, hr⟩ := h
  refine ⟨cs, rfl, fun u hu => ?_⟩
  obtain ⟨i, hi⟩ := List.getElem?_of_mem hu
  obtain ⟨q, _, hq⟩ := hr i u (by rw [← Array.getElem?_toList]; exact hi)
  exact spot_cell hq
/-- A struct's value stands for its cells. -/
theorem op_agg {G : GMem} {cs : Array Value} {ps : List PC} (h : All2 (IRep G) cs.toList ps) : RepE G (fun _ => 0) (fun _ => False) (.agg cs) (.a ps) := ⟨cs, rfl, h.mono fun _ _ => RepC.of_irep⟩
/-- What a law that returns true tells its row. -/
theorem law_true {P : Program} {f : FuncId} {args : List PE} (h : Ret P f args (.e (.c (.bool true)))) {w : World} {vs : Array Value} (hv : All2 (RepE (GW w) (fun _ => 0) (fun _ => False)) vs.toList args) :
    Calls P f vs w fun e w' => e = .returned (.bool true) ∧ Below w.heap.size w w' := by
  refine (h.2 (GW w) w vs (GW_agree w) hv).mono ?_
  rintro e w' ⟨v, G', rfl, hr, _, _, _, hb⟩
  have hr' : IRep G' v (.bool true) := hr
  cases hr'
  exact ⟨rfl, hb⟩
end Go.PL

set_option linter.unusedSimpArgs false
set_option linter.unusedVariables false
set_option maxRecDepth 20000
namespace Go.Proofs.YtbadkjfjdkbgfaaGreat
open Go Go.PL
open Go.ChangeShapes Go.WideShapes Go.RowKit
theorem op24 {H : Type} {enc : TypeId × Value → H} {w : World} {base : Nat} {spare : Nat → Bool} {held : Bool} {fuel : Nat} {cs : List Value} {x : DataW H × List MemPlace} (h : DataW.trod enc Tryz.prog w base spare held fuel 24 cs = some x) (hs : ∀ v ∈ cs, Spot v) :
    ∃ c0 : Bool, ∃ c1 : List Nat, All2 (IRep (GW w)) cs [.bool c0, lC c1] := by
  obtain ⟨f0, y0, h0⟩ := op_field Tryz.underlying24 h (i := 0) rfl (n := 1) (by kernel_rfl)
  obtain ⟨c0, r0⟩ := op_bool Tryz.underlying4 h0
  obtain ⟨f1, y1, h1⟩ := op_field Tryz.underlying24 h (i := 1) rfl (n := 1) (by kernel_rfl)
  obtain ⟨c1, r1⟩ := op_u32s Tryz.underlying22 Tryz.underlying142 (by kernel_rfl) (sp_piece hs) h1
  have r := op_piece (off := 0) rfl r0 (op_piece (off := 1) rfl r1 (op_end (op_len Tryz.underlying24 h (by kernel_rfl))))
  exact ⟨c0, c1, r⟩

theorem op26 {H : Type} {enc : TypeId × Value → H} {w : World} {base : Nat} {spare : Nat → Bool} {held : Bool} {fuel : Nat} {cs : List Value} {x : DataW H × List MemPlace} (h : DataW.trod enc Tryz.prog w base spare held fuel 26 cs = some x) (hs : ∀ v ∈ cs, Spot v) :
    ∃ c0 : Bool, ∃ c1 : List Nat, ∃ c2 : Bool, ∃ c3 : List Nat, All2 (IRep (GW w)) cs [.bool c0, lC c1, .bool c2, lC c3] := by
  obtain ⟨f0, y0, h0⟩ := op_field Tryz.underlying26 h (i := 0) rfl (n := 2) (by kernel_rfl)
  obtain ⟨c0, c1, r0⟩ := op24 h0 (sp_piece hs)
  obtain ⟨f1, y1, h1⟩ := op_field Tryz.underlying26 h (i := 1) rfl (n := 2) (by kernel_rfl)
  obtain ⟨c2, c3, r1⟩ := op24 h1 (sp_piece hs)
  have r := op_piece (off := 0) rfl r0 (op_piece (off := 2) rfl r1 (op_end (op_len Tryz.underlying26 h (by kernel_rfl))))
  exact ⟨c0, c1, c2, c3, r⟩

theorem op32 {H : Type} {enc : TypeId × Value → H} {w : World} {base : Nat} {spare : Nat → Bool} {held : Bool} {fuel : Nat} {cs : List Value} {x : DataW H × List MemPlace} (h : DataW.trod enc Tryz.prog w base spare held fuel 32 cs = some x) (hs : ∀ v ∈ cs, Spot v) :
    ∃ c0 : Bool, ∃ c1 : List Nat, ∃ c2 : Bool, ∃ c3 : List Nat, ∃ c4 : Bool, ∃ c5 : List Nat, ∃ c6 : Bool, ∃ c7 : List Nat, ∃ c8 : Bool, ∃ c9 : List Nat, ∃ c10 : Bool, ∃ c11 : List Nat, ∃ c12 : Bool, ∃ c13 : List Nat, ∃ c14 : Bool, ∃ c15 : List Nat, ∃ c16 : Bool, ∃ c17 : List Nat, ∃ c18 : Bool, ∃ c19 : List Nat, All2 (IRep (GW w)) cs [.bool c0, lC c1, .bool c2, lC c3, .bool c4, lC c5, .bool c6, lC c7, .bool c8, lC c9, .bool c10, lC c11, .bool c12, lC c13, .bool c14, lC c15, .bool c16, lC c17, .bool c18, lC c19] := by
  obtain ⟨f0, y0, h0⟩ := op_field Tryz.underlying32 h (i := 0) rfl (n := 4) (by kernel_rfl)
  obtain ⟨c0, c1, c2, c3, r0⟩ := op26 h0 (sp_piece hs)
  obtain ⟨f1, y1, h1⟩ := op_field Tryz.underlying32 h (i := 1) rfl (n := 4) (by kernel_rfl)
  obtain ⟨c4, c5, c6, c7, r1⟩ := op26 h1 (sp_piece hs)
  obtain ⟨f2, y2, h2⟩ := op_field Tryz.underlying32 h (i := 2) rfl (n := 4) (by kernel_rfl)
  obtain ⟨c8, c9, c10, c11, r2⟩ := op26 h2 (sp_piece hs)
  obtain ⟨f3, y3, h3⟩ := op_field Tryz.underlying32 h (i := 3) rfl (n := 4) (by kernel_rfl)
  obtain ⟨c12, c13, c14, c15, r3⟩ := op26 h3 (sp_piece hs)
  obtain ⟨f4, y4, h4⟩ := op_field Tryz.underlying32 h (i := 4) rfl (n := 4) (by kernel_rfl)
  obtain ⟨c16, c17, c18, c19, r4⟩ := op26 h4 (sp_piece hs)
  have r := op_piece (off := 0) rfl r0 (op_piece (off := 4) rfl r1 (op_piece (off := 8) rfl r2 (op_piece (off := 12) rfl r3 (op_piece (off := 16) rfl r4 (op_end (op_len Tryz.underlying32 h (by kernel_rfl)))))))
  exact ⟨c0, c1, c2, c3, c4, c5, c6, c7, c8, c9, c10, c11, c12, c13, c14, c15, c16, c17, c18, c19, r⟩

end Go.Proofs.YtbadkjfjdkbgfaaGreat

namespace Go.PL
open Go.RL
theorem vld3_c {b c : Rat} (h : vld3 b c = true) : (b = 0 ↔ c = 0) ∧ 0 ≤ c := by
  unfold vld3 at h
  split at h
  · simp only [Bool.and_eq_true, decide_eq_true_eq] at h
    rw [h.1, h.2]; exact ⟨by simp, Rat.le_refl⟩
  · rename_i hn
    simp only [not_or] at hn
    simp only [Bool.and_eq_true, decide_eq_true_eq] at h
    exact ⟨⟨fun q => absurd q hn.1, fun q => absurd q hn.2⟩, Rat.le_of_lt h.1⟩
theorem make_X {b c b' c' : Rat} (h : vld3 b c = true) : rC b (pC b b' (rK b c c')) = c := by
  by_cases hb : b = 0
  · rw [rC_0 hb, ((vld3_c h).1.1 hb)]
  · rw [rC_1 hb, pC_1 hb, rK_1 hb]
theorem make_Y {b c b' c' : Rat} (h : vld3 b c = true) (h' : vld3 b' c' = true) (hm : b = 0 ∨ b' = 0 ∨ c = c') : rC b' (pC b b' (rK b c c')) = c' := by
  by_cases hb' : b' = 0
  · rw [rC_0 hb', ((vld3_c h').1.1 hb')]
  · rw [rC_1 hb', pC_2 hb']
    by_cases hb : b = 0
    · rw [rK_0 hb]
    · rw [rK_1 hb]; rcases hm with hm | hm | hm
      · contradiction
      · contradiction
      · exact hm
end Go.PL

namespace Go.PL
open Go.RL
/-- The cells of a point. -/
structure PtC (X : List PC) : Prop where
  len : X.length = 20
  im : X.all PC.im = true
  nm : X.map PC.norm = X
theorem PtC.tk {X : List PC} (h : PtC X) : X.take 20 = X := List.take_of_length_le (by rw [h.len]; omega)
theorem PtC.ne {X : List PC} (h : PtC X) : (X = []) = False := eq_false fun q => by have := h.len; rw [q] at this; cases this
theorem idx_p1 {X : List PC} (h : PtC X) {sz bs ag zz e k} : indexA ⟨sz, bs, ag, zz, .slice e⟩ 20 (some (.c (.sl 1 X))) (some (.c (.int k ((0 : Nat) : Int)))) = some (.iptr X) := by
  show (if (0 : Int) ≤ ((0 : Nat) : Int) ∧ ((0 : Nat) : Int) < ((1 : Nat) : Int) then some (PC.iptr ((X.drop (((0 : Nat) : Int).toNat * 20)).take 20)) else none) = _
  rw [if_pos (by omega)]
  show some (PC.iptr (X.take 20)) = _
  rw [h.tk]
theorem idx_p20 {X Y : List PC} (h : PtC X) {sz bs ag zz e k} : indexA ⟨sz, bs, ag, zz, .slice e⟩ 20 (some (.c (.sl 2 (X ++ Y)))) (some (.c (.int k ((0 : Nat) : Int)))) = some (.iptr X) := by
  show (if (0 : Int) ≤ ((0 : Nat) : Int) ∧ ((0 : Nat) : Int) < ((2 : Nat) : Int) then some (PC.iptr (((X ++ Y).drop (((0 : Nat) : Int).toNat * 20)).take 20)) else none) = _
  rw [if_pos (by omega)]
  show some (PC.iptr ((X ++ Y).take 20)) = _
  rw [List.take_append_of_le_length (by rw [h.len]; omega), h.tk]
theorem idx_p21 {X Y : List PC} (h : PtC X) (h' : PtC Y) {sz bs ag zz e k} : indexA ⟨sz, bs, ag, zz, .slice e⟩ 20 (some (.c (.sl 2 (X ++ Y)))) (some (.c (.int k ((1 : Nat) : Int)))) = some (.iptr Y) := by
  show (if (0 : Int) ≤ ((1 : Nat) : Int) ∧ ((1 : Nat) : Int) < ((2 : Nat) : Int) then some (PC.iptr (((X ++ Y).drop (((1 : Nat) : Int).toNat * 20)).take 20)) else none) = _
  rw [if_pos (by omega)]
  show some (PC.iptr (((X ++ Y).drop 20).take 20)) = _
  rw [show (X ++ Y).drop 20 = Y by rw [← h.len, List.drop_left], h'.tk]
theorem PtC.rat (a b d e c : Rat) : PtC (ratC a ++ (ratC b ++ (ratC d ++ (ratC e ++ ratC c)))) := ⟨by simp, by simp, by simp [List.map_append]⟩
theorem PtC.raw (n0 n1 n2 n3 n4 n5 n6 n7 n8 n9 : Bool) (l0 l1 l2 l3 l4 l5 l6 l7 l8 l9 : List Nat) : PtC [.bool n0, lC l0, .bool n1, lC l1, .bool n2, lC l2, .bool n3, lC l3, .bool n4, lC l4, .bool n5, lC l5, .bool n6, lC l6, .bool n7, lC l7, .bool n8, lC l8, .bool n9, lC l9] :=
  ⟨rfl, rfl, rfl⟩
theorem szr_i64 {n : Int} (h : -9223372036854775808 ≤ n) (h' : n < 9223372036854775808) : SzR ((n : Int) : Rat) 3 := by
  refine ⟨?_, ?_⟩
  · rw [Rat.num_intCast]; exact szi_lit (Nat.lt_trans (show n.natAbs < 9223372036854775809 by omega) (by decide))
  · rw [Rat.den_intCast]; exact szi_lit (by decide)
theorem vldP_nn {b e c : Rat} (h : vldP b e c = true) : 0 ≤ c := by
  unfold vldP at h
  split at h
  · simp only [decide_eq_true_eq] at h; rw [h]; exact Rat.le_refl
  · simp only [Bool.and_eq_true, decide_eq_true_eq] at h; exact Rat.le_of_lt h.1
theorem vldP_iff {b e c : Rat} (h : vldP b e c = true) : (b = 0 ∧ e = 0) ↔ c = 0 := by
  unfold vldP at h
  split at h
  · rename_i q; simp only [decide_eq_true_eq] at h; exact ⟨fun _ => h, fun _ => q⟩
  · rename_i q
    simp only [Bool.and_eq_true, decide_eq_true_eq] at h
    exact ⟨fun p => absurd p q, fun p => absurd h.1 (by rw [p]; exact Rat.lt_irrefl)⟩
/-- The order's laws. -/
theorem cmpR_swap {a b c a' b' c' : Rat} (hc : 0 ≤ c) (hc' : 0 ≤ c') : cmpR a' b' c' a b c = -cmpR a b c a' b' c' := by
  rw [cmpR_eq hc' hc, cmpR_eq hc hc', ← sgn_neg]
  congr 1
  apply Re.ext; intro n
  simp only [Re.sub_s, Re.neg_s]
  grind
theorem cmpP_swap {a b d e c a' b' d' e' c' : Rat} (hc : 0 ≤ c) (hc' : 0 ≤ c') : cmpP a' b' d' e' c' a b d e c = -cmpP a b d e c a' b' d' e' c' := by
  have hx := cmpR_swap (a := a) (b := b) (a' := a') (b' := b') (rC_nn (b := b) hc) (rC_nn (b := b') hc')
  have hy := cmpR_swap (a := d) (b := e) (a' := d') (b' := e') (rC_nn (b := e) hc) (rC_nn (b := e') hc')
  by_cases h : cmpR a b (rC b c) a' b' (rC b' c') = 0
  · rw [cmpP_0 h, cmpP_0 (by rw [hx, h]; rfl), hy]
  · rw [cmpP_1 h, cmpP_1 (by rw [hx]; omega), hx]
theorem sgn_sub_self (x : Re) : sgn (x - x) = 0 := sgn_zero.2 (eqv_refl x)
theorem cmpR_self {a b c : Rat} (hc : 0 ≤ c) : cmpR a b c a b c = 0 := by rw [cmpR_eq hc hc, sgn_sub_self]
theorem cmpP_self {a b d e c : Rat} (hc : 0 ≤ c) : cmpP a b d e c a b d e c = 0 := by rw [cmpP_0 (cmpR_self (rC_nn hc)), cmpR_self (rC_nn hc)]
theorem cmpR_bd (a b c a' b' c' : Rat) (hc : 0 ≤ c) (hc' : 0 ≤ c') : -1 ≤ cmpR a b c a' b' c' ∧ cmpR a b c a' b' c' ≤ 1 := by
  rw [cmpR_eq hc hc']
  rcases sgn_cases (v2 a b c - v2 a' b' c') with ⟨_, h⟩ | ⟨_, h⟩ | ⟨_, h⟩ <;> omega
theorem cmpP_bd {a b d e c a' b' d' e' c' : Rat} (hc : 0 ≤ c) (hc' : 0 ≤ c') : -1 ≤ cmpP a b d e c a' b' d' e' c' ∧ cmpP a b d e c a' b' d' e' c' ≤ 1 := by
  unfold cmpP
  split
  · exact cmpR_bd _ _ _ _ _ _ (rC_nn hc) (rC_nn hc')
  · exact cmpR_bd _ _ _ _ _ _ (rC_nn hc) (rC_nn hc')
end Go.PL

namespace Go.PL
open Go.RL
theorem two_facts {c : Rat} (hc : 0 ≤ c) : sgnQ c = 1 ∨ c = 0 := by
  by_cases h : c = 0
  · exact .inr h
  · left; unfold sgnQ; rw [if_neg (by grind), if_pos (by grind)]
/-- The reference's sign of a root is the sign of its value, where the radicand is no square. -/
theorem r3S_two {a b c : Rat} (hc : b = 0 ∨ (0 < c ∧ sqB c = false)) : r3S a b c = two a b c := by
  rcases hc with rfl | ⟨hc, hs⟩
  · have h0 : sgnQ 0 = 0 := by decide +kernel
    rw [two_1 (by rw [h0, Int.zero_mul])]
    unfold r3S; rw [if_pos (.inr h0)]
  · have h1 : sgnQ c = 1 := by
      rcases two_facts (Rat.le_of_lt hc) with h | h
      · exact h
      · rw [h] at hc; exact absurd hc Rat.lt_irrefl
    have ht : sgnQ b * sgnQ c = sgnQ b := by rw [h1, Int.mul_one]
    by_cases hb : sgnQ b = 0
    · rw [two_1 (by rw [ht]; exact hb)]
      unfold r3S; rw [if_pos (.inr hb)]
    by_cases hab : sgnQ a = sgnQ b
    · rw [two_2 (by rw [ht]; exact hab)]
      unfold r3S; rw [if_pos (.inl hab)]
    have hn : ¬ (sgnQ a = sgnQ b ∨ sgnQ b = 0) := fun h => h.elim hab hb
    by_cases ha : sgnQ a = 0
    · rw [two_3 ha, ht]
      unfold r3S; rw [if_neg hn, if_pos ha]
    · rw [two_4 (by rw [ht]; exact hb) (by rw [ht]; exact hab) ha]
      have hne : a * a - b * b * c ≠ 0 := by
        intro he
        have hb0 : b ≠ 0 := fun q => hb (by rw [sgnQ_eqz]; exact q)
        have : (a / b) * (a / b) = c := by
          have h3 : a * a = b * b * c := by grind
          have h2 : (a / b) * (a / b) = (a * a) / (b * b) := by grind
          rw [h2, h3]
          grind
        rw [sqB_of this] at hs; cases hs
      have hcm : cmpQ (a * a) (b * b * c) = sgnQ (a * a - b * b * c) := rfl
      rw [hcm]
      have hsa := sgnQ_cases a; have hsb := sgnQ_cases b
      have h4 := sgnQ_bd (a * a - b * b * c)
      have h3 : sgnQ (a * a - b * b * c) ≠ 0 := by rw [Ne, sgnQ_eqz]; exact hne
      unfold r3S
      rw [if_neg hn, if_neg ha]
      by_cases hp : 0 < sgnQ (a * a - b * b * c)
      · rw [if_pos hp, show sgnQ (a * a - b * b * c) = 1 by omega, Int.mul_one]
      · rw [if_neg hp, show sgnQ (a * a - b * b * c) = -1 by omega]
        omega
theorem v2_rC {a b c : Rat} : v2 a b (rC b c) = v2 a b c := by
  by_cases h : b = 0
  · rw [h, v2_b0, v2_b0]
  · rw [rC_1 h]
/-- The parts of the reference's square. -/
theorem sq_part {x b c : Rat} (h : b = 0 → x = 0) (hc : c = 0 → b = 0) : r3B x (rC b c) = x ∧ r3C x (rC b c) = rC x c := by
  by_cases hb : b = 0
  · have hx := h hb
    rw [rC_0 hb, rC_0 hx, hx]
    exact ⟨(r3_z (.inl rfl)).1, (r3_z (.inl rfl)).2⟩
  · rw [rC_1 hb]
    by_cases hx : x = 0
    · rw [rC_0 hx, hx]; exact ⟨(r3_z (.inl rfl)).1, (r3_z (.inl rfl)).2⟩
    · have := r3_n (b := x) (c := c) (by rintro (q | q); exact hx q; exact hb (hc q))
      rw [rC_1 hx]; exact this
theorem sq_sum {x y c : Rat} (h : c = 0 → x = 0 ∧ y = 0) : r3B (x + y) (rK x (rC x c) (rC y c)) = x + y ∧ r3C (x + y) (rK x (rC x c) (rC y c)) = rC (x + y) c := by
  by_cases hs : x + y = 0
  · rw [rC_0 hs, hs]; exact ⟨(r3_z (.inl rfl)).1, (r3_z (.inl rfl)).2⟩
  · rw [rC_1 hs]
    have hc : c ≠ 0 := fun q => hs (by rw [(h q).1, (h q).2]; exact Rat.add_zero 0)
    have hK : rK x (rC x c) (rC y c) = c := by
      by_cases hx : x = 0
      · rw [rK_0 hx]
        exact rC_1 fun hy => hs (by rw [hx, hy]; exact Rat.add_zero 0)
      · rw [rK_1 hx, rC_1 hx]
    rw [hK]
    exact r3_n (by rintro (q | q); exact hs q; exact hc q)
theorem sq_hok {x y c : Rat} : (decide (x = 0) || (decide (y = 0) || decide (rC x c = rC y c))) = true := by
  by_cases hx : x = 0
  · rw [decide_eq_true hx]; rfl
  · by_cases hy : y = 0
    · rw [decide_eq_true hy, Bool.true_or, Bool.or_true]
    · rw [rC_1 hx, rC_1 hy, decide_eq_true (rfl : c = c), Bool.or_true, Bool.or_true]
/-- Where a point's radicand is zero, so are the factors. -/
theorem vldP_z {b e c : Rat} (h : vldP b e c = true) (hc : c = 0) : b = 0 ∧ e = 0 := (vldP_iff h).2 hc
theorem vldP_s {b e c : Rat} (h : vldP b e c = true) (hc : c ≠ 0) : 0 < c ∧ sqB c = false := by
  unfold vldP at h
  split at h
  · simp only [decide_eq_true_eq] at h; contradiction
  · simpa using h
variable {a b d e c v w : Rat}
/-- The square's value. -/
theorem sq_val (hc : 0 ≤ c) : eqv (v2 (sqA a b d e c v w) (sqB2 a b d e v w) c) (v2 (a - v) b c * v2 (a - v) b c + v2 (d - w) e c * v2 (d - w) e c) := by
  have h : v2 (a - v) b c * v2 (a - v) b c + v2 (d - w) e c * v2 (d - w) e c - v2 (sqA a b d e c v w) (sqB2 a b d e v w) c = Re.of (b * b + e * e) * (rt c * rt c - Re.of c) := Re.ext fun n => by
    simp only [v2, sqA, sqB2, Re.sub_s, Re.add_s, Re.mul_s, Re.of_s]; grind
  refine eqv_symm ?_
  unfold eqv
  rw [h]
  exact null_mul' _ (rt_sq hc)
theorem sgn_mul_self (x : Re) : sgn (x * x) = if sgn x = 0 then 0 else 1 := by
  rw [sgn_mul]
  rcases sgn_cases x with ⟨_, h⟩ | ⟨_, h⟩ | ⟨_, h⟩ <;> rw [h] <;> simp
/-- The square's sign. -/
theorem sq_sign (h : vldP b e c = true) : 0 ≤ r3S (sqA a b d e c v w) (sqB2 a b d e v w) (rC (sqB2 a b d e v w) c) ∧
    (r3S (sqA a b d e c v w) (sqB2 a b d e v w) (rC (sqB2 a b d e v w) c) = 0 ↔ sgn (v2 (a - v) b c) = 0 ∧ sgn (v2 (d - w) e c) = 0) := by
  have hc := vldP_nn h
  have e1 : r3S (sqA a b d e c v w) (sqB2 a b d e v w) (rC (sqB2 a b d e v w) c) = two (sqA a b d e c v w) (sqB2 a b d e v w) (rC (sqB2 a b d e v w) c) := by
    refine r3S_two ?_
    by_cases hB : sqB2 a b d e v w = 0
    · exact .inl hB
    · right
      rw [rC_1 hB]
      refine vldP_s h fun q => hB ?_
      obtain ⟨rfl, rfl⟩ := vldP_z h q
      unfold sqB2; grind
  rw [e1, two_eq (rC_nn hc), v2_rC, sgn_eqv (sq_val hc)]
  have hx := sgn_mul_self (v2 (a - v) b c); have hy := sgn_mul_self (v2 (d - w) e c)
  have nx : 0 ≤ sgn (v2 (a - v) b c * v2 (a - v) b c) := by rw [hx]; split <;> omega
  have ny : 0 ≤ sgn (v2 (d - w) e c * v2 (d - w) e c) := by rw [hy]; split <;> omega
  obtain ⟨h1, h2, h3⟩ := nonneg_add nx ny
  refine ⟨h1, ?_⟩
  by_cases cx : sgn (v2 (a - v) b c) = 0
  · by_cases cy : sgn (v2 (d - w) e c) = 0
    · rw [if_pos cx] at hx; rw [if_pos cy] at hy
      exact ⟨fun _ => ⟨cx, cy⟩, fun _ => h3 hx hy⟩
    · rw [if_neg cy] at hy
      have := h2 (.inr (by omega))
      exact ⟨fun q => by omega, fun q => absurd q.2 cy⟩
  · rw [if_neg cx] at hx
    have := h2 (.inl (by omega))
    exact ⟨fun q => by omega, fun q => absurd q.1 cx⟩
theorem cmp_at {a b c v c' : Rat} (hc : 0 ≤ c) (hc' : 0 ≤ c') : cmpR a b (rC b c) v 0 c' = sgn (v2 (a - v) b c) := by
  rw [cmpR_eq (rC_nn hc) hc', v2_rC, v2_b0]
  congr 1
  apply Re.ext; intro n
  simp only [v2, Re.sub_s, Re.add_s, Re.mul_s, Re.of_s]
  grind
theorem cmpP_at (hc : 0 ≤ c) : cmpP a b d e c v 0 w 0 0 = 0 ↔ sgn (v2 (a - v) b c) = 0 ∧ sgn (v2 (d - w) e c) = 0 := by
  have h0 : (0 : Rat) ≤ rC 0 0 := rC_nn Rat.le_refl
  have hx := cmp_at (a := a) (b := b) (v := v) hc h0
  have hy := cmp_at (a := d) (b := e) (v := w) hc h0
  by_cases h : cmpR a b (rC b c) v 0 (rC 0 0) = 0
  · rw [cmpP_0 h, hy]
    rw [hx] at h
    exact ⟨fun q => ⟨h, q⟩, fun q => q.2⟩
  · rw [cmpP_1 h]
    rw [hx] at h ⊢
    exact ⟨fun q => absurd q h, fun q => q.1⟩
theorem sq_dec (h : vldP b e c = true) : decide (r3S (sqA a b d e c v w) (sqB2 a b d e v w) (rC (sqB2 a b d e v w) c) = 0) = decide (cmpP a b d e c v 0 w 0 0 = 0) :=
  decide_eq_decide.2 ((sq_sign h).2.trans (cmpP_at (vldP_nn h)).symm)
theorem sqA_t {v' w' : Rat} : sqA (a + v') b (d + w') e c (v + v') (w + w') = sqA a b d e c v w := by unfold sqA; grind
theorem sqB_t {v' w' : Rat} : sqB2 (a + v') b (d + w') e (v + v') (w + w') = sqB2 a b d e v w := by unfold sqB2; grind
instance SzR.sqA {k1 k2 k3 k4 k5 k6 k7 : Nat} [SzR a k1] [SzR b k2] [SzR d k3] [SzR e k4] [SzR c k5] [SzR v k6] [SzR w k7] : SzR (sqA a b d e c v w) (k1 + k6 + 1 + (k1 + k6 + 1) + (k3 + k7 + 1 + (k3 + k7 + 1)) + 1 + (k2 + k2 + (k4 + k4) + 1 + k5) + 1) := by
  unfold PL.sqA; infer_instance
instance SzR.sqB2 {k1 k2 k3 k4 k6 k7 : Nat} [SzR a k1] [SzR b k2] [SzR d k3] [SzR e k4] [SzR v k6] [SzR w k7] : SzR (sqB2 a b d e v w) (k1 + k6 + 1 + k2 + (k3 + k7 + 1 + k4) + 1 + (k1 + k6 + 1 + k2 + (k3 + k7 + 1 + k4) + 1) + 1) := by
  unfold PL.sqB2; infer_instance
end Go.PL

namespace Go.PL
open Go.RL
theorem nr_1 : ((1 : Int) : Rat) = 1 := rfl
theorem sgnQ_lez (q : Rat) : (sgnQ q ≤ 0) = ¬ (0 < q) := by
  apply propext
  rw [← sgnQ_gtz]
  omega
instance SzR.divInt1 {n : Int} {k : Nat} [SzI n k] : SzR (Rat.divInt n 1) (max k 1) := divInt_size (by decide)
attribute [go_sem] sgnQ_lez
end Go.PL

namespace Go.PL
open Go.RL
theorem sgnQ_pos {q : Rat} (h : 0 < q) : sgnQ q = 1 := by
  have h1 : 0 < sgnQ q := by rw [sgnQ_gtz]; exact h
  have := (sgnQ_bd q).2
  omega
theorem sgnQ_nn {q : Rat} (h : 0 ≤ q) : 0 ≤ sgnQ q := by
  have : ¬ sgnQ q < 0 := by rw [sgnQ_ltz]; exact Rat.not_lt.2 h
  omega
theorem sgnQ_np {q : Rat} (h : q ≤ 0) : sgnQ q ≤ 0 := by
  have : ¬ 0 < sgnQ q := by rw [sgnQ_gtz]; exact Rat.not_lt.2 h
  omega
theorem sgnQ_zero {q : Rat} (h : q = 0) : sgnQ q = 0 := by rw [sgnQ_eqz]; exact h
variable {u b c : Rat}
theorem two_lo (hb : 0 < b) (hc : 0 ≤ c) (h : 0 ≤ u ∨ u * u ≤ b * b * c) : 0 ≤ two u b c := by
  have s1 := sgnQ_pos hb
  have s2 := sgnQ_nn hc
  have hy : sgnQ b * sgnQ c = sgnQ c := by rw [s1, Int.one_mul]
  have s3 := (sgnQ_bd c).2
  by_cases x0 : sgnQ u = 0
  · rw [two_3 x0, hy]; exact s2
  by_cases y0 : sgnQ c = 0
  · rw [two_1 (by rw [hy]; exact y0)]
    have c0 : c = 0 := by rw [← sgnQ_eqz]; exact y0
    rcases h with h | h
    · exact sgnQ_nn h
    · exfalso
      rw [sgnQ_eqz] at x0
      rw [c0] at h
      have : 0 < u * u := by
        by_cases q : u < 0
        · have := Rat.mul_pos (show (0 : Rat) < -u by grind) (show (0 : Rat) < -u by grind); grind
        · have q' : 0 < u := by grind
          exact Rat.mul_pos q' q'
      grind
  · by_cases xy : sgnQ u = sgnQ c
    · rw [two_2 (by rw [hy]; exact xy), xy]; exact s2
    · rw [two_4 (by rw [hy]; exact y0) (by rw [hy]; exact xy) x0]
      have := sgnQ_bd u
      have hu : sgnQ u = -1 := by omega
      rcases h with h | h
      · have := sgnQ_nn h; omega
      · have hm : cmpQ (u * u) (b * b * c) ≤ 0 := sgnQ_np (by grind)
        rw [hu]; omega
theorem two_hi (hb : 0 < b) (hc : 0 ≤ c) (h : u ≤ 0) (h' : b * b * c ≤ u * u) : two u b c ≤ 0 := by
  have s1 := sgnQ_pos hb
  have s2 := sgnQ_nn hc
  have hy : sgnQ b * sgnQ c = sgnQ c := by rw [s1, Int.one_mul]
  have s3 := (sgnQ_bd c).2
  have su := sgnQ_np h
  by_cases x0 : sgnQ u = 0
  · rw [two_3 x0, hy]
    have u0 : u = 0 := by rw [← sgnQ_eqz]; exact x0
    have c0 : ¬ 0 < c := fun q => by
      have := Rat.mul_pos (Rat.mul_pos hb hb) q
      rw [u0] at h'; grind
    exact sgnQ_np (Rat.not_lt.1 c0)
  by_cases y0 : sgnQ c = 0
  · rw [two_1 (by rw [hy]; exact y0)]; exact su
  · rw [two_4 (by rw [hy]; exact y0) (by rw [hy]; omega) x0]
    have := sgnQ_bd u
    have hu : sgnQ u = -1 := by omega
    have hm : 0 ≤ cmpQ (u * u) (b * b * c) := sgnQ_nn (by grind)
    rw [hu]; omega
theorem two_neg (hc : 0 ≤ c) : two (-u) (-b) c = -two u b c := by
  rw [two_eq hc, two_eq hc, ← sgn_neg]
  congr 1
  apply Re.ext; intro n
  simp only [v2, Re.add_s, Re.mul_s, Re.of_s, Re.neg_s]
  grind
theorem two_lo' (hb : b < 0) (hc : 0 ≤ c) (h : 0 ≤ u) (h' : b * b * c ≤ u * u) : 0 ≤ two u b c := by
  have := two_hi (u := -u) (b := -b) (by grind) hc (by grind) (by grind)
  rw [two_neg hc] at this
  omega
theorem two_hi' (hb : b < 0) (hc : 0 ≤ c) (h : u ≤ 0 ∨ u * u ≤ b * b * c) : two u b c ≤ 0 := by
  have := two_lo (u := -u) (b := -b) (by grind) hc (h.imp (fun q => by grind) (fun q => by grind))
  rw [two_neg hc] at this
  omega
theorem fl_1 {u W M s : Rat} (hM : 0 < M) (hu : u ≤ 0) (h : -u * M ≤ W) (h' : W * W ≤ M * M * s) : u * u ≤ s := by
  have hx : 0 ≤ -u * M := Rat.mul_nonneg (by grind) (Rat.le_of_lt hM)
  have h1 : (-u * M) * (-u * M) ≤ W * W := by
    have a1 := Rat.mul_le_mul_of_nonneg_left h hx
    have a2 := Rat.mul_le_mul_of_nonneg_right h (Rat.le_trans hx h)
    grind
  rcases Classical.em (u * u ≤ s) with c | c
  · exact c
  · exfalso
    have c' : s < u * u := Rat.not_le.1 c
    have := Rat.mul_lt_mul_of_pos_left c' (Rat.mul_pos hM hM)
    grind
theorem fl_2 {u W M s : Rat} (hM : 0 < M) (hW : 0 ≤ W) (h : W + 1 ≤ -u * M) (h' : M * M * s < (W + 1) * (W + 1)) : u ≤ 0 ∧ s ≤ u * u := by
  have hu : u ≤ 0 := by
    rcases Classical.em (u ≤ 0) with c | c
    · exact c
    · exfalso
      have := Rat.mul_pos (Rat.not_le.1 c) hM
      grind
  refine ⟨hu, ?_⟩
  have h1 : (W + 1) * (W + 1) ≤ (-u * M) * (-u * M) := by
    have a1 := Rat.mul_le_mul_of_nonneg_left h (show (0 : Rat) ≤ W + 1 by grind)
    have a2 := Rat.mul_le_mul_of_nonneg_right h (show (0 : Rat) ≤ -u * M by grind)
    grind
  rcases Classical.em (s ≤ u * u) with c | c
  · exact c
  · exfalso
    have c' : u * u < s := Rat.not_le.1 c
    have := Rat.mul_lt_mul_of_pos_left c' (Rat.mul_pos hM hM)
    grind
/-- The greatest integer that is not greater than a root: between what it lies. -/
theorem flR_spec {a : Rat} (hc : 0 ≤ c) : 0 ≤ sgn (v2 (a - (flR a b c : Int)) b c) ∧ sgn (v2 (a - ((flR a b c : Int) + 1)) b c) ≤ 0 := by
  by_cases hb : b = 0
  · rw [hb, v2_b0, v2_b0, sgn_of, sgn_of, flR_z rfl]
    exact ⟨sgnQ_nn (by have := fl_le a; grind), sgnQ_np (by have := lt_fl a; grind)⟩
  rw [← two_eq hc, ← two_eq hc]
  -- the parts
  have hs : 0 ≤ b * b * c := Rat.mul_nonneg (by
    by_cases q : 0 ≤ b
    · exact Rat.mul_nonneg q q
    · have := Rat.mul_nonneg (show (0 : Rat) ≤ -b by grind) (show (0 : Rat) ≤ -b by grind); grind) hc
  have hN : b < 0 → _ := fun h => flR_n (a := a) (c := c) hb h
  have hP : ¬ b < 0 → _ := fun h => flR_p (a := a) (c := c) hb h
  generalize hsd : b * b * c = s at *
  have hn := a.den_pos
  have hq := s.den_pos
  have hp : 0 ≤ s.num := Rat.num_nonneg.2 hs
  have hz : 0 ≤ ((a.den : Int) * (a.den : Int)) * (s.num * (s.den : Int)) := Int.mul_nonneg (Int.mul_nonneg (by omega) (by omega)) (Int.mul_nonneg hp (by omega))
  obtain ⟨w0, w1, w2⟩ := sqrtI_facts hz
  have hm : 0 < (a.den : Int) * (s.den : Int) := Int.mul_pos (by omega) (by omega)
  have eA : a * (a.den : Int) = (a.num : Rat) := by
    have h := divInt_mul (n := a.num) (d := (a.den : Int)) (by omega)
    rwa [Rat.num_divInt_den] at h
  have eS : s * (s.den : Int) = (s.num : Rat) := by
    have h := divInt_mul (n := s.num) (d := (s.den : Int)) (by omega)
    rwa [Rat.num_divInt_den] at h
  generalize hw : sqrtI (((a.den : Int) * (a.den : Int)) * (s.num * (s.den : Int))) = w at *
  generalize hnn : (a.den : Int) = n at *
  generalize hqq : (s.den : Int) = q at *
  -- in fractions
  have cn : (0 : Rat) < (n : Rat) := by exact_mod_cast (show (0 : Int) < n by omega)
  have cq : (0 : Rat) < (q : Rat) := by exact_mod_cast (show (0 : Int) < q by omega)
  have W0 : (0 : Rat) ≤ (w : Rat) := by exact_mod_cast w0
  have M0 : (0 : Rat) < (n : Rat) * q := Rat.mul_pos cn cq
  have W1 : (w : Rat) * w ≤ ((n : Rat) * q) * ((n : Rat) * q) * s := by
    have h : ((w * w : Int) : Rat) ≤ (((n * n) * (s.num * q) : Int) : Rat) := by exact_mod_cast w1
    rw [Rat.intCast_mul, Rat.intCast_mul, Rat.intCast_mul, Rat.intCast_mul, ← eS] at h
    grind
  have W2 : ((n : Rat) * q) * ((n : Rat) * q) * s < ((w : Rat) + 1) * ((w : Rat) + 1) := by
    have h : (((n * n) * (s.num * q) : Int) : Rat) < (((w + 1) * (w + 1) : Int) : Rat) := by exact_mod_cast w2
    rw [Rat.intCast_mul, Rat.intCast_mul, Rat.intCast_mul, Rat.intCast_mul, Rat.intCast_add, ← eS] at h
    have e1 : ((1 : Int) : Rat) = 1 := rfl
    rw [e1] at h
    grind
  -- what is divided
  have key : ∀ r f : Int, f = (a.num * q + r) / (n * q) → (f : Rat) * (n * q) ≤ a * ((n : Rat) * q) + r ∧ a * ((n : Rat) * q) + r + 1 ≤ ((f : Rat) + 1) * (n * q) := by
    intro r f hf
    have h1 := Int.mul_ediv_self_le (x := a.num * q + r) (k := n * q) (by omega)
    have h2 := Int.lt_mul_ediv_self_add (x := a.num * q + r) (k := n * q) hm
    rw [← hf] at h1 h2
    have h3 : ((n * q * f : Int) : Rat) ≤ ((a.num * q + r : Int) : Rat) := by exact_mod_cast h1
    have h4 : ((a.num * q + r + 1 : Int) : Rat) ≤ ((n * q * f + n * q : Int) : Rat) := by exact_mod_cast h2
    have e1 : ((1 : Int) : Rat) = 1 := rfl
    simp only [Rat.intCast_mul, Rat.intCast_add, ← eA, e1] at h3 h4
    exact ⟨by grind, by grind⟩
  by_cases hbn : b < 0
  · obtain ⟨k1, k2⟩ := key _ _ (hN hbn)
    generalize flR a b c = f at *
    have e1 : ((-(w + 1) : Int) : Rat) = -((w : Rat) + 1) := by rw [Rat.intCast_neg, Rat.intCast_add]; rfl
    rw [e1] at k1 k2
    refine ⟨?_, ?_⟩
    · have := fl_2 (u := -(a - (f : Rat))) M0 W0 (by grind) W2
      exact two_lo' hbn hc (by grind) (by rw [hsd]; grind)
    · refine two_hi' hbn hc ?_
      rcases Classical.em (a - ((f : Rat) + 1) ≤ 0) with q0 | q0
      · exact .inl q0
      · have := fl_1 (u := -(a - ((f : Rat) + 1))) M0 (by have := Rat.not_le.1 q0; grind) (by grind) W1
        exact .inr (by rw [hsd]; grind)
  · obtain ⟨k1, k2⟩ := key _ _ (hP hbn)
    generalize flR a b c = f at *
    have hbp : 0 < b := by grind
    refine ⟨?_, ?_⟩
    · refine two_lo hbp hc ?_
      rcases Classical.em (0 ≤ a - (f : Rat)) with q0 | q0
      · exact .inl q0
      · have := fl_1 (u := a - (f : Rat)) M0 (by have := Rat.not_le.1 q0; grind) (by grind) W1
        exact .inr (by rw [hsd]; exact this)
    · have := fl_2 (u := a - ((f : Rat) + 1)) M0 W0 (by grind) W2
      exact two_hi hbp hc this.1 (by rw [hsd]; exact this.2)
end Go.PL

namespace Go.PL
open Go.RL
/-- What point.near computes. -/
def nrR (a b c t : Rat) : Rat := Rat.divInt (flR (a * (1 / t)) (b * (1 / t)) (rC (b * (1 / t)) c)) 1 * t
theorem divInt_1 (n : Int) : Rat.divInt n 1 = (n : Rat) := by
  rw [Rat.divInt_eq_div]
  have e1 : ((1 : Int) : Rat) = 1 := rfl
  rw [e1]; grind
theorem v2_rC2 {u b c s : Rat} : v2 u (b * s) (rC (b * s) (rC b c)) = v2 u (b * s) c := by
  rw [v2_rC]
  by_cases h : b = 0
  · rw [h, Rat.zero_mul, v2_b0, v2_b0]
  · rw [rC_1 h]
theorem near_ok {a b c t : Rat} (hk : b = 0 ∨ (0 < c ∧ sqB c = false)) (hc : 0 ≤ c) (ht : 0 < t) :
    0 ≤ r3S (a - (nrR a b (rC b c) t - t)) b (rC b c) ∧ r3S (a - (nrR a b (rC b c) t + t)) b (rC b c) ≤ 0 := by
  have hk' : b = 0 ∨ (0 < rC b c ∧ sqB (rC b c) = false) := by
    by_cases h : b = 0
    · exact .inl h
    · rw [rC_1 h]; exact hk
  rw [r3S_two hk', r3S_two hk', two_eq (rC_nn hc), two_eq (rC_nn hc), v2_rC, v2_rC]
  obtain ⟨f1, f2⟩ := flR_spec (a := a * (1 / t)) (b := b * (1 / t)) (c := rC (b * (1 / t)) (rC b c)) (rC_nn (rC_nn hc))
  unfold nrR
  rw [divInt_1]
  generalize flR (a * (1 / t)) (b * (1 / t)) (rC (b * (1 / t)) (rC b c)) = f at *
  rw [v2_rC2] at f1 f2
  have e : t * (1 / t) = 1 := by grind
  have st : sgn (Re.of t) = 1 := by rw [sgn_of]; exact sgnQ_pos ht
  refine ⟨?_, ?_⟩
  · have h := nn_add (nn_mul (show 0 ≤ sgn (Re.of t) by omega) f1) (show 0 ≤ sgn (Re.of t) by omega)
    refine nn_eq (fun n => ?_) h
    simp only [v2, Re.add_s, Re.mul_s, Re.of_s]
    grind
  · have h : v2 (a - ((f : Rat) * t + t)) b c = Re.of t * v2 (a * (1 / t) - ((f : Rat) + 1)) (b * (1 / t)) c := Re.ext fun n => by
      simp only [v2, Re.add_s, Re.mul_s, Re.of_s]
      grind
    rw [h, sgn_mul, st]
    omega
theorem vldP_x {b e c : Rat} (h : vldP b e c = true) : b = 0 ∨ (0 < c ∧ sqB c = false) := by
  by_cases hc : c = 0
  · exact .inl (vldP_z h hc).1
  · exact .inr (vldP_s h hc)
theorem vldP_y {b e c : Rat} (h : vldP b e c = true) : e = 0 ∨ (0 < c ∧ sqB c = false) := by
  by_cases hc : c = 0
  · exact .inl (vldP_z h hc).2
  · exact .inr (vldP_s h hc)
instance SzR.nrR {a b c t : Rat} {k l m o : Nat} [SzR a k] [SzR b l] [SzR c m] [SzR t o] : SzR (nrR a b c t) (3 * (k + (1 + o)) + 6 * (l + (1 + o)) + 3 * (1 + m) + 10 + o) := by
  unfold PL.nrR
  exact (inferInstance : SzR _ _).mono (by omega)
end Go.PL

set_option linter.unusedSimpArgs false
set_option linter.unusedVariables false
set_option maxRecDepth 20000
namespace Go.Proofs.YtbadkjfjdkbgfaaGreat
open Go Go.PL Go.RL
set_option maxHeartbeats 4000000 in
theorem c_root_Floor (a b c : Rat) {k l m : Nat} [SzR a k] [SzR b l] [SzR c m] (hk : k + l + m ≤ 10000) :
    Ret Tryz.prog 128 [.a (ratC (a) ++ (ratC (b) ++ ratC (c)))] (.e (.a (intC (flR a b c)))) := by
  refine ret_of_body (md := {}) Tryz.func128 (by kernel_rfl) rfl ?_
  simp only [Tryz.f128, List.map_cons, List.map_nil, List.length_cons, List.length_nil, Nat.zero_add, Nat.reduceAdd, Nat.reduceSub, List.reduceReplicate, List.cons_append, List.nil_append]
  have hda := a.den_pos
  have hds := (b * b * c).den_pos
  have hdp := Nat.mul_pos hda hds
  refine pwx_sr 2 [] (by rfl) (fun K1 hK1 => ?_)
  simp (disch := omega) only [go_sem]
  refine hK1 _ ?_
  clear hK1 K1
  refine pwp_seq ?_
  refine pwx_sr 0 [] (by rfl) (fun K2 hK2 => ?_)
  refine rgnX_take 3 (fun K3 hK3 => ?_)
  simp (disch := omega) only [go_sem]
  refine ⟨_, c_rational_Sign _, ?_⟩
  refine hK3 _ ?_
  simp (disch := omega) only [go_sem]
  refine hK2 _ ?_
  clear hK3 K3 hK2 K2
  refine pwp_cond (b := _) (by rfl) (fun hb0 => ?_) (fun hb0 => ?_)
  · first | replace hb0 := of_decide_eq_true hb0 | replace hb0 := of_decide_eq_false hb0 | skip
    refine pwx_sr 0 [] (by rfl) (fun K4 hK4 => ?_)
    refine rgnX_take 3 (fun K5 hK5 => ?_)
    simp (disch := omega) only [go_sem]
    refine ⟨_, c_rational_Floor _ (by omega), ?_⟩
    refine hK5 _ ?_
    simp (disch := omega) only [go_sem]
    refine hK4 _ ?_
    clear hK5 K5 hK4 K4
    refine pwp_ret ?_
    refine r_then ?_
    refine ⟨Or.inr rfl, ?_⟩
    simp (disch := omega) only [go_sem]
    all_goals rw [flR_z hb0]
  · first | replace hb0 := of_decide_eq_true hb0 | replace hb0 := of_decide_eq_false hb0 | skip
    refine pwp_skip ?_
    refine n_then ?_
    refine pwx_sdH Tryz.mixed 1 [] (by rfl) [] [(1, 0), (3, 2), (19, 0), (21, 0), (24, 0)] (by kernel_rfl) (by kernel_rfl) (by simp) (by simp [HomeAt, St.pad]) (fun K6 hK6 => ?_)
    refine rgnX_take 5 (fun K7 hK7 => ?_)
    simp (disch := omega) only [go_sem]
    refine ⟨_, c_rational_Mul _ _ (by omega), ?_⟩
    refine hK7 _ ?_
    refine rgnX_take 3 (fun K8 hK8 => ?_)
    simp (disch := omega) only [go_sem]
    refine ⟨_, c_rational_Mul _ _ (by omega), ?_⟩
    refine hK8 _ ?_
    simp (disch := omega) only [go_sem]
    refine hK6 _ ?_
    clear hK8 K8 hK7 K7 hK6 K6
    refine pwx_sdH Tryz.mixed 2 [] (by rfl) [] [(1, 0), (3, 2), (4, 3), (5, 4), (27, 0), (28, 0), (30, 2)] (by kernel_rfl) (by kernel_rfl) (by simp) (by simp [HomeAt, St.pad]) (fun K9 hK9 => ?_)
    simp (disch := omega) only [go_sem]
    refine hK9 _ ?_
    clear hK9 K9
    refine pwx_sdH Tryz.mixed 1 [] (by rfl) [] [(3, 2), (4, 3), (5, 4), (6, 5), (35, 2)] (by kernel_rfl) (by kernel_rfl) (by simp) (by simp [HomeAt, St.pad]) (fun K10 hK10 => ?_)
    refine rgnX_take 3 (fun K11 hK11 => ?_)
    simp (disch := omega) only [go_sem]
    refine ⟨_, c_integer_Mul _ _ szi szi, ?_⟩
    refine hK11 _ ?_
    refine rgnX_take 4 (fun K12 hK12 => ?_)
    simp (disch := omega) only [go_sem]
    refine ⟨_, c_integer_Mul _ _ szi szi, ?_⟩
    refine hK12 _ ?_
    refine rgnX_take 1 (fun K13 hK13 => ?_)
    simp (disch := omega) only [go_sem]
    refine ⟨_, c_integer_Mul _ _ szi szi, ?_⟩
    refine hK13 _ ?_
    simp (disch := omega) only [go_sem]
    refine hK10 _ ?_
    clear hK13 K13 hK12 K12 hK11 K11 hK10 K10
    refine pwx_sr 1 [] (by rfl) (fun K14 hK14 => ?_)
    refine rgnX_take 2 (fun K15 hK15 => ?_)
    simp (disch := omega) only [go_sem]
    refine ⟨_, c_integer_Sqrt _ szi9, ?_⟩
    refine hK15 _ ?_
    simp (disch := omega) only [go_sem]
    refine hK14 _ ?_
    clear hK15 K15 hK14 K14
    refine pwp_seq ?_
    refine pwx_sr 0 [] (by rfl) (fun K16 hK16 => ?_)
    refine rgnX_take 3 (fun K17 hK17 => ?_)
    simp (disch := omega) only [go_sem]
    refine ⟨_, c_rational_Sign _, ?_⟩
    refine hK17 _ ?_
    simp (disch := omega) only [go_sem]
    refine hK16 _ ?_
    clear hK17 K17 hK16 K16
    refine pwp_cond (b := _) (by rfl) (fun hb1 => ?_) (fun hb1 => ?_)
    · first | replace hb1 := of_decide_eq_true hb1 | replace hb1 := of_decide_eq_false hb1 | skip
      refine pwx_drawH Tryz.mixed 0 [] (by rfl) [] [(7, 6)] (by kernel_rfl) (by kernel_rfl) (by simp) (by simp [HomeAt, St.pad]) (fun K18 hK18 => ?_)
      refine rgnX_take 2 (fun K19 hK19 => ?_)
      simp (disch := omega) only [go_sem]
      refine ⟨_, c_integer_FromInt64 _ (by omega) (by omega), ?_⟩
      refine hK19 _ ?_
      refine rgnX_take 1 (fun K20 hK20 => ?_)
      simp (disch := omega) only [go_sem]
      refine ⟨_, c_integer_Add _ _ szi szi, ?_⟩
      refine hK20 _ ?_
      refine rgnX_take 1 (fun K21 hK21 => ?_)
      simp (disch := omega) only [go_sem]
      refine ⟨_, c_integer_Neg _ szi, ?_⟩
      refine hK21 _ ?_
      simp (disch := omega) only [go_sem]
      refine hK18 _ ?_
      clear hK21 K21 hK20 K20 hK19 K19 hK18 K18
      refine n_then ?_
      refine pwx_sdH Tryz.mixed 2 [] (by rfl) [] [(1, 0), (4, 3), (5, 4), (7, 6), (9, 7), (10, 8), (54, 0), (55, 0)] (by kernel_rfl) (by kernel_rfl) (by simp) (by simp [HomeAt, St.pad]) (fun K22 hK22 => ?_)
      refine rgnX_take 5 (fun K23 hK23 => ?_)
      simp (disch := omega) only [go_sem]
      refine ⟨_, c_integer_Mul _ _ szi szi, ?_⟩
      refine hK23 _ ?_
      refine rgnX_take 2 (fun K24 hK24 => ?_)
      simp (disch := omega) only [go_sem]
      refine ⟨_, c_integer_Add _ _ szi szi, ?_⟩
      refine hK24 _ ?_
      refine rgnX_take 3 (fun K25 hK25 => ?_)
      simp (disch := omega) only [go_sem]
      refine ⟨_, c_integer_Mul _ _ szi szi, ?_⟩
      refine hK25 _ ?_
      refine rgnX_take 1 (fun K26 hK26 => ?_)
      simp (disch := omega) only [go_sem]
      refine ⟨_, c_integer_DivMod _ _ szi szi (by first | assumption | omega), ?_⟩
      refine hK26 _ ?_
      simp (disch := omega) only [go_sem]
      refine hK22 _ ?_
      clear hK26 K26 hK25 K25 hK24 K24 hK23 K23 hK22 K22
      refine pwx_sr 0 [] (by rfl) (fun K27 hK27 => ?_)
      simp (disch := omega) only [go_sem]
      refine hK27 _ ?_
      clear hK27 K27
      refine pwp_ret ?_
      refine ⟨Or.inr rfl, ?_⟩
      simp (disch := omega) only [go_sem]
      all_goals rw [flR_n hb0 hb1, Int.natCast_mul, Int.natCast_mul]
    · first | replace hb1 := of_decide_eq_true hb1 | replace hb1 := of_decide_eq_false hb1 | skip
      refine pwp_skip ?_
      refine n_then ?_
      refine pwx_sdH Tryz.mixed 2 [] (by rfl) [] [(1, 0), (4, 3), (5, 4), (7, 6), (9, 7), (10, 8), (54, 0), (55, 0)] (by kernel_rfl) (by kernel_rfl) (by simp) (by simp [HomeAt, St.pad]) (fun K28 hK28 => ?_)
      refine rgnX_take 5 (fun K29 hK29 => ?_)
      simp (disch := omega) only [go_sem]
      refine ⟨_, c_integer_Mul _ _ szi szi, ?_⟩
      refine hK29 _ ?_
      refine rgnX_take 2 (fun K30 hK30 => ?_)
      simp (disch := omega) only [go_sem]
      refine ⟨_, c_integer_Add _ _ szi szi, ?_⟩
      refine hK30 _ ?_
      refine rgnX_take 3 (fun K31 hK31 => ?_)
      simp (disch := omega) only [go_sem]
      refine ⟨_, c_integer_Mul _ _ szi szi, ?_⟩
      refine hK31 _ ?_
      refine rgnX_take 1 (fun K32 hK32 => ?_)
      simp (disch := omega) only [go_sem]
      refine ⟨_, c_integer_DivMod _ _ szi szi (by first | assumption | omega), ?_⟩
      refine hK32 _ ?_
      simp (disch := omega) only [go_sem]
      refine hK28 _ ?_
      clear hK32 K32 hK31 K31 hK30 K30 hK29 K29 hK28 K28
      refine pwx_sr 0 [] (by rfl) (fun K33 hK33 => ?_)
      simp (disch := omega) only [go_sem]
      refine hK33 _ ?_
      clear hK33 K33
      refine pwp_ret ?_
      refine ⟨Or.inr rfl, ?_⟩
      simp (disch := omega) only [go_sem]
      all_goals rw [flR_p hb0 hb1, Int.natCast_mul, Int.natCast_mul]

end Go.Proofs.YtbadkjfjdkbgfaaGreat

set_option linter.unusedSimpArgs false
set_option linter.unusedVariables false
set_option maxRecDepth 20000
namespace Go.Proofs.YtbadkjfjdkbgfaaGreat
open Go Go.PL Go.RL
set_option maxHeartbeats 4000000 in
theorem c_small1_t (X : List PC) (hX : PtC X) (h1 : Ret Tryz.prog 58 [.a X, .c (.int .i64 3)] (.e (.c (.bool true)))) :
    Ret Tryz.prog 19 [.c (.sl 1 X)] (.e (.c (.bool true))) := by
  refine ret_of_body (md := {}) Tryz.func19 (by kernel_rfl) rfl ?_
  simp only [Tryz.f19, List.map_cons, List.map_nil, List.length_cons, List.length_nil, Nat.zero_add, Nat.reduceAdd, Nat.reduceSub, List.reduceReplicate, List.cons_append, List.nil_append]
  refine pwx_sr 0 [] (by rfl) (fun K1 hK1 => ?_)
  simp (disch := omega) only [go_sem, hX.ne, not_false_eq_true, true_and, hX.len, hX.tk, hX.im, hX.nm, idx_p1 hX]
  refine hK1 _ ?_
  clear hK1 K1
  refine pwp_seq ?_
  refine pwx_sr 0 [] (by rfl) (fun K2 hK2 => ?_)
  simp (disch := omega) only [go_sem, hX.ne, not_false_eq_true, true_and, hX.len, hX.tk, hX.im, hX.nm, idx_p1 hX]
  refine hK2 _ ?_
  clear hK2 K2
  refine pwp_block ?_
  refine pwp_loopF (false :: false :: true :: false :: false :: true :: true :: true :: false :: false :: false :: false :: false :: false :: false :: []) 0 (fun M s => ∃ u : Nat, (u ≤ 1) ∧ 1 - u = M ∧ s = { slots := .j :: .j :: .e (.c (.bool false)) :: .j :: .j :: .e (.c (.sl 1 X)) :: .e (.c (.int .i64 ((1 : Nat) : Int))) :: .e (.c (.int .i64 (u : Int))) :: .j :: .j :: .j :: .j :: .j :: .j :: .j :: [], st := [] }) (n := 1) rfl ?_ ?_ ?_
  · refine ⟨0, ?_, rfl, ?_⟩
    · omega
    · first | rfl | (simp only [St.cut, keep, if_true, if_false, Bool.false_eq_true, List.take_succ_cons, List.take_zero, List.take_nil]; try simp)
  · refine ⟨rfl, ?_, ?_⟩ <;> first | rfl | (simp [keep, PV.lt, PE.lt, PC.lt, Box.lt, ↓lC_lt]; done) | simp [keep, PV.lt, PE.lt, PC.lt, Box.lt, ↓lC_lt, ↓intC_lt, ↓ratC_lt, ↓u32s_lt]
  · rintro _ _ ⟨u, hu, rfl, rfl⟩
    refine pwx_sr 0 [] (by rfl) (fun K3 hK3 => ?_)
    simp (disch := omega) only [go_sem, hX.ne, not_false_eq_true, true_and, hX.len, hX.tk, hX.im, hX.nm, idx_p1 hX]
    refine hK3 _ ?_
    clear hK3 K3
    refine pwp_seq ?_
    refine pwp_cond (b := _) (by rfl) (fun hb0 => ?_) (fun hb0 => ?_)
    · obtain rfl : u = 0 := by have := of_decide_eq_true hb0; omega
      refine pwp_skip ?_
      refine n_then ?_
      refine pwp_seq ?_
      refine pwp_block ?_
      refine pwx_sr 1 [] (by rfl) (fun K4 hK4 => ?_)
      simp (disch := omega) only [go_sem, hX.ne, not_false_eq_true, true_and, hX.len, hX.tk, hX.im, hX.nm, idx_p1 hX]
      refine hK4 _ ?_
      clear hK4 K4
      refine pwx_sr 0 [] (by rfl) (fun K5 hK5 => ?_)
      refine rgnX_take 2 (fun K6 hK6 => ?_)
      simp (disch := omega) only [go_sem, hX.ne, not_false_eq_true, true_and, hX.len, hX.tk, hX.im, hX.nm, idx_p1 hX]
      refine ⟨_, h1, ?_⟩
      refine hK6 _ ?_
      simp (disch := omega) only [go_sem, hX.ne, not_false_eq_true, true_and, hX.len, hX.tk, hX.im, hX.nm, idx_p1 hX]
      refine hK5 _ ?_
      clear hK6 K6 hK5 K5
      refine pwp_cond (b := false) (by rfl) (fun h => nomatch h) (fun _ => ?_)
      refine pwp_skip ?_
      refine n_block ?_
      refine n_then ?_
      refine pwx_region 0 [] (by rfl) (fun K7 hK7 => ?_)
      simp (disch := omega) only [go_sem, hX.ne, not_false_eq_true, true_and, hX.len, hX.tk, hX.im, hX.nm, idx_p1 hX]
      refine hK7 _ ?_
      clear hK7 K7
      refine n_then ?_
      refine ⟨_, ?hdec, ⟨0 + 1, ?hf0, rfl, ?heq⟩, ?hok⟩
      case heq => first | rfl | (simp only [St.cut, keep, if_true, if_false, Bool.false_eq_true, List.take_succ_cons, List.take_zero, List.take_nil]; try simp)
      case hf0 => omega
      case hdec => omega
      case hok => refine ⟨rfl, ?_, ?_⟩ <;> first | rfl | (simp [keep, PV.lt, PE.lt, PC.lt, Box.lt, ↓lC_lt]; done) | simp [keep, PV.lt, PE.lt, PC.lt, Box.lt, ↓lC_lt, ↓intC_lt, ↓ratC_lt, ↓u32s_lt]
    · refine pwp_exit ?_
      refine e_then ?_
      refine e_then ?_
      refine e_here ?_
      refine n_then ?_
      refine pwx_sr 0 [] (by rfl) (fun K8 hK8 => ?_)
      simp (disch := omega) only [go_sem, hX.ne, not_false_eq_true, true_and, hX.len, hX.tk, hX.im, hX.nm, idx_p1 hX]
      refine hK8 _ ?_
      clear hK8 K8
      refine pwp_ret ?_
      refine ⟨Or.inr rfl, ?_⟩
      simp (disch := omega) only [go_sem, hX.ne, not_false_eq_true, true_and, hX.len, hX.tk, hX.im, hX.nm, idx_p1 hX]
set_option maxHeartbeats 4000000 in
theorem c_small1_f (X : List PC) (hX : PtC X) (h1 : Ret Tryz.prog 58 [.a X, .c (.int .i64 3)] (.e (.c (.bool false)))) :
    Ret Tryz.prog 19 [.c (.sl 1 X)] (.e (.c (.bool false))) := by
  refine ret_of_body (md := {}) Tryz.func19 (by kernel_rfl) rfl ?_
  simp only [Tryz.f19, List.map_cons, List.map_nil, List.length_cons, List.length_nil, Nat.zero_add, Nat.reduceAdd, Nat.reduceSub, List.reduceReplicate, List.cons_append, List.nil_append]
  refine pwx_sr 0 [] (by rfl) (fun K1 hK1 => ?_)
  simp (disch := omega) only [go_sem, hX.ne, not_false_eq_true, true_and, hX.len, hX.tk, hX.im, hX.nm, idx_p1 hX]
  refine hK1 _ ?_
  clear hK1 K1
  refine pwp_seq ?_
  refine pwx_sr 0 [] (by rfl) (fun K2 hK2 => ?_)
  simp (disch := omega) only [go_sem, hX.ne, not_false_eq_true, true_and, hX.len, hX.tk, hX.im, hX.nm, idx_p1 hX]
  refine hK2 _ ?_
  clear hK2 K2
  refine pwp_block ?_
  refine pwp_loopF (false :: false :: true :: false :: false :: true :: true :: true :: false :: false :: false :: false :: false :: false :: false :: []) 0 (fun M s => ∃ u : Nat, (u = 0) ∧ 1 - u = M ∧ s = { slots := .j :: .j :: .e (.c (.bool false)) :: .j :: .j :: .e (.c (.sl 1 X)) :: .e (.c (.int .i64 ((1 : Nat) : Int))) :: .e (.c (.int .i64 (u : Int))) :: .j :: .j :: .j :: .j :: .j :: .j :: .j :: [], st := [] }) (n := 1) rfl ?_ ?_ ?_
  · refine ⟨0, ?_, rfl, ?_⟩
    · rfl
    · first | rfl | (simp only [St.cut, keep, if_true, if_false, Bool.false_eq_true, List.take_succ_cons, List.take_zero, List.take_nil]; try simp)
  · refine ⟨rfl, ?_, ?_⟩ <;> first | rfl | (simp [keep, PV.lt, PE.lt, PC.lt, Box.lt, ↓lC_lt]; done) | simp [keep, PV.lt, PE.lt, PC.lt, Box.lt, ↓lC_lt, ↓intC_lt, ↓ratC_lt, ↓u32s_lt]
  · rintro _ _ ⟨u, hu, rfl, rfl⟩
    subst hu
    refine pwx_sr 0 [] (by rfl) (fun K3 hK3 => ?_)
    simp (disch := omega) only [go_sem, hX.ne, not_false_eq_true, true_and, hX.len, hX.tk, hX.im, hX.nm, idx_p1 hX]
    refine hK3 _ ?_
    clear hK3 K3
    refine pwp_seq ?_
    refine pwp_cond (b := true) (by rfl) (fun _ => ?_) (fun h => nomatch h)
    refine pwp_skip ?_
    refine n_then ?_
    refine pwp_seq ?_
    refine pwp_block ?_
    refine pwx_sr 1 [] (by rfl) (fun K4 hK4 => ?_)
    simp (disch := omega) only [go_sem, hX.ne, not_false_eq_true, true_and, hX.len, hX.tk, hX.im, hX.nm, idx_p1 hX]
    refine hK4 _ ?_
    clear hK4 K4
    refine pwx_sr 0 [] (by rfl) (fun K5 hK5 => ?_)
    refine rgnX_take 2 (fun K6 hK6 => ?_)
    simp (disch := omega) only [go_sem, hX.ne, not_false_eq_true, true_and, hX.len, hX.tk, hX.im, hX.nm, idx_p1 hX]
    refine ⟨_, h1, ?_⟩
    refine hK6 _ ?_
    simp (disch := omega) only [go_sem, hX.ne, not_false_eq_true, true_and, hX.len, hX.tk, hX.im, hX.nm, idx_p1 hX]
    refine hK5 _ ?_
    clear hK6 K6 hK5 K5
    refine pwp_cond (b := true) (by rfl) (fun _ => ?_) (fun h => nomatch h)
    refine pwx_sr 0 [] (by rfl) (fun K7 hK7 => ?_)
    simp (disch := omega) only [go_sem, hX.ne, not_false_eq_true, true_and, hX.len, hX.tk, hX.im, hX.nm, idx_p1 hX]
    refine hK7 _ ?_
    clear hK7 K7
    refine pwp_ret ?_
    refine r_block ?_
    refine r_then ?_
    refine r_then ?_
    refine r_block ?_
    refine r_then ?_
    refine ⟨Or.inr rfl, ?_⟩
    simp (disch := omega) only [go_sem, hX.ne, not_false_eq_true, true_and, hX.len, hX.tk, hX.im, hX.nm, idx_p1 hX]
theorem small5_or (n0 n1 n2 n3 n4 n5 n6 n7 n8 n9 : Bool) (l0 l1 l2 l3 l4 l5 l6 l7 l8 l9 : List Nat) : Ret Tryz.prog 58 [.a [.bool n0, lC l0, .bool n1, lC l1, .bool n2, lC l2, .bool n3, lC l3, .bool n4, lC l4, .bool n5, lC l5, .bool n6, lC l6, .bool n7, lC l7, .bool n8, lC l8, .bool n9, lC l9], .c (.int .i64 3)] (.e (.c (.bool false))) ∨ ∃ a b d e c : Rat, SzR a 3 ∧ SzR b 3 ∧ SzR d 3 ∧ SzR e 3 ∧ SzR c 3 ∧ vldP b e c = true ∧ ([.bool n0, lC l0, .bool n1, lC l1, .bool n2, lC l2, .bool n3, lC l3, .bool n4, lC l4, .bool n5, lC l5, .bool n6, lC l6, .bool n7, lC l7, .bool n8, lC l8, .bool n9, lC l9] : List PC) = ratC a ++ (ratC b ++ (ratC d ++ (ratC e ++ ratC c))) ∧ Ret Tryz.prog 58 [.a (ratC a ++ (ratC b ++ (ratC d ++ (ratC e ++ ratC c)))), .c (.int .i64 3)] (.e (.c (.bool true))) := by
  by_cases hs : smlR 3 n0 l0 n1 l1 = true ∧ smlR 3 n4 l4 n5 l5 = true ∧ smlR 3 n2 l2 n3 l3 = true ∧ smlR 3 n6 l6 n7 l7 = true ∧ smlR 3 n8 l8 n9 l9 = true
  · obtain ⟨h1, h2, h3, h4, h5⟩ := hs
    obtain ⟨a, ha, rfl, rfl, rfl, rfl⟩ := smlR_true h1
    obtain ⟨b, hb, rfl, rfl, rfl, rfl⟩ := smlR_true h3
    obtain ⟨d, hd, rfl, rfl, rfl, rfl⟩ := smlR_true h2
    obtain ⟨e, he, rfl, rfl, rfl, rfl⟩ := smlR_true h4
    obtain ⟨c, hc, rfl, rfl, rfl, rfl⟩ := smlR_true h5
    have h := c_swarfref07_Small a b d e c 3 (by omega)
    rcases hv : vldP b e c with _ | _
    · rw [hv] at h; exact .inl h
    · rw [hv] at h; exact .inr ⟨a, b, d, e, c, ha, hb, hd, he, hc, hv, rfl, h⟩
  · exact .inl (c_swarfref07_Small_f n0 n1 n2 n3 n4 n5 n6 n7 n8 n9 l0 l1 l2 l3 l4 l5 l6 l7 l8 l9 3 (by omega) hs)

end Go.Proofs.YtbadkjfjdkbgfaaGreat

set_option linter.unusedSimpArgs false
set_option linter.unusedVariables false
set_option maxRecDepth 20000
namespace Go.Proofs.YtbadkjfjdkbgfaaGreat
open Go Go.PL Go.RL
set_option maxHeartbeats 4000000 in
theorem c_point_near (a b c t : Rat) {k1 k2 k3 k4 : Nat} [SzR a k1] [SzR b k2] [SzR c k3] [SzR t k4] (hk : k1 + k2 + k3 + k4 ≤ 400) (ht : t ≠ 0) :
    Ret Tryz.prog 81 [.a (ratC (a) ++ (ratC (b) ++ ratC (c))), .a (ratC t)] (.t [.a (ratC (nrR a b c t)), .c (.int .i64 0)]) := by
  refine ret_of_body (md := {}) Tryz.func81 (by kernel_rfl) rfl ?_
  simp only [Tryz.f81, List.map_cons, List.map_nil, List.length_cons, List.length_nil, Nat.zero_add, Nat.reduceAdd, Nat.reduceSub, List.reduceReplicate, List.cons_append, List.nil_append]
  refine pwx_sr 3 [] (by rfl) (fun K1 hK1 => ?_)
  simp (disch := omega) only [go_sem, nr_1]
  refine hK1 _ ?_
  clear hK1 K1
  refine pwx_sd Tryz.mixed 1 [] (by rfl) [] (by kernel_rfl) (by simp) (fun K2 hK2 => ?_)
  refine rgnX_take 1 (fun K3 hK3 => ?_)
  simp (disch := omega) only [go_sem, nr_1]
  refine ⟨_, c_rational_FromInt64 _ (by omega) (by omega), ?_⟩
  refine hK3 _ ?_
  refine rgnX_take 2 (fun K4 hK4 => ?_)
  simp (disch := omega) only [go_sem, nr_1]
  refine ⟨_, c_rational_Div _ _ (by omega) ht, ?_⟩
  refine hK4 _ ?_
  simp (disch := omega) only [go_sem, nr_1]
  refine hK2 _ ?_
  clear hK4 K4 hK3 K3 hK2 K2
  refine pwp_seq ?_
  refine pwx_sr 0 [] (by rfl) (fun K5 hK5 => ?_)
  simp (disch := omega) only [go_sem, nr_1]
  refine hK5 _ ?_
  clear hK5 K5
  refine pwp_cond (b := false) (by rfl) (fun h => nomatch h) (fun _ => ?_)
  refine pwp_skip ?_
  refine n_then ?_
  refine pwx_sr 1 [] (by rfl) (fun K6 hK6 => ?_)
  refine rgnX_take 3 (fun K7 hK7 => ?_)
  simp (disch := omega) only [go_sem, nr_1]
  refine ⟨_, c_root_Scale _ _ _ _ (by omega), ?_⟩
  refine hK7 _ ?_
  refine rgnX_take 1 (fun K8 hK8 => ?_)
  simp (disch := omega) only [go_sem, nr_1]
  refine ⟨_, c_root_Floor _ _ _ (by omega), ?_⟩
  refine hK8 _ ?_
  refine rgnX_take 1 (fun K9 hK9 => ?_)
  simp (disch := omega) only [go_sem, nr_1]
  refine ⟨_, c_integer_FromInt64 _ (by omega) (by omega), ?_⟩
  refine hK9 _ ?_
  refine rgnX_take 1 (fun K10 hK10 => ?_)
  simp (disch := omega) only [go_sem, nr_1]
  refine ⟨_, c_rational_Make _ _ (by omega) (by omega), ?_⟩
  refine hK10 _ ?_
  simp (disch := omega) only [go_sem, nr_1]
  refine hK6 _ ?_
  clear hK10 K10 hK9 K9 hK8 K8 hK7 K7 hK6 K6
  refine pwx_sr 0 [] (by rfl) (fun K11 hK11 => ?_)
  refine rgnX_take 3 (fun K12 hK12 => ?_)
  simp (disch := omega) only [go_sem, nr_1]
  refine ⟨_, c_rational_Mul _ _ (by omega), ?_⟩
  refine hK12 _ ?_
  simp (disch := omega) only [go_sem, nr_1]
  refine hK11 _ ?_
  clear hK12 K12 hK11 K11
  refine pwp_ret ?_
  refine ⟨Or.inr rfl, ?_⟩
  simp (disch := omega) only [go_sem, nr_1]
  all_goals rfl
set_option maxHeartbeats 4000000 in
theorem c_point_Near_t (a b d e c t : Rat) {k6 k1 k2 k3 k4 k5 : Nat} [SzR a k1] [SzR b k2] [SzR d k3] [SzR e k4] [SzR c k5] [SzR t k6] (hk : k1 + k2 + k3 + k4 + k5 + k6 ≤ 200) (hp : 0 < t) :
    Ret Tryz.prog 43 [.a (ratC (a) ++ (ratC (b) ++ (ratC (d) ++ (ratC (e) ++ ratC (c))))), .a (ratC t)] (.t [.a (ratC (nrR a b (rC b c) t) ++ ratC (nrR d e (rC e c) t)), .c (.int .i64 0)]) := by
  refine ret_of_body (md := {}) Tryz.func43 (by kernel_rfl) rfl ?_
  simp only [Tryz.f43, List.map_cons, List.map_nil, List.length_cons, List.length_nil, Nat.zero_add, Nat.reduceAdd, Nat.reduceSub, List.reduceReplicate, List.cons_append, List.nil_append]
  have ht : t ≠ 0 := fun q => by rw [q] at hp; exact Rat.lt_irrefl hp
  refine pwx_sr 3 [] (by rfl) (fun K1 hK1 => ?_)
  simp (disch := omega) only [go_sem]
  refine hK1 _ ?_
  clear hK1 K1
  refine pwp_seq ?_
  refine pwx_sr 0 [] (by rfl) (fun K2 hK2 => ?_)
  refine rgnX_take 2 (fun K3 hK3 => ?_)
  simp (disch := omega) only [go_sem]
  refine ⟨_, c_rational_Sign _, ?_⟩
  refine hK3 _ ?_
  simp (disch := omega) only [go_sem]
  refine hK2 _ ?_
  clear hK3 K3 hK2 K2
  refine pwp_cond (b := _) (by rfl) (fun hb0 => ?_) (fun hb0 => ?_)
  · exfalso; simp_all
  · first | replace hb0 := of_decide_eq_true hb0 | replace hb0 := of_decide_eq_false hb0 | skip
    refine pwp_skip ?_
    refine n_then ?_
    refine pwx_sd Tryz.mixed 1 [] (by rfl) [] (by kernel_rfl) (by simp) (fun K4 hK4 => ?_)
    refine rgnX_take 2 (fun K5 hK5 => ?_)
    simp (disch := omega) only [go_sem]
    refine ⟨_, c_point_X _ _ _ _ _, ?_⟩
    refine hK5 _ ?_
    refine rgnX_take 2 (fun K6 hK6 => ?_)
    simp (disch := omega) only [go_sem]
    refine ⟨_, c_point_near _ _ _ _ (by omega) ht, ?_⟩
    refine hK6 _ ?_
    simp (disch := omega) only [go_sem]
    refine hK4 _ ?_
    clear hK6 K6 hK5 K5 hK4 K4
    refine pwp_seq ?_
    refine pwx_sr 0 [] (by rfl) (fun K7 hK7 => ?_)
    simp (disch := omega) only [go_sem]
    refine hK7 _ ?_
    clear hK7 K7
    refine pwp_cond (b := false) (by rfl) (fun h => nomatch h) (fun _ => ?_)
    refine pwp_skip ?_
    refine n_then ?_
    refine pwx_sd Tryz.mixed 1 [] (by rfl) [] (by kernel_rfl) (by simp) (fun K8 hK8 => ?_)
    refine rgnX_take 2 (fun K9 hK9 => ?_)
    simp (disch := omega) only [go_sem]
    refine ⟨_, c_point_Y _ _ _ _ _, ?_⟩
    refine hK9 _ ?_
    refine rgnX_take 2 (fun K10 hK10 => ?_)
    simp (disch := omega) only [go_sem]
    refine ⟨_, c_point_near _ _ _ _ (by omega) ht, ?_⟩
    refine hK10 _ ?_
    simp (disch := omega) only [go_sem]
    refine hK8 _ ?_
    clear hK10 K10 hK9 K9 hK8 K8
    refine pwx_sr 0 [] (by rfl) (fun K11 hK11 => ?_)
    simp (disch := omega) only [go_sem]
    refine hK11 _ ?_
    clear hK11 K11
    refine pwp_ret ?_
    refine ⟨Or.inr rfl, ?_⟩
    simp (disch := omega) only [go_sem]
    all_goals skip
set_option maxHeartbeats 4000000 in
theorem c_point_Near_f (a b d e c t : Rat) {k6 k1 k2 k3 k4 k5 : Nat} [SzR a k1] [SzR b k2] [SzR d k3] [SzR e k4] [SzR c k5] [SzR t k6] (hk : k1 + k2 + k3 + k4 + k5 + k6 ≤ 200) (hp : ¬ 0 < t) :
    Ret Tryz.prog 43 [.a (ratC (a) ++ (ratC (b) ++ (ratC (d) ++ (ratC (e) ++ ratC (c))))), .a (ratC t)] (.t [.a [.bool false, .sl 0 [], .bool false, .sl 0 [], .bool false, .sl 0 [], .bool false, .sl 0 []], .c (.int .i64 1)]) := by
  refine ret_of_body (md := {}) Tryz.func43 (by kernel_rfl) rfl ?_
  simp only [Tryz.f43, List.map_cons, List.map_nil, List.length_cons, List.length_nil, Nat.zero_add, Nat.reduceAdd, Nat.reduceSub, List.reduceReplicate, List.cons_append, List.nil_append]
  refine pwx_sr 3 [] (by rfl) (fun K1 hK1 => ?_)
  simp (disch := omega) only [go_sem]
  refine hK1 _ ?_
  clear hK1 K1
  refine pwp_seq ?_
  refine pwx_sr 0 [] (by rfl) (fun K2 hK2 => ?_)
  refine rgnX_take 2 (fun K3 hK3 => ?_)
  simp (disch := omega) only [go_sem]
  refine ⟨_, c_rational_Sign _, ?_⟩
  refine hK3 _ ?_
  simp (disch := omega) only [go_sem]
  refine hK2 _ ?_
  clear hK3 K3 hK2 K2
  refine pwp_cond (b := _) (by rfl) (fun hb0 => ?_) (fun hb0 => ?_)
  · first | replace hb0 := of_decide_eq_true hb0 | replace hb0 := of_decide_eq_false hb0 | skip
    refine pwx_sr 0 [] (by rfl) (fun K4 hK4 => ?_)
    simp (disch := omega) only [go_sem]
    refine hK4 _ ?_
    clear hK4 K4
    refine pwp_ret ?_
    refine r_then ?_
    refine ⟨Or.inr rfl, ?_⟩
    simp (disch := omega) only [go_sem]
    all_goals skip
  · exfalso; simp_all

end Go.Proofs.YtbadkjfjdkbgfaaGreat

set_option linter.unusedSimpArgs false
set_option linter.unusedVariables false
set_option maxRecDepth 20000
namespace Go.Proofs.YtbadkjfjdkbgfaaGreat
open Go Go.PL Go.RL
set_option maxHeartbeats 4000000 in
theorem c_law_near (a b c x t : Rat) {k1 k2 k3 k4 k5 : Nat} [SzR a k1] [SzR b k2] [SzR c k3] [SzR x k4] [SzR t k5] (hk : k1 + k2 + k3 + k4 + k5 ≤ 4000) (h1 : 0 ≤ r3S (a - (x - t)) b c) (h2 : r3S (a - (x + t)) b c ≤ 0) :
    Ret Tryz.prog 45 [.a (ratC (a) ++ (ratC (b) ++ ratC (c))), .a (ratC x), .a (ratC t)] (.e (.c (.bool true))) := by
  refine ret_of_body (md := {}) Tryz.func45 (by kernel_rfl) rfl ?_
  simp only [Tryz.f45, List.map_cons, List.map_nil, List.length_cons, List.length_nil, Nat.zero_add, Nat.reduceAdd, Nat.reduceSub, List.reduceReplicate, List.cons_append, List.nil_append]
  refine pwx_sr 3 [] (by rfl) (fun K1 hK1 => ?_)
  simp (disch := omega) only [go_sem]
  refine hK1 _ ?_
  clear hK1 K1
  refine pwx_sd Tryz.mixed 0 [some 7, some 8, some 9, some 10, some 11, some 12, some 13, some 14, some 15, some 16, some 17, some 18, some 19, some 20, some 21, some 22, some 23, some 24, some 6] (by rfl) [] (by kernel_rfl) (by simp) (fun K2 hK2 => ?_)
  refine rgnX_take 2 (fun K3 hK3 => ?_)
  simp (disch := omega) only [go_sem, ile_T]
  refine ⟨_, c_swarfref02_ValidQ _ (by omega), ?_⟩
  refine hK3 _ ?_
  refine rgnX_take 5 (fun K4 hK4 => ?_)
  simp (disch := omega) only [go_sem, ile_T]
  first | refine ⟨_, c_swarfref02_Sub _ _ (by omega), ?_⟩ | skip
  refine hK4 _ ?_
  refine rgnX_take 1 (fun K5 hK5 => ?_)
  simp (disch := omega) only [go_sem, ile_T]
  first | refine ⟨_, c_swarfref03_CmpRat _ _ _ _ (by omega), ?_⟩ | skip
  refine hK5 _ ?_
  refine rgnX_take 7 (fun K6 hK6 => ?_)
  simp (disch := omega) only [go_sem, ile_T]
  first | refine ⟨_, c_swarfref02_Add _ _ (by omega), ?_⟩ | skip
  refine hK6 _ ?_
  refine rgnX_take 1 (fun K7 hK7 => ?_)
  simp (disch := omega) only [go_sem, ile_T]
  first | refine ⟨_, c_swarfref03_CmpRat _ _ _ _ (by omega), ?_⟩ | skip
  refine hK7 _ ?_
  simp (disch := omega) only [go_sem, ile_T]
  refine hK2 _ ?_
  clear hK7 K7 hK6 K6 hK5 K5 hK4 K4 hK3 K3 hK2 K2
  refine pwp_ret ?_
  refine ⟨Or.inr rfl, ?_⟩
  simp (disch := omega) only [go_sem]
  all_goals skip
set_option maxHeartbeats 4000000 in
theorem w_PointNear_x (n0 n1 n2 n3 n4 n5 n6 n7 n8 n9 : Bool) (l0 l1 l2 l3 l4 l5 l6 l7 l8 l9 : List Nat) (m0 m1 : Bool) (o0 o1 : List Nat) (h1 : Ret Tryz.prog 19 [.c (.sl 1 [.bool n0, lC l0, .bool n1, lC l1, .bool n2, lC l2, .bool n3, lC l3, .bool n4, lC l4, .bool n5, lC l5, .bool n6, lC l6, .bool n7, lC l7, .bool n8, lC l8, .bool n9, lC l9])] (.e (.c (.bool false)))) :
    Ret Tryz.prog 10 [.a [.bool n0, lC l0, .bool n1, lC l1, .bool n2, lC l2, .bool n3, lC l3, .bool n4, lC l4, .bool n5, lC l5, .bool n6, lC l6, .bool n7, lC l7, .bool n8, lC l8, .bool n9, lC l9], .a [.bool m0, lC o0, .bool m1, lC o1]] (.e (.c (.bool true))) := by
  refine ret_of_body (md := {}) Tryz.func10 (by kernel_rfl) rfl ?_
  simp only [Tryz.f10, List.map_cons, List.map_nil, List.length_cons, List.length_nil, Nat.zero_add, Nat.reduceAdd, Nat.reduceSub, List.reduceReplicate, List.cons_append, List.nil_append]
  refine pwx_sr 2 [] (by rfl) (fun K1 hK1 => ?_)
  simp (disch := omega) only [go_sem]
  refine hK1 _ ?_
  clear hK1 K1
  refine pwp_seq ?_
  refine pwx_sr 1 [some 7, some 8, some 9, some 10, some 11, some 12, some 13, some 14, some 15, some 16, some 17, some 18, some 19] (by rfl) (fun K2 hK2 => ?_)
  refine rgnX_take 1 (fun K3 hK3 => ?_)
  simp (disch := omega) only [go_sem]
  refine ⟨_, c_swarflaw07_awake, ?_⟩
  refine hK3 _ ?_
  refine rgnX_take 5 (fun K4 hK4 => ?_)
  simp (disch := omega) only [go_sem]
  first | refine ⟨_, h1, ?_⟩ | skip
  refine hK4 _ ?_
  refine rgnX_take 5 (fun K5 hK5 => ?_)
  simp (disch := omega) only [go_sem]
  first | refine ⟨_, h1, ?_⟩ | skip
  refine hK5 _ ?_
  simp (disch := omega) only [go_sem]
  refine hK2 _ ?_
  clear hK5 K5 hK4 K4 hK3 K3 hK2 K2
  refine pwp_cond (b := true) (by rfl) (fun _ => ?_) (fun h => nomatch h)
  refine pwx_sr 0 [] (by rfl) (fun K6 hK6 => ?_)
  refine rgnX_take 1 (fun K7 hK7 => ?_)
  simp (disch := omega) only [go_sem]
  refine ⟨_, c_swarflaw07_awake, ?_⟩
  refine hK7 _ ?_
  simp (disch := omega) only [go_sem]
  refine hK6 _ ?_
  clear hK7 K7 hK6 K6
  refine pwp_ret ?_
  refine r_then ?_
  refine ⟨Or.inr rfl, ?_⟩
  simp (disch := omega) only [go_sem]
set_option maxHeartbeats 4000000 in
theorem w_PointNear_y (n0 n1 n2 n3 n4 n5 n6 n7 n8 n9 : Bool) (l0 l1 l2 l3 l4 l5 l6 l7 l8 l9 : List Nat) (m0 m1 : Bool) (o0 o1 : List Nat) (h1 : Ret Tryz.prog 19 [.c (.sl 1 [.bool n0, lC l0, .bool n1, lC l1, .bool n2, lC l2, .bool n3, lC l3, .bool n4, lC l4, .bool n5, lC l5, .bool n6, lC l6, .bool n7, lC l7, .bool n8, lC l8, .bool n9, lC l9])] (.e (.c (.bool true)))) (h2 : Ret Tryz.prog 42 [.a [.bool m0, lC o0, .bool m1, lC o1], .c (.int .i64 3)] (.e (.c (.bool false)))) :
    Ret Tryz.prog 10 [.a [.bool n0, lC l0, .bool n1, lC l1, .bool n2, lC l2, .bool n3, lC l3, .bool n4, lC l4, .bool n5, lC l5, .bool n6, lC l6, .bool n7, lC l7, .bool n8, lC l8, .bool n9, lC l9], .a [.bool m0, lC o0, .bool m1, lC o1]] (.e (.c (.bool true))) := by
  refine ret_of_body (md := {}) Tryz.func10 (by kernel_rfl) rfl ?_
  simp only [Tryz.f10, List.map_cons, List.map_nil, List.length_cons, List.length_nil, Nat.zero_add, Nat.reduceAdd, Nat.reduceSub, List.reduceReplicate, List.cons_append, List.nil_append]
  refine pwx_sr 2 [] (by rfl) (fun K1 hK1 => ?_)
  simp (disch := omega) only [go_sem]
  refine hK1 _ ?_
  clear hK1 K1
  refine pwp_seq ?_
  refine pwx_sr 1 [some 7, some 8, some 9, some 10, some 11, some 12, some 13, some 14, some 15, some 16, some 17, some 18, some 19] (by rfl) (fun K2 hK2 => ?_)
  refine rgnX_take 1 (fun K3 hK3 => ?_)
  simp (disch := omega) only [go_sem]
  refine ⟨_, c_swarflaw07_awake, ?_⟩
  refine hK3 _ ?_
  refine rgnX_take 5 (fun K4 hK4 => ?_)
  simp (disch := omega) only [go_sem]
  first | refine ⟨_, h1, ?_⟩ | skip
  refine hK4 _ ?_
  refine rgnX_take 5 (fun K5 hK5 => ?_)
  simp (disch := omega) only [go_sem]
  first | refine ⟨_, h2, ?_⟩ | skip
  refine hK5 _ ?_
  simp (disch := omega) only [go_sem]
  refine hK2 _ ?_
  clear hK5 K5 hK4 K4 hK3 K3 hK2 K2
  refine pwp_cond (b := true) (by rfl) (fun _ => ?_) (fun h => nomatch h)
  refine pwx_sr 0 [] (by rfl) (fun K6 hK6 => ?_)
  refine rgnX_take 1 (fun K7 hK7 => ?_)
  simp (disch := omega) only [go_sem]
  refine ⟨_, c_swarflaw07_awake, ?_⟩
  refine hK7 _ ?_
  simp (disch := omega) only [go_sem]
  refine hK6 _ ?_
  clear hK7 K7 hK6 K6
  refine pwp_ret ?_
  refine r_then ?_
  refine ⟨Or.inr rfl, ?_⟩
  simp (disch := omega) only [go_sem]
set_option maxHeartbeats 4000000 in
theorem w_PointNear_f (a b d e c : Rat) [SzR a 3] [SzR b 3] [SzR d 3] [SzR e 3] [SzR c 3] (t : Rat) [SzR t 3] (hv : vldP b e c = true) (h1 : Ret Tryz.prog 19 [.c (.sl 1 (ratC a ++ (ratC b ++ (ratC d ++ (ratC e ++ ratC c)))))] (.e (.c (.bool true)))) (h2 : Ret Tryz.prog 42 [.a (ratC t), .c (.int .i64 3)] (.e (.c (.bool true)))) (hp : ¬ 0 < t) :
    Ret Tryz.prog 10 [.a (ratC (a) ++ (ratC (b) ++ (ratC (d) ++ (ratC (e) ++ ratC (c))))), .a (ratC t)] (.e (.c (.bool true))) := by
  refine ret_of_body (md := {}) Tryz.func10 (by kernel_rfl) rfl ?_
  simp only [Tryz.f10, List.map_cons, List.map_nil, List.length_cons, List.length_nil, Nat.zero_add, Nat.reduceAdd, Nat.reduceSub, List.reduceReplicate, List.cons_append, List.nil_append]
  refine pwx_sr 2 [] (by rfl) (fun K1 hK1 => ?_)
  simp (disch := omega) only [go_sem]
  refine hK1 _ ?_
  clear hK1 K1
  refine pwp_seq ?_
  refine pwx_sr 1 [some 7, some 8, some 9, some 10, some 11, some 12, some 13, some 14, some 15, some 16, some 17, some 18, some 19] (by rfl) (fun K2 hK2 => ?_)
  refine rgnX_take 1 (fun K3 hK3 => ?_)
  simp (disch := omega) only [go_sem]
  refine ⟨_, c_swarflaw07_awake, ?_⟩
  refine hK3 _ ?_
  refine rgnX_take 5 (fun K4 hK4 => ?_)
  simp (disch := omega) only [go_sem]
  first | refine ⟨_, h1, ?_⟩ | skip
  refine hK4 _ ?_
  refine rgnX_take 5 (fun K5 hK5 => ?_)
  simp (disch := omega) only [go_sem]
  first | refine ⟨_, h2, ?_⟩ | skip
  refine hK5 _ ?_
  simp (disch := omega) only [go_sem]
  refine hK2 _ ?_
  clear hK5 K5 hK4 K4 hK3 K3 hK2 K2
  refine pwp_cond (b := false) (by rfl) (fun h => nomatch h) (fun _ => ?_)
  refine pwp_skip ?_
  refine n_then ?_
  refine pwx_sr 1 [] (by rfl) (fun K6 hK6 => ?_)
  refine rgnX_take 3 (fun K7 hK7 => ?_)
  simp (disch := omega) only [go_sem]
  refine ⟨_, c_point_Near_f _ _ _ _ _ _ (by omega) hp, ?_⟩
  refine hK7 _ ?_
  simp (disch := omega) only [go_sem]
  refine hK6 _ ?_
  clear hK7 K7 hK6 K6
  refine pwp_seq ?_
  refine pwx_sr 0 [] (by rfl) (fun K8 hK8 => ?_)
  refine rgnX_take 2 (fun K9 hK9 => ?_)
  simp (disch := omega) only [go_sem, hp, not_false_eq_true, decide_true]
  refine ⟨_, c_swarfref02_Sign _, ?_⟩
  refine hK9 _ ?_
  simp (disch := omega) only [go_sem, hp, not_false_eq_true, decide_true]
  refine hK8 _ ?_
  clear hK9 K9 hK8 K8
  refine pwp_cond (b := true) (by rfl) (fun _ => ?_) (fun h => nomatch h)
  refine pwx_sr 0 [some 30, some 31, some 32, some 33, some 34, some 35, some 36, some 37, some 38, some 39, some 40, some 41, some 42, some 43, some 44, some 45, some 4] (by rfl) (fun K10 hK10 => ?_)
  simp (disch := omega) only [go_sem]
  refine hK10 _ ?_
  clear hK10 K10
  refine pwp_ret ?_
  refine r_then ?_
  refine ⟨Or.inr rfl, ?_⟩
  simp (disch := omega) only [go_sem]
  all_goals skip
set_option maxHeartbeats 4000000 in
theorem w_PointNear_t (a b d e c : Rat) [SzR a 3] [SzR b 3] [SzR d 3] [SzR e 3] [SzR c 3] (t : Rat) [SzR t 3] (hv : vldP b e c = true) (h1 : Ret Tryz.prog 19 [.c (.sl 1 (ratC a ++ (ratC b ++ (ratC d ++ (ratC e ++ ratC c)))))] (.e (.c (.bool true)))) (h2 : Ret Tryz.prog 42 [.a (ratC t), .c (.int .i64 3)] (.e (.c (.bool true)))) (hp : 0 < t) :
    Ret Tryz.prog 10 [.a (ratC (a) ++ (ratC (b) ++ (ratC (d) ++ (ratC (e) ++ ratC (c))))), .a (ratC t)] (.e (.c (.bool true))) := by
  refine ret_of_body (md := {}) Tryz.func10 (by kernel_rfl) rfl ?_
  simp only [Tryz.f10, List.map_cons, List.map_nil, List.length_cons, List.length_nil, Nat.zero_add, Nat.reduceAdd, Nat.reduceSub, List.reduceReplicate, List.cons_append, List.nil_append]
  obtain ⟨e1, e2⟩ := near_ok (a := a) (vldP_x hv) (vldP_nn hv) hp
  obtain ⟨e3, e4⟩ := near_ok (a := d) (vldP_y hv) (vldP_nn hv) hp
  refine pwx_sr 2 [] (by rfl) (fun K1 hK1 => ?_)
  simp (disch := omega) only [go_sem]
  refine hK1 _ ?_
  clear hK1 K1
  refine pwp_seq ?_
  refine pwx_sr 1 [some 7, some 8, some 9, some 10, some 11, some 12, some 13, some 14, some 15, some 16, some 17, some 18, some 19] (by rfl) (fun K2 hK2 => ?_)
  refine rgnX_take 1 (fun K3 hK3 => ?_)
  simp (disch := omega) only [go_sem]
  refine ⟨_, c_swarflaw07_awake, ?_⟩
  refine hK3 _ ?_
  refine rgnX_take 5 (fun K4 hK4 => ?_)
  simp (disch := omega) only [go_sem]
  first | refine ⟨_, h1, ?_⟩ | skip
  refine hK4 _ ?_
  refine rgnX_take 5 (fun K5 hK5 => ?_)
  simp (disch := omega) only [go_sem]
  first | refine ⟨_, h2, ?_⟩ | skip
  refine hK5 _ ?_
  simp (disch := omega) only [go_sem]
  refine hK2 _ ?_
  clear hK5 K5 hK4 K4 hK3 K3 hK2 K2
  refine pwp_cond (b := false) (by rfl) (fun h => nomatch h) (fun _ => ?_)
  refine pwp_skip ?_
  refine n_then ?_
  refine pwx_sr 1 [] (by rfl) (fun K6 hK6 => ?_)
  refine rgnX_take 3 (fun K7 hK7 => ?_)
  simp (disch := omega) only [go_sem]
  refine ⟨_, c_point_Near_t _ _ _ _ _ _ (by omega) hp, ?_⟩
  refine hK7 _ ?_
  simp (disch := omega) only [go_sem]
  refine hK6 _ ?_
  clear hK7 K7 hK6 K6
  refine pwp_seq ?_
  refine pwx_sr 0 [] (by rfl) (fun K8 hK8 => ?_)
  refine rgnX_take 2 (fun K9 hK9 => ?_)
  simp (disch := omega) only [go_sem, hp, not_true_eq_false, decide_false]
  refine ⟨_, c_swarfref02_Sign _, ?_⟩
  refine hK9 _ ?_
  simp (disch := omega) only [go_sem, hp, not_true_eq_false, decide_false]
  refine hK8 _ ?_
  clear hK9 K9 hK8 K8
  refine pwp_cond (b := false) (by rfl) (fun h => nomatch h) (fun _ => ?_)
  refine pwp_skip ?_
  refine n_then ?_
  refine pwx_sd Tryz.mixed 0 [some 46, some 47, some 48, some 49, some 50, some 51, some 52, some 53, some 54, some 55, some 56, some 57, some 58, some 59, some 60, some 61, some 62, some 63, some 4] (by rfl) [] (by kernel_rfl) (by simp) (fun K10 hK10 => ?_)
  refine rgnX_take 5 (fun K11 hK11 => ?_)
  simp (disch := omega) only [go_sem]
  first | refine ⟨_, c_swarfref07_X _ _ _ _ _, ?_⟩ | skip
  refine hK11 _ ?_
  refine rgnX_take 4 (fun K12 hK12 => ?_)
  simp (disch := omega) only [go_sem]
  first | refine ⟨_, c_law_near _ _ _ _ _ (by omega) e1 e2, ?_⟩ | skip
  refine hK12 _ ?_
  refine rgnX_take 4 (fun K13 hK13 => ?_)
  simp (disch := omega) only [go_sem]
  first | refine ⟨_, c_swarfref07_Y _ _ _ _ _, ?_⟩ | skip
  refine hK13 _ ?_
  refine rgnX_take 4 (fun K14 hK14 => ?_)
  simp (disch := omega) only [go_sem]
  first | refine ⟨_, c_law_near _ _ _ _ _ (by omega) e3 e4, ?_⟩ | skip
  refine hK14 _ ?_
  simp (disch := omega) only [go_sem]
  refine hK10 _ ?_
  clear hK14 K14 hK13 K13 hK12 K12 hK11 K11 hK10 K10
  refine pwp_ret ?_
  refine ⟨Or.inr rfl, ?_⟩
  simp (disch := omega) only [go_sem]
  all_goals skip
theorem small2_or (m0 m1 : Bool) (o0 o1 : List Nat) : Ret Tryz.prog 42 [.a [.bool m0, lC o0, .bool m1, lC o1], .c (.int .i64 3)] (.e (.c (.bool false))) ∨ ∃ t : Rat, SzR t 3 ∧ ([.bool m0, lC o0, .bool m1, lC o1] : List PC) = ratC t ∧ Ret Tryz.prog 42 [.a (ratC t), .c (.int .i64 3)] (.e (.c (.bool true))) := by
  rcases h : smlR 3 m0 o0 m1 o1 with _ | _
  · have q := c_swarfref02_Small m0 m1 o0 o1 3 (by omega)
    rw [h] at q; exact .inl q
  · obtain ⟨t, ht, rfl, rfl, rfl, rfl⟩ := smlR_true h
    exact .inr ⟨t, ht, rfl, c_swarfref02_SmallQ t 3 (by omega)⟩
theorem r_PointNear (n0 n1 n2 n3 n4 n5 n6 n7 n8 n9 : Bool) (l0 l1 l2 l3 l4 l5 l6 l7 l8 l9 : List Nat) (m0 m1 : Bool) (o0 o1 : List Nat) : Ret Tryz.prog 10 [.a [.bool n0, lC l0, .bool n1, lC l1, .bool n2, lC l2, .bool n3, lC l3, .bool n4, lC l4, .bool n5, lC l5, .bool n6, lC l6, .bool n7, lC l7, .bool n8, lC l8, .bool n9, lC l9], .a [.bool m0, lC o0, .bool m1, lC o1]] (.e (.c (.bool true))) := by
  rcases small5_or n0 n1 n2 n3 n4 n5 n6 n7 n8 n9 l0 l1 l2 l3 l4 l5 l6 l7 l8 l9 with h1 | ⟨a, b, d, e, c, ha, hb, hd, he, hc, v1, q1, h1⟩
  · exact w_PointNear_x _ _ _ _ _ _ _ _ _ _ _ _ _ _ _ _ _ _ _ _ _ _ _ _ (c_small1_f _ (PtC.raw n0 n1 n2 n3 n4 n5 n6 n7 n8 n9 l0 l1 l2 l3 l4 l5 l6 l7 l8 l9) h1)
  rcases small2_or m0 m1 o0 o1 with h2 | ⟨t, ht, q2, h2⟩
  · exact w_PointNear_y _ _ _ _ _ _ _ _ _ _ _ _ _ _ _ _ _ _ _ _ _ _ _ _ (c_small1_t _ (PtC.raw n0 n1 n2 n3 n4 n5 n6 n7 n8 n9 l0 l1 l2 l3 l4 l5 l6 l7 l8 l9) (q1 ▸ h1)) h2
  rw [q1, q2]
  by_cases hp : 0 < t
  · exact w_PointNear_t a b d e c t v1 (c_small1_t _ (PtC.rat _ _ _ _ _) h1) h2 hp
  · exact w_PointNear_f a b d e c t v1 (c_small1_t _ (PtC.rat _ _ _ _ _) h1) h2 hp

end Go.Proofs.YtbadkjfjdkbgfaaGreat
